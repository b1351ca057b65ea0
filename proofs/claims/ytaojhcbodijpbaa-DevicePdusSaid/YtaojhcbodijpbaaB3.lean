import Derived.Test.YtaojhcbodijpbaaB2
set_option linter.unusedVariables false
set_option linter.unusedSimpArgs false
namespace Go.Proofs
open Go.PM
set_option maxHeartbeats 2000000
theorem okB_uses (fn : Int) : OkB (usesF fn) := by
  unfold usesF
  repeat' split
  all_goals (intro x hx; first | (exact absurd hx List.not_mem_nil) | (simp only [List.mem_cons, List.not_mem_nil, or_false] at hx; unfold U8; omega))
theorem len_uses (fn : Int) : (usesF fn).length ≤ 1000 := by
  unfold usesF
  repeat' split
  all_goals simp
attribute [local go_sem] weaks_bools Req.pv
set_option maxRecDepth 100000 in
theorem ref3_Right {q : Req} {s : St} : ACalls Try.prog 29 [q.pv] s (fun r s' => r = .int .i64 (rightF q) ∧ s' = s) := by
  refine go Try.func29 (k := fun hwf H => ?_)
  refine rs (k := rg [1] (k := rs (k := rs (k := rr (k := ro (pre := [_, _]) (k := rC (h := ref3_Has) (k := rh [1, 7] (k := rc (ht := fun hc0 => ?_) (hf := fun hc0 => ?_)))))))))
  · refine rs (k := rg [2] (k := rR (k := rP (by simp only [Try.f29, go_sem]; rfl) hwf ⟨?_, rfl⟩)))
    first
      | (have h0 : hasF q.fn = false := by simpa using hc0
         unfold rightF
         rw [if_pos h0]; rfl)
      | (have h0 : hasF q.fn = true := by simpa using hc0
         refine congrArg (PV.int .i64) ?_
         unfold rightF
         rw [if_neg (by rw [h0]; decide)]
         obtain ⟨nb, hnb⟩ : ∃ n, q.bits.length = n := ⟨_, rfl⟩
         obtain ⟨nv, hnv⟩ : ∃ n, q.vals.length = n := ⟨_, rfl⟩
         simp only [listsF, hnb, hnv, bitsF, valsF] at *
         clear H hnb hnv hwf hc0
         rcases has_cases h0 with e | e | e | e | e | e | e | e | e | e | e | e <;>
         · try simp only [usesF, fieldsF, wordF, e, decide_eq_true_eq, decide_eq_false_iff_not, Bool.not_eq_true', Bool.not_eq_false', Bool.or_eq_true, Bool.or_eq_false_iff, Bool.and_eq_true, Bool.and_eq_false_iff, List.mem_cons, List.not_mem_nil, Int.reduceEq, Int.reduceLE, Int.reduceNeg, or_false, or_true, true_or, false_or, if_true, if_false, true_and, and_true, false_and, and_false, not_true_eq_false, not_false_eq_true, ite_true, ite_false, or_self, and_self, reduceCtorEq] at hc1
           try simp only [usesF, fieldsF, wordF, e, decide_eq_true_eq, decide_eq_false_iff_not, Bool.not_eq_true', Bool.not_eq_false', Bool.or_eq_true, Bool.or_eq_false_iff, Bool.and_eq_true, Bool.and_eq_false_iff, List.mem_cons, List.not_mem_nil, Int.reduceEq, Int.reduceLE, Int.reduceNeg, or_false, or_true, true_or, false_or, if_true, if_false, true_and, and_true, false_and, and_false, not_true_eq_false, not_false_eq_true, ite_true, ite_false, or_self, and_self, reduceCtorEq] at hc2
           simp only [usesF, fieldsF, wordF, e, decide_eq_true_eq, decide_eq_false_iff_not, Bool.not_eq_true', Bool.not_eq_false', Bool.or_eq_true, Bool.or_eq_false_iff, Bool.and_eq_true, Bool.and_eq_false_iff, List.mem_cons, List.not_mem_nil, Int.reduceEq, Int.reduceLE, Int.reduceNeg, or_false, or_true, true_or, false_or, if_true, if_false, true_and, and_true, false_and, and_false, not_true_eq_false, not_false_eq_true, ite_true, ite_false, or_self, and_self, reduceCtorEq]
           repeat' split
           all_goals first | rfl | omega)
  · refine rk (k := rs (k := rr (k := ro (pre := [_, _]) (k := rC (h := ref3_uses) (k := rh [1, 3] (k := rs (k := rs (k := rrA [some 11, some 12, some 13, some 14, some 15, some 16, some 17, some 18, some 19, some 20, some 21, some 22, some 23, some 24, some 25, some 26, some 27, some 28, some 29, some 30, some 31, some 32, some 33, some 34, some 35, some 36, some 37, some 38, some 39, some 40, some 41, some 42, some 43, some 44, some 45, some 46, some 47, some 48, some 49, some 50, some 51, some 52, some 53, some 54, some 55, some 56, some 57, some 58, some 59, some 60, some 61, some 62, some 63, some 64, some 65, some 66, some 67, some 68, some 69, some 70, some 71, some 72, some 73, some 74, some 75, some 76, some 77, some 78, some 79, some 80, some 81, some 82, some 83, some 84, some 85] (k := fun ops hops => ?_)))))))))
    have H := aj hops H
    refine ro (pre := [_]) (k := rC (h := ref3_in (okB_uses q.fn) (len_uses q.fn)) (k := ro (pre := [_, _, _, _, _, _, _, _]) (k := rG (h := fun hb => ref3_in (okB_uses q.fn) (len_uses q.fn)) (k := ro (pre := [_, _, _, _, _, _, _, _, _]) (k := rG (h := fun hb => ref3_in (okB_uses q.fn) (len_uses q.fn)) (k := ro (pre := [_, _, _, _, _, _, _, _, _]) (k := rG (h := fun hb => ref3_in (okB_uses q.fn) (len_uses q.fn)) (k := ?_))))))))
    refine ro (pre := [_, _, _, _, _, _, _, _, _]) (k := rG (h := fun hb => ref3_in (okB_uses q.fn) (len_uses q.fn)) (k := ro (pre := [_, _, _, _, _, _, _, _, _, _]) (k := rG (h := fun hb => ref3_in (okB_uses q.fn) (len_uses q.fn)) (k := ro (pre := [_, _, _, _, _, _, _, _, _, _]) (k := rG (h := fun hb => ref3_in (okB_uses q.fn) (len_uses q.fn)) (k := rh [1, 85] (k := rc (ht := fun hc1 => ?_) (hf := fun hc1 => ?_))))))))
    · refine rs (k := rg [2] (k := rR (k := rP (by simp only [Try.f29, go_sem]; rfl) hwf ⟨?_, rfl⟩)))
      first
        | (have h0 : hasF q.fn = false := by simpa using hc0
           unfold rightF
           rw [if_pos h0]; rfl)
        | (have h0 : hasF q.fn = true := by simpa using hc0
           refine congrArg (PV.int .i64) ?_
           unfold rightF
           rw [if_neg (by rw [h0]; decide)]
           obtain ⟨nb, hnb⟩ : ∃ n, q.bits.length = n := ⟨_, rfl⟩
           obtain ⟨nv, hnv⟩ : ∃ n, q.vals.length = n := ⟨_, rfl⟩
           simp only [listsF, hnb, hnv, bitsF, valsF] at *
           clear H hnb hnv hwf hc0
           rcases has_cases h0 with e | e | e | e | e | e | e | e | e | e | e | e <;>
           · try simp only [usesF, fieldsF, wordF, e, decide_eq_true_eq, decide_eq_false_iff_not, Bool.not_eq_true', Bool.not_eq_false', Bool.or_eq_true, Bool.or_eq_false_iff, Bool.and_eq_true, Bool.and_eq_false_iff, List.mem_cons, List.not_mem_nil, Int.reduceEq, Int.reduceLE, Int.reduceNeg, or_false, or_true, true_or, false_or, if_true, if_false, true_and, and_true, false_and, and_false, not_true_eq_false, not_false_eq_true, ite_true, ite_false, or_self, and_self, reduceCtorEq] at hc1
             try simp only [usesF, fieldsF, wordF, e, decide_eq_true_eq, decide_eq_false_iff_not, Bool.not_eq_true', Bool.not_eq_false', Bool.or_eq_true, Bool.or_eq_false_iff, Bool.and_eq_true, Bool.and_eq_false_iff, List.mem_cons, List.not_mem_nil, Int.reduceEq, Int.reduceLE, Int.reduceNeg, or_false, or_true, true_or, false_or, if_true, if_false, true_and, and_true, false_and, and_false, not_true_eq_false, not_false_eq_true, ite_true, ite_false, or_self, and_self, reduceCtorEq] at hc2
             simp only [usesF, fieldsF, wordF, e, decide_eq_true_eq, decide_eq_false_iff_not, Bool.not_eq_true', Bool.not_eq_false', Bool.or_eq_true, Bool.or_eq_false_iff, Bool.and_eq_true, Bool.and_eq_false_iff, List.mem_cons, List.not_mem_nil, Int.reduceEq, Int.reduceLE, Int.reduceNeg, or_false, or_true, true_or, false_or, if_true, if_false, true_and, and_true, false_and, and_false, not_true_eq_false, not_false_eq_true, ite_true, ite_false, or_self, and_self, reduceCtorEq]
             repeat' split
             all_goals first | rfl | omega)
    · refine rk (k := rs (k := rs (k := rr (k := ro (pre := [_, _]) (k := rC (h := ref3_word) (k := ro (pre := [_, _, _, _]) (k := rG (h := fun hb => ref3_word) (k := ro (pre := [_, _, _, _, _]) (k := rG (h := fun hb => ref3_word) (k := ro (pre := [_, _, _, _, _]) (k := rG (h := fun hb => ref3_word) (k := ro (pre := [_, _, _, _]) (k := rG (h := fun hb => ref3_lists (q := q)) (k := ra (k := ?_)))))))))))))))
      refine rl [112] (k := rc (ht := fun hc2 => ?_) (hf := fun hc2 => ?_))
      · refine rs (k := rg [2] (k := rR (k := rP (by simp only [Try.f29, go_sem]; rfl) hwf ⟨?_, rfl⟩)))
        first
          | (have h0 : hasF q.fn = false := by simpa using hc0
             unfold rightF
             rw [if_pos h0]; rfl)
          | (have h0 : hasF q.fn = true := by simpa using hc0
             refine congrArg (PV.int .i64) ?_
             unfold rightF
             rw [if_neg (by rw [h0]; decide)]
             obtain ⟨nb, hnb⟩ : ∃ n, q.bits.length = n := ⟨_, rfl⟩
             obtain ⟨nv, hnv⟩ : ∃ n, q.vals.length = n := ⟨_, rfl⟩
             simp only [listsF, hnb, hnv, bitsF, valsF] at *
             clear H hnb hnv hwf hc0
             rcases has_cases h0 with e | e | e | e | e | e | e | e | e | e | e | e <;>
             · try simp only [usesF, fieldsF, wordF, e, decide_eq_true_eq, decide_eq_false_iff_not, Bool.not_eq_true', Bool.not_eq_false', Bool.or_eq_true, Bool.or_eq_false_iff, Bool.and_eq_true, Bool.and_eq_false_iff, List.mem_cons, List.not_mem_nil, Int.reduceEq, Int.reduceLE, Int.reduceNeg, or_false, or_true, true_or, false_or, if_true, if_false, true_and, and_true, false_and, and_false, not_true_eq_false, not_false_eq_true, ite_true, ite_false, or_self, and_self, reduceCtorEq] at hc1
               try simp only [usesF, fieldsF, wordF, e, decide_eq_true_eq, decide_eq_false_iff_not, Bool.not_eq_true', Bool.not_eq_false', Bool.or_eq_true, Bool.or_eq_false_iff, Bool.and_eq_true, Bool.and_eq_false_iff, List.mem_cons, List.not_mem_nil, Int.reduceEq, Int.reduceLE, Int.reduceNeg, or_false, or_true, true_or, false_or, if_true, if_false, true_and, and_true, false_and, and_false, not_true_eq_false, not_false_eq_true, ite_true, ite_false, or_self, and_self, reduceCtorEq] at hc2
               simp only [usesF, fieldsF, wordF, e, decide_eq_true_eq, decide_eq_false_iff_not, Bool.not_eq_true', Bool.not_eq_false', Bool.or_eq_true, Bool.or_eq_false_iff, Bool.and_eq_true, Bool.and_eq_false_iff, List.mem_cons, List.not_mem_nil, Int.reduceEq, Int.reduceLE, Int.reduceNeg, or_false, or_true, true_or, false_or, if_true, if_false, true_and, and_true, false_and, and_false, not_true_eq_false, not_false_eq_true, ite_true, ite_false, or_self, and_self, reduceCtorEq]
               repeat' split
               all_goals first | rfl | omega)
      · refine rk (k := rs (k := rg [2] (k := rR (k := rP (by simp only [Try.f29, go_sem]; rfl) hwf ⟨?_, rfl⟩))))
        first
          | (have h0 : hasF q.fn = false := by simpa using hc0
             unfold rightF
             rw [if_pos h0]; rfl)
          | (have h0 : hasF q.fn = true := by simpa using hc0
             refine congrArg (PV.int .i64) ?_
             unfold rightF
             rw [if_neg (by rw [h0]; decide)]
             obtain ⟨nb, hnb⟩ : ∃ n, q.bits.length = n := ⟨_, rfl⟩
             obtain ⟨nv, hnv⟩ : ∃ n, q.vals.length = n := ⟨_, rfl⟩
             simp only [listsF, hnb, hnv, bitsF, valsF] at *
             clear H hnb hnv hwf hc0
             rcases has_cases h0 with e | e | e | e | e | e | e | e | e | e | e | e <;>
             · try simp only [usesF, fieldsF, wordF, e, decide_eq_true_eq, decide_eq_false_iff_not, Bool.not_eq_true', Bool.not_eq_false', Bool.or_eq_true, Bool.or_eq_false_iff, Bool.and_eq_true, Bool.and_eq_false_iff, List.mem_cons, List.not_mem_nil, Int.reduceEq, Int.reduceLE, Int.reduceNeg, or_false, or_true, true_or, false_or, if_true, if_false, true_and, and_true, false_and, and_false, not_true_eq_false, not_false_eq_true, ite_true, ite_false, or_self, and_self, reduceCtorEq] at hc1
               try simp only [usesF, fieldsF, wordF, e, decide_eq_true_eq, decide_eq_false_iff_not, Bool.not_eq_true', Bool.not_eq_false', Bool.or_eq_true, Bool.or_eq_false_iff, Bool.and_eq_true, Bool.and_eq_false_iff, List.mem_cons, List.not_mem_nil, Int.reduceEq, Int.reduceLE, Int.reduceNeg, or_false, or_true, true_or, false_or, if_true, if_false, true_and, and_true, false_and, and_false, not_true_eq_false, not_false_eq_true, ite_true, ite_false, or_self, and_self, reduceCtorEq] at hc2
               simp only [usesF, fieldsF, wordF, e, decide_eq_true_eq, decide_eq_false_iff_not, Bool.not_eq_true', Bool.not_eq_false', Bool.or_eq_true, Bool.or_eq_false_iff, Bool.and_eq_true, Bool.and_eq_false_iff, List.mem_cons, List.not_mem_nil, Int.reduceEq, Int.reduceLE, Int.reduceNeg, or_false, or_true, true_or, false_or, if_true, if_false, true_and, and_true, false_and, and_false, not_true_eq_false, not_false_eq_true, ite_true, ite_false, or_self, and_self, reduceCtorEq]
               repeat' split
               all_goals first | rfl | omega)
end Go.Proofs
namespace Go.Proofs
open Go.PM
set_option maxHeartbeats 2000000
theorem clonem_u8_nil {xs : List Int} (hx : xs = []) {s : St} : ACalls Try.prog 93 [.sl .nil []] s (fun r s' => ∃ kk, r = .sl kk [] ∧ Made s s' kk xs.length (Try.prog.cellsOf 5)) := by
  refine go Try.func93 (k := fun hwf H => ?_)
  refine rs (k := rg [0] (k := rs (k := rs (k := rg [0, 4] (k := rc (ht := fun hc0 => ?_) (hf := fun hc0 => ?_))))))
  · refine rs (k := rg [2] (k := rR (k := ?_)))
    subst hx
    exact Ret.all (by simp only [Try.f93, go_sem, ↓reduceIte] <;> rfl) ⟨.nil, rfl, .inl ⟨.inl rfl, rfl, rfl⟩⟩
  · cases hc0
theorem clonem_u8_any {xs : List Int} (hb : xs.length * 1 ≤ 140737488355328) {s : St} : ACalls Try.prog 93 [.sl .any (xs.map (PV.int .u8))] s (fun r s' => ∃ kk, r = .sl kk (xs.map (PV.int .u8)) ∧ Made s s' kk xs.length (Try.prog.cellsOf 5)) := by
  refine go Try.func93 (k := fun hwf H => ?_)
  refine rs (k := rg [0] (k := rs (k := rs (k := rg [0, 4] (k := rc (ht := fun hc0 => ?_) (hf := fun hc0 => ?_))))))
  · cases hc0
  · refine rk (k := rs (k := rr (k := rO (k := ro (pre := [_]) (k := ?_)))))
    refine RunO.made au au au Try.td28 (by rw [Try.zp5]; rfl) (isEls_map (P := Try.prog) (e := 5) (f := PV.int .u8) (fun a => ⟨rfl, by rw [Try.cz5]; rfl⟩) _) (by rw [Try.by5]; decide) (by rw [Try.by5]; simp; try omega) (.inr rfl) ?_
    intro k1 s1 hm1
    refine rh [2] (k := rR (k := ?_))
    exact Ret.all (by simp only [Try.f93, go_sem, ↓reduceIte] <;> rfl) ⟨k1, rfl, by simpa using hm1⟩
theorem clonem_u8 {xs : List Int} (hb : xs.length * 1 ≤ 140737488355328) {s : St} : ACalls Try.prog 93 [.sl .unk (xs.map (PV.int .u8))] s (fun r s' => ∃ kk, r = .sl kk (xs.map (PV.int .u8)) ∧ Made s s' kk xs.length (Try.prog.cellsOf 5)) :=
  ACalls.unk1 (fun h => by have h' := List.map_eq_nil_iff.1 h; rw [h]; exact clonem_u8_nil h') (clonem_u8_any hb)
theorem octet_PutX {l : List Int} {n : Int} (hl : l.length + 2 ≤ 140737488355328) {s : St} : ACalls Try.prog 77 [.sl .unk (l.map (PV.int .u8)), .int .i64 n] s (fun r s' => r = .sl (.tok s.nxt 1) ((l ++ num2 n).map (PV.int .u8)) ∧ s' = s.new (.tok (l.length + 2))) := by
  refine go Try.func77 (k := fun hwf H => ?_)
  refine rs (k := rg [0, 1] (k := rs (k := rr (k := ro (pre := [_]) (k := ?_)))))
  refine RunO.call au au (by kernel_rfl) ((clonem_u8 (xs := l) (by omega)).mono ?_)
  rintro r s1 ⟨kk, rfl, hm⟩
  refine ro (pre := [_, _, _, _, _]) (k := rO (k := ?_))
  refine RunO.append au au au Try.td28 (by rw [Try.zp5]; rfl) (isEls_map (P := Try.prog) (e := 5) (f := PV.int .u8) (fun a => ⟨rfl, by rw [Try.cz5]; rfl⟩) _) (isEls_map (P := Try.prog) (e := 5) (f := PV.int .u8) (fun a => ⟨rfl, by rw [Try.cz5]; rfl⟩) [_, _]) (by rw [Try.by5]; decide) (by rw [Try.by5]; simp; try omega) (Made.append (by simpa using hm) (by simp)) ?_
  refine rh [4] (k := rR (k := ?_))
  exact Ret.all (by simp only [Try.f77, go_sem, ↓reduceIte] <;> rfl) ⟨by simp [num2, u8_wrap, u8_hi, Try.cz5], by simp⟩
theorem ref1_PutX {l : List Int} {n : Int} (hn : I64 n) (hl : l.length + 2 ≤ 140737488355328) {s : St} : ACalls Try.prog 64 [.sl .unk (l.map (PV.int .u8)), .int .i64 n] s (fun r s' => r = .sl (.tok s.nxt 1) ((l ++ num2 n).map (PV.int .u8)) ∧ s' = s.new (.tok (l.length + 2))) := by
  refine go Try.func64 (k := fun hwf H => ?_)
  refine rs (k := rg [0, 1] (k := rs (k := rr (k := rO (k := ro (pre := [_]) (k := ?_))))))
  refine RunO.made au au au Try.td28 (by rw [Try.zp5]; rfl) (isEls_map (P := Try.prog) (e := 5) (f := PV.int .u8) (fun a => ⟨rfl, by rw [Try.cz5]; rfl⟩) _) (by rw [Try.by5]; decide) (by rw [Try.by5]; simp; try omega) (.inr rfl) ?_
  intro k1 s1 hm1
  refine ro (pre := [_, _, _, _, _, _]) (k := rO (k := ?_))
  refine RunO.append au au au Try.td28 (by rw [Try.zp5]; rfl) (isEls_map (P := Try.prog) (e := 5) (f := PV.int .u8) (fun a => ⟨rfl, by rw [Try.cz5]; rfl⟩) _) (isEls_map (P := Try.prog) (e := 5) (f := PV.int .u8) (fun a => ⟨rfl, by rw [Try.cz5]; rfl⟩) [_, _]) (by rw [Try.by5]; decide) (by rw [Try.by5]; simp; try omega) (Made.append (by simpa using hm1) (by simp)) ?_
  refine rh [4] (k := rR (k := ?_))
  exact Ret.all (by simp only [Try.f64, go_sem, ↓reduceIte] <;> rfl) ⟨by simp [num2, u8_wrap, u8_hi, Try.cz5, u64_wrap, hi_u64'], by simp⟩
theorem pdu_counted {l : List Int} (hl : l.length ≤ 255) {s : St} : ACalls Try.prog 89 [.sl .unk (l.map (PV.int .u8))] s (fun r s' => r = .sl .unk (((l.length : Int) :: l).map (PV.int .u8)) ∧ s' = s) := by
  refine go Try.func89 (k := fun hwf H => ?_)
  have hw1 : IntKind.u8.wrap (l.length : Int) = l.length := by rw [u8_wrap]; omega
  have H := aj hw1 H
  refine rs (k := rg [0] (k := rs (k := rr (k := ro (pre := [_, _, _]) (k := rO (k := ro (pre := [_]) (k := ?_)))))))
  refine RunO.grow' au au au Try.td28 (by rw [Try.zp5]; rfl) (isEls_map (P := Try.prog) (e := 5) (f := PV.int .u8) (fun a => ⟨rfl, by rw [Try.cz5]; rfl⟩) [_]) (isEls_map (P := Try.prog) (e := 5) (f := PV.int .u8) (fun a => ⟨rfl, by rw [Try.cz5]; rfl⟩) _) (by rw [Try.by5]; decide) (by rw [Try.by5]; simp; omega) (.inr (.inl (.inl rfl))) ?_
  intro k2 s2 hgr htm
  refine rh [2] (k := rR (k := ?_))
  refine Ret.pure (by simp only [Try.f89, go_sem] <;> rfl) (r' := .sl .unk (((l.length : Int) :: l).map (PV.int .u8))) (by simp [PV.weak, weaks_map, u8_wrap, Function.comp_def] <;> rfl) (by simp only [PV.blw]; exact ⟨fun t z e => (by cases e), blws_u8 _ _⟩) hwf (by first | exact ((Fr.refl hwf).tm htm (fun t z e => by cases e)).blk) ⟨?_, rfl⟩
  · rfl
theorem reply_counted {fn : Int} {l : List Int} (hf : 0 ≤ fn ∧ fn ≤ 255) (hl : l.length ≤ 255) {s : St} : ACalls Try.prog 74 [.int .i64 fn, .sl .unk (l.map (PV.int .u8))] s (fun r s' => r = .sl .unk ((fn :: (l.length : Int) :: l).map (PV.int .u8)) ∧ s' = s) := by
  refine go Try.func74 (k := fun hwf H => ?_)
  have hw1 : IntKind.u8.wrap (l.length : Int) = l.length := by rw [u8_wrap]; omega
  have hw2 : IntKind.u8.wrap fn = fn := by rw [u8_wrap]; omega
  have H := aj hw1 (aj hw2 H)
  refine rs (k := rg [0, 1] (k := rs (k := rr (k := ro (pre := [_, _, _, _, _]) (k := rO (k := ro (pre := [_]) (k := ?_)))))))
  refine RunO.grow' au au au Try.td28 (by rw [Try.zp5]; rfl) (isEls_map (P := Try.prog) (e := 5) (f := PV.int .u8) (fun a => ⟨rfl, by rw [Try.cz5]; rfl⟩) [_, _]) (isEls_map (P := Try.prog) (e := 5) (f := PV.int .u8) (fun a => ⟨rfl, by rw [Try.cz5]; rfl⟩) _) (by rw [Try.by5]; decide) (by rw [Try.by5]; simp; omega) (.inr (.inl (.inl rfl))) ?_
  intro k2 s2 hgr htm
  refine rh [4] (k := rR (k := ?_))
  refine Ret.pure (by simp only [Try.f74, go_sem] <;> rfl) (r' := .sl .unk ((fn :: (l.length : Int) :: l).map (PV.int .u8))) (by simp [PV.weak, weaks_map, u8_wrap, Function.comp_def] <;> rfl) (by simp only [PV.blw]; exact ⟨fun t z e => (by cases e), blws_u8 _ _⟩) hwf (by first | exact ((Fr.refl hwf).tm htm (fun t z e => by cases e)).blk) ⟨?_, rfl⟩
  · rfl
theorem octet_PutL {l L : List Int} {n : Int} (hL : L = l ++ num2 n) (hl : l.length + 2 ≤ 140737488355328) {s : St} : ACalls Try.prog 77 [.sl .unk (l.map (PV.int .u8)), .int .i64 n] s (fun r s' => r = .sl .unk (L.map (PV.int .u8)) ∧ s' = s) := by
  subst hL; exact octet_Put hl
theorem octet_PutXL {l L : List Int} {n : Int} (hL : L = l ++ num2 n) (hl : l.length + 2 ≤ 140737488355328) {s : St} : ACalls Try.prog 77 [.sl .unk (l.map (PV.int .u8)), .int .i64 n] s (fun r s' => r = .sl (.tok s.nxt 1) (L.map (PV.int .u8)) ∧ s' = s.new (.tok L.length)) := by
  have hll : L.length = l.length + 2 := by rw [hL]; simp [num2]
  rw [hll]; subst hL; exact octet_PutX hl
theorem ref1_PutL {l L : List Int} {n : Int} (hL : L = l ++ num2 n) (hn : I64 n) (hl : l.length + 2 ≤ 140737488355328) {s : St} : ACalls Try.prog 64 [.sl .unk (l.map (PV.int .u8)), .int .i64 n] s (fun r s' => r = .sl .unk (L.map (PV.int .u8)) ∧ s' = s) := by
  subst hL; exact ref1_Put hn hl
theorem ref1_PutXL {l L : List Int} {n : Int} (hL : L = l ++ num2 n) (hn : I64 n) (hl : l.length + 2 ≤ 140737488355328) {s : St} : ACalls Try.prog 64 [.sl .unk (l.map (PV.int .u8)), .int .i64 n] s (fun r s' => r = .sl (.tok s.nxt 1) (L.map (PV.int .u8)) ∧ s' = s.new (.tok L.length)) := by
  have hll : L.length = l.length + 2 := by rw [hL]; simp [num2]
  rw [hll]; subst hL; exact ref1_PutX hn hl
theorem pdu_countedL {l L : List Int} (hL : L = (l.length : Int) :: l) (hl : l.length ≤ 255) {s : St} : ACalls Try.prog 89 [.sl .unk (l.map (PV.int .u8))] s (fun r s' => r = .sl .unk (L.map (PV.int .u8)) ∧ s' = s) := by
  subst hL; exact pdu_counted hl
theorem reply_countedL {fn : Int} {l L : List Int} (hL : L = fn :: (l.length : Int) :: l) (hf : 0 ≤ fn ∧ fn ≤ 255) (hl : l.length ≤ 255) {s : St} : ACalls Try.prog 74 [.int .i64 fn, .sl .unk (l.map (PV.int .u8))] s (fun r s' => r = .sl .unk (L.map (PV.int .u8)) ∧ s' = s) := by
  subst hL; exact reply_counted hf hl
theorem octet_BytesL {l : List Int} {L : List Int} (hL : L = l.flatMap num2) (hl : l.length ≤ 100000000) {s : St} : ACalls Try.prog 76 [.sl .unk (l.map (PV.int .u16))] s (fun r s' => r = .sl .unk (L.map (PV.int .u8)) ∧ s' = s) := by
  subst hL; exact octet_Bytes hl
theorem ref1_BytesL {l : List Int} {L : List Int} (hL : L = l.flatMap num2) (hl : l.length ≤ 100000000) {s : St} : ACalls Try.prog 67 [.sl .unk (l.map (PV.int .u16))] s (fun r s' => r = .sl .unk (L.map (PV.int .u8)) ∧ s' = s) := by
  subst hL; exact ref1_Bytes hl
end Go.Proofs
namespace Go.Proofs
open Go.PM
set_option maxHeartbeats 2000000
attribute [local go_sem] weaks_bools Req.pv
set_option maxRecDepth 100000 in
theorem pdu_Bytes {q : Req} (hq : q.ok) {s : St} : ACalls Try.prog 71 [q.pv] s (fun r s' => r = .tuple [.sl .unk ((bytesF q).map (PV.int .u8)), .int .i64 (rightF q)] ∧ s' = s) := by
  refine go Try.func71 (k := fun hwf H => ?_)
  refine rs (k := rg [1] (k := rs (k := rs (k := rr (k := ro (pre := [_]) (k := rC (h := pdu_Right (q := q)) (k := rh [1, 4] (k := rs (k := rg [1, 4, 10] (k := rc (ht := fun hc0 => ?_) (hf := fun hc0 => ?_)))))))))))
  refine jO 1 ?_; rotate_left
  refine rk (k := rs (k := ?_))
  have hr0 : rightF q = 0 := by simpa using hc0
  have hR := right0 hr0
  have hfn := has_cases hR.has
  have hu8 : IntKind.u8.wrap q.fn = q.fn := by rw [u8_wrap]; omega
  have hmv := hR.mv
  have hmb := hR.mb
  have hpl := packB_len q.bits
  obtain ⟨V, hV⟩ : ∃ V, V = q.vals.flatMap num2 := ⟨_, rfl⟩
  have hvl : V.length = 2 * q.vals.length := by rw [hV]; exact flat2_len _
  obtain ⟨L1, hL1⟩ : ∃ L, L = [q.fn] ++ num2 q.at_ := ⟨_, rfl⟩
  obtain ⟨L2, hL2⟩ : ∃ L, L = L1 ++ num2 q.count := ⟨_, rfl⟩
  obtain ⟨L3, hL3⟩ : ∃ L, L = L2 ++ num2 q.wat := ⟨_, rfl⟩
  obtain ⟨L4, hL4⟩ : ∃ L, L = L3 ++ num2 q.vals.length := ⟨_, rfl⟩
  obtain ⟨L5, hL5⟩ : ∃ L, L = [q.fn] ++ num2 q.sub := ⟨_, rfl⟩
  obtain ⟨L6, hL6⟩ : ∃ L, L = L1 ++ num2 q.and_ := ⟨_, rfl⟩
  obtain ⟨L7, hL7⟩ : ∃ L, L = L6 ++ num2 q.or_ := ⟨_, rfl⟩
  obtain ⟨C, hC⟩ : ∃ C, C = (V.length : Int) :: V := ⟨_, rfl⟩
  obtain ⟨B, hB⟩ : ∃ B, B = ((packB q.bits).length : Int) :: packB q.bits := ⟨_, rfl⟩
  obtain ⟨X9, hX9⟩ : ∃ X, X = L5 ++ V := ⟨_, rfl⟩
  obtain ⟨X18, hX18⟩ : ∃ X, X = L1 ++ V := ⟨_, rfl⟩
  obtain ⟨X24, hX24⟩ : ∃ X, X = L2 ++ B := ⟨_, rfl⟩
  obtain ⟨X26, hX26⟩ : ∃ X, X = L2 ++ C := ⟨_, rfl⟩
  obtain ⟨X28, hX28⟩ : ∃ X, X = L4 ++ C := ⟨_, rfl⟩
  have hll1 : L1.length = 3 := by rw [hL1]; simp [num2]
  have hll2 : L2.length = 5 := by rw [hL2]; simp [num2, hll1]
  have hll3 : L3.length = 7 := by rw [hL3]; simp [num2, hll2]
  have hll4 : L4.length = 9 := by rw [hL4]; simp [num2, hll3]
  have hll5 : L5.length = 3 := by rw [hL5]; simp [num2]
  have hll6 : L6.length = 5 := by rw [hL6]; simp [num2, hll1]
  have hcl : C.length = V.length + 1 := by rw [hC]; rfl
  have hbl : B.length = (packB q.bits).length + 1 := by rw [hB]; rfl
  have hCn : C ≠ [] := by rw [hC]; simp
  have hBn : B ≠ [] := by rw [hB]; simp
  have h16a : IntKind.i64.wrap q.and_ = q.and_ := wrap_i64 (by have := hq.and_; unfold U16 at this; omega)
  have h16o : IntKind.i64.wrap q.or_ = q.or_ := wrap_i64 (by have := hq.or_; unfold U16 at this; omega)
  have H := aj hu8 (aj h16a (aj h16o H))
  refine rr (k := ro (pre := [_, _, _]) (k := rO (k := rh [1, 5] (k := rs (k := rs (k := rg [1, 5, 17] (k := rb (k := rs (k := rg [1, 5, 17, 18] (k := rc (ht := fun hc1 => ?_) (hf := fun hc1 => ?_)))))))))))
  refine jO 1 ?_; rotate_left
  refine rs (k := rg [1, 5, 21] (k := rc (ht := fun hc2 => ?_) (hf := fun hc2 => ?_)))
  refine rs (k := ?_)
  have hv1 : q.vals.length = 1 := by have := hR.nv; simp only [valsF, decide_eq_true_eq, decide_eq_false_iff_not] at *; simp [*] at this; omega
  have hvn : V ≠ [] := by intro h; rw [h] at hvl; simp at hvl; omega
  refine Run.drawM 7 [3] [(s.new (.row 33 [.agg [.int .i64 q.fn, .int .i64 q.at_, .int .i64 q.count, .int .i64 q.wat, .int .i64 q.sub, .sl .unk (q.bits.map PV.bool), .sl .unk (q.vals.map (PV.int .u16)), .int .u16 q.and_, .int .u16 q.or_]])), ((s.new (.row 33 [.agg [.int .i64 q.fn, .int .i64 q.at_, .int .i64 q.count, .int .i64 q.wat, .int .i64 q.sub, .sl .unk (q.bits.map PV.bool), .sl .unk (q.vals.map (PV.int .u16)), .int .u16 q.and_, .int .u16 q.or_]])).new (.tok L5.length))] Try.mixed (by kernel_rfl) (by kernel_rfl) ?_
  refine DetBC.pre (pre := [_, _, _]) (by decide) List.mem_cons_self au ?_
  refine DetBC.callE (by decide) List.mem_cons_self au au au (by kernel_rfl) (octet_PutXL (l := [q.fn]) hL5 (by simp)) ?_
  refine DetBC.pre (pre := [_, _]) (by decide) (List.mem_cons_of_mem _ List.mem_cons_self) au ?_
  refine DetBC.call (by decide) au au au (by kernel_rfl) (List.mem_cons_of_mem _ List.mem_cons_self) (fun s _ => octet_BytesL hV (by omega)) ?_
  refine DetBC.nil (List.mem_cons_of_mem _ List.mem_cons_self) ?_
  refine RunO.append au au au Try.td28 (by rw [Try.zp5]; rfl) (isEls_map (P := Try.prog) (e := 5) (f := PV.int .u8) (fun a => ⟨rfl, by rw [Try.cz5]; rfl⟩) _) (isEls_map (P := Try.prog) (e := 5) (f := PV.int .u8) (fun a => ⟨rfl, by rw [Try.cz5]; rfl⟩) _) (by rw [Try.by5]; decide) (by rw [Try.by5]; simp; try omega) (aAppend_tokL hX9 hvn (by simp (disch := omega) only [go_sem] <;> rfl) rfl Try.cz5) ?_
  refine jO 2 ?_; rotate_left
  refine rk (k := rB (k := rs (k := rr (k := ro (pre := [_, _, _]) (k := ?_)))))
  refine RunO.callw au au au (by kernel_rfl) ((octet_PutXL (l := [q.fn]) hL1 (by simp)).mono ?_)
  rintro r s1 ⟨rfl, rfl⟩
  refine rh [1, 5] (k := rs (k := rs (k := rg [1, 5, 36] (k := rb (k := rs (k := rg [1, 5, 36, 37] (k := rc (ht := fun hc3 => ?_) (hf := fun hc3 => ?_))))))))
  refine rs (k := rg [1, 5, 6] (k := rs (k := rs (k := ?_))))
  obtain ⟨b, hb⟩ : ∃ b, q.bits = [b] := by
    have := hR.nb
    simp only [bitsF, decide_eq_true_eq] at *
    simp [*] at this
    exact List.length_eq_one_iff.1 (by omega)
  have hb2 : (q.bits.map PV.bool)[0]? = some (.bool b) := by rw [hb]; rfl
  have hb3 : (0 < q.bits.length) = True := by rw [hb]; simp
  have H := aj hb2 (aj hb3 H)
  refine rg [5, 6, 42] (k := rc (ht := fun hc4 => ?_) (hf := fun hc4 => ?_))
  refine rg [5, 6] (k := rs (k := rr (k := ro (pre := [_, _]) (k := ?_))))
  refine jO 3 ?_; rotate_left
  refine rk (k := rs (k := rr (k := ro (pre := [_, _]) (k := ?_))))
  refine jO 3 ?_; rotate_left
  refine rs (k := rg [1, 5, 36, 46] (k := rc (ht := fun hc5 => ?_) (hf := fun hc5 => ?_)))
  refine rs (k := ?_)
  have hv1 : q.vals.length = 1 := by have := hR.nv; simp only [valsF, decide_eq_true_eq, decide_eq_false_iff_not] at *; simp [*] at this; omega
  have hvn : V ≠ [] := by intro h; rw [h] at hvl; simp at hvl; omega
  refine rr (k := ro (pre := [_, _, _]) (k := rC (h := octet_BytesL hV (by omega)) (k := ?_)))
  refine RunO.append au au au Try.td28 (by rw [Try.zp5]; rfl) (isEls_map (P := Try.prog) (e := 5) (f := PV.int .u8) (fun a => ⟨rfl, by rw [Try.cz5]; rfl⟩) _) (isEls_map (P := Try.prog) (e := 5) (f := PV.int .u8) (fun a => ⟨rfl, by rw [Try.cz5]; rfl⟩) _) (by rw [Try.by5]; decide) (by rw [Try.by5]; simp; try omega) (aAppend_tokL hX18 hvn (by simp (disch := omega) only [go_sem] <;> rfl) rfl Try.cz5) ?_
  refine jO 2 ?_; rotate_left
  refine rs (k := rg [1, 5, 53] (k := rc (ht := fun hc6 => ?_) (hf := fun hc6 => ?_)))
  refine rs (k := ?_)
  refine Run.drawC [] [2, 3] Try.mixed (by kernel_rfl) ?_
  refine DetC.pre (pre := [_, _, _, _]) au ?_
  refine DetC.call au au au (by kernel_rfl) (octet_PutL hL6 (by omega)) ?_
  refine DetC.pre (pre := [_, _, _]) au ?_
  refine DetC.call au au au (by kernel_rfl) (octet_PutL hL7 (by omega)) ?_
  refine DetC.all au ?_
  refine re (k := rR (k := ?_))
  refine jO 4 ?_; rotate_left
  refine rk (k := rB (k := rs (k := rr (k := ro (pre := [_, _, _]) (k := ?_)))))
  refine RunO.callw au au au (by kernel_rfl) ((octet_PutXL hL2 (by omega)).mono ?_)
  rintro r s1 ⟨rfl, rfl⟩
  refine rh [1, 5] (k := rs (k := rs (k := rg [1, 5, 69] (k := rb (k := rs (k := rg [1, 5, 69, 70] (k := rc (ht := fun hc7 => ?_) (hf := fun hc7 => ?_))))))))
  refine rr (k := ro (pre := [_, _, _]) (k := rC (h := octet_Pack (l := q.bits) (by omega)) (k := rC (h := pdu_countedL hB (by omega)) (k := ?_))))
  refine RunO.append au au au Try.td28 (by rw [Try.zp5]; rfl) (isEls_map (P := Try.prog) (e := 5) (f := PV.int .u8) (fun a => ⟨rfl, by rw [Try.cz5]; rfl⟩) _) (isEls_map (P := Try.prog) (e := 5) (f := PV.int .u8) (fun a => ⟨rfl, by rw [Try.cz5]; rfl⟩) _) (by rw [Try.by5]; decide) (by rw [Try.by5]; simp; try omega) (aAppend_tokL hX24 hBn (by simp (disch := omega) only [go_sem] <;> rfl) rfl Try.cz5) ?_
  refine jO 5 ?_; rotate_left
  refine rs (k := rg [1, 5, 69, 78] (k := rc (ht := fun hc8 => ?_) (hf := fun hc8 => ?_)))
  refine rr (k := ro (pre := [_, _, _]) (k := rC (h := octet_BytesL hV (by omega)) (k := rC (h := pdu_countedL hC (by omega)) (k := ?_))))
  refine RunO.append au au au Try.td28 (by rw [Try.zp5]; rfl) (isEls_map (P := Try.prog) (e := 5) (f := PV.int .u8) (fun a => ⟨rfl, by rw [Try.cz5]; rfl⟩) _) (isEls_map (P := Try.prog) (e := 5) (f := PV.int .u8) (fun a => ⟨rfl, by rw [Try.cz5]; rfl⟩) _) (by rw [Try.by5]; decide) (by rw [Try.by5]; simp; try omega) (aAppend_tokL hX26 hCn (by simp (disch := omega) only [go_sem] <;> rfl) rfl Try.cz5) ?_
  refine jO 5 ?_; rotate_left
  refine rs (k := rg [1, 5, 86] (k := rc (ht := fun hc9 => ?_) (hf := fun hc9 => ?_)))
  refine Run.drawM 12 [7] [(((s.new (.row 33 [.agg [.int .i64 q.fn, .int .i64 q.at_, .int .i64 q.count, .int .i64 q.wat, .int .i64 q.sub, .sl .unk (q.bits.map PV.bool), .sl .unk (q.vals.map (PV.int .u16)), .int .u16 q.and_, .int .u16 q.or_]])).new (.tok L1.length)).new (.tok L2.length)), ((((s.new (.row 33 [.agg [.int .i64 q.fn, .int .i64 q.at_, .int .i64 q.count, .int .i64 q.wat, .int .i64 q.sub, .sl .unk (q.bits.map PV.bool), .sl .unk (q.vals.map (PV.int .u16)), .int .u16 q.and_, .int .u16 q.or_]])).new (.tok L1.length)).new (.tok L2.length)).new (.tok L4.length))] Try.mixed (by kernel_rfl) (by kernel_rfl) ?_
  refine DetBC.pre (pre := [_, _, _]) (by decide) List.mem_cons_self au ?_
  refine DetBC.call (by decide) au au au (by kernel_rfl) List.mem_cons_self (fun s _ => octet_PutL hL3 (by omega)) ?_
  refine DetBC.pre (pre := [_, _, _]) (by decide) List.mem_cons_self au ?_
  refine DetBC.callE (by decide) List.mem_cons_self au au au (by kernel_rfl) (octet_PutXL hL4 (by omega)) ?_
  refine DetBC.pre (pre := [_, _]) (by decide) (List.mem_cons_of_mem _ List.mem_cons_self) au ?_
  refine DetBC.call (by decide) au au au (by kernel_rfl) (List.mem_cons_of_mem _ List.mem_cons_self) (fun s _ => octet_BytesL hV (by omega)) ?_
  refine DetBC.call (by decide) au au au (by kernel_rfl) (List.mem_cons_of_mem _ List.mem_cons_self) (fun s _ => pdu_countedL hC (by omega)) ?_
  refine DetBC.nil (List.mem_cons_of_mem _ List.mem_cons_self) ?_
  refine RunO.append au au au Try.td28 (by rw [Try.zp5]; rfl) (isEls_map (P := Try.prog) (e := 5) (f := PV.int .u8) (fun a => ⟨rfl, by rw [Try.cz5]; rfl⟩) _) (isEls_map (P := Try.prog) (e := 5) (f := PV.int .u8) (fun a => ⟨rfl, by rw [Try.cz5]; rfl⟩) _) (by rw [Try.by5]; decide) (by rw [Try.by5]; simp; try omega) (aAppend_tokL hX28 hCn (by simp (disch := omega) only [go_sem] <;> rfl) rfl Try.cz5) ?_
  refine jO 5 ?_; rotate_left
  refine rk (k := rB (k := rs (k := rr (k := ro (pre := [_]) (k := rC (h := clip_u8) (k := rh [2, 3] (k := rR (k := ?_))))))))
  refine jO 4 ?_; rotate_left
  any_goals
    refine jI 3 ?_
    refine RunO.callw au au au (by kernel_rfl) ((octet_Put (l := L1) (by omega)).mono ?_)
    refine jO 6 ?_; rotate_left
  any_goals
    refine jI 5 ?_
    refine rh [5] (k := rB (k := rs (k := rr (k := ro (pre := [_]) (k := rC (h := clip_u8) (k := rh [2, 3] (k := rR (k := ?_))))))))
    refine jO 4 ?_; rotate_left
  any_goals
    refine jI 6 ?_
    rintro r s1 ⟨rfl, hs⟩
    refine jO 7 ?_; rotate_left
  any_goals
    refine jI 1 ?_
    refine rs (k := rg [2, 3] (k := rR (k := ?_)))
    refine jO 4 ?_; rotate_left
  any_goals
    refine jI 7 ?_
    subst s1
    refine jO 2 ?_; rotate_left
  any_goals
    refine jI 2 ?_
    refine rh [2, 3] (k := rR (k := ?_))
    refine jO 4 ?_; rotate_left
  any_goals
    refine jI 4 ?_
    refine Ret.pure (r' := .tuple [.sl .unk ((bytesF q).map (PV.int .u8)), .int .i64 (rightF q)]) (by simp only [Try.f71, go_sem, ↓reduceIte] <;> rfl) ?_ (by simp only [PV.blw, PV.blws, and_true]; exact ⟨fun t z e => (by cases e), blws_u8 _ _⟩) hwf (fun i hi => by first | rfl | (have h0 := ltn hi; have h1 := lte hi; simp only [go_sem, Nat.add_assoc, Nat.reduceAdd, ↓reduceIte, h0, h1])) ⟨rfl, rfl⟩
    refine jO 8 ?_; rotate_left
  any_goals
    refine jI 8 ?_
    simp only [PV.weak, PV.weaks, weaks_u8]
    refine jO 9 ?_; rotate_left
  any_goals
    refine jI 9 ?_
    first
      | (have hr0' : ¬ rightF q = 0 := by simpa using hc0
         unfold bytesF
         rw [if_neg hr0']
         rfl)
      | (rw [hr0]
         refine congrArg (fun x => PV.tuple [PV.sl .unk x, .int .i64 0]) ?_
         first | refine congrArg (List.map (PV.int .u8)) ?_ | refine congrArg (List.map (PV.int .u8)) (a₂ := [q.fn]) ?_
         clear hll1 hll2 hll3 hll4 hll5 hll6 hcl hbl hCn hBn hvl hpl hu8 hwf h16a h16o H
         simp only [decide_eq_true_eq, decide_eq_false_iff_not] at *
         simp [bytesF, writeF, *])
end Go.Proofs
namespace Go.Proofs
open Go.PM
set_option maxHeartbeats 2000000
theorem ref3_row {xs ys zs : List Int} (hz : zs = xs ++ ((ys.length : Int) :: ys)) (hx : xs.length ≤ 1000) (hy : ys.length ≤ 255) {t : Nat} {s : St} (ht : s.blk t = some (.tok xs.length)) : ACalls Try.prog 65 [.sl (.tok t 1) (xs.map (PV.int .u8)), .sl .unk (ys.map (PV.int .u8))] s (fun r s' => r = .sl .unk (zs.map (PV.int .u8)) ∧ s' = s.set t none) := by
  refine go Try.func65 (k := fun hwf H => ?_)
  have hw1 : IntKind.u8.wrap (ys.length : Int) = ys.length := by rw [u8_wrap]; omega
  have H := aj hw1 H
  obtain ⟨X1, hX1⟩ : ∃ X, X = xs ++ [(ys.length : Int)] := ⟨_, rfl⟩
  have htl := lt_blk hwf ht
  refine rs (k := rg [0, 1] (k := rs (k := rr (k := ro (pre := [_, _, _, _]) (k := rO (k := ?_))))))
  refine RunO.append au au au Try.td28 (by rw [Try.zp5]; rfl) (isEls_map (P := Try.prog) (e := 5) (f := PV.int .u8) (fun a => ⟨rfl, by rw [Try.cz5]; rfl⟩) _) (isEls_map (P := Try.prog) (e := 5) (f := PV.int .u8) (fun a => ⟨rfl, by rw [Try.cz5]; rfl⟩) _) (by rw [Try.by5]; decide) (by rw [Try.by5]; simp; try omega) (aAppend_tokL (f := PV.int .u8) (ys := [(ys.length : Int)]) hX1 (by simp) ht rfl Try.cz5) ?_
  refine ro (pre := [_]) (k := ?_)
  refine RunO.grow' au au au Try.td28 (by rw [Try.zp5]; rfl) (isEls_map (P := Try.prog) (e := 5) (f := PV.int .u8) (fun a => ⟨rfl, by rw [Try.cz5]; rfl⟩) X1) (isEls_map (P := Try.prog) (e := 5) (f := PV.int .u8) (fun a => ⟨rfl, by rw [Try.cz5]; rfl⟩) ys) (by rw [Try.by5]; decide) (by rw [Try.by5, List.length_map, List.length_map, hX1, List.length_append]; simp; omega) (by rw [Try.cz5]; exact .inr (.inr ⟨t, rfl, by simp (disch := omega) only [go_sem, List.length_map] <;> rfl⟩)) ?_
  intro k2 s2 hgr htm
  refine rh [4] (k := rR (k := ?_))
  refine Ret.drop t (r' := .sl .unk (zs.map (PV.int .u8))) (by simp only [Try.f65, go_sem, ↓reduceIte] <;> rfl) (by rw [PV.weak, ← List.map_append, weaks_u8, hz, hX1]; simp) (by simp only [PV.blw]; exact ⟨fun t z e => (by cases e), blws_u8 _ _⟩) hwf (fun i hi hit => ?_) ⟨rfl, rfl⟩
  rw [htm.rest i (by simpa only [nxt_set] using hi) (fun z e => hit (by cases e; rfl)), blk_set, if_neg hit]
attribute [local go_sem] weaks_bools Req.pv
set_option maxRecDepth 100000 in
theorem ref3_write {q : Req} (hq : q.ok) (hr : rightF q = 0) {s : St} : ACalls Try.prog 30 [q.pv] s (fun r s' => r = .sl .unk ((writeF q).map (PV.int .u8)) ∧ s' = s) := by
  refine go Try.func30 (k := fun hwf H => ?_)
  refine rs (k := rg [1] (k := rs (k := ?_)))
  have hR := right0 hr
  have hfn := has_cases hR.has
  have hu8 : IntKind.u8.wrap q.fn = q.fn := by rw [u8_wrap]; omega
  have hmv := hR.mv
  have hmb := hR.mb
  have hpl := packB_len q.bits
  have ia := hq.at_
  have ic := hq.count
  have iw := hq.wat
  have is_ := hq.sub
  have ie : I64 65280 := by constructor <;> decide
  have iz : I64 0 := by constructor <;> decide
  have ivl : I64 (q.vals.length : Int) := by constructor <;> omega
  obtain ⟨V, hV⟩ : ∃ V, V = q.vals.flatMap num2 := ⟨_, rfl⟩
  have hvl : V.length = 2 * q.vals.length := by rw [hV]; exact flat2_len _
  obtain ⟨v, hv⟩ : ∃ v, v = (q.vals[0]?).getD 0 := ⟨_, rfl⟩
  have hv16 : U16 v := by
    rw [hv]
    cases hx : q.vals[0]? with
    | none => constructor <;> decide
    | some x => exact hq.vals x (List.mem_of_getElem? hx)
  have iv : I64 v := by unfold U16 at hv16; constructor <;> omega
  have iA : I64 q.and_ := by have := hq.and_; unfold U16 at this; constructor <;> omega
  have iO : I64 q.or_ := by have := hq.or_; unfold U16 at this; constructor <;> omega
  obtain ⟨L1, hL1⟩ : ∃ L, L = [q.fn] ++ num2 q.at_ := ⟨_, rfl⟩
  obtain ⟨L2, hL2⟩ : ∃ L, L = L1 ++ num2 q.count := ⟨_, rfl⟩
  obtain ⟨L3, hL3⟩ : ∃ L, L = L2 ++ num2 q.wat := ⟨_, rfl⟩
  obtain ⟨L4, hL4⟩ : ∃ L, L = L3 ++ num2 q.vals.length := ⟨_, rfl⟩
  obtain ⟨L5, hL5⟩ : ∃ L, L = [q.fn] ++ num2 q.sub := ⟨_, rfl⟩
  obtain ⟨L6, hL6⟩ : ∃ L, L = L1 ++ num2 q.and_ := ⟨_, rfl⟩
  obtain ⟨L7, hL7⟩ : ∃ L, L = L6 ++ num2 q.or_ := ⟨_, rfl⟩
  obtain ⟨L8, hL8⟩ : ∃ L, L = L5 ++ num2 v := ⟨_, rfl⟩
  obtain ⟨L9, hL9⟩ : ∃ L, L = L1 ++ num2 v := ⟨_, rfl⟩
  obtain ⟨La, hLa⟩ : ∃ L, L = L1 ++ num2 65280 := ⟨_, rfl⟩
  obtain ⟨Lb, hLb⟩ : ∃ L, L = L1 ++ num2 0 := ⟨_, rfl⟩
  obtain ⟨Xb, hXb⟩ : ∃ X, X = L2 ++ (((packB q.bits).length : Int) :: packB q.bits) := ⟨_, rfl⟩
  obtain ⟨Xv, hXv⟩ : ∃ X, X = L2 ++ ((V.length : Int) :: V) := ⟨_, rfl⟩
  obtain ⟨Xw, hXw⟩ : ∃ X, X = L4 ++ ((V.length : Int) :: V) := ⟨_, rfl⟩
  have hll1 : L1.length = 3 := by rw [hL1]; simp [num2]
  have hll2 : L2.length = 5 := by rw [hL2]; simp [num2, hll1]
  have hll3 : L3.length = 7 := by rw [hL3]; simp [num2, hll2]
  have hll4 : L4.length = 9 := by rw [hL4]; simp [num2, hll3]
  have hll5 : L5.length = 3 := by rw [hL5]; simp [num2]
  have hll6 : L6.length = 5 := by rw [hL6]; simp [num2, hll1]
  have h16v : IntKind.i64.wrap v = v := wrap_i64 (by unfold U16 at hv16; omega)
  have h16a : IntKind.i64.wrap q.and_ = q.and_ := wrap_i64 (by have := hq.and_; unfold U16 at this; omega)
  have h16o : IntKind.i64.wrap q.or_ = q.or_ := wrap_i64 (by have := hq.or_; unfold U16 at this; omega)
  have H := aj hu8 (aj h16v (aj h16a (aj h16o H)))
  refine rr (k := ro (pre := [_, _, _]) (k := rO (k := rh [1, 3] (k := rs (k := rr (k := ro (pre := [_, _, _]) (k := rC (h := ref1_PutL (l := [q.fn]) hL1 ia (by simp)) (k := rh [1, 3, 4] (k := rs (k := rs (k := rg [1, 3, 4, 15] (k := rb (k := rs (k := rs (k := rg [1, 3, 4, 15, 16] (k := ?_))))))))))))))))
  refine Run.join (fun e s' => e = [(1, .ptr s.nxt 0 0), (3, .sl .clip [.int .u8 q.fn]), (4, .sl .unk (L1.map (PV.int .u8))), (15, .int .i64 q.fn), (16, .bool (decide (1 ≤ q.fn ∧ q.fn ≤ 4)))] ∧ s' = (s.new (.row 33 [.agg [.int .i64 q.fn, .int .i64 q.at_, .int .i64 q.count, .int .i64 q.wat, .int .i64 q.sub, .sl .unk (q.bits.map PV.bool), .sl .unk (q.vals.map (PV.int .u16)), .int .u16 q.and_, .int .u16 q.or_]]))) ?_ ?_
  rintro e s1 ⟨rfl, rfl⟩
  refine rc (ht := fun hc3 => ?_) (hf := fun hc3 => ?_)
  refine rs (k := rr (k := ro (pre := [_, _, _]) (k := rC (h := ref1_PutL hL2 ic (by omega)) (k := rh [2] (k := rR (k := ?_))))))
  refine jO 1 ?_; rotate_left
  refine rs (k := rg [1, 3, 4, 15, 25] (k := rc (ht := fun hc4 => ?_) (hf := fun hc4 => ?_)))
  refine rs (k := rs (k := ?_))
  obtain ⟨b, hb⟩ : ∃ b, q.bits = [b] := by
    have := hR.nb
    simp only [bitsF, decide_eq_true_eq] at *
    simp [*] at this
    exact List.length_eq_one_iff.1 (by omega)
  have hb2 : (q.bits.map PV.bool)[0]? = some (.bool b) := by rw [hb]; rfl
  have hb3 : (0 < q.bits.length) = True := by rw [hb]; simp
  have H := aj hb2 (aj hb3 H)
  refine rg [4, 30] (k := rc (ht := fun hc5 => ?_) (hf := fun hc5 => ?_))
  refine rs (k := rr (k := ro (pre := [_]) (k := rC (h := ref1_PutL hLa ie (by omega)) (k := rh [2] (k := rR (k := ?_))))))
  refine jO 1 ?_; rotate_left
  refine rk (k := rs (k := rr (k := ro (pre := [_]) (k := rC (h := ref1_PutL hLb iz (by omega)) (k := rh [2] (k := rR (k := ?_)))))))
  refine jO 1 ?_; rotate_left
  refine rs (k := rg [1, 3, 4, 15, 35] (k := rc (ht := fun hc6 => ?_) (hf := fun hc6 => ?_)))
  refine rs (k := ?_)
  have hv1 : q.vals.length = 1 := by
    have := hR.nv
    have h68 : q.fn = 6 ∨ q.fn = 8 := by first | exact .inl (of_decide_eq_true hc6) | exact .inr (of_decide_eq_true hc7)
    unfold valsF at this
    rw [if_pos h68] at this
    omega
  obtain ⟨v', hvv⟩ := List.length_eq_one_iff.1 hv1
  have hve : v' = v := by rw [hv, hvv]; rfl
  subst hve
  clear hv
  have hv2 : (q.vals.map (PV.int .u16))[0]? = some (.int .u16 v') := by rw [hvv]; rfl
  have hv3 : (0 < q.vals.length) = True := by rw [hvv]; simp
  have H := aj hv2 (aj hv3 H)
  refine rr (k := ro (pre := [_, _, _, _, _, _]) (k := rC (h := ref1_PutL hL9 iv (by omega)) (k := rh [2] (k := rR (k := ?_)))))
  refine jO 1 ?_; rotate_left
  refine rs (k := rg [1, 3, 4, 15, 44] (k := rc (ht := fun hc7 => ?_) (hf := fun hc7 => ?_)))
  refine rs (k := ?_)
  have hv1 : q.vals.length = 1 := by
    have := hR.nv
    have h68 : q.fn = 6 ∨ q.fn = 8 := by first | exact .inl (of_decide_eq_true hc6) | exact .inr (of_decide_eq_true hc7)
    unfold valsF at this
    rw [if_pos h68] at this
    omega
  obtain ⟨v', hvv⟩ := List.length_eq_one_iff.1 hv1
  have hve : v' = v := by rw [hv, hvv]; rfl
  subst hve
  clear hv
  have hv2 : (q.vals.map (PV.int .u16))[0]? = some (.int .u16 v') := by rw [hvv]; rfl
  have hv3 : (0 < q.vals.length) = True := by rw [hvv]; simp
  have H := aj hv2 (aj hv3 H)
  refine Run.drawC [] [2] Try.mixed (by kernel_rfl) ?_
  refine DetC.pre (pre := [_, _, _]) au ?_
  refine DetC.call au au au (by kernel_rfl) (ref1_PutL (l := [q.fn]) hL5 is_ (by simp)) ?_
  refine DetC.pre (pre := [_, _, _, _, _]) au ?_
  refine DetC.call au au au (by kernel_rfl) (ref1_PutL hL8 iv (by omega)) ?_
  refine jO 2 ?_; rotate_left
  refine rs (k := rg [1, 3, 4, 15, 56] (k := rc (ht := fun hc8 => ?_) (hf := fun hc8 => ?_)))
  refine rs (k := ?_)
  refine Run.drawM 7 [3] [(s.new (.row 33 [.agg [.int .i64 q.fn, .int .i64 q.at_, .int .i64 q.count, .int .i64 q.wat, .int .i64 q.sub, .sl .unk (q.bits.map PV.bool), .sl .unk (q.vals.map (PV.int .u16)), .int .u16 q.and_, .int .u16 q.or_]])), ((s.new (.row 33 [.agg [.int .i64 q.fn, .int .i64 q.at_, .int .i64 q.count, .int .i64 q.wat, .int .i64 q.sub, .sl .unk (q.bits.map PV.bool), .sl .unk (q.vals.map (PV.int .u16)), .int .u16 q.and_, .int .u16 q.or_]])).new (.tok L2.length))] Try.mixed (by kernel_rfl) (by kernel_rfl) ?_
  refine DetBC.pre (pre := [_, _, _]) (by decide) List.mem_cons_self au ?_
  refine DetBC.callE (by decide) List.mem_cons_self au au au (by kernel_rfl) (ref1_PutXL hL2 ic (by omega)) ?_
  refine DetBC.pre (pre := [_, _]) (by decide) (List.mem_cons_of_mem _ List.mem_cons_self) au ?_
  refine DetBC.call (by decide) au au au (by kernel_rfl) (List.mem_cons_of_mem _ List.mem_cons_self) (fun s _ => ref1_Pack (l := q.bits) (by omega)) ?_
  refine DetBC.nil (List.mem_cons_of_mem _ List.mem_cons_self) ?_
  refine RunO.call au au (by kernel_rfl) ((ref3_row hXb (by omega) (by omega) (by simp (disch := omega) only [go_sem] <;> rfl)).mono ?_)
  refine jO 3 ?_; rotate_left
  refine rs (k := rg [1, 3, 4, 15, 66] (k := rc (ht := fun hc9 => ?_) (hf := fun hc9 => ?_)))
  refine rs (k := ?_)
  refine Run.drawM 7 [3] [(s.new (.row 33 [.agg [.int .i64 q.fn, .int .i64 q.at_, .int .i64 q.count, .int .i64 q.wat, .int .i64 q.sub, .sl .unk (q.bits.map PV.bool), .sl .unk (q.vals.map (PV.int .u16)), .int .u16 q.and_, .int .u16 q.or_]])), ((s.new (.row 33 [.agg [.int .i64 q.fn, .int .i64 q.at_, .int .i64 q.count, .int .i64 q.wat, .int .i64 q.sub, .sl .unk (q.bits.map PV.bool), .sl .unk (q.vals.map (PV.int .u16)), .int .u16 q.and_, .int .u16 q.or_]])).new (.tok L2.length))] Try.mixed (by kernel_rfl) (by kernel_rfl) ?_
  refine DetBC.pre (pre := [_, _, _]) (by decide) List.mem_cons_self au ?_
  refine DetBC.callE (by decide) List.mem_cons_self au au au (by kernel_rfl) (ref1_PutXL hL2 ic (by omega)) ?_
  refine DetBC.pre (pre := [_, _]) (by decide) (List.mem_cons_of_mem _ List.mem_cons_self) au ?_
  refine DetBC.call (by decide) au au au (by kernel_rfl) (List.mem_cons_of_mem _ List.mem_cons_self) (fun s _ => ref1_BytesL hV (by omega)) ?_
  refine DetBC.nil (List.mem_cons_of_mem _ List.mem_cons_self) ?_
  refine RunO.call au au (by kernel_rfl) ((ref3_row hXv (by omega) (by omega) (by simp (disch := omega) only [go_sem] <;> rfl)).mono ?_)
  refine jO 3 ?_; rotate_left
  refine rs (k := rg [1, 3, 4, 15, 76] (k := rc (ht := fun hc10 => ?_) (hf := fun hc10 => ?_)))
  refine rs (k := ?_)
  refine Run.drawC [] [2] Try.mixed (by kernel_rfl) ?_
  refine DetC.pre (pre := [_, _, _, _]) au ?_
  refine DetC.call au au au (by kernel_rfl) (ref1_PutL hL6 iA (by omega)) ?_
  refine DetC.pre (pre := [_, _, _]) au ?_
  refine DetC.call au au au (by kernel_rfl) (ref1_PutL hL7 iO (by omega)) ?_
  refine jO 2 ?_; rotate_left
  refine rs (k := rg [1, 3, 4, 87] (k := rc (ht := fun hc11 => ?_) (hf := fun hc11 => ?_)))
  refine rs (k := ?_)
  refine Run.drawM 11 [10] [(s.new (.row 33 [.agg [.int .i64 q.fn, .int .i64 q.at_, .int .i64 q.count, .int .i64 q.wat, .int .i64 q.sub, .sl .unk (q.bits.map PV.bool), .sl .unk (q.vals.map (PV.int .u16)), .int .u16 q.and_, .int .u16 q.or_]])), ((s.new (.row 33 [.agg [.int .i64 q.fn, .int .i64 q.at_, .int .i64 q.count, .int .i64 q.wat, .int .i64 q.sub, .sl .unk (q.bits.map PV.bool), .sl .unk (q.vals.map (PV.int .u16)), .int .u16 q.and_, .int .u16 q.or_]])).new (.tok L4.length))] Try.mixed (by kernel_rfl) (by kernel_rfl) ?_
  refine DetBC.pre (pre := [_, _, _]) (by decide) List.mem_cons_self au ?_
  refine DetBC.call (by decide) au au au (by kernel_rfl) List.mem_cons_self (fun s _ => ref1_PutL hL2 ic (by omega)) ?_
  refine DetBC.pre (pre := [_, _]) (by decide) List.mem_cons_self au ?_
  refine DetBC.call (by decide) au au au (by kernel_rfl) List.mem_cons_self (fun s _ => ref1_PutL hL3 iw (by omega)) ?_
  refine DetBC.pre (pre := [_, _, _]) (by decide) List.mem_cons_self au ?_
  refine DetBC.callE (by decide) List.mem_cons_self au au au (by kernel_rfl) (ref1_PutXL hL4 ivl (by omega)) ?_
  refine DetBC.nil (List.mem_cons_of_mem _ List.mem_cons_self) ?_
  refine rh [1, 5] (k := rs (k := rr (k := ro (pre := [_, _, _]) (k := rC (h := ref1_BytesL hV (by omega)) (k := ?_)))))
  refine RunO.call au au (by kernel_rfl) ((ref3_row hXw (by omega) (by omega) (by simp (disch := omega) only [go_sem] <;> rfl)).mono ?_)
  refine jO 3 ?_; rotate_left
  refine rk (k := rB (k := rs (k := rg [2] (k := rR (k := ?_)))))
  refine jO 1 ?_; rotate_left
  intro hJc0
  refine rc (ht := fun hc0 => ?_) (hf := fun hc0 => ?_)
  · refine rk (k := ?_)
    have hd : decide (1 ≤ q.fn ∧ q.fn ≤ 4) = decide (q.fn = 1) := by
      rw [Bool.eq_iff_iff, decide_eq_true_eq, decide_eq_true_eq]
      simp only [decide_eq_true_eq, decide_eq_false_iff_not] at *
      omega
    exact hJc0 _ _ ⟨by rw [hd], rfl⟩
  · refine rs (k := rg [1, 3, 4, 15, 16] (k := rc (ht := fun hc1 => ?_) (hf := fun hc1 => ?_)))
    · refine rk (k := ?_)
      have hd : decide (1 ≤ q.fn ∧ q.fn ≤ 4) = decide (q.fn = 2) := by
        rw [Bool.eq_iff_iff, decide_eq_true_eq, decide_eq_true_eq]
        simp only [decide_eq_true_eq, decide_eq_false_iff_not] at *
        omega
      exact hJc0 _ _ ⟨by rw [hd], rfl⟩
    · refine rs (k := rg [1, 3, 4, 15, 16] (k := rc (ht := fun hc2 => ?_) (hf := fun hc2 => ?_)))
      · refine rk (k := ?_)
        have hd : decide (1 ≤ q.fn ∧ q.fn ≤ 4) = decide (q.fn = 3) := by
          rw [Bool.eq_iff_iff, decide_eq_true_eq, decide_eq_true_eq]
          simp only [decide_eq_true_eq, decide_eq_false_iff_not] at *
          omega
        exact hJc0 _ _ ⟨by rw [hd], rfl⟩
      · refine rg [1, 3, 4, 15, 16] (k := ?_)
        have hd : decide (1 ≤ q.fn ∧ q.fn ≤ 4) = decide (q.fn = 4) := by
          rw [Bool.eq_iff_iff, decide_eq_true_eq, decide_eq_true_eq]
          simp only [decide_eq_true_eq, decide_eq_false_iff_not] at *
          omega
        exact hJc0 _ _ ⟨by rw [hd], rfl⟩
  any_goals
    refine jI 3 ?_
    rintro r s1 ⟨rfl, rfl⟩
    refine jO 4 ?_; rotate_left
  any_goals
    refine jI 2 ?_
    refine DetC.all au ?_
    refine jO 5 ?_; rotate_left
  any_goals
    refine jI 4 ?_
    refine rh [2] (k := rR (k := ?_))
    refine jO 1 ?_; rotate_left
  any_goals
    refine jI 5 ?_
    refine re (k := rR (k := ?_))
    refine jO 1 ?_; rotate_left
  any_goals
    refine jI 1 ?_
    refine Ret.pure (r' := .sl .unk ((writeF q).map (PV.int .u8))) (by simp only [Try.f30, go_sem, ↓reduceIte] <;> rfl) ?_ (by simp only [PV.blw]; exact ⟨fun t z e => (by cases e), blws_u8 _ _⟩) hwf (fun i hi => by first | rfl | (have h0 := ltn hi; have h1 := lte hi; simp only [go_sem, Nat.add_assoc, Nat.reduceAdd, ↓reduceIte, h0, h1])) ⟨rfl, rfl⟩
    refine jO 6 ?_; rotate_left
  any_goals
    refine jI 6 ?_
    simp only [PV.weak, weaks_u8]
    refine jO 7 ?_; rotate_left
  any_goals
    refine jI 7 ?_
    refine congrArg (fun x => PV.sl .unk x) ?_
    refine jO 8 ?_; rotate_left
  any_goals
    refine jI 8 ?_
    first | refine congrArg (List.map (PV.int .u8)) ?_ | refine congrArg (List.map (PV.int .u8)) (a₂ := [q.fn]) ?_
    refine jO 9 ?_; rotate_left
  any_goals
    refine jI 9 ?_
    clear hll1 hll2 hll3 hll4 hll5 hll6 hvl hpl hu8 hwf h16a h16o h16v H
    refine jO 10 ?_; rotate_left
  any_goals
    refine jI 10 ?_
    simp only [decide_eq_true_eq, decide_eq_false_iff_not] at *
    refine jO 11 ?_; rotate_left
  any_goals
    refine jI 11 ?_
    first
      | (simp [writeF, *]; done)
      | (have e : q.fn = 17 := by omega
         simp [writeF, e]; done)
      | (have e : q.fn = 1 ∨ q.fn = 2 ∨ q.fn = 3 ∨ q.fn = 4 := by omega
         rcases e with e | e | e | e <;> simp [writeF, e, hL2, hL1])
end Go.Proofs
namespace Go.Proofs
open Go.PM
set_option maxHeartbeats 2000000
theorem pdu_num {b : List Int} (hb : OkB b) (hl : b.length ≤ 140737488351232) {i : Int} {a : Int} (ha : 1 + 2 * i = a) (hi : 0 ≤ i ∧ i ≤ 100) {s : St} : ACalls Try.prog 86 [.sl .unk (b.map (PV.int .u8)), .int .i64 i] s (fun r s' => r = .int .i64 (num1 b a) ∧ s' = s) := by
  refine go Try.func86 (k := fun hwf H => ?_)
  have hw1 : IntKind.i64.wrap (2 * i) = 2 * i := wrap_i64 (by omega)
  have hw2 : IntKind.i64.wrap (1 + 2 * i) = a := by rw [wrap_i64 (by omega), ha]
  have H := aj hw1 (aj hw2 H)
  refine rs (k := rg [0, 1] (k := rs (k := rr (k := ro (pre := [_, _, _, _]) (k := rC (h := octet_Get hb (a := a) (by constructor <;> omega) (by omega)) (k := rh [5] (k := rs (k := rg [4] (k := rR (k := rP (by simp only [Try.f86, go_sem]; rfl) hwf ⟨?_, rfl⟩))))))))))
  rfl
theorem pdu_words {b : List Int} (hb : OkB b) (hl : b.length ≤ 140737488351232) {n : Nat} (hn : n ≤ 100) {s : St} : ACalls Try.prog 87 [.sl .unk (b.map (PV.int .u8)), .int .i64 (n : Int)] s (fun r s' => r = .sl .unk ((wordsE b n).map (PV.int .u16)) ∧ s' = s) := by
  refine go Try.func87 (k := fun hwf H => ?_)
  refine rs (k := rg [0, 1] (k := rs (k := rs (k := rg [0, 1, 10] (k := rc (ht := fun hc0 => ?_) (hf := fun hc0 => ?_))))))
  refine rs (k := rg [4] (k := rR (k := rP (by simp only [Try.f87, go_sem]; rfl) hwf ⟨?_, rfl⟩)))
  refine jO 1 ?_; rotate_left
  refine rk (k := rs (k := ?_))
  have hlt : n < b.length := by have := of_decide_eq_false hc0; omega
  have hw1 : IntKind.i64.wrap ((b.length : Int) - n) = ((b.length - n : Nat) : Int) := by rw [wrap_i64 (by omega)]; omega
  have hm1 : ((b.length - n : Nat) : Int).tmod 2 = (((b.length - n) % 2 : Nat) : Int) := by rw [tmod_pos (by omega)]; omega
  have hw2 : IntKind.i64.wrap (((b.length - n) % 2 : Nat) : Int) = (((b.length - n) % 2 : Nat) : Int) := wrap_i64 (by omega)
  have hw3 : IntKind.i64.wrap ((b.length : Int) - (((b.length - n) % 2 : Nat) : Int)) = ((b.length - (b.length - n) % 2 : Nat) : Int) := by rw [wrap_i64 (by omega)]; omega
  have h20 : ((2 : Int) = 0) = False := by decide
  have hd1 : (0 ≤ (n : Int)) = True := eq_true (by omega)
  have hd2 : ((n : Int) ≤ ((b.length - (b.length - n) % 2 : Nat) : Int)) = True := eq_true (by omega)
  have hd3 : (((b.length - (b.length - n) % 2 : Nat) : Int) ≤ (b.length : Int)) = True := eq_true (by omega)
  have htk : ((((b.length - (b.length - n) % 2 : Nat) : Int) - (n : Int)).toNat) = b.length - n - (b.length - n) % 2 := by omega
  have hlm : ((b.map (PV.int .u8)).drop n).take (b.length - n - (b.length - n) % 2) = (((b.drop n).take (b.length - n - (b.length - n) % 2)).map (PV.int .u8)) := by rw [List.map_take, List.map_drop]
  have H := aj hw1 (aj hm1 (aj hw2 (aj hw3 (aj hd1 (aj hd2 (aj hd3 (aj htk (aj hlm (aj h20 H)))))))))
  refine rr (k := ro (pre := [_, _, _, _, _, _, _, _, _, _, _]) (k := rC (h := octet_Words (b := (b.drop n).take (b.length - n - (b.length - n) % 2)) (OkB.take (OkB.drop hb n) _) (by simp; omega)) (k := rh [5] (k := rs (k := rg [4] (k := rR (k := rP (by simp only [Try.f87, go_sem]; rfl) hwf ⟨?_, rfl⟩)))))))
  refine jO 1 ?_; rotate_left
  any_goals
    refine jI 1 ?_
    first
      | (have : b.length ≤ n := by have := of_decide_eq_true hc0; omega
         have hz : wordsE b n = [] := by unfold wordsE; rw [List.drop_eq_nil_of_le this, List.take_nil]; rfl
         rw [hz]; rfl)
      | (simp only [PV.weak, weaks_u16]; rfl)
theorem ref3_num {b : List Int} (hb : OkB b) (hl : b.length ≤ 140737488351232) {i : Int} (hi : 0 ≤ i ∧ i ≤ 100) {s : St} : ACalls Try.prog 33 [.sl .unk (b.map (PV.int .u8)), .int .i64 i] s (fun r s' => r = .int .i64 (num1 b i) ∧ s' = s) := by
  refine go Try.func33 (k := fun hwf H => ?_)
  refine rs (k := rg [0, 1] (k := rs (k := rr (k := ro (pre := [_, _]) (k := rC (h := ref1_Get hb (a := i) (by constructor <;> omega) (by omega)) (k := rh [5] (k := rs (k := rg [4] (k := rR (k := rP (by simp only [Try.f33, go_sem]; rfl) hwf ⟨?_, rfl⟩))))))))))
  rfl
theorem ref3_words {b : List Int} (hb : OkB b) (hl : b.length ≤ 140737488351232) {n : Nat} (hn : n ≤ 100) {s : St} : ACalls Try.prog 35 [.sl .unk (b.map (PV.int .u8)), .int .i64 (n : Int)] s (fun r s' => r = .sl .unk ((wordsO b n).map (PV.int .u16)) ∧ s' = s) := by
  refine go Try.func35 (k := fun hwf H => ?_)
  refine rs (k := rg [0, 1] (k := rs (k := rs (k := rg [0, 1, 10] (k := rc (ht := fun hc0 => ?_) (hf := fun hc0 => ?_))))))
  refine rs (k := rg [4] (k := rR (k := rP (by simp only [Try.f35, go_sem]; rfl) hwf ⟨?_, rfl⟩)))
  refine jO 1 ?_; rotate_left
  refine rk (k := rs (k := ?_))
  have hlt : n < b.length := by have := of_decide_eq_false hc0; omega
  have hd1 : (0 ≤ (n : Int)) = True := eq_true (by omega)
  have hd2 : ((n : Int) ≤ (b.length : Int)) = True := eq_true (by omega)
  have htk : (((b.length : Int) - (n : Int)).toNat) = b.length - n := by omega
  have hlm : ((b.map (PV.int .u8)).drop n).take (b.length - n) = ((b.drop n).map (PV.int .u8)) := by rw [List.map_drop, List.take_of_length_le (by simp)]
  have H := aj hd1 (aj hd2 (aj htk (aj hlm H)))
  refine rr (k := ro (pre := [_, _, _]) (k := rC (h := ref1_Words (b := b.drop n) (OkB.drop hb n) (by simp; omega)) (k := rh [5] (k := rs (k := rg [4] (k := rR (k := rP (by simp only [Try.f35, go_sem]; rfl) hwf ⟨?_, rfl⟩)))))))
  refine jO 1 ?_; rotate_left
  any_goals
    refine jI 1 ?_
    first
      | (have : b.length ≤ n := by have := of_decide_eq_true hc0; omega
         have hz : wordsO b n = [] := by unfold wordsO; rw [List.drop_eq_nil_of_le this]; rfl
         rw [hz]; rfl)
      | (simp only [PV.weak, weaks_u16]; rfl)
end Go.Proofs
namespace Go.Proofs
open Go.PM
set_option maxHeartbeats 2000000
theorem mem97 {x : Int} : 97 ∈ usesF x ↔ 1 ≤ x ∧ x ≤ 4 ∨ x = 5 ∨ x = 6 ∨ x = 15 ∨ x = 16 ∨ x = 22 ∨ x = 23 := by
  unfold usesF
  repeat' split
  all_goals (simp only [List.mem_cons, List.not_mem_nil, Int.reduceEq, or_true, true_or, or_false, false_or, true_iff, false_iff]; omega)
theorem mem99 {x : Int} : 99 ∈ usesF x ↔ 1 ≤ x ∧ x ≤ 4 ∨ x = 15 ∨ x = 16 ∨ x = 23 := by
  unfold usesF
  repeat' split
  all_goals (simp only [List.mem_cons, List.not_mem_nil, Int.reduceEq, or_true, true_or, or_false, false_or, true_iff, false_iff]; omega)
attribute [local go_sem] weaks_bools
set_option maxRecDepth 100000 in
theorem pdu_guess {b : List Int} (hb : OkB b) (hl : b.length ≤ 140737488351232) {x : Int} (hx : b[0]? = some x) {s : St} : ACalls Try.prog 70 [.sl .unk (b.map (PV.int .u8))] s (fun r s' => r = (guessF b).pv ∧ s' = s) := by
  refine go Try.func70 (k := fun hwf H => ?_)
  have hlt : 0 < b.length := by cases b with | nil => cases hx | cons _ _ => simp
  have hxx : (b.map (PV.int .u8))[0]? = some (.int .u8 x) := by rw [List.getElem?_map, hx]; rfl
  have hlT : (0 < b.length) = True := eq_true hlt
  have hx8 : U8 x := hb x (List.mem_of_getElem? hx)
  have hxw : IntKind.i64.wrap x = x := wrap_i64 (by unfold U8 at hx8; omega)
  have hn3 : IntKind.u16.wrap (num1 b 3) = num1 b 3 := by have := num1_u16 hb 3; rw [u16_wrap]; unfold U16 at this; omega
  have hn5 : IntKind.u16.wrap (num1 b 5) = num1 b 5 := by have := num1_u16 hb 5; rw [u16_wrap]; unfold U16 at this; omega
  have hi3 : I64 (num1 b 3) := by have := num1_u16 hb 3; unfold U16 at this; constructor <;> omega
  have hm3 : num1 b 3 ≤ 140737488351232 := by have := num1_u16 hb 3; unfold U16 at this; omega
  have hg0 : (b[0]?).getD 0 = x := by rw [hx]; rfl
  have H := aj hxx (aj hlT (aj hxw (aj hn3 (aj hn5 H))))
  refine rs (k := rg [0, 2] (k := rs (k := rg [0, 2, 3] (k := rs (k := rs (k := rg [0, 2, 3, 11] (k := rb (k := rs (k := rg [0, 2, 3, 11, 12] (k := rc (ht := fun hc0 => ?_) (hf := fun hc0 => ?_)))))))))))
  refine rs (k := rg [2] (k := rR (k := ?_)))
  refine jO 1 ?_; rotate_left
  refine rs (k := rg [0, 2, 3, 15] (k := rc (ht := fun hc1 => ?_) (hf := fun hc1 => ?_)))
  refine rs (k := rr (k := ro (pre := [_]) (k := rC (h := pdu_num (b := b) hb hl (a := 1) (by omega) (by omega)) (k := ro (pre := [_]) (k := rC (h := pdu_words (b := b) hb hl (n := 3) (by omega)) (k := rh [2, 3] (k := rs (k := rg [2] (k := rR (k := ?_))))))))))
  refine jO 1 ?_; rotate_left
  refine rk (k := rB (k := rs (k := rr (k := ro (pre := [_]) (k := rC (h := pdu_num (b := b) hb hl (a := 1) (by omega) (by omega)) (k := rh [0, 2, 3] (k := rs (k := rs (k := rg [0, 2, 3, 28] (k := rb (k := rs (k := rg [0, 2, 3, 28, 32] (k := rc (ht := fun hc2 => ?_) (hf := fun hc2 => ?_))))))))))))))
  refine rr (k := ro (pre := [_]) (k := rC (h := pdu_num (b := b) hb hl (a := 3) (by omega) (by omega)) (k := ro (pre := [_]) (k := rO (k := rh [2, 3] (k := rB (k := rs (k := rg [2] (k := rR (k := ?_))))))))))
  refine jO 1 ?_; rotate_left
  refine rs (k := rg [0, 2, 3, 28, 39] (k := rc (ht := fun hc3 => ?_) (hf := fun hc3 => ?_)))
  refine rr (k := ro (pre := [_]) (k := rC (h := pdu_words (b := b) hb hl (n := 3) (by omega)) (k := rh [2, 3] (k := rB (k := rs (k := rg [2] (k := rR (k := ?_))))))))
  refine jO 1 ?_; rotate_left
  refine rs (k := rg [0, 2, 3, 28, 44] (k := rc (ht := fun hc4 => ?_) (hf := fun hc4 => ?_)))
  refine rr (k := ro (pre := [_]) (k := rC (h := pdu_num (b := b) hb hl (a := 3) (by omega) (by omega)) (k := ro (pre := [_, _]) (k := rC (h := pdu_num (b := b) hb hl (a := 5) (by omega) (by omega)) (k := rh [2, 3] (k := rB (k := rs (k := rg [2] (k := rR (k := ?_))))))))))
  refine jO 1 ?_; rotate_left
  refine rs (k := rg [0, 2, 3, 28, 54] (k := rc (ht := fun hc5 => ?_) (hf := fun hc5 => ?_)))
  refine rs (k := rr (k := ro (pre := [_]) (k := rC (h := pdu_num (b := b) hb hl (a := 3) (by omega) (by omega)) (k := rh [0, 2, 3] (k := rs (k := rg [0, 2, 3, 4] (k := rs (k := rg [0, 2, 3, 4, 62] (k := rc (ht := fun hc6 => ?_) (hf := fun hc6 => ?_))))))))))
  have hlen : 6 ≤ b.length := by have := of_decide_eq_true hc6; omega
  have hd1 : ((6 : Int) ≤ (b.length : Int)) = True := eq_true (by omega)
  have htk : ((b.length : Int) - 6).toNat = b.length - 6 := by omega
  have hlm : ((b.map (PV.int .u8)).drop (6 : Int).toNat).take (b.length - 6) = ((b.drop 6).map (PV.int .u8)) := by show ((b.map (PV.int .u8)).drop 6).take (b.length - 6) = _; rw [List.map_drop, List.take_of_length_le (by simp)]
  have hd2 : ((0 : Int) ≤ 6) = True := by decide
  have hd3 : ((6 : Int) = 0) = False := by decide
  have H := aj hd1 (aj htk (aj hlm (aj hd2 (aj hd3 H))))
  refine Run.drawC [10] [2, 3] Try.mixed (by kernel_rfl) ?_
  refine DetC.pre (pre := [_, _, _, _, _]) au ?_
  refine DetC.call au au au (by kernel_rfl) (octet_Open (b := b.drop 6) (hb.drop 6) (by simp; omega) hi3 (.inl hm3)) ?_
  refine DetC.pre (pre := [_, _, _, _]) au ?_
  refine DetC.eff (by decide) au au ?_
  refine DetC.nil ?_
  refine re (k := rB (k := rs (k := rg [2] (k := rR (k := ?_)))))
  refine jO 1 ?_; rotate_left
  refine rk (k := rB (k := rs (k := rg [2] (k := rR (k := ?_)))))
  refine jO 1 ?_; rotate_left
  refine rs (k := rg [0, 2, 3, 28, 73] (k := rc (ht := fun hc7 => ?_) (hf := fun hc7 => ?_)))
  refine rr (k := ro (pre := [_]) (k := rC (h := pdu_num (b := b) hb hl (a := 3) (by omega) (by omega)) (k := ro (pre := [_]) (k := rC (h := pdu_words (b := b) hb hl (n := 6) (by omega)) (k := rh [2, 3] (k := rB (k := rs (k := rg [2] (k := rR (k := ?_))))))))))
  refine jO 1 ?_; rotate_left
  refine rs (k := rg [0, 2, 3, 81] (k := rc (ht := fun hc8 => ?_) (hf := fun hc8 => ?_)))
  refine rr (k := ro (pre := [_]) (k := rC (h := pdu_num (b := b) hb hl (a := 3) (by omega) (by omega)) (k := ro (pre := [_]) (k := rC (h := pdu_num (b := b) hb hl (a := 5) (by omega) (by omega)) (k := ro (pre := [_]) (k := rC (h := pdu_words (b := b) hb hl (n := 10) (by omega)) (k := rh [2, 3] (k := rB (k := rs (k := rg [2] (k := rR (k := ?_))))))))))))
  refine jO 1 ?_; rotate_left
  refine rr (k := ro (pre := [_]) (k := rC (h := pdu_num (b := b) hb hl (a := 3) (by omega) (by omega)) (k := rh [2, 3] (k := rB (k := rs (k := rg [2] (k := rR (k := ?_))))))))
  refine jO 1 ?_; rotate_left
  any_goals
    refine jI 1 ?_
    refine Ret.pure (r' := (guessF b).pv) (by simp only [Try.f70, go_sem, ↓reduceIte] <;> rfl) ?_ (blw_req _ _) hwf (fun i hi => by first | rfl | (have h0 := ltn hi; have h1 := lte hi; simp only [go_sem, Nat.add_assoc, Nat.reduceAdd, ↓reduceIte, h0, h1])) ⟨rfl, rfl⟩
    refine jO 2 ?_; rotate_left
  any_goals
    refine jI 2 ?_
    simp only [PV.weak, PV.weaks, weaks_u16, weaks_bools]
    refine jO 3 ?_; rotate_left
  any_goals
    refine jI 3 ?_
    clear hxx hlT hxw hn3 hn5 H hi3 hwf hb hl hx8 hx
    refine jO 4 ?_; rotate_left
  any_goals
    refine jI 4 ?_
    simp only [decide_eq_true_eq, decide_eq_false_iff_not] at *
    refine jO 5 ?_; rotate_left
  any_goals
    refine jI 5 ?_
    try simp only [mem97, mem99] at hc0 hc1
    refine jO 6 ?_; rotate_left
  any_goals
    refine jI 6 ?_
    first
      | (exfalso; omega)
      | (simp only [guessF, hg0, Req.pv]; simp [*]; done)
      | (have h6n : ¬ 6 ≤ b.length := by omega
         simp only [guessF, hg0, Req.pv]; simp [*]; done)
      | (have h6n : ¬ 6 < b.length := by omega
         simp only [guessF, hg0, Req.pv]; simp [*]; done)
      | (have h6n : 6 < b.length := by omega
         have h14 : ¬ (1 ≤ x ∧ x ≤ 4) := by omega
         simp only [guessF, hg0, Req.pv]; simp [*]; done)
      | (have h14 : 1 ≤ x ∧ x ≤ 4 := by omega
         simp only [guessF, hg0, Req.pv]; simp [*]; done)
      | (have h14 : ¬ (1 ≤ x ∧ x ≤ 4) := by omega
         simp only [guessF, hg0, Req.pv]; simp [*]; done)
      | skip
attribute [local go_sem] weaks_bools
set_option maxRecDepth 100000 in
theorem ref3_guess {b : List Int} (hb : OkB b) (hl : b.length ≤ 140737488351232) {x : Int} (hx : b[0]? = some x) {s : St} : ACalls Try.prog 36 [.sl .unk (b.map (PV.int .u8))] s (fun r s' => r = (guessR b).pv ∧ s' = s) := by
  refine go Try.func36 (k := fun hwf H => ?_)
  have hlt : 0 < b.length := by cases b with | nil => cases hx | cons _ _ => simp
  have hxx : (b.map (PV.int .u8))[0]? = some (.int .u8 x) := by rw [List.getElem?_map, hx]; rfl
  have hlT : (0 < b.length) = True := eq_true hlt
  have hx8 : U8 x := hb x (List.mem_of_getElem? hx)
  have hxw : IntKind.i64.wrap x = x := wrap_i64 (by unfold U8 at hx8; omega)
  have hn3 : IntKind.u16.wrap (num1 b 3) = num1 b 3 := by have := num1_u16 hb 3; rw [u16_wrap]; unfold U16 at this; omega
  have hn5 : IntKind.u16.wrap (num1 b 5) = num1 b 5 := by have := num1_u16 hb 5; rw [u16_wrap]; unfold U16 at this; omega
  have hi3 : I64 (num1 b 3) := by have := num1_u16 hb 3; unfold U16 at this; constructor <;> omega
  have hm3 : num1 b 3 ≤ 140737488351232 := by have := num1_u16 hb 3; unfold U16 at this; omega
  have hg0 : (b[0]?).getD 0 = x := by rw [hx]; rfl
  have H := aj hxx (aj hlT (aj hxw (aj hn3 (aj hn5 H))))
  refine rs (k := rg [0, 2] (k := rs (k := rg [0, 2, 3] (k := rs (k := rr (k := ro (pre := [_, _]) (k := rC (h := ref3_uses (fn := x)) (k := rh [0, 2, 3, 4] (k := rs (k := rs (k := rr (k := ro (pre := [_]) (k := rC (h := ref3_in (okB_uses x) (len_uses x)) (k := rl [0, 2, 3, 4, 14] (k := rc (ht := fun hc0 => ?_) (hf := fun hc0 => ?_))))))))))))))))
  refine rr (k := ro (pre := [_]) (k := rC (h := ref3_num (b := b) hb hl (i := 1) (by omega)) (k := rh [0, 2, 3, 4] (k := rs (k := rs (k := rr (k := ro (pre := [_]) (k := rC (h := ref3_in (okB_uses x) (len_uses x)) (k := rl [0, 2, 3, 19] (k := rc (ht := fun hc1 => ?_) (hf := fun hc1 => ?_)))))))))))
  refine rr (k := ro (pre := [_]) (k := rC (h := ref3_num (b := b) hb hl (i := 3) (by omega)) (k := rh [0, 2, 3] (k := rs (k := rs (k := rg [0, 2, 3, 24] (k := rb (k := rs (k := rg [0, 2, 3, 24, 25] (k := rc (ht := fun hc2 => ?_) (hf := fun hc2 => ?_)))))))))))
  refine jO 1 ?_; rotate_left
  refine rs (k := rg [0, 2, 3, 24, 32] (k := rc (ht := fun hc3 => ?_) (hf := fun hc3 => ?_)))
  refine jO 2 ?_; rotate_left
  refine rs (k := rg [0, 2, 3, 24, 37] (k := rc (ht := fun hc4 => ?_) (hf := fun hc4 => ?_)))
  refine jO 3 ?_; rotate_left
  refine rs (k := rg [0, 2, 3, 24, 45] (k := rc (ht := fun hc5 => ?_) (hf := fun hc5 => ?_)))
  refine rs (k := rg [0, 2, 3, 49] (k := rc (ht := fun hc6 => ?_) (hf := fun hc6 => ?_)))
  have hlen : 6 ≤ b.length := by have := of_decide_eq_true hc6; omega
  have hd1 : ((6 : Int) ≤ (b.length : Int)) = True := eq_true (by omega)
  have htk : ((b.length : Int) - 6).toNat = b.length - 6 := by omega
  have hlm : ((b.map (PV.int .u8)).drop (6 : Int).toNat).take (b.length - 6) = ((b.drop 6).map (PV.int .u8)) := by show ((b.map (PV.int .u8)).drop 6).take (b.length - 6) = _; rw [List.map_drop, List.take_of_length_le (by simp)]
  have hd2 : ((0 : Int) ≤ 6) = True := by decide
  have hd3 : ((6 : Int) = 0) = False := by decide
  have H := aj hd1 (aj htk (aj hlm (aj hd2 (aj hd3 H))))
  refine Run.drawC [9] [2, 3] Try.mixed (by kernel_rfl) ?_
  refine DetC.pre (pre := [_, _, _, _]) au ?_
  refine DetC.call au au au (by kernel_rfl) (ref1_Open (b := b.drop 6) (hb.drop 6) (by simp; omega) hi3 (.inl hm3)) ?_
  refine DetC.pre (pre := [_, _, _, _]) au ?_
  refine DetC.eff (by decide) au au ?_
  refine DetC.nil ?_
  refine re (k := rB (k := rs (k := rg [2] (k := rR (k := ?_)))))
  refine jO 4 ?_; rotate_left
  refine jO 5 ?_; rotate_left
  refine jO 6 ?_; rotate_left
  refine jO 7 ?_; rotate_left
  refine rk (k := rs (k := rs (k := rr (k := ro (pre := [_]) (k := rC (h := ref3_in (okB_uses x) (len_uses x)) (k := rl [0, 2, 3, 19] (k := rc (ht := fun hc1 => ?_) (hf := fun hc1 => ?_))))))))
  refine rr (k := ro (pre := [_]) (k := rC (h := ref3_num (b := b) hb hl (i := 3) (by omega)) (k := rh [0, 2, 3] (k := rs (k := rs (k := rg [0, 2, 3, 24] (k := rb (k := rs (k := rg [0, 2, 3, 24, 25] (k := rc (ht := fun hc2 => ?_) (hf := fun hc2 => ?_)))))))))))
  refine jO 1 ?_; rotate_left
  refine jO 8 ?_; rotate_left
  refine jO 7 ?_; rotate_left
  any_goals
    refine jI 7 ?_
    refine rk (k := rs (k := rs (k := rg [0, 2, 3, 24] (k := rb (k := rs (k := rg [0, 2, 3, 24, 25] (k := rc (ht := fun hc2 => ?_) (hf := fun hc2 => ?_))))))))
    refine jO 1 ?_; rotate_left
    refine jO 8 ?_; rotate_left
  any_goals
    refine jI 8 ?_
    refine rs (k := rg [0, 2, 3, 24, 32] (k := rc (ht := fun hc3 => ?_) (hf := fun hc3 => ?_)))
    refine jO 2 ?_; rotate_left
    refine jO 9 ?_; rotate_left
  any_goals
    refine jI 9 ?_
    refine rs (k := rg [0, 2, 3, 24, 37] (k := rc (ht := fun hc4 => ?_) (hf := fun hc4 => ?_)))
    refine jO 3 ?_; rotate_left
    refine jO 10 ?_; rotate_left
  any_goals
    refine jI 10 ?_
    refine rs (k := rg [0, 2, 3, 24, 45] (k := rc (ht := fun hc5 => ?_) (hf := fun hc5 => ?_)))
    refine jO 11 ?_; rotate_left
    refine jO 6 ?_; rotate_left
  any_goals
    refine jI 6 ?_
    refine rs (k := rg [0, 2, 3, 24, 59] (k := rc (ht := fun hc7 => ?_) (hf := fun hc7 => ?_)))
    refine jO 12 ?_; rotate_left
    refine jO 13 ?_; rotate_left
  any_goals
    refine jI 13 ?_
    refine rs (k := rg [0, 2, 3, 24, 64] (k := rc (ht := fun hc8 => ?_) (hf := fun hc8 => ?_)))
    refine jO 14 ?_; rotate_left
    refine jO 15 ?_; rotate_left
  any_goals
    refine jI 15 ?_
    refine rs (k := rg [0, 2, 3, 74] (k := rc (ht := fun hc9 => ?_) (hf := fun hc9 => ?_)))
    refine jO 16 ?_; rotate_left
    refine jO 5 ?_; rotate_left
  any_goals
    refine jI 11 ?_
    refine rs (k := rg [0, 2, 3, 49] (k := rc (ht := fun hc6 => ?_) (hf := fun hc6 => ?_)))
    · exfalso
      simp only [mem97, mem99, decide_eq_true_eq, decide_eq_false_iff_not] at *
      omega
    refine jO 5 ?_; rotate_left
  any_goals
    refine jI 14 ?_
    refine rr (k := ro (pre := [_]) (k := rC (h := ref3_num (b := b) hb hl (i := 3) (by omega)) (k := ro (pre := [_, _]) (k := rC (h := ref3_num (b := b) hb hl (i := 5) (by omega)) (k := rh [2, 3] (k := rB (k := rs (k := rg [2] (k := rR (k := ?_))))))))))
    refine jO 4 ?_; rotate_left
  any_goals
    refine jI 16 ?_
    refine rr (k := ro (pre := [_]) (k := rC (h := ref3_num (b := b) hb hl (i := 5) (by omega)) (k := ro (pre := [_]) (k := rC (h := ref3_words (b := b) hb hl (n := 10) (by omega)) (k := rh [2, 3] (k := rB (k := rs (k := rg [2] (k := rR (k := ?_))))))))))
    refine jO 4 ?_; rotate_left
  any_goals
    refine jI 3 ?_
    refine rr (k := ro (pre := [_]) (k := rC (h := ref3_num (b := b) hb hl (i := 1) (by omega)) (k := ro (pre := [_]) (k := rC (h := ref3_words (b := b) hb hl (n := 3) (by omega)) (k := rh [2, 3] (k := rB (k := rs (k := rg [2] (k := rR (k := ?_))))))))))
    refine jO 4 ?_; rotate_left
  any_goals
    refine jI 1 ?_
    refine rr (k := ro (pre := [_]) (k := rC (h := ref3_num (b := b) hb hl (i := 3) (by omega)) (k := ro (pre := [_]) (k := rO (k := rh [2, 3] (k := rB (k := rs (k := rg [2] (k := rR (k := ?_))))))))))
    refine jO 4 ?_; rotate_left
  any_goals
    refine jI 2 ?_
    refine rr (k := ro (pre := [_]) (k := rC (h := ref3_words (b := b) hb hl (n := 3) (by omega)) (k := rh [2, 3] (k := rB (k := rs (k := rg [2] (k := rR (k := ?_))))))))
    refine jO 4 ?_; rotate_left
  any_goals
    refine jI 12 ?_
    refine rr (k := ro (pre := [_]) (k := rC (h := ref3_words (b := b) hb hl (n := 6) (by omega)) (k := rh [2, 3] (k := rB (k := rs (k := rg [2] (k := rR (k := ?_))))))))
    refine jO 4 ?_; rotate_left
  any_goals
    refine jI 5 ?_
    refine rk (k := rB (k := rs (k := rg [2] (k := rR (k := ?_)))))
    refine jO 4 ?_; rotate_left
  any_goals
    refine jI 4 ?_
    refine Ret.pure (r' := (guessR b).pv) (by simp only [Try.f36, go_sem, ↓reduceIte] <;> rfl) ?_ (blw_req _ _) hwf (fun i hi => by first | rfl | (have h0 := ltn hi; have h1 := lte hi; simp only [go_sem, Nat.add_assoc, Nat.reduceAdd, ↓reduceIte, h0, h1])) ⟨rfl, rfl⟩
    refine jO 17 ?_; rotate_left
  any_goals
    refine jI 17 ?_
    simp only [PV.weak, PV.weaks, weaks_u16, weaks_bools]
    refine jO 18 ?_; rotate_left
  any_goals
    refine jI 18 ?_
    clear hxx hlT hxw hn3 hn5 H hi3 hwf hb hl hx8 hx
    refine jO 19 ?_; rotate_left
  any_goals
    refine jI 19 ?_
    simp only [decide_eq_true_eq, decide_eq_false_iff_not] at *
    refine jO 20 ?_; rotate_left
  any_goals
    refine jI 20 ?_
    try simp only [mem97, mem99] at hc0 hc1
    refine jO 21 ?_; rotate_left
  any_goals
    refine jI 21 ?_
    first
      | (exfalso; omega)
      | (simp only [guessR, hg0, Req.pv]; simp [*]; done)
      | (have h6n : ¬ 6 ≤ b.length := by omega
         simp only [guessR, hg0, Req.pv]; simp [*]; done)
      | (have h6n : ¬ 6 < b.length := by omega
         simp only [guessR, hg0, Req.pv]; simp [*]; done)
      | (have h6n : 6 < b.length := by omega
         have h14 : ¬ (1 ≤ x ∧ x ≤ 4) := by omega
         simp only [guessR, hg0, Req.pv]; simp [*]; done)
      | (have h14 : 1 ≤ x ∧ x ≤ 4 := by omega
         simp only [guessR, hg0, Req.pv]; simp [*]; done)
      | (have h14 : ¬ (1 ≤ x ∧ x ≤ 4) := by omega
         simp only [guessR, hg0, Req.pv]; simp [*]; done)
      | skip
attribute [local go_sem] weaks_bools Req.pv
theorem ref3_Bytes {q : Req} (hq : q.ok) {s : St} : ACalls Try.prog 14 [q.pv] s (fun r s' => r = .tuple [.sl .unk ((bytesF q).map (PV.int .u8)), .int .i64 (rightF q)] ∧ s' = s) := by
  refine go Try.func14 (k := fun hwf H => ?_)
  refine rs (k := rg [1] (k := rs (k := rs (k := rr (k := ro (pre := [_]) (k := rC (h := ref3_Right (q := q)) (k := rh [1, 4] (k := rs (k := rg [1, 4, 8] (k := rc (ht := fun hc0 => ?_) (hf := fun hc0 => ?_)))))))))))
  refine rs (k := rg [2, 3] (k := rR (k := rP (by simp only [Try.f14, go_sem]; rfl) hwf ⟨?_, rfl⟩)))
  refine jO 1 ?_; rotate_left
  refine rk (k := rs (k := ?_))
  have hr0 : rightF q = 0 := by simpa using hc0
  refine rr (k := ro (pre := [_]) (k := rC (h := ref3_write hq hr0) (k := rh [2, 3] (k := rR (k := rP (by simp only [Try.f14, go_sem]; rfl) hwf ⟨?_, rfl⟩)))))
  refine jO 1 ?_; rotate_left
  any_goals
    refine jI 1 ?_
    first
      | (have hr1 : ¬ rightF q = 0 := by simpa using hc0
         unfold bytesF
         rw [if_neg hr1]; rfl)
      | (unfold bytesF
         rw [if_pos hr0, hr0]; simp only [PV.weak, PV.weaks, weaks_u8])
attribute [local go_sem] weaks_bools Req.pv
theorem pdu_Read {b : List Int} (hb : OkB b) (hl : b.length ≤ 140737488351232) {s : St} : ACalls Try.prog 39 [.sl .unk (b.map (PV.int .u8))] s (fun r s' => r = .tuple [(readF b).1.pv, .int .i64 (readF b).2] ∧ s' = s) := by
  refine go Try.func39 (k := fun hwf H => ?_)
  refine rs (k := rg [0, 2] (k := rs (k := rb (k := rs (k := rg [0, 2, 7] (k := rc (ht := fun hc0 => ?_) (hf := fun hc0 => ?_)))))))
  refine jO 1 ?_; rotate_left
  refine rs (k := ?_)
  have hlt : 0 < b.length := by simp at hc0; cases b with | nil => exact absurd rfl hc0 | cons _ _ => simp
  obtain ⟨x, hx⟩ : ∃ x, b[0]? = some x := ⟨b[0], List.getElem?_eq_getElem hlt⟩
  have hxx : (b.map (PV.int .u8))[0]? = some (.int .u8 x) := by rw [List.getElem?_map, hx]; rfl
  have hlT : (0 < b.length) = True := eq_true hlt
  have hx8 : U8 x := hb x (List.mem_of_getElem? hx)
  have hxw : IntKind.i64.wrap x = x := wrap_i64 (by unfold U8 at hx8; omega)
  have hg0 : (b[0]?).getD 0 = x := by rw [hx]; rfl
  have hbl : (bytesF (guessF b)).length < 140737488355328 := bytesF_len _
  have H := aj hxx (aj hlT (aj hxw H))
  refine rr (k := ro (pre := [_, _, _, _]) (k := rC (h := pdu_function (fn := x)) (k := rh [0, 2, 12] (k := rc (ht := fun hc1 => ?_) (hf := fun hc1 => ?_)))))
  refine jO 1 ?_; rotate_left
  refine rk (k := rB (k := rs (k := rr (k := ro (pre := [_]) (k := rC (h := pdu_guess hb hl hx) (k := rh [0, 2, 4] (k := rs (k := rs (k := rr (k := ro (pre := [_]) (k := rC (h := pdu_Bytes (guessF_ok hb hl)) (k := rh [0, 2, 4, 5, 6] (k := rs (k := rr (k := ro (pre := [_, _, _, _, _]) (k := rG (h := fun hb => equal_u8 (xs := bytesF (guessF b)) (ys := b) hbl) (k := ?_)))))))))))))))))
  refine rh [2, 4, 34] (k := rc (ht := fun hc2 => ?_) (hf := fun hc2 => ?_))
  refine jO 1 ?_; rotate_left
  refine rk (k := rs (k := rg [2, 3] (k := rR (k := ?_))))
  refine jO 2 ?_; rotate_left
  any_goals
    refine jI 1 ?_
    refine rs (k := rg [2, 3] (k := rR (k := ?_)))
    refine jO 2 ?_; rotate_left
  any_goals
    refine jI 2 ?_
    refine Ret.pure (r' := .tuple [(readF b).1.pv, .int .i64 (readF b).2]) (by simp only [Try.f39, go_sem, ↓reduceIte] <;> rfl) ?_ (by simp only [PV.blw, PV.blws, and_true, true_and]; exact blw_req _ _) hwf (fun i hi => by first | rfl | (have h0 := ltn hi; have h1 := lte hi; simp only [go_sem, Nat.add_assoc, Nat.reduceAdd, ↓reduceIte, h0, h1])) ⟨rfl, rfl⟩
    refine jO 3 ?_; rotate_left
  any_goals
    refine jI 3 ?_
    simp only [PV.weak, PV.weaks, weaks_bools, weaks_u16]
    refine jO 4 ?_; rotate_left
  any_goals
    refine jI 4 ?_
    first
      | (have h0 : b = [] := by simp at hc0; exact hc0
         unfold readF; rw [if_pos h0]; rfl)
      | (have h0 : ¬ b = [] := by intro h; rw [h] at hlt; cases hlt
         have h1 : hasF x = false := by simpa using hc1
         unfold readF; rw [if_neg h0, hg0, if_pos h1]; rfl)
      | (have h0 : ¬ b = [] := by intro h; rw [h] at hlt; cases hlt
         have h1 : ¬ hasF x = false := by simpa using hc1
         have h2 : ¬ (rightF (guessF b) = 0 ∧ writeF (guessF b) = b) := by
           rintro ⟨e1, e2⟩
           have e3 : bytesF (guessF b) = b := by unfold bytesF; rw [if_pos e1, e2]
           simp [e1, e3] at hc2
         unfold readF; rw [if_neg h0, hg0, if_neg h1, if_neg h2]; rfl)
      | (have h0 : ¬ b = [] := by intro h; rw [h] at hlt; cases hlt
         have h1 : ¬ hasF x = false := by simpa using hc1
         have h2 : rightF (guessF b) = 0 ∧ writeF (guessF b) = b := by
           simp at hc2
           have e1 := hc2.1
           have e3 := hc2.2
           unfold bytesF at e3
           rw [if_pos e1] at e3
           exact ⟨e1, e3⟩
         unfold readF; rw [if_neg h0, hg0, if_neg h1, if_pos h2]; rfl)
end Go.Proofs
namespace Go.Proofs
open Go.PM
set_option maxHeartbeats 2000000
theorem equal_bool {xs ys : List Bool} (nx : xs.length < 140737488355328) {s : St} : ACalls Try.prog 98 [.sl .unk (xs.map PV.bool), .sl .unk (ys.map PV.bool)] s (fun r s' => r = .bool (decide (xs = ys)) ∧ s' = s) := by
  refine go Try.func98 (k := fun hwf H => ?_)
  refine rs (k := rg [0, 1] (k := rs (k := rs (k := rg [0, 1, 10] (k := rc (ht := fun hc0 => ?_) (hf := fun hc0 => ?_))))))
  refine jO 1 ?_; rotate_left
  refine rk (k := rs (k := rs (k := ?_)))
  have hlen : xs.length = ys.length := by simp at hc0; omega
  refine rg [0, 1, 12, 13] (k := rb (k := ?_))
  refine Run.loop (fun e s' => s' = s ∧ ∃ i : Nat, e = [(0, .sl .unk (xs.map PV.bool)), (1, .sl .unk (ys.map PV.bool)), (12, .int .i64 xs.length), (13, .int .i64 i)] ∧ i ≤ xs.length ∧ xs.take i = ys.take i) (fun e s' => xs.length - ivar e 13) ?_ ?_
  · exact ⟨rfl, 0, rfl, by omega, rfl⟩
  rintro e s' ⟨hs, i, rfl, hi, hbe⟩
  subst s'
  refine rs (k := rg [0, 1, 12, 13, 14] (k := rs (k := rc (ht := fun hc1 => ?_) (hf := fun hc1 => ?_))))
  refine rk (k := rs (k := rb (k := rs (k := ?_))))
  have hil : i < xs.length := by have := of_decide_eq_true hc1; omega
  have hjl : i < ys.length := by omega
  obtain ⟨x, hxe⟩ : ∃ z_, xs[i]'hil = z_ := ⟨_, rfl⟩
  have hxx : (xs.map PV.bool)[i]? = some (.bool x) := by rw [map_get hil, hxe]
  obtain ⟨y, hye⟩ : ∃ z_, ys[i]'hjl = z_ := ⟨_, rfl⟩
  have hxy : (ys.map PV.bool)[i]? = some (.bool y) := by rw [map_get hjl, hye]
  have hw : IntKind.i64.wrap ((i : Int) + 1) = ((i + 1 : Nat) : Int) := by rw [wrap_i64 (by omega)]; omega
  have H := aj hxx (aj hxy (aj hw H))
  refine rg [0, 1, 5, 12, 13] (k := rs (k := ?_))
  refine Run.drawC [] [0, 1, 12, 13, 24] Try.mixed (by kernel_rfl) ?_
  refine DetC.all au ?_
  refine re (k := rc (ht := fun hc2 => ?_) (hf := fun hc2 => ?_))
  refine jO 1 ?_; rotate_left
  · refine rk (k := rB (k := rg [0, 1, 12, 13] (k := ?_)))
    have hxy : x = y := by simpa using hc2
    refine Run.lp ⟨⟨rfl, i + 1, rfl, by omega, ?_⟩, ?_⟩
    · rw [take_get hil, take_get hjl, hbe, hxe, hye, hxy]
    · simp only [ivar, go_sem, ↓reduceIte, Nat.reduceEqDiff]
      omega
  refine rX (k := rs (k := rg [4] (k := rR (k := rP (by simp only [Try.f98, go_sem]; rfl) hwf ⟨?_, rfl⟩))))
  refine jO 2 ?_; rotate_left
  any_goals
    refine jI 1 ?_
    refine rs (k := rg [4] (k := rR (k := rP (by simp only [Try.f98, go_sem]; rfl) hwf ⟨?_, rfl⟩)))
    refine jO 2 ?_; rotate_left
  any_goals
    refine jI 2 ?_
    first
      | (have hne : xs ≠ ys := by rintro rfl; simp at hc0
         rw [decide_eq_false hne]; rfl)
      | (have hne : xs ≠ ys := by
           rintro rfl
           rw [hxe] at hye
           subst hye
           simp at hc2
         rw [decide_eq_false hne]; rfl)
      | (have hlen : xs.length = ys.length := by simp at hc0; omega
         have : i = xs.length := by have := of_decide_eq_false hc1; omega
         rw [this, List.take_length, hlen, List.take_length] at hbe
         rw [decide_eq_true hbe]; rfl)
theorem reply_within {n : Int} {s : St} : ACalls Try.prog 92 [.int .i64 n] s (fun r s' => r = .bool (wordF n) ∧ s' = s) := by
  refine go Try.func92 (k := fun hwf H => ?_)
  refine rs (k := rg [0] (k := rs (k := rg [2] (k := rR (k := rP (by simp only [Try.f92, go_sem]; rfl) hwf ⟨?_, rfl⟩)))))
  unfold wordF; by_cases h1 : 0 ≤ n <;> by_cases h2 : n ≤ 65535 <;> simp [h1, h2, PV.weak]
attribute [local go_sem] weaks_bools Rep.pv
set_option maxRecDepth 100000 in
theorem reply_Same {a b : Rep} (ha : a.ok) {s : St} : ACalls Try.prog 90 [a.pv, b.pv] s (fun r s' => r = .bool (decide (a = b)) ∧ s' = s) := by
  refine go Try.func90 (k := fun hwf H => ?_)
  refine rs (k := rg [2, 3] (k := rs (k := rrA [some 5, some 6, some 7, some 8, some 9, some 10, some 11, some 12, some 13, some 14, some 15, some 16, some 17, some 18, some 19, some 20, some 21, some 22, some 23, some 24, some 25, some 26, some 27, some 28, some 29, some 30, some 31, some 32, some 33, some 34, some 35, some 36, some 37, some 38, some 39, some 40, some 41, some 42, some 43, some 44, some 45, some 46, some 47, some 48, some 49, some 50, some 51, some 52, some 53, some 54, some 55, some 56, some 57, some 58, some 59, some 60, some 61, some 62, some 63, some 64, some 65, some 66, some 67, some 68, some 69, some 70, some 71, some 72, some 4] (k := fun ops hops => ?_))))
  have H := aj hops H
  refine ro (pre := [_, _, _, _, _, _, _, _, _, _, _, _, _, _, _, _, _, _, _, _, _, _, _, _, _, _, _, _, _, _, _, _, _, _, _, _, _, _, _, _, _, _, _, _, _, _, _, _, _, _, _, _]) (k := rG (h := fun hb => equal_bool (xs := a.bits) (ys := b.bits) (by have := ha.nb; omega)) (k := ro (pre := [_, _, _, _, _, _]) (k := rG (h := fun hb => equal_u16 (xs := a.vals) (ys := b.vals) (by have := ha.nv; omega)) (k := ?_))))
  refine ro (pre := [_, _, _, _, _, _]) (k := rG (h := fun hb => equal_u8 (xs := a.data) (ys := b.data) (by have := ha.nd; omega)) (k := rh [4] (k := rR (k := rP (by simp only [Try.f90, go_sem]; rfl) hwf ⟨?_, rfl⟩))))
  simp only [PV.weak]
  congr 1
  rw [Bool.eq_iff_iff]
  simp only [Bool.and_eq_true, decide_eq_true_eq]
  constructor
  · intro h
    cases a; cases b
    simp_all
  · intro h
    subst h
    simp
theorem reply_Refuse {fn code : Int} (hf : I64 fn) (hc : I64 code) {s : St} : ACalls Try.prog 49 [.int .i64 fn, .int .i64 code] s (fun r s' => r = (refuseP fn code).pv ∧ s' = s) := by
  refine go Try.func49 (k := fun hwf H => ?_)
  have and127 : ibits .and .i64 fn 127 = fn % 128 := ibits_and127 fn
  have and255 : ibits .and .i64 code 255 = code % 256 := ibits_and255 code
  have H := aj and127 (aj and255 H)
  have H := aj and127 (aj and255 H)
  refine rs (k := rg [0, 1, 4] (k := rs (k := rg [4] (k := rR (k := rP (by simp only [Try.f49, go_sem]; rfl) hwf ⟨?_, rfl⟩)))))
  rfl
attribute [local go_sem] weaks_bools Req.pv
set_option maxRecDepth 100000 in
theorem pdu_Counts {q : Req} {s : St} : ACalls Try.prog 22 [q.pv] s (fun r s' => r = .bool (countF q) ∧ s' = s) := by
  refine go Try.func22 (k := fun hwf H => ?_)
  refine rs (k := rg [1] (k := rs (k := rs (k := rr (k := ro (pre := [_]) (k := rC (h := pdu_Right (q := q)) (k := rh [1, 6] (k := rc (ht := fun hc0 => ?_) (hf := fun hc0 => ?_)))))))))
  refine jO 1 ?_; rotate_left
  refine rk (k := rs (k := rg [1] (k := rs (k := rs (k := rg [1, 8] (k := rb (k := rs (k := rs (k := rg [1, 8, 9] (k := rc (ht := fun hc1 => ?_) (hf := fun hc1 => ?_)))))))))))
  refine rk (k := rc (ht := fun hc2 => ?_) (hf := fun hc2 => ?_))
  refine jO 2 ?_; rotate_left
  · exact Bool.noConfusion (hc1.symm.trans hc2)
  refine rg [1, 8, 9] (k := rc (ht := fun hc2 => ?_) (hf := fun hc2 => ?_))
  refine jO 2 ?_; rotate_left
  refine rs (k := rs (k := rg [1, 8, 12] (k := rc (ht := fun hc3 => ?_) (hf := fun hc3 => ?_))))
  refine rk (k := rc (ht := fun hc4 => ?_) (hf := fun hc4 => ?_))
  refine jO 2 ?_; rotate_left
  · exact Bool.noConfusion (hc3.symm.trans hc4)
  refine rg [1, 8, 12] (k := rc (ht := fun hc4 => ?_) (hf := fun hc4 => ?_))
  refine jO 2 ?_; rotate_left
  refine rs (k := rg [1, 8, 15] (k := rc (ht := fun hc5 => ?_) (hf := fun hc5 => ?_)))
  refine jO 2 ?_; rotate_left
  refine rs (k := rg [1, 8, 17] (k := rc (ht := fun hc6 => ?_) (hf := fun hc6 => ?_)))
  refine jO 2 ?_; rotate_left
  refine rs (k := rg [1, 19] (k := rc (ht := fun hc7 => ?_) (hf := fun hc7 => ?_)))
  refine rs (k := rs (k := rg [1, 30] (k := rc (ht := fun hc8 => ?_) (hf := fun hc8 => ?_))))
  refine jO 1 ?_; rotate_left
  refine rk (k := rg [1, 3] (k := rB (k := rs (k := rg [2] (k := rR (k := rP (by simp only [Try.f22, go_sem]; rfl) hwf ⟨?_, rfl⟩))))))
  refine jO 3 ?_; rotate_left
  refine jO 1 ?_; rotate_left
  any_goals
    refine jI 2 ?_
    refine rg [1, 3] (k := rB (k := rs (k := rg [2] (k := rR (k := rP (by simp only [Try.f22, go_sem]; rfl) hwf ⟨?_, rfl⟩)))))
    refine jO 3 ?_; rotate_left
  any_goals
    refine jI 1 ?_
    refine rs (k := rg [2] (k := rR (k := rP (by simp only [Try.f22, go_sem]; rfl) hwf ⟨?_, rfl⟩)))
    refine jO 3 ?_; rotate_left
  any_goals
    refine jI 3 ?_
    simp only [PV.weak]
    refine jO 4 ?_; rotate_left
  any_goals
    refine jI 4 ?_
    congr 1
    refine jO 5 ?_; rotate_left
  any_goals
    refine jI 5 ?_
    unfold countF
    refine jO 6 ?_; rotate_left
  any_goals
    refine jI 6 ?_
    simp only [Bool.not_eq_true', Bool.not_eq_false', Bool.or_eq_true, Bool.or_eq_false_iff, decide_eq_true_eq, decide_eq_false_iff_not] at *
    refine jO 7 ?_; rotate_left
  any_goals
    refine jI 7 ?_
    rw [Bool.eq_iff_iff]
    refine jO 8 ?_; rotate_left
  any_goals
    refine jI 8 ?_
    simp only [Bool.and_eq_true, decide_eq_true_eq, Bool.false_eq_true, false_iff, true_iff]
    refine jO 9 ?_; rotate_left
  any_goals
    refine jI 9 ?_
    first
      | omega
      | (simp only [*, Int.reduceEq, or_true, true_or, or_self, if_true, if_false, true_and, and_true, false_and, and_false, not_false_eq_true, ite_true, ite_false]; first | done | omega)
      | skip
end Go.Proofs
namespace Go.Proofs
open Go.PM
set_option maxHeartbeats 2000000
attribute [local go_sem] set_set weaks_bools Rep.pv
set_option maxRecDepth 100000 in
theorem reply_has {r : Rep} {s : St} : ACalls Try.prog 91 [r.pv] s (fun v s' => v = .tuple [(if hasF r.fn = true then hasP r else zeroP).pv, .bool (hasF r.fn)] ∧ s' = s) := by
  refine go Try.func91 (k := fun hwf H => ?_)
  refine rs (k := rg [1, 2] (k := rs (k := rg [1, 2] (k := rs (k := rs (k := rg [1, 2, 8] (k := rb (k := rs (k := rs (k := rg [1, 2, 8, 10] (k := rc (ht := fun hc0 => ?_) (hf := fun hc0 => ?_))))))))))))
  refine rk (k := rc (ht := fun hc1 => ?_) (hf := fun hc1 => ?_))
  refine jO 1 ?_; rotate_left
  · exact Bool.noConfusion (hc0.symm.trans hc1)
  refine rg [1, 2, 8, 10] (k := rc (ht := fun hc1 => ?_) (hf := fun hc1 => ?_))
  refine jO 1 ?_; rotate_left
  refine rs (k := rs (k := rg [1, 2, 8, 16] (k := rc (ht := fun hc2 => ?_) (hf := fun hc2 => ?_))))
  refine rk (k := rc (ht := fun hc4 => ?_) (hf := fun hc4 => ?_))
  refine jO 1 ?_; rotate_left
  · exact Bool.noConfusion (hc2.symm.trans hc4)
  refine rs (k := rg [1, 2, 8, 16] (k := rc (ht := fun hc3 => ?_) (hf := fun hc3 => ?_)))
  refine rk (k := rc (ht := fun hc4 => ?_) (hf := fun hc4 => ?_))
  refine jO 1 ?_; rotate_left
  · exact Bool.noConfusion (hc3.symm.trans hc4)
  refine rg [1, 2, 8, 16] (k := rc (ht := fun hc4 => ?_) (hf := fun hc4 => ?_))
  refine jO 1 ?_; rotate_left
  refine rs (k := rg [1, 2, 8, 23] (k := rc (ht := fun hc5 => ?_) (hf := fun hc5 => ?_)))
  refine Run.drawM 8 [5, 7] [((((s.new (.row 30 [.agg [.int .i64 r.fn, .int .i64 r.code, .int .i64 r.at_, .int .i64 r.count, .int .i64 r.sub, .sl .unk (r.bits.map PV.bool), .sl .unk (r.vals.map (PV.int .u16)), .int .u16 r.and_, .int .u16 r.or_, .sl .unk (r.data.map (PV.int .u8))]]))).new (.row 30 [.agg [.int .i64 0, .int .i64 0, .int .i64 0, .int .i64 0, .int .i64 0, .sl .nil [], .sl .nil [], .int .u16 0, .int .u16 0, .sl .nil []]])).set (s.nxt + 1) (some (.row 30 [.agg [.int .i64 r.fn, .int .i64 0, .int .i64 0, .int .i64 0, .int .i64 0, .sl .nil [], .sl .nil [], .int .u16 0, .int .u16 0, .sl .nil []]]))), ((((s.new (.row 30 [.agg [.int .i64 r.fn, .int .i64 r.code, .int .i64 r.at_, .int .i64 r.count, .int .i64 r.sub, .sl .unk (r.bits.map PV.bool), .sl .unk (r.vals.map (PV.int .u16)), .int .u16 r.and_, .int .u16 r.or_, .sl .unk (r.data.map (PV.int .u8))]]))).new (.row 30 [.agg [.int .i64 0, .int .i64 0, .int .i64 0, .int .i64 0, .int .i64 0, .sl .nil [], .sl .nil [], .int .u16 0, .int .u16 0, .sl .nil []]])).set (s.nxt + 1) (some (.row 30 [.agg [.int .i64 r.fn, .int .i64 0, .int .i64 r.at_, .int .i64 0, .int .i64 0, .sl .nil [], .sl .nil [], .int .u16 0, .int .u16 0, .sl .nil []]]))), ((((s.new (.row 30 [.agg [.int .i64 r.fn, .int .i64 r.code, .int .i64 r.at_, .int .i64 r.count, .int .i64 r.sub, .sl .unk (r.bits.map PV.bool), .sl .unk (r.vals.map (PV.int .u16)), .int .u16 r.and_, .int .u16 r.or_, .sl .unk (r.data.map (PV.int .u8))]]))).new (.row 30 [.agg [.int .i64 0, .int .i64 0, .int .i64 0, .int .i64 0, .int .i64 0, .sl .nil [], .sl .nil [], .int .u16 0, .int .u16 0, .sl .nil []]])).set (s.nxt + 1) (some (.row 30 [.agg [.int .i64 r.fn, .int .i64 0, .int .i64 r.at_, .int .i64 0, .int .i64 0, .sl .unk (r.bits.map PV.bool), .sl .nil [], .int .u16 0, .int .u16 0, .sl .nil []]])))] Try.mixed (by kernel_rfl) (by kernel_rfl) ?_
  refine jO 2 ?_; rotate_left
  refine rs (k := rg [1, 2, 8, 31] (k := rc (ht := fun hc6 => ?_) (hf := fun hc6 => ?_)))
  refine Run.drawM 8 [5, 7] [((((s.new (.row 30 [.agg [.int .i64 r.fn, .int .i64 r.code, .int .i64 r.at_, .int .i64 r.count, .int .i64 r.sub, .sl .unk (r.bits.map PV.bool), .sl .unk (r.vals.map (PV.int .u16)), .int .u16 r.and_, .int .u16 r.or_, .sl .unk (r.data.map (PV.int .u8))]]))).new (.row 30 [.agg [.int .i64 0, .int .i64 0, .int .i64 0, .int .i64 0, .int .i64 0, .sl .nil [], .sl .nil [], .int .u16 0, .int .u16 0, .sl .nil []]])).set (s.nxt + 1) (some (.row 30 [.agg [.int .i64 r.fn, .int .i64 0, .int .i64 0, .int .i64 0, .int .i64 0, .sl .nil [], .sl .nil [], .int .u16 0, .int .u16 0, .sl .nil []]]))), ((((s.new (.row 30 [.agg [.int .i64 r.fn, .int .i64 r.code, .int .i64 r.at_, .int .i64 r.count, .int .i64 r.sub, .sl .unk (r.bits.map PV.bool), .sl .unk (r.vals.map (PV.int .u16)), .int .u16 r.and_, .int .u16 r.or_, .sl .unk (r.data.map (PV.int .u8))]]))).new (.row 30 [.agg [.int .i64 0, .int .i64 0, .int .i64 0, .int .i64 0, .int .i64 0, .sl .nil [], .sl .nil [], .int .u16 0, .int .u16 0, .sl .nil []]])).set (s.nxt + 1) (some (.row 30 [.agg [.int .i64 r.fn, .int .i64 0, .int .i64 r.at_, .int .i64 0, .int .i64 0, .sl .nil [], .sl .nil [], .int .u16 0, .int .u16 0, .sl .nil []]]))), ((((s.new (.row 30 [.agg [.int .i64 r.fn, .int .i64 r.code, .int .i64 r.at_, .int .i64 r.count, .int .i64 r.sub, .sl .unk (r.bits.map PV.bool), .sl .unk (r.vals.map (PV.int .u16)), .int .u16 r.and_, .int .u16 r.or_, .sl .unk (r.data.map (PV.int .u8))]]))).new (.row 30 [.agg [.int .i64 0, .int .i64 0, .int .i64 0, .int .i64 0, .int .i64 0, .sl .nil [], .sl .nil [], .int .u16 0, .int .u16 0, .sl .nil []]])).set (s.nxt + 1) (some (.row 30 [.agg [.int .i64 r.fn, .int .i64 0, .int .i64 r.at_, .int .i64 0, .int .i64 0, .sl .nil [], .sl .unk (r.vals.map (PV.int .u16)), .int .u16 0, .int .u16 0, .sl .nil []]])))] Try.mixed (by kernel_rfl) (by kernel_rfl) ?_
  refine jO 2 ?_; rotate_left
  refine rs (k := rg [1, 2, 8, 39] (k := rc (ht := fun hc7 => ?_) (hf := fun hc7 => ?_)))
  refine Run.drawM 8 [5, 7] [((((s.new (.row 30 [.agg [.int .i64 r.fn, .int .i64 r.code, .int .i64 r.at_, .int .i64 r.count, .int .i64 r.sub, .sl .unk (r.bits.map PV.bool), .sl .unk (r.vals.map (PV.int .u16)), .int .u16 r.and_, .int .u16 r.or_, .sl .unk (r.data.map (PV.int .u8))]]))).new (.row 30 [.agg [.int .i64 0, .int .i64 0, .int .i64 0, .int .i64 0, .int .i64 0, .sl .nil [], .sl .nil [], .int .u16 0, .int .u16 0, .sl .nil []]])).set (s.nxt + 1) (some (.row 30 [.agg [.int .i64 r.fn, .int .i64 0, .int .i64 0, .int .i64 0, .int .i64 0, .sl .nil [], .sl .nil [], .int .u16 0, .int .u16 0, .sl .nil []]]))), ((((s.new (.row 30 [.agg [.int .i64 r.fn, .int .i64 r.code, .int .i64 r.at_, .int .i64 r.count, .int .i64 r.sub, .sl .unk (r.bits.map PV.bool), .sl .unk (r.vals.map (PV.int .u16)), .int .u16 r.and_, .int .u16 r.or_, .sl .unk (r.data.map (PV.int .u8))]]))).new (.row 30 [.agg [.int .i64 0, .int .i64 0, .int .i64 0, .int .i64 0, .int .i64 0, .sl .nil [], .sl .nil [], .int .u16 0, .int .u16 0, .sl .nil []]])).set (s.nxt + 1) (some (.row 30 [.agg [.int .i64 r.fn, .int .i64 0, .int .i64 0, .int .i64 0, .int .i64 r.sub, .sl .nil [], .sl .nil [], .int .u16 0, .int .u16 0, .sl .nil []]]))), ((((s.new (.row 30 [.agg [.int .i64 r.fn, .int .i64 r.code, .int .i64 r.at_, .int .i64 r.count, .int .i64 r.sub, .sl .unk (r.bits.map PV.bool), .sl .unk (r.vals.map (PV.int .u16)), .int .u16 r.and_, .int .u16 r.or_, .sl .unk (r.data.map (PV.int .u8))]]))).new (.row 30 [.agg [.int .i64 0, .int .i64 0, .int .i64 0, .int .i64 0, .int .i64 0, .sl .nil [], .sl .nil [], .int .u16 0, .int .u16 0, .sl .nil []]])).set (s.nxt + 1) (some (.row 30 [.agg [.int .i64 r.fn, .int .i64 0, .int .i64 0, .int .i64 0, .int .i64 r.sub, .sl .nil [], .sl .unk (r.vals.map (PV.int .u16)), .int .u16 0, .int .u16 0, .sl .nil []]])))] Try.mixed (by kernel_rfl) (by kernel_rfl) ?_
  refine jO 2 ?_; rotate_left
  refine rs (k := rs (k := rg [1, 2, 8, 47] (k := rc (ht := fun hc8 => ?_) (hf := fun hc8 => ?_))))
  refine rk (k := rc (ht := fun hc9 => ?_) (hf := fun hc9 => ?_))
  refine jO 3 ?_; rotate_left
  · exact Bool.noConfusion (hc8.symm.trans hc9)
  refine rg [1, 2, 8, 47] (k := rc (ht := fun hc9 => ?_) (hf := fun hc9 => ?_))
  refine jO 3 ?_; rotate_left
  refine rs (k := rg [1, 2, 8, 56] (k := rc (ht := fun hc10 => ?_) (hf := fun hc10 => ?_)))
  refine Run.drawM 12 [7, 9, 11] [((((s.new (.row 30 [.agg [.int .i64 r.fn, .int .i64 r.code, .int .i64 r.at_, .int .i64 r.count, .int .i64 r.sub, .sl .unk (r.bits.map PV.bool), .sl .unk (r.vals.map (PV.int .u16)), .int .u16 r.and_, .int .u16 r.or_, .sl .unk (r.data.map (PV.int .u8))]]))).new (.row 30 [.agg [.int .i64 0, .int .i64 0, .int .i64 0, .int .i64 0, .int .i64 0, .sl .nil [], .sl .nil [], .int .u16 0, .int .u16 0, .sl .nil []]])).set (s.nxt + 1) (some (.row 30 [.agg [.int .i64 r.fn, .int .i64 0, .int .i64 0, .int .i64 0, .int .i64 0, .sl .nil [], .sl .nil [], .int .u16 0, .int .u16 0, .sl .nil []]]))), ((((s.new (.row 30 [.agg [.int .i64 r.fn, .int .i64 r.code, .int .i64 r.at_, .int .i64 r.count, .int .i64 r.sub, .sl .unk (r.bits.map PV.bool), .sl .unk (r.vals.map (PV.int .u16)), .int .u16 r.and_, .int .u16 r.or_, .sl .unk (r.data.map (PV.int .u8))]]))).new (.row 30 [.agg [.int .i64 0, .int .i64 0, .int .i64 0, .int .i64 0, .int .i64 0, .sl .nil [], .sl .nil [], .int .u16 0, .int .u16 0, .sl .nil []]])).set (s.nxt + 1) (some (.row 30 [.agg [.int .i64 r.fn, .int .i64 0, .int .i64 r.at_, .int .i64 0, .int .i64 0, .sl .nil [], .sl .nil [], .int .u16 0, .int .u16 0, .sl .nil []]]))), ((((s.new (.row 30 [.agg [.int .i64 r.fn, .int .i64 r.code, .int .i64 r.at_, .int .i64 r.count, .int .i64 r.sub, .sl .unk (r.bits.map PV.bool), .sl .unk (r.vals.map (PV.int .u16)), .int .u16 r.and_, .int .u16 r.or_, .sl .unk (r.data.map (PV.int .u8))]]))).new (.row 30 [.agg [.int .i64 0, .int .i64 0, .int .i64 0, .int .i64 0, .int .i64 0, .sl .nil [], .sl .nil [], .int .u16 0, .int .u16 0, .sl .nil []]])).set (s.nxt + 1) (some (.row 30 [.agg [.int .i64 r.fn, .int .i64 0, .int .i64 r.at_, .int .i64 0, .int .i64 0, .sl .nil [], .sl .nil [], .int .u16 r.and_, .int .u16 0, .sl .nil []]]))), ((((s.new (.row 30 [.agg [.int .i64 r.fn, .int .i64 r.code, .int .i64 r.at_, .int .i64 r.count, .int .i64 r.sub, .sl .unk (r.bits.map PV.bool), .sl .unk (r.vals.map (PV.int .u16)), .int .u16 r.and_, .int .u16 r.or_, .sl .unk (r.data.map (PV.int .u8))]]))).new (.row 30 [.agg [.int .i64 0, .int .i64 0, .int .i64 0, .int .i64 0, .int .i64 0, .sl .nil [], .sl .nil [], .int .u16 0, .int .u16 0, .sl .nil []]])).set (s.nxt + 1) (some (.row 30 [.agg [.int .i64 r.fn, .int .i64 0, .int .i64 r.at_, .int .i64 0, .int .i64 0, .sl .nil [], .sl .nil [], .int .u16 r.and_, .int .u16 r.or_, .sl .nil []]])))] Try.mixed (by kernel_rfl) (by kernel_rfl) ?_
  refine DetBC.pre (pre := [_, _, _, _, _, _, _]) (by decide) List.mem_cons_self au ?_
  refine DetBC.eff (by decide) List.mem_cons_self au au ?_
  refine DetBC.pre (pre := [_]) (by decide) (List.mem_cons_of_mem _ List.mem_cons_self) au ?_
  refine DetBC.eff (by decide) (List.mem_cons_of_mem _ List.mem_cons_self) au au ?_
  refine DetBC.pre (pre := [_]) (by decide) (List.mem_cons_of_mem _ (List.mem_cons_of_mem _ List.mem_cons_self)) au ?_
  refine DetBC.eff (by decide) (List.mem_cons_of_mem _ (List.mem_cons_of_mem _ List.mem_cons_self)) au au ?_
  refine DetBC.nil (List.mem_cons_of_mem _ (List.mem_cons_of_mem _ (List.mem_cons_of_mem _ List.mem_cons_self))) ?_
  refine jO 4 ?_; rotate_left
  refine rs (k := rg [1, 2, 67] (k := rc (ht := fun hc11 => ?_) (hf := fun hc11 => ?_)))
  refine jO 1 ?_; rotate_left
  refine rs (k := rg [2, 3] (k := rR (k := ?_)))
  refine jO 5 ?_; rotate_left
  any_goals
    refine jI 3 ?_
    refine Run.drawM 8 [5, 7] [((((s.new (.row 30 [.agg [.int .i64 r.fn, .int .i64 r.code, .int .i64 r.at_, .int .i64 r.count, .int .i64 r.sub, .sl .unk (r.bits.map PV.bool), .sl .unk (r.vals.map (PV.int .u16)), .int .u16 r.and_, .int .u16 r.or_, .sl .unk (r.data.map (PV.int .u8))]]))).new (.row 30 [.agg [.int .i64 0, .int .i64 0, .int .i64 0, .int .i64 0, .int .i64 0, .sl .nil [], .sl .nil [], .int .u16 0, .int .u16 0, .sl .nil []]])).set (s.nxt + 1) (some (.row 30 [.agg [.int .i64 r.fn, .int .i64 0, .int .i64 0, .int .i64 0, .int .i64 0, .sl .nil [], .sl .nil [], .int .u16 0, .int .u16 0, .sl .nil []]]))), ((((s.new (.row 30 [.agg [.int .i64 r.fn, .int .i64 r.code, .int .i64 r.at_, .int .i64 r.count, .int .i64 r.sub, .sl .unk (r.bits.map PV.bool), .sl .unk (r.vals.map (PV.int .u16)), .int .u16 r.and_, .int .u16 r.or_, .sl .unk (r.data.map (PV.int .u8))]]))).new (.row 30 [.agg [.int .i64 0, .int .i64 0, .int .i64 0, .int .i64 0, .int .i64 0, .sl .nil [], .sl .nil [], .int .u16 0, .int .u16 0, .sl .nil []]])).set (s.nxt + 1) (some (.row 30 [.agg [.int .i64 r.fn, .int .i64 0, .int .i64 r.at_, .int .i64 0, .int .i64 0, .sl .nil [], .sl .nil [], .int .u16 0, .int .u16 0, .sl .nil []]]))), ((((s.new (.row 30 [.agg [.int .i64 r.fn, .int .i64 r.code, .int .i64 r.at_, .int .i64 r.count, .int .i64 r.sub, .sl .unk (r.bits.map PV.bool), .sl .unk (r.vals.map (PV.int .u16)), .int .u16 r.and_, .int .u16 r.or_, .sl .unk (r.data.map (PV.int .u8))]]))).new (.row 30 [.agg [.int .i64 0, .int .i64 0, .int .i64 0, .int .i64 0, .int .i64 0, .sl .nil [], .sl .nil [], .int .u16 0, .int .u16 0, .sl .nil []]])).set (s.nxt + 1) (some (.row 30 [.agg [.int .i64 r.fn, .int .i64 0, .int .i64 r.at_, .int .i64 r.count, .int .i64 0, .sl .nil [], .sl .nil [], .int .u16 0, .int .u16 0, .sl .nil []]])))] Try.mixed (by kernel_rfl) (by kernel_rfl) ?_
    refine jO 2 ?_; rotate_left
  any_goals
    refine jI 2 ?_
    refine DetBC.pre (pre := [_, _, _, _, _]) (by decide) List.mem_cons_self au ?_
    refine jO 6 ?_; rotate_left
  any_goals
    refine jI 6 ?_
    refine DetBC.eff (by decide) List.mem_cons_self au au ?_
    refine jO 7 ?_; rotate_left
  any_goals
    refine jI 7 ?_
    refine DetBC.pre (pre := [_]) (by decide) (List.mem_cons_of_mem _ List.mem_cons_self) au ?_
    refine jO 8 ?_; rotate_left
  any_goals
    refine jI 8 ?_
    refine DetBC.eff (by decide) (List.mem_cons_of_mem _ List.mem_cons_self) au au ?_
    refine jO 9 ?_; rotate_left
  any_goals
    refine jI 9 ?_
    refine DetBC.nil (List.mem_cons_of_mem _ (List.mem_cons_of_mem _ List.mem_cons_self)) ?_
    refine jO 4 ?_; rotate_left
  any_goals
    refine jI 1 ?_
    refine rg [2] (k := rB (k := rs (k := rg [2, 3] (k := rR (k := ?_)))))
    refine jO 5 ?_; rotate_left
  any_goals
    refine jI 4 ?_
    refine rl [2] (k := rB (k := rs (k := rg [2, 3] (k := rR (k := ?_)))))
    refine jO 5 ?_; rotate_left
  any_goals
    refine jI 5 ?_
    refine Ret.pure (r' := .tuple [(if hasF r.fn = true then hasP r else zeroP).pv, .bool (hasF r.fn)]) (by simp only [Try.f91, go_sem, ↓reduceIte] <;> rfl) ?_ (by simp only [PV.blw, PV.blws, and_true]; exact blw_rep _ _) hwf (fun i hi => by first | rfl | (have h0 := ltn hi; have h1 := lte hi; simp only [go_sem, Nat.add_assoc, Nat.reduceAdd, ↓reduceIte, h0, h1])) ⟨rfl, rfl⟩
    refine jO 10 ?_; rotate_left
  any_goals
    refine jI 10 ?_
    simp only [PV.weak, PV.weaks, weaks_u16, weaks_bools, weaks_u8]
    refine jO 11 ?_; rotate_left
  any_goals
    refine jI 11 ?_
    clear H hwf
    refine jO 12 ?_; rotate_left
  any_goals
    refine jI 12 ?_
    simp only [decide_eq_true_eq, decide_eq_false_iff_not] at *
    refine jO 13 ?_; rotate_left
  any_goals
    refine jI 13 ?_
    have hhas : hasF r.fn = decide (1 ≤ r.fn ∧ r.fn ≤ 6 ∨ r.fn = 8 ∨ r.fn = 15 ∨ r.fn = 16 ∨ r.fn = 17 ∨ r.fn = 22 ∨ r.fn = 23) := rfl
    refine jO 14 ?_; rotate_left
  any_goals
    refine jI 14 ?_
    first
      | (have e : hasF r.fn = true := by rw [hhas]; exact decide_eq_true (by omega)
         rw [e]
         clear hhas e
         simp only [hasP, if_true]
         simp [Rep.pv, *]; done)
      | (have e : hasF r.fn = false := by rw [hhas]; exact decide_eq_false (by omega)
         rw [e]; rfl)
      | skip
end Go.Proofs
namespace Go.Proofs
open Go.PM
set_option maxHeartbeats 2000000
attribute [local go_sem] weaks_bools Rep.pv
set_option maxRecDepth 100000 in
theorem reply_Right {r : Rep} (hr : r.ok) {s : St} : ACalls Try.prog 73 [r.pv] s (fun v s' => v = .int .i64 (goodF r) ∧ s' = s) := by
  refine go Try.func73 (k := fun hwf H => ?_)
  obtain ⟨X, hX⟩ : ∃ X, X = (if hasF r.fn = true then hasP r else zeroP) := ⟨_, rfl⟩
  refine rs (k := rg [1] (k := rs (k := rs (k := rg [1, 7] (k := rc (ht := fun hc0 => ?_) (hf := fun hc0 => ?_))))))
  · refine rs (k := rs (k := rr (k := ro (pre := [_, _, _, _, _, _, _, _, _, _, _, _, _, _, _, _, _, _, _, _, _, _, _, _, _]) (k := rG (h := fun hb => reply_Same (a := r) (b := ⟨r.fn, r.code, 0, 0, 0, [], [], 0, 0, []⟩) hr) (k := rh [35] (k := rc (ht := fun hc1 => ?_) (hf := fun hc1 => ?_)))))))
    · refine rs (k := rg [2] (k := rR (k := rP (by simp only [Try.f73, go_sem]; rfl) hwf ⟨?_, rfl⟩)))
      refine congrArg (PV.int .i64) ?_
      simp only [Bool.not_eq_true', Bool.not_eq_false', Bool.or_eq_true, Bool.or_eq_false_iff, Bool.and_eq_true, Bool.and_eq_false_iff, decide_eq_true_eq, decide_eq_false_iff_not] at *
      first
        | (unfold goodF; rw [if_pos hc0, if_neg]; intro h; obtain ⟨h1, h2, h3, h4, h5⟩ := h; rcases hc1 with (((h | h) | h) | h) | h <;> first | omega | exact h h5)
        | (unfold goodF; rw [if_pos hc0, if_pos]; exact ⟨by omega, by omega, by omega, by omega, by simpa using hc1.2⟩)
        | (have e0 : ¬ ¬ r.code = 0 := by simpa using hc0
           unfold goodF; rw [if_neg e0, if_pos hc2]; done)
        | (have e0 : ¬ ¬ r.code = 0 := by simpa using hc0
           have hXe : X = hasP r := by rw [hX, if_pos hc2]
           unfold goodF; rw [if_neg e0, if_neg (by rw [hc2]; decide), ← hXe]
           first
           | (rw [if_neg]
              rintro (h | h | h | h | h | h | h | h | h)
              · exact h hc3.1.1.1
              · rw [hc3.1.1.2] at h; cases h
              · rw [hc3.1.2] at h; cases h
              · rw [hc3.2] at h; cases h
              all_goals omega)
           | (rw [if_pos]
              rcases hc5 with (h | h) | h
              · exact .inr (.inr (.inr (.inr (.inr (.inr (.inl (by omega)))))))
              · exact .inr (.inr (.inr (.inr (.inr (.inr (.inr (.inl (by omega))))))))
              · exact .inr (.inr (.inr (.inr (.inr (.inr (.inr (.inr (by omega)))))))))
           | (rw [if_pos]
              rcases hc4 with h | h
              · exact .inr (.inr (.inr (.inr (.inl ⟨h.1, by omega⟩))))
              · exact .inr (.inr (.inr (.inr (.inr (.inl ⟨h.1, by omega⟩))))))
           | (rw [if_pos]
              rcases hc3 with ((h | h) | h) | h
              · exact .inl h
              · exact .inr (.inl h)
              · exact .inr (.inr (.inl h))
              · exact .inr (.inr (.inr (.inl h)))))
        | skip
    · refine rk (k := rs (k := rg [2] (k := rR (k := rP (by simp only [Try.f73, go_sem]; rfl) hwf ⟨?_, rfl⟩))))
      refine congrArg (PV.int .i64) ?_
      simp only [Bool.not_eq_true', Bool.not_eq_false', Bool.or_eq_true, Bool.or_eq_false_iff, Bool.and_eq_true, Bool.and_eq_false_iff, decide_eq_true_eq, decide_eq_false_iff_not] at *
      first
        | (unfold goodF; rw [if_pos hc0, if_neg]; intro h; obtain ⟨h1, h2, h3, h4, h5⟩ := h; rcases hc1 with (((h | h) | h) | h) | h <;> first | omega | exact h h5)
        | (unfold goodF; rw [if_pos hc0, if_pos]; exact ⟨by omega, by omega, by omega, by omega, by simpa using hc1.2⟩)
        | (have e0 : ¬ ¬ r.code = 0 := by simpa using hc0
           unfold goodF; rw [if_neg e0, if_pos hc2]; done)
        | (have e0 : ¬ ¬ r.code = 0 := by simpa using hc0
           have hXe : X = hasP r := by rw [hX, if_pos hc2]
           unfold goodF; rw [if_neg e0, if_neg (by rw [hc2]; decide), ← hXe]
           first
           | (rw [if_neg]
              rintro (h | h | h | h | h | h | h | h | h)
              · exact h hc3.1.1.1
              · rw [hc3.1.1.2] at h; cases h
              · rw [hc3.1.2] at h; cases h
              · rw [hc3.2] at h; cases h
              all_goals omega)
           | (rw [if_pos]
              rcases hc5 with (h | h) | h
              · exact .inr (.inr (.inr (.inr (.inr (.inr (.inl (by omega)))))))
              · exact .inr (.inr (.inr (.inr (.inr (.inr (.inr (.inl (by omega))))))))
              · exact .inr (.inr (.inr (.inr (.inr (.inr (.inr (.inr (by omega)))))))))
           | (rw [if_pos]
              rcases hc4 with h | h
              · exact .inr (.inr (.inr (.inr (.inl ⟨h.1, by omega⟩))))
              · exact .inr (.inr (.inr (.inr (.inr (.inl ⟨h.1, by omega⟩))))))
           | (rw [if_pos]
              rcases hc3 with ((h | h) | h) | h
              · exact .inl h
              · exact .inr (.inl h)
              · exact .inr (.inr (.inl h))
              · exact .inr (.inr (.inr (.inl h)))))
        | skip
  · refine rk (k := rs (k := rr (k := ro (pre := [_]) (k := rC (h := (by rw [hX]; exact reply_has (r := r) : ACalls Try.prog 91 [r.pv] _ (fun v s' => v = .tuple [X.pv, .bool (hasF r.fn)] ∧ s' = _))) (k := rh [1, 3, 4] (k := rs (k := rb (k := rs (k := rg [1, 3, 41] (k := rc (ht := fun hc2 => ?_) (hf := fun hc2 => ?_)))))))))))
    · refine rs (k := rg [2] (k := rR (k := rP (by simp only [Try.f73, go_sem]; rfl) hwf ⟨?_, rfl⟩)))
      refine congrArg (PV.int .i64) ?_
      simp only [Bool.not_eq_true', Bool.not_eq_false', Bool.or_eq_true, Bool.or_eq_false_iff, Bool.and_eq_true, Bool.and_eq_false_iff, decide_eq_true_eq, decide_eq_false_iff_not] at *
      first
        | (unfold goodF; rw [if_pos hc0, if_neg]; intro h; obtain ⟨h1, h2, h3, h4, h5⟩ := h; rcases hc1 with (((h | h) | h) | h) | h <;> first | omega | exact h h5)
        | (unfold goodF; rw [if_pos hc0, if_pos]; exact ⟨by omega, by omega, by omega, by omega, by simpa using hc1.2⟩)
        | (have e0 : ¬ ¬ r.code = 0 := by simpa using hc0
           unfold goodF; rw [if_neg e0, if_pos hc2]; done)
        | (have e0 : ¬ ¬ r.code = 0 := by simpa using hc0
           have hXe : X = hasP r := by rw [hX, if_pos hc2]
           unfold goodF; rw [if_neg e0, if_neg (by rw [hc2]; decide), ← hXe]
           first
           | (rw [if_neg]
              rintro (h | h | h | h | h | h | h | h | h)
              · exact h hc3.1.1.1
              · rw [hc3.1.1.2] at h; cases h
              · rw [hc3.1.2] at h; cases h
              · rw [hc3.2] at h; cases h
              all_goals omega)
           | (rw [if_pos]
              rcases hc5 with (h | h) | h
              · exact .inr (.inr (.inr (.inr (.inr (.inr (.inl (by omega)))))))
              · exact .inr (.inr (.inr (.inr (.inr (.inr (.inr (.inl (by omega))))))))
              · exact .inr (.inr (.inr (.inr (.inr (.inr (.inr (.inr (by omega)))))))))
           | (rw [if_pos]
              rcases hc4 with h | h
              · exact .inr (.inr (.inr (.inr (.inl ⟨h.1, by omega⟩))))
              · exact .inr (.inr (.inr (.inr (.inr (.inl ⟨h.1, by omega⟩))))))
           | (rw [if_pos]
              rcases hc3 with ((h | h) | h) | h
              · exact .inl h
              · exact .inr (.inl h)
              · exact .inr (.inr (.inl h))
              · exact .inr (.inr (.inr (.inl h)))))
        | skip
    · refine rs (k := rr (k := ro (pre := [_, _]) (k := rC (h := reply_Same (a := r) (b := X) hr) (k := ro (pre := [_, _, _, _]) (k := rG (h := fun hb => reply_within) (k := ro (pre := [_, _, _, _, _]) (k := rG (h := fun hb => reply_within) (k := ro (pre := [_, _, _, _, _]) (k := rG (h := fun hb => reply_within) (k := rh [1, 44] (k := rc (ht := fun hc3 => ?_) (hf := fun hc3 => ?_))))))))))))
      · refine rs (k := rg [2] (k := rR (k := rP (by simp only [Try.f73, go_sem]; rfl) hwf ⟨?_, rfl⟩)))
        refine congrArg (PV.int .i64) ?_
        simp only [Bool.not_eq_true', Bool.not_eq_false', Bool.or_eq_true, Bool.or_eq_false_iff, Bool.and_eq_true, Bool.and_eq_false_iff, decide_eq_true_eq, decide_eq_false_iff_not] at *
        first
          | (unfold goodF; rw [if_pos hc0, if_neg]; intro h; obtain ⟨h1, h2, h3, h4, h5⟩ := h; rcases hc1 with (((h | h) | h) | h) | h <;> first | omega | exact h h5)
          | (unfold goodF; rw [if_pos hc0, if_pos]; exact ⟨by omega, by omega, by omega, by omega, by simpa using hc1.2⟩)
          | (have e0 : ¬ ¬ r.code = 0 := by simpa using hc0
             unfold goodF; rw [if_neg e0, if_pos hc2]; done)
          | (have e0 : ¬ ¬ r.code = 0 := by simpa using hc0
             have hXe : X = hasP r := by rw [hX, if_pos hc2]
             unfold goodF; rw [if_neg e0, if_neg (by rw [hc2]; decide), ← hXe]
             first
             | (rw [if_neg]
                rintro (h | h | h | h | h | h | h | h | h)
                · exact h hc3.1.1.1
                · rw [hc3.1.1.2] at h; cases h
                · rw [hc3.1.2] at h; cases h
                · rw [hc3.2] at h; cases h
                all_goals omega)
             | (rw [if_pos]
                rcases hc5 with (h | h) | h
                · exact .inr (.inr (.inr (.inr (.inr (.inr (.inl (by omega)))))))
                · exact .inr (.inr (.inr (.inr (.inr (.inr (.inr (.inl (by omega))))))))
                · exact .inr (.inr (.inr (.inr (.inr (.inr (.inr (.inr (by omega)))))))))
             | (rw [if_pos]
                rcases hc4 with h | h
                · exact .inr (.inr (.inr (.inr (.inl ⟨h.1, by omega⟩))))
                · exact .inr (.inr (.inr (.inr (.inr (.inl ⟨h.1, by omega⟩))))))
             | (rw [if_pos]
                rcases hc3 with ((h | h) | h) | h
                · exact .inl h
                · exact .inr (.inl h)
                · exact .inr (.inr (.inl h))
                · exact .inr (.inr (.inr (.inl h)))))
          | skip
      · refine rs (k := rg [1, 67] (k := rc (ht := fun hc4 => ?_) (hf := fun hc4 => ?_)))
        · refine rs (k := rg [2] (k := rR (k := rP (by simp only [Try.f73, go_sem]; rfl) hwf ⟨?_, rfl⟩)))
          refine congrArg (PV.int .i64) ?_
          simp only [Bool.not_eq_true', Bool.not_eq_false', Bool.or_eq_true, Bool.or_eq_false_iff, Bool.and_eq_true, Bool.and_eq_false_iff, decide_eq_true_eq, decide_eq_false_iff_not] at *
          first
            | (unfold goodF; rw [if_pos hc0, if_neg]; intro h; obtain ⟨h1, h2, h3, h4, h5⟩ := h; rcases hc1 with (((h | h) | h) | h) | h <;> first | omega | exact h h5)
            | (unfold goodF; rw [if_pos hc0, if_pos]; exact ⟨by omega, by omega, by omega, by omega, by simpa using hc1.2⟩)
            | (have e0 : ¬ ¬ r.code = 0 := by simpa using hc0
               unfold goodF; rw [if_neg e0, if_pos hc2]; done)
            | (have e0 : ¬ ¬ r.code = 0 := by simpa using hc0
               have hXe : X = hasP r := by rw [hX, if_pos hc2]
               unfold goodF; rw [if_neg e0, if_neg (by rw [hc2]; decide), ← hXe]
               first
               | (rw [if_neg]
                  rintro (h | h | h | h | h | h | h | h | h)
                  · exact h hc3.1.1.1
                  · rw [hc3.1.1.2] at h; cases h
                  · rw [hc3.1.2] at h; cases h
                  · rw [hc3.2] at h; cases h
                  all_goals omega)
               | (rw [if_pos]
                  rcases hc5 with (h | h) | h
                  · exact .inr (.inr (.inr (.inr (.inr (.inr (.inl (by omega)))))))
                  · exact .inr (.inr (.inr (.inr (.inr (.inr (.inr (.inl (by omega))))))))
                  · exact .inr (.inr (.inr (.inr (.inr (.inr (.inr (.inr (by omega)))))))))
               | (rw [if_pos]
                  rcases hc4 with h | h
                  · exact .inr (.inr (.inr (.inr (.inl ⟨h.1, by omega⟩))))
                  · exact .inr (.inr (.inr (.inr (.inr (.inl ⟨h.1, by omega⟩))))))
               | (rw [if_pos]
                  rcases hc3 with ((h | h) | h) | h
                  · exact .inl h
                  · exact .inr (.inl h)
                  · exact .inr (.inr (.inl h))
                  · exact .inr (.inr (.inr (.inl h)))))
            | skip
        · refine rs (k := rg [93] (k := rc (ht := fun hc5 => ?_) (hf := fun hc5 => ?_)))
          · refine rs (k := rg [2] (k := rR (k := rP (by simp only [Try.f73, go_sem]; rfl) hwf ⟨?_, rfl⟩)))
            refine congrArg (PV.int .i64) ?_
            simp only [Bool.not_eq_true', Bool.not_eq_false', Bool.or_eq_true, Bool.or_eq_false_iff, Bool.and_eq_true, Bool.and_eq_false_iff, decide_eq_true_eq, decide_eq_false_iff_not] at *
            first
              | (unfold goodF; rw [if_pos hc0, if_neg]; intro h; obtain ⟨h1, h2, h3, h4, h5⟩ := h; rcases hc1 with (((h | h) | h) | h) | h <;> first | omega | exact h h5)
              | (unfold goodF; rw [if_pos hc0, if_pos]; exact ⟨by omega, by omega, by omega, by omega, by simpa using hc1.2⟩)
              | (have e0 : ¬ ¬ r.code = 0 := by simpa using hc0
                 unfold goodF; rw [if_neg e0, if_pos hc2]; done)
              | (have e0 : ¬ ¬ r.code = 0 := by simpa using hc0
                 have hXe : X = hasP r := by rw [hX, if_pos hc2]
                 unfold goodF; rw [if_neg e0, if_neg (by rw [hc2]; decide), ← hXe]
                 first
                 | (rw [if_neg]
                    rintro (h | h | h | h | h | h | h | h | h)
                    · exact h hc3.1.1.1
                    · rw [hc3.1.1.2] at h; cases h
                    · rw [hc3.1.2] at h; cases h
                    · rw [hc3.2] at h; cases h
                    all_goals omega)
                 | (rw [if_pos]
                    rcases hc5 with (h | h) | h
                    · exact .inr (.inr (.inr (.inr (.inr (.inr (.inl (by omega)))))))
                    · exact .inr (.inr (.inr (.inr (.inr (.inr (.inr (.inl (by omega))))))))
                    · exact .inr (.inr (.inr (.inr (.inr (.inr (.inr (.inr (by omega)))))))))
                 | (rw [if_pos]
                    rcases hc4 with h | h
                    · exact .inr (.inr (.inr (.inr (.inl ⟨h.1, by omega⟩))))
                    · exact .inr (.inr (.inr (.inr (.inr (.inl ⟨h.1, by omega⟩))))))
                 | (rw [if_pos]
                    rcases hc3 with ((h | h) | h) | h
                    · exact .inl h
                    · exact .inr (.inl h)
                    · exact .inr (.inr (.inl h))
                    · exact .inr (.inr (.inr (.inl h)))))
              | skip
          · refine rk (k := rB (k := rs (k := rg [2] (k := rR (k := rP (by simp only [Try.f73, go_sem]; rfl) hwf ⟨?_, rfl⟩)))))
            refine congrArg (PV.int .i64) ?_
            simp only [Bool.not_eq_true', Bool.not_eq_false', Bool.or_eq_true, Bool.or_eq_false_iff, Bool.and_eq_true, Bool.and_eq_false_iff, decide_eq_true_eq, decide_eq_false_iff_not] at *
            first
              | (unfold goodF; rw [if_pos hc0, if_neg]; intro h; obtain ⟨h1, h2, h3, h4, h5⟩ := h; rcases hc1 with (((h | h) | h) | h) | h <;> first | omega | exact h h5)
              | (unfold goodF; rw [if_pos hc0, if_pos]; exact ⟨by omega, by omega, by omega, by omega, by simpa using hc1.2⟩)
              | (have e0 : ¬ ¬ r.code = 0 := by simpa using hc0
                 unfold goodF; rw [if_neg e0, if_pos hc2]; done)
              | (have e0 : ¬ ¬ r.code = 0 := by simpa using hc0
                 have hXe : X = hasP r := by rw [hX, if_pos hc2]
                 unfold goodF; rw [if_neg e0, if_neg (by rw [hc2]; decide), ← hXe]
                 first
                 | (rw [if_neg]
                    rintro (h | h | h | h | h | h | h | h | h)
                    · exact h hc3.1.1.1
                    · rw [hc3.1.1.2] at h; cases h
                    · rw [hc3.1.2] at h; cases h
                    · rw [hc3.2] at h; cases h
                    all_goals omega)
                 | (rw [if_pos]
                    rcases hc5 with (h | h) | h
                    · exact .inr (.inr (.inr (.inr (.inr (.inr (.inl (by omega)))))))
                    · exact .inr (.inr (.inr (.inr (.inr (.inr (.inr (.inl (by omega))))))))
                    · exact .inr (.inr (.inr (.inr (.inr (.inr (.inr (.inr (by omega)))))))))
                 | (rw [if_pos]
                    rcases hc4 with h | h
                    · exact .inr (.inr (.inr (.inr (.inl ⟨h.1, by omega⟩))))
                    · exact .inr (.inr (.inr (.inr (.inr (.inl ⟨h.1, by omega⟩))))))
                 | (rw [if_pos]
                    rcases hc3 with ((h | h) | h) | h
                    · exact .inl h
                    · exact .inr (.inl h)
                    · exact .inr (.inr (.inl h))
                    · exact .inr (.inr (.inr (.inl h)))))
              | skip
attribute [local go_sem] weaks_bools Rep.pv
set_option maxRecDepth 100000 in
theorem reply_Bytes {r : Rep} (hr : r.ok) {s : St} : ACalls Try.prog 40 [r.pv] s (fun v s' => v = .tuple [.sl .unk ((repF r).map (PV.int .u8)), .int .i64 (goodF r)] ∧ s' = s) := by
  refine go Try.func40 (k := fun hwf H => ?_)
  refine rs (k := rg [1] (k := rs (k := rs (k := rr (k := ro (pre := [_]) (k := rC (h := reply_Right hr) (k := rh [1, 4] (k := rs (k := rg [1, 4, 10] (k := rc (ht := fun hc0 => ?_) (hf := fun hc0 => ?_)))))))))))
  refine rs (k := rg [2, 3] (k := rR (k := ?_)))
  refine jO 1 ?_; rotate_left
  refine rk (k := rs (k := rs (k := ?_)))
  have hr0 : goodF r = 0 := by simpa using hc0
  have hu8c : IntKind.u8.wrap r.code = r.code ∨ r.code = 0 := by
    by_cases hcz : r.code = 0
    · exact .inr hcz
    · have := goodC hr0 hcz
      left; rw [u8_wrap]; omega
  have hfr : 0 ≤ r.fn ∧ r.fn ≤ 127 := by
    by_cases hcz : r.code = 0
    · have := (good0 hr0 hcz).has
      have := has_cases this
      omega
    · have := goodC hr0 hcz
      omega
  have hor : ibits .or .i64 r.fn 128 = r.fn + 128 := ibits_or128 (by omega)
  have hu8 : IntKind.u8.wrap r.fn = r.fn := by rw [u8_wrap]; omega
  have hu8r : IntKind.u8.wrap (r.fn + 128) = r.fn + 128 := by rw [u8_wrap]; omega
  have H := aj hor (aj hu8 (aj hu8r H))
  refine rg [1, 14] (k := rc (ht := fun hc1 => ?_) (hf := fun hc1 => ?_))
  refine rs (k := ?_)
  have hcz : ¬ r.code = 0 := by simpa using hc1
  have hu8d : IntKind.u8.wrap r.code = r.code := by rcases hu8c with h | h; exact h; exact absurd h hcz
  have H := aj hu8d H
  refine rr (k := ro (pre := [_, _, _, _, _, _, _]) (k := rO (k := rh [2, 3] (k := rR (k := ?_)))))
  refine jO 1 ?_; rotate_left
  refine rk (k := rs (k := ?_))
  have hcz : r.code = 0 := by simpa using hc1
  have hG := good0 hr0 hcz
  have hfn := has_cases hG.has
  have hmv := hG.mv
  have hmb := hG.mb
  have hmd := hG.md
  have hpl := packB_len r.bits
  obtain ⟨V, hV⟩ : ∃ V, V = r.vals.flatMap num2 := ⟨_, rfl⟩
  have hvl : V.length = 2 * r.vals.length := by rw [hV]; exact flat2_len _
  obtain ⟨L1, hL1⟩ : ∃ L, L = [r.fn] ++ num2 r.at_ := ⟨_, rfl⟩
  obtain ⟨L2, hL2⟩ : ∃ L, L = L1 ++ num2 r.count := ⟨_, rfl⟩
  obtain ⟨L5, hL5⟩ : ∃ L, L = [r.fn] ++ num2 r.sub := ⟨_, rfl⟩
  obtain ⟨L6, hL6⟩ : ∃ L, L = L1 ++ num2 r.and_ := ⟨_, rfl⟩
  obtain ⟨L7, hL7⟩ : ∃ L, L = L6 ++ num2 r.or_ := ⟨_, rfl⟩
  obtain ⟨La, hLa⟩ : ∃ L, L = L1 ++ num2 65280 := ⟨_, rfl⟩
  obtain ⟨Lb, hLb⟩ : ∃ L, L = L1 ++ num2 0 := ⟨_, rfl⟩
  obtain ⟨X6, hX6⟩ : ∃ L, L = L1 ++ V := ⟨_, rfl⟩
  obtain ⟨X8, hX8⟩ : ∃ L, L = L5 ++ V := ⟨_, rfl⟩
  obtain ⟨C, hC⟩ : ∃ C, C = r.fn :: (V.length : Int) :: V := ⟨_, rfl⟩
  obtain ⟨B, hB⟩ : ∃ B, B = r.fn :: ((packB r.bits).length : Int) :: packB r.bits := ⟨_, rfl⟩
  obtain ⟨D, hD⟩ : ∃ D, D = r.fn :: (r.data.length : Int) :: r.data := ⟨_, rfl⟩
  have hll1 : L1.length = 3 := by rw [hL1]; simp [num2]
  have hll2 : L2.length = 5 := by rw [hL2]; simp [num2, hll1]
  have hll5 : L5.length = 3 := by rw [hL5]; simp [num2]
  have hll6 : L6.length = 5 := by rw [hL6]; simp [num2, hll1]
  have h16a : IntKind.i64.wrap r.and_ = r.and_ := wrap_i64 (by have := hr.and_; unfold U16 at this; omega)
  have h16o : IntKind.i64.wrap r.or_ = r.or_ := wrap_i64 (by have := hr.or_; unfold U16 at this; omega)
  have H := aj h16a (aj h16o H)
  refine rr (k := ro (pre := [_, _, _]) (k := rO (k := rh [1, 5] (k := rs (k := rs (k := rg [1, 5, 28] (k := rb (k := rs (k := rs (k := rg [1, 5, 28, 29] (k := rc (ht := fun hc2 => ?_) (hf := fun hc2 => ?_))))))))))))
  refine rk (k := rc (ht := fun hc3 => ?_) (hf := fun hc3 => ?_))
  refine jO 2 ?_; rotate_left
  · exact Bool.noConfusion (hc2.symm.trans hc3)
  refine rg [1, 5, 28, 29] (k := rc (ht := fun hc3 => ?_) (hf := fun hc3 => ?_))
  refine jO 2 ?_; rotate_left
  refine rs (k := rs (k := rg [1, 5, 28, 38] (k := rc (ht := fun hc4 => ?_) (hf := fun hc4 => ?_))))
  refine rk (k := rc (ht := fun hc6 => ?_) (hf := fun hc6 => ?_))
  refine jO 3 ?_; rotate_left
  · exact Bool.noConfusion (hc4.symm.trans hc6)
  refine rs (k := rg [1, 5, 28, 38] (k := rc (ht := fun hc5 => ?_) (hf := fun hc5 => ?_)))
  refine rk (k := rc (ht := fun hc6 => ?_) (hf := fun hc6 => ?_))
  refine jO 3 ?_; rotate_left
  · exact Bool.noConfusion (hc5.symm.trans hc6)
  refine rg [1, 5, 28, 38] (k := rc (ht := fun hc6 => ?_) (hf := fun hc6 => ?_))
  refine jO 3 ?_; rotate_left
  refine rs (k := rg [1, 5, 28, 48] (k := rc (ht := fun hc7 => ?_) (hf := fun hc7 => ?_)))
  refine rs (k := rg [1, 5, 6] (k := rs (k := rs (k := ?_))))
  have h5 : r.fn = 5 := by simpa using hc7
  obtain ⟨b, hb⟩ : ∃ b, r.bits = [b] := List.length_eq_one_iff.1 (hG.b5 h5)
  have hb2 : (r.bits.map PV.bool)[0]? = some (.bool b) := by rw [hb]; rfl
  have hb3 : (0 < r.bits.length) = True := by rw [hb]; simp
  have H := aj hb2 (aj hb3 H)
  refine rg [1, 5, 6, 53] (k := rc (ht := fun hc8 => ?_) (hf := fun hc8 => ?_))
  refine rg [1, 5, 6] (k := rr (k := ro (pre := [_, _, _]) (k := rC (h := octet_PutL (l := [r.fn]) hL1 (by simp)) (k := ro (pre := [_]) (k := ?_)))))
  refine jO 4 ?_; rotate_left
  refine rk (k := rr (k := ro (pre := [_, _, _]) (k := rC (h := octet_PutL (l := [r.fn]) hL1 (by simp)) (k := ro (pre := [_]) (k := ?_)))))
  refine jO 4 ?_; rotate_left
  refine rs (k := rg [1, 5, 28, 60] (k := rc (ht := fun hc9 => ?_) (hf := fun hc9 => ?_)))
  have hvn : V ≠ [] := by
    intro h
    have h68 : r.fn = 6 ∨ r.fn = 8 := by first | exact .inl (of_decide_eq_true hc9) | exact .inr (of_decide_eq_true hc10)
    have := hG.v6 h68
    rw [h] at hvl; simp at hvl; omega
  refine Run.drawM 7 [3] [(s.new (.row 30 [.agg [.int .i64 r.fn, .int .i64 r.code, .int .i64 r.at_, .int .i64 r.count, .int .i64 r.sub, .sl .unk (r.bits.map PV.bool), .sl .unk (r.vals.map (PV.int .u16)), .int .u16 r.and_, .int .u16 r.or_, .sl .unk (r.data.map (PV.int .u8))]])), ((s.new (.row 30 [.agg [.int .i64 r.fn, .int .i64 r.code, .int .i64 r.at_, .int .i64 r.count, .int .i64 r.sub, .sl .unk (r.bits.map PV.bool), .sl .unk (r.vals.map (PV.int .u16)), .int .u16 r.and_, .int .u16 r.or_, .sl .unk (r.data.map (PV.int .u8))]])).new (.tok L1.length))] Try.mixed (by kernel_rfl) (by kernel_rfl) ?_
  refine DetBC.pre (pre := [_, _, _]) (by decide) List.mem_cons_self au ?_
  refine DetBC.callE (by decide) List.mem_cons_self au au au (by kernel_rfl) (octet_PutXL (l := [r.fn]) hL1 (by simp)) ?_
  refine DetBC.pre (pre := [_, _]) (by decide) (List.mem_cons_of_mem _ List.mem_cons_self) au ?_
  refine DetBC.call (by decide) au au au (by kernel_rfl) (List.mem_cons_of_mem _ List.mem_cons_self) (fun s _ => octet_BytesL hV (by omega)) ?_
  refine DetBC.nil (List.mem_cons_of_mem _ List.mem_cons_self) ?_
  refine RunO.append au au au Try.td28 (by rw [Try.zp5]; rfl) (isEls_map (P := Try.prog) (e := 5) (f := PV.int .u8) (fun a => ⟨rfl, by rw [Try.cz5]; rfl⟩) _) (isEls_map (P := Try.prog) (e := 5) (f := PV.int .u8) (fun a => ⟨rfl, by rw [Try.cz5]; rfl⟩) _) (by rw [Try.by5]; decide) (by rw [Try.by5]; simp; try omega) (aAppend_tokL hX6 hvn (by simp (disch := omega) only [go_sem] <;> rfl) rfl Try.cz5) ?_
  refine jO 5 ?_; rotate_left
  refine rs (k := rg [1, 5, 28, 70] (k := rc (ht := fun hc10 => ?_) (hf := fun hc10 => ?_)))
  have hvn : V ≠ [] := by
    intro h
    have h68 : r.fn = 6 ∨ r.fn = 8 := by first | exact .inl (of_decide_eq_true hc9) | exact .inr (of_decide_eq_true hc10)
    have := hG.v6 h68
    rw [h] at hvl; simp at hvl; omega
  refine Run.drawM 7 [3] [(s.new (.row 30 [.agg [.int .i64 r.fn, .int .i64 r.code, .int .i64 r.at_, .int .i64 r.count, .int .i64 r.sub, .sl .unk (r.bits.map PV.bool), .sl .unk (r.vals.map (PV.int .u16)), .int .u16 r.and_, .int .u16 r.or_, .sl .unk (r.data.map (PV.int .u8))]])), ((s.new (.row 30 [.agg [.int .i64 r.fn, .int .i64 r.code, .int .i64 r.at_, .int .i64 r.count, .int .i64 r.sub, .sl .unk (r.bits.map PV.bool), .sl .unk (r.vals.map (PV.int .u16)), .int .u16 r.and_, .int .u16 r.or_, .sl .unk (r.data.map (PV.int .u8))]])).new (.tok L5.length))] Try.mixed (by kernel_rfl) (by kernel_rfl) ?_
  refine DetBC.pre (pre := [_, _, _]) (by decide) List.mem_cons_self au ?_
  refine DetBC.callE (by decide) List.mem_cons_self au au au (by kernel_rfl) (octet_PutXL (l := [r.fn]) hL5 (by simp)) ?_
  refine DetBC.pre (pre := [_, _]) (by decide) (List.mem_cons_of_mem _ List.mem_cons_self) au ?_
  refine DetBC.call (by decide) au au au (by kernel_rfl) (List.mem_cons_of_mem _ List.mem_cons_self) (fun s _ => octet_BytesL hV (by omega)) ?_
  refine DetBC.nil (List.mem_cons_of_mem _ List.mem_cons_self) ?_
  refine RunO.append au au au Try.td28 (by rw [Try.zp5]; rfl) (isEls_map (P := Try.prog) (e := 5) (f := PV.int .u8) (fun a => ⟨rfl, by rw [Try.cz5]; rfl⟩) _) (isEls_map (P := Try.prog) (e := 5) (f := PV.int .u8) (fun a => ⟨rfl, by rw [Try.cz5]; rfl⟩) _) (by rw [Try.by5]; decide) (by rw [Try.by5]; simp; try omega) (aAppend_tokL hX8 hvn (by simp (disch := omega) only [go_sem] <;> rfl) rfl Try.cz5) ?_
  refine jO 5 ?_; rotate_left
  refine rs (k := rs (k := rg [1, 5, 28, 80] (k := rc (ht := fun hc11 => ?_) (hf := fun hc11 => ?_))))
  refine rk (k := rc (ht := fun hc12 => ?_) (hf := fun hc12 => ?_))
  refine jO 6 ?_; rotate_left
  · exact Bool.noConfusion (hc11.symm.trans hc12)
  refine rg [1, 5, 28, 80] (k := rc (ht := fun hc12 => ?_) (hf := fun hc12 => ?_))
  refine jO 6 ?_; rotate_left
  refine rs (k := rg [1, 5, 28, 90] (k := rc (ht := fun hc13 => ?_) (hf := fun hc13 => ?_)))
  refine Run.drawC [] [5] Try.mixed (by kernel_rfl) ?_
  refine DetC.pre (pre := [_, _, _]) au ?_
  refine DetC.call au au au (by kernel_rfl) (octet_PutL (l := [r.fn]) hL1 (by simp)) ?_
  refine DetC.pre (pre := [_, _, _]) au ?_
  refine DetC.call au au au (by kernel_rfl) (octet_PutL hL6 (by omega)) ?_
  refine DetC.pre (pre := [_, _, _]) au ?_
  refine DetC.call au au au (by kernel_rfl) (octet_PutL hL7 (by omega)) ?_
  refine jO 7 ?_; rotate_left
  refine rs (k := rg [1, 5, 104] (k := rc (ht := fun hc14 => ?_) (hf := fun hc14 => ?_)))
  refine rr (k := ro (pre := [_, _, _, _]) (k := rC (h := reply_countedL hD (by omega) (by omega)) (k := rh [5] (k := rB (k := rs (k := rr (k := ro (pre := [_]) (k := rC (h := clip_u8) (k := rh [2, 3] (k := rR (k := ?_)))))))))))
  refine jO 1 ?_; rotate_left
  · refine rk (k := rB (k := rs (k := ?_)))
    exfalso
    simp only [decide_eq_true_eq, decide_eq_false_iff_not] at *
    omega
  any_goals
    refine jI 6 ?_
    refine Run.drawC [] [5] Try.mixed (by kernel_rfl) ?_
    refine jO 8 ?_; rotate_left
  any_goals
    refine jI 2 ?_
    refine Run.drawC [] [5] Try.mixed (by kernel_rfl) ?_
    refine jO 9 ?_; rotate_left
  any_goals
    refine jI 3 ?_
    refine Run.drawC [] [5] Try.mixed (by kernel_rfl) ?_
    refine jO 10 ?_; rotate_left
  any_goals
    refine jI 8 ?_
    refine DetC.pre (pre := [_, _, _]) au ?_
    refine jO 11 ?_; rotate_left
  any_goals
    refine jI 9 ?_
    refine DetC.pre (pre := [_, _, _, _]) au ?_
    refine jO 12 ?_; rotate_left
  any_goals
    refine jI 10 ?_
    refine DetC.pre (pre := [_, _, _, _]) au ?_
    refine jO 13 ?_; rotate_left
  any_goals
    refine jI 11 ?_
    refine DetC.call au au au (by kernel_rfl) (octet_PutL (l := [r.fn]) hL1 (by simp)) ?_
    refine jO 14 ?_; rotate_left
  any_goals
    refine jI 12 ?_
    refine DetC.call au au au (by kernel_rfl) (octet_Pack (l := r.bits) (by omega)) ?_
    refine jO 15 ?_; rotate_left
  any_goals
    refine jI 13 ?_
    refine DetC.call au au au (by kernel_rfl) (octet_BytesL hV (by omega)) ?_
    refine jO 16 ?_; rotate_left
  any_goals
    refine jI 14 ?_
    refine DetC.pre (pre := [_, _]) au ?_
    refine jO 17 ?_; rotate_left
  any_goals
    refine jI 4 ?_
    refine RunO.callw au au au (by kernel_rfl) ((octet_Put (l := L1) (by omega)).mono ?_)
    refine jO 18 ?_; rotate_left
  any_goals
    refine jI 15 ?_
    refine DetC.call au au au (by kernel_rfl) (reply_countedL hB (by omega) (by omega)) ?_
    refine jO 7 ?_; rotate_left
  any_goals
    refine jI 16 ?_
    refine DetC.call au au au (by kernel_rfl) (reply_countedL hC (by omega) (by omega)) ?_
    refine jO 7 ?_; rotate_left
  any_goals
    refine jI 17 ?_
    refine DetC.call au au au (by kernel_rfl) (octet_PutL hL2 (by omega)) ?_
    refine jO 7 ?_; rotate_left
  any_goals
    refine jI 18 ?_
    rintro v s1 ⟨rfl, hs⟩
    refine jO 19 ?_; rotate_left
  any_goals
    refine jI 7 ?_
    refine DetC.all au ?_
    refine jO 20 ?_; rotate_left
  any_goals
    refine jI 19 ?_
    subst s1
    refine jO 5 ?_; rotate_left
  any_goals
    refine jI 5 ?_
    refine rh [5] (k := rB (k := rs (k := rr (k := ro (pre := [_]) (k := rC (h := clip_u8) (k := rh [2, 3] (k := rR (k := ?_))))))))
    refine jO 1 ?_; rotate_left
  any_goals
    refine jI 20 ?_
    refine re (k := rB (k := rs (k := rr (k := ro (pre := [_]) (k := rC (h := clip_u8) (k := rh [2, 3] (k := rR (k := ?_))))))))
    refine jO 1 ?_; rotate_left
  any_goals
    refine jI 1 ?_
    refine Ret.pure (r' := .tuple [.sl .unk ((repF r).map (PV.int .u8)), .int .i64 (goodF r)]) (by simp only [Try.f40, go_sem, ↓reduceIte] <;> rfl) ?_ (by simp only [PV.blw, PV.blws, and_true]; exact ⟨fun t z e => (by cases e), blws_u8 _ _⟩) hwf (fun i hi => by first | rfl | (have h0 := ltn hi; have h1 := lte hi; simp only [go_sem, Nat.add_assoc, Nat.reduceAdd, ↓reduceIte, h0, h1])) ⟨rfl, rfl⟩
    refine jO 21 ?_; rotate_left
  any_goals
    refine jI 21 ?_
    simp only [PV.weak, PV.weaks, weaks_u8]
    refine jO 22 ?_; rotate_left
  any_goals
    refine jI 22 ?_
    first
      | (have hr0' : ¬ goodF r = 0 := by simpa using hc0
         unfold repF
         rw [if_neg hr0']
         rfl)
      | (unfold repF layF
         rw [if_pos hr0, hr0, if_pos hcz]
         rfl)
      | (rw [hr0]
         refine congrArg (fun x => PV.tuple [PV.sl .unk x, .int .i64 0]) ?_
         refine congrArg (List.map (PV.int .u8)) ?_
         clear hll1 hll2 hll5 hll6 hvl hpl hu8 hu8r hu8c hor hwf h16a h16o H hfr hc1
         simp only [decide_eq_true_eq, decide_eq_false_iff_not] at *
         have hcz' : ¬ ¬ r.code = 0 := fun h => h hcz
         unfold repF layF
         rw [if_pos hr0, if_neg hcz']
         clear hcz' hr0 hcz
         first
         | (simp [*]; done)
         | (have e : r.fn = 17 := by omega
            simp [*]; done)
         | skip)
end Go.Proofs
namespace Go.Proofs
open Go.PM
set_option maxHeartbeats 2000000
theorem ref3_bits {xs ys : List Bool} (nx : xs.length < 140737488355328) {s : St} : ACalls Try.prog 58 [.sl .unk (xs.map PV.bool), .sl .unk (ys.map PV.bool)] s (fun r s' => r = .bool (decide (xs = ys)) ∧ s' = s) := by
  refine go Try.func58 (k := fun hwf H => ?_)
  refine rs (k := rg [0, 1] (k := rs (k := rs (k := rg [0, 1, 10] (k := rc (ht := fun hc0 => ?_) (hf := fun hc0 => ?_))))))
  refine jO 1 ?_; rotate_left
  refine rk (k := rs (k := rs (k := ?_)))
  have hlen : xs.length = ys.length := by simp at hc0; omega
  refine rg [0, 1, 12, 13] (k := rb (k := ?_))
  refine Run.loop (fun e s' => s' = s ∧ ∃ i : Nat, e = [(0, .sl .unk (xs.map PV.bool)), (1, .sl .unk (ys.map PV.bool)), (12, .int .i64 xs.length), (13, .int .i64 (i : Int))] ∧ i ≤ xs.length ∧ xs.take i = ys.take i) (fun e s' => xs.length - ivar e 13) ?_ ?_
  · exact ⟨rfl, 0, rfl, by omega, rfl⟩
  rintro e s' ⟨hs, i, rfl, hi, hbe⟩
  subst s'
  refine rs (k := rg [0, 1, 12, 13, 14] (k := rs (k := rc (ht := fun hc1 => ?_) (hf := fun hc1 => ?_))))
  refine rk (k := rs (k := rb (k := rs (k := ?_))))
  have hil : i < xs.length := by have := of_decide_eq_true hc1; omega
  have hjl : i < ys.length := by omega
  obtain ⟨x, hxe⟩ : ∃ z_, xs[i]'hil = z_ := ⟨_, rfl⟩
  have hxx : (xs.map PV.bool)[i]? = some (.bool x) := by rw [map_get hil, hxe]
  obtain ⟨y, hye⟩ : ∃ z_, ys[i]'hjl = z_ := ⟨_, rfl⟩
  have hxy : (ys.map PV.bool)[i]? = some (.bool y) := by rw [map_get hjl, hye]
  have hw : IntKind.i64.wrap ((i : Int) + 1) = ((i + 1 : Nat) : Int) := by rw [wrap_i64 (by omega)]; omega
  have H := aj hxx (aj hxy (aj hw H))
  refine rg [0, 1, 5, 12, 13] (k := rs (k := ?_))
  refine Run.drawC [] [0, 1, 12, 13, 24] Try.mixed (by kernel_rfl) ?_
  refine DetC.all au ?_
  refine re (k := rc (ht := fun hc2 => ?_) (hf := fun hc2 => ?_))
  refine jO 1 ?_; rotate_left
  · refine rk (k := rB (k := rg [0, 1, 12, 13] (k := ?_)))
    have hxy : x = y := by simpa using hc2
    refine Run.lp ⟨⟨rfl, i + 1, rfl, by omega, ?_⟩, ?_⟩
    · rw [take_get hil, take_get hjl, hbe, hxe, hye, hxy]
    · simp only [ivar, go_sem, ↓reduceIte, Nat.reduceEqDiff]
      omega
  refine rX (k := rs (k := rg [4] (k := rR (k := rP (by simp only [Try.f58, go_sem]; rfl) hwf ⟨?_, rfl⟩))))
  refine jO 2 ?_; rotate_left
  any_goals
    refine jI 1 ?_
    refine rs (k := rg [4] (k := rR (k := rP (by simp only [Try.f58, go_sem]; rfl) hwf ⟨?_, rfl⟩)))
    refine jO 2 ?_; rotate_left
  any_goals
    refine jI 2 ?_
    first
      | (have hne : xs ≠ ys := by rintro rfl; simp at hc0
         rw [decide_eq_false hne]; rfl)
      | (have hne : xs ≠ ys := by
           rintro rfl
           rw [hxe] at hye
           subst hye
           simp at hc2
         rw [decide_eq_false hne]; rfl)
      | (have hlen : xs.length = ys.length := by simp at hc0; omega
         have : i = xs.length := by have := of_decide_eq_false hc1; omega
         rw [this, List.take_length, hlen, List.take_length] at hbe
         rw [decide_eq_true hbe]; rfl)
theorem ref3_vals {xs ys : List Int} (nx : xs.length < 140737488355328) {s : St} : ACalls Try.prog 59 [.sl .unk (xs.map (PV.int .u16)), .sl .unk (ys.map (PV.int .u16))] s (fun r s' => r = .bool (decide (xs = ys)) ∧ s' = s) := by
  refine go Try.func59 (k := fun hwf H => ?_)
  refine rs (k := rg [0, 1] (k := rs (k := rs (k := rg [0, 1, 10] (k := rc (ht := fun hc0 => ?_) (hf := fun hc0 => ?_))))))
  refine jO 1 ?_; rotate_left
  refine rk (k := rs (k := rs (k := ?_)))
  have hlen : xs.length = ys.length := by simp at hc0; omega
  refine rg [0, 1, 12, 13] (k := rb (k := ?_))
  refine Run.loop (fun e s' => s' = s ∧ ∃ i : Nat, e = [(0, .sl .unk (xs.map (PV.int .u16))), (1, .sl .unk (ys.map (PV.int .u16))), (12, .int .i64 xs.length), (13, .int .i64 (i : Int))] ∧ i ≤ xs.length ∧ xs.take i = ys.take i) (fun e s' => xs.length - ivar e 13) ?_ ?_
  · exact ⟨rfl, 0, rfl, by omega, rfl⟩
  rintro e s' ⟨hs, i, rfl, hi, hbe⟩
  subst s'
  refine rs (k := rg [0, 1, 12, 13, 14] (k := rs (k := rc (ht := fun hc1 => ?_) (hf := fun hc1 => ?_))))
  refine rk (k := rs (k := rb (k := rs (k := ?_))))
  have hil : i < xs.length := by have := of_decide_eq_true hc1; omega
  have hjl : i < ys.length := by omega
  obtain ⟨x, hxe⟩ : ∃ z_, xs[i]'hil = z_ := ⟨_, rfl⟩
  have hxx : (xs.map (PV.int .u16))[i]? = some (.int .u16 x) := by rw [map_get hil, hxe]
  obtain ⟨y, hye⟩ : ∃ z_, ys[i]'hjl = z_ := ⟨_, rfl⟩
  have hxy : (ys.map (PV.int .u16))[i]? = some (.int .u16 y) := by rw [map_get hjl, hye]
  have hw : IntKind.i64.wrap ((i : Int) + 1) = ((i + 1 : Nat) : Int) := by rw [wrap_i64 (by omega)]; omega
  have H := aj hxx (aj hxy (aj hw H))
  refine rg [0, 1, 5, 12, 13] (k := rs (k := ?_))
  refine Run.drawC [] [0, 1, 12, 13, 24] Try.mixed (by kernel_rfl) ?_
  refine DetC.all au ?_
  refine re (k := rc (ht := fun hc2 => ?_) (hf := fun hc2 => ?_))
  refine jO 1 ?_; rotate_left
  · refine rk (k := rB (k := rg [0, 1, 12, 13] (k := ?_)))
    have hxy : x = y := by simpa using hc2
    refine Run.lp ⟨⟨rfl, i + 1, rfl, by omega, ?_⟩, ?_⟩
    · rw [take_get hil, take_get hjl, hbe, hxe, hye, hxy]
    · simp only [ivar, go_sem, ↓reduceIte, Nat.reduceEqDiff]
      omega
  refine rX (k := rs (k := rg [4] (k := rR (k := rP (by simp only [Try.f59, go_sem]; rfl) hwf ⟨?_, rfl⟩))))
  refine jO 2 ?_; rotate_left
  any_goals
    refine jI 1 ?_
    refine rs (k := rg [4] (k := rR (k := rP (by simp only [Try.f59, go_sem]; rfl) hwf ⟨?_, rfl⟩)))
    refine jO 2 ?_; rotate_left
  any_goals
    refine jI 2 ?_
    first
      | (have hne : xs ≠ ys := by rintro rfl; simp at hc0
         rw [decide_eq_false hne]; rfl)
      | (have hne : xs ≠ ys := by
           rintro rfl
           rw [hxe] at hye
           subst hye
           simp at hc2
         rw [decide_eq_false hne]; rfl)
      | (have hlen : xs.length = ys.length := by simp at hc0; omega
         have : i = xs.length := by have := of_decide_eq_false hc1; omega
         rw [this, List.take_length, hlen, List.take_length] at hbe
         rw [decide_eq_true hbe]; rfl)
attribute [local go_sem] weaks_bools Rep.pv
set_option maxRecDepth 100000 in
theorem ref3_Alike {a b : Rep} (ha : a.ok) (hb : b.ok) {s : St} : ACalls Try.prog 26 [a.pv, b.pv] s (fun r s' => r = .bool (decide (a = b)) ∧ s' = s) := by
  refine go Try.func26 (k := fun hwf H => ?_)
  have hst : ((strB a.data).toList == (strB b.data).toList) = decide (a.data = b.data) := strB_beq ha.data hb.data
  have H := aj hst H
  refine rs (k := rg [2, 3] (k := rs (k := rrA [some 5, some 6, some 7, some 8, some 9, some 10, some 11, some 12, some 13, some 14, some 15, some 16, some 17, some 18, some 19, some 20, some 21, some 22, some 23, some 24, some 25, some 26, some 27, some 28, some 29, some 30, some 31, some 32, some 33, some 34, some 35, some 36, some 37, some 38, some 39, some 40, some 41, some 42, some 43, some 44, some 45, some 46, some 47, some 48, some 49, some 50, some 51, some 52, some 53, some 54, some 55, some 56, some 57, some 58, some 59, some 60, some 61, some 62, some 63, some 64, some 65, some 66, some 67, some 68, some 69, some 70, some 71, some 72, some 73, some 74, some 4] (k := fun ops hops => ?_))))
  have H := aj hops H
  refine ro (pre := [_, _, _, _, _, _, _, _, _, _, _, _, _, _, _, _, _, _, _, _, _, _, _, _, _, _, _, _, _, _, _, _, _, _, _, _, _, _, _, _, _, _, _, _, _, _, _, _, _, _, _, _]) (k := rG (h := fun hb => ref3_bits (xs := a.bits) (ys := b.bits) (by have := ha.nb; omega)) (k := ro (pre := [_, _, _, _, _, _]) (k := rG (h := fun hb => ref3_vals (xs := a.vals) (ys := b.vals) (by have := ha.nv; omega)) (k := ?_))))
  refine rh [4] (k := rR (k := rP (by simp only [Try.f26, go_sem]; rfl) hwf ⟨?_, rfl⟩))
  simp only [PV.weak]
  congr 1
  rw [Bool.eq_iff_iff]
  simp only [Bool.and_eq_true, decide_eq_true_eq]
  constructor
  · intro h
    cases a; cases b
    simp_all
  · intro h
    subst h
    simp
theorem okB_hasS (fn : Int) : OkB (hasS fn) := by
  unfold hasS
  repeat' split
  all_goals (intro x hx; first | (exact absurd hx List.not_mem_nil) | (simp only [List.mem_cons, List.not_mem_nil, or_false] at hx; unfold U8; omega))
theorem len_hasS (fn : Int) : (hasS fn).length ≤ 1000 := by
  unfold hasS
  repeat' split
  all_goals simp
theorem has_fields {r : Rep} (hc : r.code = 0) (h : hasF r.fn = true) : r = hasP r ↔ ((((((97 ∈ hasS r.fn ∨ r.at_ = 0) ∧ (99 ∈ hasS r.fn ∨ r.count = 0)) ∧ (115 ∈ hasS r.fn ∨ r.sub = 0)) ∧ (98 ∈ hasS r.fn ∨ ¬(0 : Int) < (r.bits.length : Int))) ∧ (118 ∈ hasS r.fn ∨ ¬(0 : Int) < (r.vals.length : Int))) ∧ (109 ∈ hasS r.fn ∨ r.and_ = 0 ∧ r.or_ = 0)) ∧ (100 ∈ hasS r.fn ∨ ¬(0 : Int) < (r.data.length : Int)) := by
  have hl : ∀ {α : Type} (l : List α), (¬ (0 : Int) < (l.length : Int)) ↔ l = [] := by
    intro α l
    cases l with
    | nil => simp
    | cons a l => simp
  rw [hl, hl, hl]
  clear hl
  obtain ⟨fn, code, at_, count, sub, bits, vals, and_, or_, data⟩ := r
  simp only at hc h ⊢
  subst hc
  rcases has_cases h with e | e | e | e | e | e | e | e | e | e | e | e <;> subst e <;>
    simp only [hasP, hasS, Int.reduceEq, or_true, true_or, or_false, false_or, or_self, if_true, if_false, Rep.mk.injEq, List.mem_cons, List.not_mem_nil, true_and, and_true] <;> constructor <;> intro q <;> simp only [q, and_self, true_and, and_true] <;> first | (obtain ⟨q1, q2, q3, q4, q5, q6, q7⟩ := q; simp only [*]; simp only [and_self]) | simp_all
theorem ref3_has {fn : Int} {s : St} : ACalls Try.prog 31 [.int .i64 fn] s (fun r s' => r = .str (strB (hasS fn)) ∧ s' = s) := by
  refine go Try.func31 (k := fun hwf H => ?_)
  refine rs (k := rg [0] (k := rs (k := rs (k := rg [3] (k := rb (k := rs (k := rs (k := rg [3, 4] (k := rc (ht := fun hc0 => ?_) (hf := fun hc0 => ?_))))))))))
  refine rk (k := rc (ht := fun hc1 => ?_) (hf := fun hc1 => ?_))
  refine jO 1 ?_; rotate_left
  · exact Bool.noConfusion (hc0.symm.trans hc1)
  refine rg [3, 4] (k := rc (ht := fun hc1 => ?_) (hf := fun hc1 => ?_))
  refine jO 1 ?_; rotate_left
  refine rs (k := rs (k := rg [3, 7] (k := rc (ht := fun hc2 => ?_) (hf := fun hc2 => ?_))))
  refine rk (k := rc (ht := fun hc4 => ?_) (hf := fun hc4 => ?_))
  refine jO 1 ?_; rotate_left
  · exact Bool.noConfusion (hc2.symm.trans hc4)
  refine rs (k := rg [3, 7] (k := rc (ht := fun hc3 => ?_) (hf := fun hc3 => ?_)))
  refine rk (k := rc (ht := fun hc4 => ?_) (hf := fun hc4 => ?_))
  refine jO 1 ?_; rotate_left
  · exact Bool.noConfusion (hc3.symm.trans hc4)
  refine rg [3, 7] (k := rc (ht := fun hc4 => ?_) (hf := fun hc4 => ?_))
  refine jO 1 ?_; rotate_left
  refine rs (k := rg [3, 11] (k := rc (ht := fun hc5 => ?_) (hf := fun hc5 => ?_)))
  refine jO 1 ?_; rotate_left
  refine rs (k := rg [3, 13] (k := rc (ht := fun hc6 => ?_) (hf := fun hc6 => ?_)))
  refine jO 1 ?_; rotate_left
  refine rs (k := rg [3, 15] (k := rc (ht := fun hc7 => ?_) (hf := fun hc7 => ?_)))
  refine jO 1 ?_; rotate_left
  refine rs (k := rs (k := rg [3, 17] (k := rc (ht := fun hc8 => ?_) (hf := fun hc8 => ?_))))
  refine rk (k := rc (ht := fun hc9 => ?_) (hf := fun hc9 => ?_))
  refine jO 1 ?_; rotate_left
  · exact Bool.noConfusion (hc8.symm.trans hc9)
  refine rg [3, 17] (k := rc (ht := fun hc9 => ?_) (hf := fun hc9 => ?_))
  refine jO 1 ?_; rotate_left
  refine rs (k := rg [20] (k := rc (ht := fun hc10 => ?_) (hf := fun hc10 => ?_)))
  refine jO 1 ?_; rotate_left
  refine rk (k := rB (k := rs (k := rg [2] (k := rR (k := rP (by simp only [Try.f31, go_sem]; rfl) hwf ⟨?_, rfl⟩)))))
  refine jO 2 ?_; rotate_left
  any_goals
    refine jI 1 ?_
    refine rs (k := rg [2] (k := rR (k := rP (by simp only [Try.f31, go_sem]; rfl) hwf ⟨?_, rfl⟩)))
    refine jO 2 ?_; rotate_left
  any_goals
    refine jI 2 ?_
    simp only [decide_eq_true_eq, decide_eq_false_iff_not] at *
    refine jO 3 ?_; rotate_left
  any_goals
    refine jI 3 ?_
    unfold hasS
    refine jO 4 ?_; rotate_left
  any_goals
    refine jI 4 ?_
    first
      | (rw [if_pos (by omega)]; rfl)
      | (rw [if_neg (by omega), if_pos (by omega)]; rfl)
      | (rw [if_neg (by omega), if_neg (by omega), if_pos (by omega)]; rfl)
      | (rw [if_neg (by omega), if_neg (by omega), if_neg (by omega), if_pos (by omega)]; rfl)
      | (rw [if_neg (by omega), if_neg (by omega), if_neg (by omega), if_neg (by omega), if_pos (by omega)]; rfl)
      | (rw [if_neg (by omega), if_neg (by omega), if_neg (by omega), if_neg (by omega), if_neg (by omega), if_pos (by omega)]; rfl)
      | (rw [if_neg (by omega), if_neg (by omega), if_neg (by omega), if_neg (by omega), if_neg (by omega), if_neg (by omega), if_pos (by omega)]; rfl)
      | (rw [if_neg (by omega), if_neg (by omega), if_neg (by omega), if_neg (by omega), if_neg (by omega), if_neg (by omega), if_neg (by omega)]; rfl)
attribute [local go_sem] weaks_bools Rep.pv
set_option maxRecDepth 100000 in
theorem ref3_Good {r : Rep} (hr : r.ok) {s : St} : ACalls Try.prog 37 [r.pv] s (fun v s' => v = .int .i64 (goodF r) ∧ s' = s) := by
  refine go Try.func37 (k := fun hwf H => ?_)
  have hz : (⟨r.fn, r.code, 0, 0, 0, [], [], 0, 0, []⟩ : Rep).ok := ⟨hr.fn, hr.code, ⟨by show (_ : Int) ≤ 0; decide, by show (0 : Int) ≤ _; decide⟩, ⟨by show (_ : Int) ≤ 0; decide, by show (0 : Int) ≤ _; decide⟩, ⟨by show (_ : Int) ≤ 0; decide, by show (0 : Int) ≤ _; decide⟩, fun x hx => (List.not_mem_nil hx).elim, ⟨by show (_ : Int) ≤ 0; decide, by show (0 : Int) ≤ _; decide⟩, ⟨by show (_ : Int) ≤ 0; decide, by show (0 : Int) ≤ _; decide⟩, fun x hx => (List.not_mem_nil hx).elim, by show 0 ≤ _; decide, by show 0 * 2 ≤ _; decide, by show 0 ≤ _; decide⟩
  refine rs (k := rg [1] (k := rs (k := rs (k := rg [1, 6] (k := rc (ht := fun hc0 => ?_) (hf := fun hc0 => ?_))))))
  · refine rs (k := rs (k := rr (k := ro (pre := [_, _, _, _, _, _, _, _, _, _, _, _, _, _, _, _, _, _, _, _, _, _, _, _, _]) (k := rG (h := fun hb => ref3_Alike (a := r) (b := ⟨r.fn, r.code, 0, 0, 0, [], [], 0, 0, []⟩) hr hz) (k := rh [34] (k := rc (ht := fun hc1 => ?_) (hf := fun hc1 => ?_)))))))
    · refine rs (k := rg [2] (k := rR (k := rP (by simp only [Try.f37, go_sem]; rfl) hwf ⟨?_, rfl⟩)))
      refine congrArg (PV.int .i64) ?_
      simp only [Bool.not_eq_true', Bool.not_eq_false', Bool.or_eq_true, Bool.or_eq_false_iff, Bool.and_eq_true, Bool.and_eq_false_iff, decide_eq_true_eq, decide_eq_false_iff_not] at *
      first
        | (unfold goodF; rw [if_pos hc0, if_neg]; intro h; obtain ⟨h1, h2, h3, h4, h5⟩ := h; rcases hc1 with (((h | h) | h) | h) | h <;> first | omega | exact h h5)
        | (unfold goodF; rw [if_pos hc0, if_pos]; exact ⟨by omega, by omega, by omega, by omega, by simpa using hc1.2⟩)
        | (have e0 : ¬ ¬ r.code = 0 := by simpa using hc0
           unfold goodF; rw [if_neg e0, if_pos hc2]; done)
        | (have e0 : ¬ ¬ r.code = 0 := by simpa using hc0
           have hff := has_fields hc0 hc2
           unfold goodF; rw [if_neg e0, if_neg (by rw [hc2]; decide)]
           first
           | (have hne := hff.2 hc3
              first
              | (rw [if_neg]
                 rintro (h | h | h | h | h | h | h | h | h)
                 · exact h hne
                 · rw [hc4.1.1.1.1.1.1.1] at h; cases h
                 · rw [hc4.1.1.1.1.1.2] at h; cases h
                 · rw [hc4.1.1.1.1.1.1.2] at h; cases h
                 all_goals omega)
              | (rw [if_pos]
                 rcases hc4 with ((((((h | h) | h) | h) | h) | h) | h) | h
                 · exact .inr (.inl h)
                 · exact .inr (.inr (.inr (.inl h)))
                 · exact .inr (.inr (.inl h))
                 · exact .inr (.inr (.inr (.inr (.inl ⟨h.1, by omega⟩))))
                 · exact .inr (.inr (.inr (.inr (.inr (.inl ⟨h.1, by omega⟩)))))
                 · exact .inr (.inr (.inr (.inr (.inr (.inr (.inl (by omega)))))))
                 · exact .inr (.inr (.inr (.inr (.inr (.inr (.inr (.inl (by omega))))))))
                 · exact .inr (.inr (.inr (.inr (.inr (.inr (.inr (.inr (by omega)))))))))
              )
           | (have hne : ¬ r = hasP r := by
                rw [hff]
                rintro ⟨⟨⟨⟨⟨⟨a, b⟩, c⟩, d⟩, e⟩, f⟩, g⟩
                rcases hc3 with (((((h | h) | h) | h) | h) | h) | h
                · exact a.elim h.1 h.2
                · exact b.elim h.1 h.2
                · exact c.elim h.1 h.2
                · exact d.elim h.1 (fun k => k h.2)
                · exact e.elim h.1 (fun k => k h.2)
                · exact f.elim h.1 (fun k => h.2.elim (fun q => q k.1) (fun q => q k.2))
                · exact g.elim h.1 (fun k => k h.2)
              rw [if_pos (.inl hne)]))
    · refine rk (k := rs (k := rg [2] (k := rR (k := rP (by simp only [Try.f37, go_sem]; rfl) hwf ⟨?_, rfl⟩))))
      refine congrArg (PV.int .i64) ?_
      simp only [Bool.not_eq_true', Bool.not_eq_false', Bool.or_eq_true, Bool.or_eq_false_iff, Bool.and_eq_true, Bool.and_eq_false_iff, decide_eq_true_eq, decide_eq_false_iff_not] at *
      first
        | (unfold goodF; rw [if_pos hc0, if_neg]; intro h; obtain ⟨h1, h2, h3, h4, h5⟩ := h; rcases hc1 with (((h | h) | h) | h) | h <;> first | omega | exact h h5)
        | (unfold goodF; rw [if_pos hc0, if_pos]; exact ⟨by omega, by omega, by omega, by omega, by simpa using hc1.2⟩)
        | (have e0 : ¬ ¬ r.code = 0 := by simpa using hc0
           unfold goodF; rw [if_neg e0, if_pos hc2]; done)
        | (have e0 : ¬ ¬ r.code = 0 := by simpa using hc0
           have hff := has_fields hc0 hc2
           unfold goodF; rw [if_neg e0, if_neg (by rw [hc2]; decide)]
           first
           | (have hne := hff.2 hc3
              first
              | (rw [if_neg]
                 rintro (h | h | h | h | h | h | h | h | h)
                 · exact h hne
                 · rw [hc4.1.1.1.1.1.1.1] at h; cases h
                 · rw [hc4.1.1.1.1.1.2] at h; cases h
                 · rw [hc4.1.1.1.1.1.1.2] at h; cases h
                 all_goals omega)
              | (rw [if_pos]
                 rcases hc4 with ((((((h | h) | h) | h) | h) | h) | h) | h
                 · exact .inr (.inl h)
                 · exact .inr (.inr (.inr (.inl h)))
                 · exact .inr (.inr (.inl h))
                 · exact .inr (.inr (.inr (.inr (.inl ⟨h.1, by omega⟩))))
                 · exact .inr (.inr (.inr (.inr (.inr (.inl ⟨h.1, by omega⟩)))))
                 · exact .inr (.inr (.inr (.inr (.inr (.inr (.inl (by omega)))))))
                 · exact .inr (.inr (.inr (.inr (.inr (.inr (.inr (.inl (by omega))))))))
                 · exact .inr (.inr (.inr (.inr (.inr (.inr (.inr (.inr (by omega)))))))))
              )
           | (have hne : ¬ r = hasP r := by
                rw [hff]
                rintro ⟨⟨⟨⟨⟨⟨a, b⟩, c⟩, d⟩, e⟩, f⟩, g⟩
                rcases hc3 with (((((h | h) | h) | h) | h) | h) | h
                · exact a.elim h.1 h.2
                · exact b.elim h.1 h.2
                · exact c.elim h.1 h.2
                · exact d.elim h.1 (fun k => k h.2)
                · exact e.elim h.1 (fun k => k h.2)
                · exact f.elim h.1 (fun k => h.2.elim (fun q => q k.1) (fun q => q k.2))
                · exact g.elim h.1 (fun k => k h.2)
              rw [if_pos (.inl hne)]))
  · refine rk (k := rs (k := rs (k := rr (k := ro (pre := [_, _]) (k := rC (h := ref3_Has) (k := rh [1, 38] (k := rc (ht := fun hc2 => ?_) (hf := fun hc2 => ?_))))))))
    · refine rs (k := rg [2] (k := rR (k := rP (by simp only [Try.f37, go_sem]; rfl) hwf ⟨?_, rfl⟩)))
      refine congrArg (PV.int .i64) ?_
      simp only [Bool.not_eq_true', Bool.not_eq_false', Bool.or_eq_true, Bool.or_eq_false_iff, Bool.and_eq_true, Bool.and_eq_false_iff, decide_eq_true_eq, decide_eq_false_iff_not] at *
      first
        | (unfold goodF; rw [if_pos hc0, if_neg]; intro h; obtain ⟨h1, h2, h3, h4, h5⟩ := h; rcases hc1 with (((h | h) | h) | h) | h <;> first | omega | exact h h5)
        | (unfold goodF; rw [if_pos hc0, if_pos]; exact ⟨by omega, by omega, by omega, by omega, by simpa using hc1.2⟩)
        | (have e0 : ¬ ¬ r.code = 0 := by simpa using hc0
           unfold goodF; rw [if_neg e0, if_pos hc2]; done)
        | (have e0 : ¬ ¬ r.code = 0 := by simpa using hc0
           have hff := has_fields hc0 hc2
           unfold goodF; rw [if_neg e0, if_neg (by rw [hc2]; decide)]
           first
           | (have hne := hff.2 hc3
              first
              | (rw [if_neg]
                 rintro (h | h | h | h | h | h | h | h | h)
                 · exact h hne
                 · rw [hc4.1.1.1.1.1.1.1] at h; cases h
                 · rw [hc4.1.1.1.1.1.2] at h; cases h
                 · rw [hc4.1.1.1.1.1.1.2] at h; cases h
                 all_goals omega)
              | (rw [if_pos]
                 rcases hc4 with ((((((h | h) | h) | h) | h) | h) | h) | h
                 · exact .inr (.inl h)
                 · exact .inr (.inr (.inr (.inl h)))
                 · exact .inr (.inr (.inl h))
                 · exact .inr (.inr (.inr (.inr (.inl ⟨h.1, by omega⟩))))
                 · exact .inr (.inr (.inr (.inr (.inr (.inl ⟨h.1, by omega⟩)))))
                 · exact .inr (.inr (.inr (.inr (.inr (.inr (.inl (by omega)))))))
                 · exact .inr (.inr (.inr (.inr (.inr (.inr (.inr (.inl (by omega))))))))
                 · exact .inr (.inr (.inr (.inr (.inr (.inr (.inr (.inr (by omega)))))))))
              )
           | (have hne : ¬ r = hasP r := by
                rw [hff]
                rintro ⟨⟨⟨⟨⟨⟨a, b⟩, c⟩, d⟩, e⟩, f⟩, g⟩
                rcases hc3 with (((((h | h) | h) | h) | h) | h) | h
                · exact a.elim h.1 h.2
                · exact b.elim h.1 h.2
                · exact c.elim h.1 h.2
                · exact d.elim h.1 (fun k => k h.2)
                · exact e.elim h.1 (fun k => k h.2)
                · exact f.elim h.1 (fun k => h.2.elim (fun q => q k.1) (fun q => q k.2))
                · exact g.elim h.1 (fun k => k h.2)
              rw [if_pos (.inl hne)]))
    · refine rk (k := rs (k := rr (k := ro (pre := [_, _]) (k := rC (h := ref3_has) (k := rh [1, 3] (k := rs (k := rs (k := rrA [some 42, some 43, some 44, some 45, some 46, some 47, some 48, some 49, some 50, some 51, some 52, some 53, some 54, some 55, some 56, some 57, some 58, some 59, some 60, some 61, some 62, some 63, some 64, some 65, some 66, some 67, some 68, some 69, some 70, some 71, some 72, some 73, some 74, some 75, some 76, some 77, some 78, some 79, some 80, some 81, some 82, some 83, some 84, some 85, some 86, some 87, some 88, some 89, some 90, some 91, some 92, some 93, some 94, some 95, some 96, some 97, some 98, some 99, some 100, some 101, some 102, some 103, some 104, some 105, some 106, some 107, some 108, some 109, some 110, some 111, some 112, some 113, some 114, some 115, some 116, some 117] (k := fun ops hops => ?_)))))))))
      have H := aj hops H
      refine ro (pre := [_]) (k := rC (h := ref3_in (okB_hasS r.fn) (len_hasS r.fn)) (k := ro (pre := [_, _, _, _, _, _, _, _]) (k := rG (h := fun hb => ref3_in (okB_hasS r.fn) (len_hasS r.fn)) (k := ro (pre := [_, _, _, _, _, _, _, _, _]) (k := rG (h := fun hb => ref3_in (okB_hasS r.fn) (len_hasS r.fn)) (k := ro (pre := [_, _, _, _, _, _, _, _, _]) (k := rG (h := fun hb => ref3_in (okB_hasS r.fn) (len_hasS r.fn)) (k := ?_))))))))
      refine ro (pre := [_, _, _, _, _, _, _, _, _, _]) (k := rG (h := fun hb => ref3_in (okB_hasS r.fn) (len_hasS r.fn)) (k := ro (pre := [_, _, _, _, _, _, _, _, _, _]) (k := rG (h := fun hb => ref3_in (okB_hasS r.fn) (len_hasS r.fn)) (k := ro (pre := [_, _, _, _, _, _, _, _, _, _, _, _, _, _]) (k := rG (h := fun hb => ref3_in (okB_hasS r.fn) (len_hasS r.fn)) (k := rh [1, 117] (k := ?_)))))))
      refine rc (ht := fun hc3 => ?_) (hf := fun hc3 => ?_)
      · refine rs (k := rg [2] (k := rR (k := rP (by simp only [Try.f37, go_sem]; rfl) hwf ⟨?_, rfl⟩)))
        refine congrArg (PV.int .i64) ?_
        simp only [Bool.not_eq_true', Bool.not_eq_false', Bool.or_eq_true, Bool.or_eq_false_iff, Bool.and_eq_true, Bool.and_eq_false_iff, decide_eq_true_eq, decide_eq_false_iff_not] at *
        first
          | (unfold goodF; rw [if_pos hc0, if_neg]; intro h; obtain ⟨h1, h2, h3, h4, h5⟩ := h; rcases hc1 with (((h | h) | h) | h) | h <;> first | omega | exact h h5)
          | (unfold goodF; rw [if_pos hc0, if_pos]; exact ⟨by omega, by omega, by omega, by omega, by simpa using hc1.2⟩)
          | (have e0 : ¬ ¬ r.code = 0 := by simpa using hc0
             unfold goodF; rw [if_neg e0, if_pos hc2]; done)
          | (have e0 : ¬ ¬ r.code = 0 := by simpa using hc0
             have hff := has_fields hc0 hc2
             unfold goodF; rw [if_neg e0, if_neg (by rw [hc2]; decide)]
             first
             | (have hne := hff.2 hc3
                first
                | (rw [if_neg]
                   rintro (h | h | h | h | h | h | h | h | h)
                   · exact h hne
                   · rw [hc4.1.1.1.1.1.1.1] at h; cases h
                   · rw [hc4.1.1.1.1.1.2] at h; cases h
                   · rw [hc4.1.1.1.1.1.1.2] at h; cases h
                   all_goals omega)
                | (rw [if_pos]
                   rcases hc4 with ((((((h | h) | h) | h) | h) | h) | h) | h
                   · exact .inr (.inl h)
                   · exact .inr (.inr (.inr (.inl h)))
                   · exact .inr (.inr (.inl h))
                   · exact .inr (.inr (.inr (.inr (.inl ⟨h.1, by omega⟩))))
                   · exact .inr (.inr (.inr (.inr (.inr (.inl ⟨h.1, by omega⟩)))))
                   · exact .inr (.inr (.inr (.inr (.inr (.inr (.inl (by omega)))))))
                   · exact .inr (.inr (.inr (.inr (.inr (.inr (.inr (.inl (by omega))))))))
                   · exact .inr (.inr (.inr (.inr (.inr (.inr (.inr (.inr (by omega)))))))))
                )
             | (have hne : ¬ r = hasP r := by
                  rw [hff]
                  rintro ⟨⟨⟨⟨⟨⟨a, b⟩, c⟩, d⟩, e⟩, f⟩, g⟩
                  rcases hc3 with (((((h | h) | h) | h) | h) | h) | h
                  · exact a.elim h.1 h.2
                  · exact b.elim h.1 h.2
                  · exact c.elim h.1 h.2
                  · exact d.elim h.1 (fun k => k h.2)
                  · exact e.elim h.1 (fun k => k h.2)
                  · exact f.elim h.1 (fun k => h.2.elim (fun q => q k.1) (fun q => q k.2))
                  · exact g.elim h.1 (fun k => k h.2)
                rw [if_pos (.inl hne)]))
      · refine rk (k := rs (k := rs (k := rrA [some 118, some 119, some 120, some 121, some 122, some 123, some 124, some 125, some 126, some 127, some 128, some 129, some 130, some 131, some 132, some 133, some 134, some 135, some 136, some 137, some 138, some 139, some 140, some 141, some 142, some 143, some 144, some 145, some 146, some 147, some 148, some 149, some 150, some 151, some 152, some 153, some 154, some 155, some 156, some 157, some 158, some 159, some 160, some 161, some 162, some 163, some 164, some 165, some 166, some 167, some 168, some 169, some 170, some 171, some 172, some 173, some 174, some 175, some 176, some 177, some 178] (k := fun ops hops => ?_))))
        have H := aj hops H
        refine ro (pre := [_, _]) (k := rC (h := ref3_word) (k := ro (pre := [_, _, _, _]) (k := rG (h := fun hb => ref3_word) (k := ro (pre := [_, _, _, _, _]) (k := rG (h := fun hb => ref3_word) (k := rh [178] (k := rc (ht := fun hc4 => ?_) (hf := fun hc4 => ?_))))))))
        · refine rs (k := rg [2] (k := rR (k := rP (by simp only [Try.f37, go_sem]; rfl) hwf ⟨?_, rfl⟩)))
          refine congrArg (PV.int .i64) ?_
          simp only [Bool.not_eq_true', Bool.not_eq_false', Bool.or_eq_true, Bool.or_eq_false_iff, Bool.and_eq_true, Bool.and_eq_false_iff, decide_eq_true_eq, decide_eq_false_iff_not] at *
          first
            | (unfold goodF; rw [if_pos hc0, if_neg]; intro h; obtain ⟨h1, h2, h3, h4, h5⟩ := h; rcases hc1 with (((h | h) | h) | h) | h <;> first | omega | exact h h5)
            | (unfold goodF; rw [if_pos hc0, if_pos]; exact ⟨by omega, by omega, by omega, by omega, by simpa using hc1.2⟩)
            | (have e0 : ¬ ¬ r.code = 0 := by simpa using hc0
               unfold goodF; rw [if_neg e0, if_pos hc2]; done)
            | (have e0 : ¬ ¬ r.code = 0 := by simpa using hc0
               have hff := has_fields hc0 hc2
               unfold goodF; rw [if_neg e0, if_neg (by rw [hc2]; decide)]
               first
               | (have hne := hff.2 hc3
                  first
                  | (rw [if_neg]
                     rintro (h | h | h | h | h | h | h | h | h)
                     · exact h hne
                     · rw [hc4.1.1.1.1.1.1.1] at h; cases h
                     · rw [hc4.1.1.1.1.1.2] at h; cases h
                     · rw [hc4.1.1.1.1.1.1.2] at h; cases h
                     all_goals omega)
                  | (rw [if_pos]
                     rcases hc4 with ((((((h | h) | h) | h) | h) | h) | h) | h
                     · exact .inr (.inl h)
                     · exact .inr (.inr (.inr (.inl h)))
                     · exact .inr (.inr (.inl h))
                     · exact .inr (.inr (.inr (.inr (.inl ⟨h.1, by omega⟩))))
                     · exact .inr (.inr (.inr (.inr (.inr (.inl ⟨h.1, by omega⟩)))))
                     · exact .inr (.inr (.inr (.inr (.inr (.inr (.inl (by omega)))))))
                     · exact .inr (.inr (.inr (.inr (.inr (.inr (.inr (.inl (by omega))))))))
                     · exact .inr (.inr (.inr (.inr (.inr (.inr (.inr (.inr (by omega)))))))))
                  )
               | (have hne : ¬ r = hasP r := by
                    rw [hff]
                    rintro ⟨⟨⟨⟨⟨⟨a, b⟩, c⟩, d⟩, e⟩, f⟩, g⟩
                    rcases hc3 with (((((h | h) | h) | h) | h) | h) | h
                    · exact a.elim h.1 h.2
                    · exact b.elim h.1 h.2
                    · exact c.elim h.1 h.2
                    · exact d.elim h.1 (fun k => k h.2)
                    · exact e.elim h.1 (fun k => k h.2)
                    · exact f.elim h.1 (fun k => h.2.elim (fun q => q k.1) (fun q => q k.2))
                    · exact g.elim h.1 (fun k => k h.2)
                  rw [if_pos (.inl hne)]))
        · refine rk (k := rs (k := rg [2] (k := rR (k := rP (by simp only [Try.f37, go_sem]; rfl) hwf ⟨?_, rfl⟩))))
          refine congrArg (PV.int .i64) ?_
          simp only [Bool.not_eq_true', Bool.not_eq_false', Bool.or_eq_true, Bool.or_eq_false_iff, Bool.and_eq_true, Bool.and_eq_false_iff, decide_eq_true_eq, decide_eq_false_iff_not] at *
          first
            | (unfold goodF; rw [if_pos hc0, if_neg]; intro h; obtain ⟨h1, h2, h3, h4, h5⟩ := h; rcases hc1 with (((h | h) | h) | h) | h <;> first | omega | exact h h5)
            | (unfold goodF; rw [if_pos hc0, if_pos]; exact ⟨by omega, by omega, by omega, by omega, by simpa using hc1.2⟩)
            | (have e0 : ¬ ¬ r.code = 0 := by simpa using hc0
               unfold goodF; rw [if_neg e0, if_pos hc2]; done)
            | (have e0 : ¬ ¬ r.code = 0 := by simpa using hc0
               have hff := has_fields hc0 hc2
               unfold goodF; rw [if_neg e0, if_neg (by rw [hc2]; decide)]
               first
               | (have hne := hff.2 hc3
                  first
                  | (rw [if_neg]
                     rintro (h | h | h | h | h | h | h | h | h)
                     · exact h hne
                     · rw [hc4.1.1.1.1.1.1.1] at h; cases h
                     · rw [hc4.1.1.1.1.1.2] at h; cases h
                     · rw [hc4.1.1.1.1.1.1.2] at h; cases h
                     all_goals omega)
                  | (rw [if_pos]
                     rcases hc4 with ((((((h | h) | h) | h) | h) | h) | h) | h
                     · exact .inr (.inl h)
                     · exact .inr (.inr (.inr (.inl h)))
                     · exact .inr (.inr (.inl h))
                     · exact .inr (.inr (.inr (.inr (.inl ⟨h.1, by omega⟩))))
                     · exact .inr (.inr (.inr (.inr (.inr (.inl ⟨h.1, by omega⟩)))))
                     · exact .inr (.inr (.inr (.inr (.inr (.inr (.inl (by omega)))))))
                     · exact .inr (.inr (.inr (.inr (.inr (.inr (.inr (.inl (by omega))))))))
                     · exact .inr (.inr (.inr (.inr (.inr (.inr (.inr (.inr (by omega)))))))))
                  )
               | (have hne : ¬ r = hasP r := by
                    rw [hff]
                    rintro ⟨⟨⟨⟨⟨⟨a, b⟩, c⟩, d⟩, e⟩, f⟩, g⟩
                    rcases hc3 with (((((h | h) | h) | h) | h) | h) | h
                    · exact a.elim h.1 h.2
                    · exact b.elim h.1 h.2
                    · exact c.elim h.1 h.2
                    · exact d.elim h.1 (fun k => k h.2)
                    · exact e.elim h.1 (fun k => k h.2)
                    · exact f.elim h.1 (fun k => h.2.elim (fun q => q k.1) (fun q => q k.2))
                    · exact g.elim h.1 (fun k => k h.2)
                  rw [if_pos (.inl hne)]))
end Go.Proofs
namespace Go.Proofs
open Go.PM
set_option maxHeartbeats 2000000
theorem ref3_rowC {x : Int} {ys zs : List Int} (hz : zs = x :: (ys.length : Int) :: ys) (hy : ys.length ≤ 255) {s : St} : ACalls Try.prog 65 [.sl .clip [.int .u8 x], .sl .unk (ys.map (PV.int .u8))] s (fun r s' => r = .sl .unk (zs.map (PV.int .u8)) ∧ s' = s) := by
  refine go Try.func65 (k := fun hwf H => ?_)
  have hw1 : IntKind.u8.wrap (ys.length : Int) = ys.length := by rw [u8_wrap]; omega
  have H := aj hw1 H
  refine rs (k := rg [0, 1] (k := rs (k := rr (k := ro (pre := [_, _, _, _]) (k := rO (k := ?_))))))
  refine RunO.grow' au au au Try.td28 (by rw [Try.zp5]; rfl) (isEls_map (P := Try.prog) (e := 5) (f := PV.int .u8) (fun a => ⟨rfl, by rw [Try.cz5]; rfl⟩) [_]) (isEls_map (P := Try.prog) (e := 5) (f := PV.int .u8) (fun a => ⟨rfl, by rw [Try.cz5]; rfl⟩) [_]) (by rw [Try.by5]; decide) (by rw [Try.by5]; simp) (.inr (.inl (.inl rfl))) ?_
  intro k1 s1 hgr1 htm1
  refine ro (pre := [_]) (k := ?_)
  refine RunO.grow' au au au Try.td28 (by rw [Try.zp5]; rfl) (isEls_map (P := Try.prog) (e := 5) (f := PV.int .u8) (fun a => ⟨rfl, by rw [Try.cz5]; rfl⟩) [_, _]) (isEls_map (P := Try.prog) (e := 5) (f := PV.int .u8) (fun a => ⟨rfl, by rw [Try.cz5]; rfl⟩) ys) (by rw [Try.by5]; decide) (by rw [Try.by5]; simp; omega) (by simpa using hgr1) ?_
  intro k2 s2 hgr htm
  refine rh [4] (k := rR (k := ?_))
  refine Ret.pure (r' := .sl .unk (zs.map (PV.int .u8))) (by simp only [Try.f65, go_sem, ↓reduceIte] <;> rfl) (by subst hz; simp [PV.weak, PV.weaks, weaks_u8]) (by simp only [PV.blw]; exact ⟨fun t z e => (by cases e), blws_u8 _ _⟩) hwf (((Fr.refl hwf).tm htm1 (fun t z e => by cases e)).tm htm (fun t z e => (htm1.fresh t z e).elim (fun ⟨z', h⟩ => by cases h) (fun h => h.1))).blk ⟨rfl, rfl⟩
theorem lay_write {r : Rep} (hr : r.ok) (hg : goodF r = 0) (hc : r.code = 0) (hf : r.fn = 5 ∨ r.fn = 6 ∨ r.fn = 8 ∨ r.fn = 22) : (⟨r.fn, r.at_, 0, 0, r.sub, r.bits, r.vals, r.and_, r.or_⟩ : Req).ok ∧ rightF ⟨r.fn, r.at_, 0, 0, r.sub, r.bits, r.vals, r.and_, r.or_⟩ = 0 ∧ writeF ⟨r.fn, r.at_, 0, 0, r.sub, r.bits, r.vals, r.and_, r.or_⟩ = layF r := by
  have hG := good0 hg hc
  have hE := hG.eq
  refine ⟨⟨hr.fn, hr.at_, ⟨by show (_ : Int) ≤ 0; decide, by show (0 : Int) ≤ _; decide⟩, ⟨by show (_ : Int) ≤ 0; decide, by show (0 : Int) ≤ _; decide⟩, hr.sub, hr.vals, hr.and_, hr.or_, hr.nb, hr.nv⟩, ?_, ?_⟩
  · refine right_of ⟨hG.has, ?_, hG.wa, by show wordF 0 = true; decide, hG.ws, by show wordF 0 = true; decide, ?_, ?_, hG.mb, hG.mv⟩
    · obtain ⟨fn, code, at_, count, sub, bits, vals, and_, or_, data⟩ := r
      simp only at hc hf hE ⊢
      rcases hf with e | e | e | e <;> subst e <;> simp [hasP, fieldsF] at hE ⊢ <;> simp [hE]
    · obtain ⟨fn, code, at_, count, sub, bits, vals, and_, or_, data⟩ := r
      have h5 := hG.b5
      simp only at hc hf hE h5 ⊢
      rcases hf with e | e | e | e <;> subst e <;> simp [hasP, bitsF] at hE h5 ⊢ <;> simp [hE, h5]
    · obtain ⟨fn, code, at_, count, sub, bits, vals, and_, or_, data⟩ := r
      have h5 := hG.v6
      simp only at hc hf hE h5 ⊢
      rcases hf with e | e | e | e <;> subst e <;> simp [hasP, valsF] at hE h5 ⊢ <;> simp [hE, h5]
  · unfold layF
    rw [if_neg (fun k => k hc)]
    unfold writeF
    rcases hf with e | e | e | e <;> simp only [e] <;> simp
attribute [local go_sem] weaks_bools Rep.pv Req.pv
set_option maxRecDepth 100000 in
theorem ref3_lay {r : Rep} (hr : r.ok) (hr0 : goodF r = 0) {s : St} : ACalls Try.prog 38 [r.pv] s (fun v s' => v = .sl .unk ((layF r).map (PV.int .u8)) ∧ s' = s) := by
  refine go Try.func38 (k := fun hwf H => ?_)
  have hu8c : IntKind.u8.wrap r.code = r.code ∨ r.code = 0 := by
    by_cases hcz : r.code = 0
    · exact .inr hcz
    · have := goodC hr0 hcz
      left; rw [u8_wrap]; omega
  have hfr : 0 ≤ r.fn ∧ r.fn ≤ 127 := by
    by_cases hcz : r.code = 0
    · have := (good0 hr0 hcz).has
      have := has_cases this
      omega
    · have := goodC hr0 hcz
      omega
  have hor : ibits .or .i64 r.fn 128 = r.fn + 128 := ibits_or128 (by omega)
  have hu8 : IntKind.u8.wrap r.fn = r.fn := by rw [u8_wrap]; omega
  have hu8r : IntKind.u8.wrap (r.fn + 128) = r.fn + 128 := by rw [u8_wrap]; omega
  have H := aj hor (aj hu8 (aj hu8r H))
  refine rs (k := rg [1] (k := rs (k := rr (k := ro (pre := [_, _, _]) (k := rO (k := rh [1, 3] (k := rs (k := rs (k := rg [1, 3, 10] (k := rc (ht := fun hc0 => ?_) (hf := fun hc0 => ?_)))))))))))
  refine rs (k := ?_)
  have hcz : ¬ r.code = 0 := by simpa using hc0
  have hu8d : IntKind.u8.wrap r.code = r.code := by rcases hu8c with h | h; exact h; exact absurd h hcz
  have H := aj hu8d H
  refine rr (k := ro (pre := [_, _, _, _, _, _, _]) (k := rO (k := rh [2] (k := rR (k := ?_)))))
  refine jO 1 ?_; rotate_left
  refine rk (k := rs (k := rs (k := ?_)))
  have hcz : r.code = 0 := by simpa using hc0
  have hG := good0 hr0 hcz
  have hfn := has_cases hG.has
  have hmv := hG.mv
  have hmb := hG.mb
  have hmd := hG.md
  have ia := hr.at_
  have ic := hr.count
  have hpl := packB_len r.bits
  obtain ⟨V, hV⟩ : ∃ V, V = r.vals.flatMap num2 := ⟨_, rfl⟩
  have hvl : V.length = 2 * r.vals.length := by rw [hV]; exact flat2_len _
  obtain ⟨L1, hL1⟩ : ∃ L, L = [r.fn] ++ num2 r.at_ := ⟨_, rfl⟩
  obtain ⟨L2, hL2⟩ : ∃ L, L = L1 ++ num2 r.count := ⟨_, rfl⟩
  obtain ⟨C, hC⟩ : ∃ C, C = r.fn :: (V.length : Int) :: V := ⟨_, rfl⟩
  obtain ⟨B, hB⟩ : ∃ B, B = r.fn :: ((packB r.bits).length : Int) :: packB r.bits := ⟨_, rfl⟩
  obtain ⟨D, hD⟩ : ∃ D, D = r.fn :: (r.data.length : Int) :: r.data := ⟨_, rfl⟩
  have hll1 : L1.length = 3 := by rw [hL1]; simp [num2]
  refine rg [1, 3, 20] (k := rb (k := rs (k := rs (k := rg [1, 3, 20, 21] (k := rc (ht := fun hc1 => ?_) (hf := fun hc1 => ?_))))))
  refine rk (k := rc (ht := fun hc2 => ?_) (hf := fun hc2 => ?_))
  refine jO 2 ?_; rotate_left
  · exact Bool.noConfusion (hc1.symm.trans hc2)
  refine rg [1, 3, 20, 21] (k := rc (ht := fun hc2 => ?_) (hf := fun hc2 => ?_))
  refine jO 2 ?_; rotate_left
  refine rs (k := rs (k := rg [1, 3, 20, 29] (k := rc (ht := fun hc3 => ?_) (hf := fun hc3 => ?_))))
  refine rk (k := rc (ht := fun hc5 => ?_) (hf := fun hc5 => ?_))
  refine jO 3 ?_; rotate_left
  · exact Bool.noConfusion (hc3.symm.trans hc5)
  refine rs (k := rg [1, 3, 20, 29] (k := rc (ht := fun hc4 => ?_) (hf := fun hc4 => ?_)))
  refine rk (k := rc (ht := fun hc5 => ?_) (hf := fun hc5 => ?_))
  refine jO 3 ?_; rotate_left
  · exact Bool.noConfusion (hc4.symm.trans hc5)
  refine rg [1, 3, 20, 29] (k := rc (ht := fun hc5 => ?_) (hf := fun hc5 => ?_))
  refine jO 3 ?_; rotate_left
  refine rs (k := rs (k := rg [1, 3, 20, 38] (k := rc (ht := fun hc6 => ?_) (hf := fun hc6 => ?_))))
  refine rk (k := rc (ht := fun hc7 => ?_) (hf := fun hc7 => ?_))
  refine jO 4 ?_; rotate_left
  · exact Bool.noConfusion (hc6.symm.trans hc7)
  refine rg [1, 3, 20, 38] (k := rc (ht := fun hc7 => ?_) (hf := fun hc7 => ?_))
  refine jO 4 ?_; rotate_left
  refine rs (k := rg [1, 3, 48] (k := rc (ht := fun hc8 => ?_) (hf := fun hc8 => ?_)))
  refine rs (k := rr (k := ro (pre := [_, _, _]) (k := ?_)))
  refine RunO.call au au (by kernel_rfl) ((ref3_rowC hD (by omega)).mono ?_)
  refine jO 5 ?_; rotate_left
  refine rk (k := rB (k := rs (k := ?_)))
  have hf4 : r.fn = 5 ∨ r.fn = 6 ∨ r.fn = 8 ∨ r.fn = 22 := by
    clear H hL1 hL2 hB hC hD hV
    simp only [decide_eq_true_eq, decide_eq_false_iff_not] at *
    omega
  obtain ⟨hwo, hwr, hww⟩ := lay_write hr hr0 hcz hf4
  refine rr (k := ro (pre := [_, _, _, _, _, _, _, _, _, _, _, _, _, _, _]) (k := rC (h := ref3_write hwo hwr) (k := rh [2] (k := rR (k := ?_)))))
  refine jO 1 ?_; rotate_left
  any_goals
    refine jI 4 ?_
    refine rs (k := ?_)
    refine jO 6 ?_; rotate_left
  any_goals
    refine jI 6 ?_
    refine Run.drawC [] [2] Try.mixed (by kernel_rfl) ?_
    refine jO 7 ?_; rotate_left
  any_goals
    refine jI 7 ?_
    refine DetC.pre (pre := [_, _, _]) au ?_
    refine jO 8 ?_; rotate_left
  any_goals
    refine jI 8 ?_
    refine DetC.call au au au (by kernel_rfl) (ref1_PutL (l := [r.fn]) hL1 ia (by simp)) ?_
    refine jO 9 ?_; rotate_left
  any_goals
    refine jI 2 ?_
    refine rs (k := rr (k := ro (pre := [_, _, _]) (k := rC (h := ref1_Pack (l := r.bits) (by omega)) (k := ?_))))
    refine jO 10 ?_; rotate_left
  any_goals
    refine jI 3 ?_
    refine rs (k := rr (k := ro (pre := [_, _, _]) (k := rC (h := ref1_BytesL hV (by omega)) (k := ?_))))
    refine jO 11 ?_; rotate_left
  any_goals
    refine jI 9 ?_
    refine DetC.pre (pre := [_, _]) au ?_
    refine jO 12 ?_; rotate_left
  any_goals
    refine jI 10 ?_
    refine RunO.call au au (by kernel_rfl) ((ref3_rowC hB (by omega)).mono ?_)
    refine jO 5 ?_; rotate_left
  any_goals
    refine jI 11 ?_
    refine RunO.call au au (by kernel_rfl) ((ref3_rowC hC (by omega)).mono ?_)
    refine jO 5 ?_; rotate_left
  any_goals
    refine jI 12 ?_
    refine DetC.call au au au (by kernel_rfl) (ref1_PutL hL2 ic (by omega)) ?_
    refine jO 13 ?_; rotate_left
  any_goals
    refine jI 5 ?_
    rintro v s1 ⟨rfl, hs1⟩
    refine jO 14 ?_; rotate_left
  any_goals
    refine jI 13 ?_
    refine DetC.all au ?_
    refine jO 15 ?_; rotate_left
  any_goals
    refine jI 14 ?_
    subst s1
    refine jO 16 ?_; rotate_left
  any_goals
    refine jI 16 ?_
    refine rh [2] (k := rR (k := ?_))
    refine jO 1 ?_; rotate_left
  any_goals
    refine jI 15 ?_
    refine re (k := rR (k := ?_))
    refine jO 1 ?_; rotate_left
  any_goals
    refine jI 1 ?_
    refine Ret.pure (r' := .sl .unk ((layF r).map (PV.int .u8))) (by simp only [Try.f38, go_sem, ↓reduceIte] <;> rfl) ?_ (by simp only [PV.blw]; exact ⟨fun t z e => (by cases e), blws_u8 _ _⟩) hwf (fun i hi => by first | rfl | (have h0 := ltn hi; have h1 := lte hi; simp only [go_sem, Nat.add_assoc, Nat.reduceAdd, ↓reduceIte, h0, h1])) ⟨rfl, rfl⟩
    refine jO 17 ?_; rotate_left
  any_goals
    refine jI 17 ?_
    simp only [PV.weak, weaks_u8]
    refine jO 18 ?_; rotate_left
  any_goals
    refine jI 18 ?_
    first
      | (rw [← hww])
      | (unfold layF
         rw [if_pos hcz]
         rfl)
      | (refine congrArg (fun x => PV.sl .unk x) ?_
         refine congrArg (List.map (PV.int .u8)) ?_
         clear hll1 hvl hpl hu8 hu8r hu8c hor hwf H hfr hc0
         simp only [decide_eq_true_eq, decide_eq_false_iff_not] at *
         have hcz' : ¬ ¬ r.code = 0 := fun h => h hcz
         unfold layF
         rw [if_neg hcz']
         clear hcz' hr0 hcz
         first
         | (simp [*]; done)
         | (have e : r.fn = 17 := by omega
            simp [*]; done)
         | skip)
end Go.Proofs
namespace Go.Proofs
open Go.PM
set_option maxHeartbeats 2000000
attribute [local go_sem] set_set weaks_bools Req.pv Rep.pv
set_option maxRecDepth 100000 in
theorem ref3_Take {b : List Int} (hb : OkB b) (hl : b.length ≤ 10000000) {q : Req} (hq : q.ok) {s : St} : ACalls Try.prog 15 [.sl .unk (b.map (PV.int .u8)), q.pv] s (fun r s' => r = .tuple [(takeF b q).1.pv, .int .i64 (takeF b q).2] ∧ s' = s) := by
  refine go Try.func15 (k := fun hwf H => ?_)
  have hor : ∃ z, ibits .or .i64 q.fn 128 = z := ⟨_, rfl⟩
  obtain ⟨o, ho⟩ := hor
  have H := aj ho H
  refine rs (k := rg [0, 3, 4] (k := rs (k := rs (k := rg [0, 3, 4, 12] (k := rc (ht := fun hc0 => ?_) (hf := fun hc0 => ?_))))))
  refine jO 1 ?_; rotate_left
  refine rk (k := rs (k := ?_))
  have hlt : 0 < b.length := by simp at hc0; cases b with | nil => exact absurd rfl hc0 | cons _ _ => simp
  obtain ⟨x, hx⟩ : ∃ x, b[0]? = some x := ⟨b[0], List.getElem?_eq_getElem hlt⟩
  have hxx : (b.map (PV.int .u8))[0]? = some (.int .u8 x) := by rw [List.getElem?_map, hx]; rfl
  have hlT : (0 < b.length) = True := eq_true hlt
  have hx8 : U8 x := hb x (List.mem_of_getElem? hx)
  have hxw : IntKind.i64.wrap x = x := wrap_i64 (by unfold U8 at hx8; omega)
  have hg0 : (b[0]?).getD 0 = x := by rw [hx]; rfl
  have ha127 : ibits .and .i64 x 127 = x % 128 := ibits_and127 x
  have h00 : ¬ b = [] := by intro h; rw [h] at hlt; cases hlt
  have H := aj hxx (aj hlT (aj hxw (aj ha127 H)))
  refine rg [0, 3, 4, 6] (k := rs (k := rs (k := rg [0, 3, 4, 6, 38] (k := rc (ht := fun hc1 => ?_) (hf := fun hc1 => ?_)))))
  refine jO 1 ?_; rotate_left
  refine rk (k := rs (k := ?_))
  obtain ⟨T, hT⟩ : ∃ T, T = tookF b q := ⟨_, rfl⟩
  have hTo : T.ok := by rw [hT]; exact tookF_ok hb (by omega) q
  refine rg [0, 3, 4, 6, 7] (k := rs (k := rs (k := rg [0, 3, 4, 6, 7, 43] (k := ?_))))
  refine Run.join (fun e s' => ∃ kb kv kd : SK, e = [(0, .sl .unk (b.map (PV.int .u8))), (3, .ptr s.nxt 0 0), (4, .ptr (s.nxt + 1) 0 0), (6, .int .i64 x), (7, .ptr (s.nxt + 2) 0 0)] ∧ s'.blk s.nxt = some (.row 33 [.agg [.int .i64 q.fn, .int .i64 q.at_, .int .i64 q.count, .int .i64 q.wat, .int .i64 q.sub, .sl .unk (q.bits.map PV.bool), .sl .unk (q.vals.map (PV.int .u16)), .int .u16 q.and_, .int .u16 q.or_]]) ∧ s'.blk (s.nxt + 1) = some (.row 30 [.agg [.int .i64 0, .int .i64 0, .int .i64 0, .int .i64 0, .int .i64 0, .sl .nil [], .sl .nil [], .int .u16 0, .int .u16 0, .sl .nil []]]) ∧ s'.blk (s.nxt + 2) = some (.row 30 [.agg [.int .i64 T.fn, .int .i64 T.code, .int .i64 T.at_, .int .i64 T.count, .int .i64 T.sub, .sl kb (T.bits.map PV.bool), .sl kv (T.vals.map (PV.int .u16)), .int .u16 T.and_, .int .u16 T.or_, .sl kd (T.data.map (PV.int .u8))]]) ∧ (∀ i, i < s.nxt → s'.blk i = s.blk i)) ?_ ?_
  rintro e s2 ⟨kb, kv, kd, rfl, r0, r1, r2, hfr⟩
  have H := aj r0 (aj r1 (aj r2 H))
  refine rs (k := rs (k := ?_))
  have hst : ((strB (layF T)).toList == (strB b).toList) = decide (layF T = b) ∨ ¬ goodF T = 0 := by
    by_cases hg : goodF T = 0
    · exact .inl (strB_beq (layF_ok hTo hg) hb)
    · exact .inr hg
  refine Run.drawC [] [4, 7, 165] Try.mixed (by kernel_rfl) ?_
  refine DetC.pre (pre := [_]) au ?_
  refine DetC.call au au au (by kernel_rfl) (ref3_Good hTo) ?_
  refine DetC.pre (pre := [_, _]) au ?_
  rcases hd3 : (!decide (goodF T = 0)) with _ | _
  have H := aj hd3 H
  have hst2 : ((strB (layF T)).toList == (strB b).toList) = decide (layF T = b) := hst.resolve_right (by simpa using hd3)
  have H := aj hst2 H
  refine DetC.gdo au au ?_
  refine DetC.call au au au (by kernel_rfl) (ref3_lay hTo (by simpa using hd3)) ?_
  refine DetC.gdo au au ?_
  refine DetC.gdo au au ?_
  refine DetC.gdo au au ?_
  refine DetC.gdo au au ?_
  refine jO 2 ?_; rotate_left
  have H := aj hd3 H
  refine DetC.gskip' au ?_
  refine DetC.gskip' au ?_
  refine DetC.gskip' au ?_
  refine DetC.gskip' au ?_
  refine DetC.gskip' au ?_
  refine DetC.gskip' au ?_
  refine jO 2 ?_; rotate_left
  intro hJc2
  refine rc (ht := fun hc2 => ?_) (hf := fun hc2 => ?_)
  · refine rs (k := rg [0, 3, 4, 6, 7] (k := rs (k := rg [0, 3, 4, 6, 7, 49] (k := rc (ht := fun hc3 => ?_) (hf := fun hc3 => ?_)))))
    · have hl1 : 1 < b.length := by have := of_decide_eq_true hc3; omega
      obtain ⟨y, hy⟩ : ∃ y, b[1]? = some y := ⟨b[1], List.getElem?_eq_getElem hl1⟩
      have hyy : (b.map (PV.int .u8))[Int.toNat 1]? = some (.int .u8 y) := by show (b.map (PV.int .u8))[1]? = _; rw [List.getElem?_map, hy]; rfl
      have hlT1 : ((1 : Int) < (b.length : Int)) = True := eq_true (by omega)
      have hy8 : U8 y := hb y (List.mem_of_getElem? hy)
      have hyw : IntKind.i64.wrap y = y := wrap_i64 (by unfold U8 at hy8; omega)
      have hy0 : (b[1]?).getD 0 = y := by rw [hy]; rfl
      have H := aj hyy (aj hlT1 (aj hyw H))
      refine rg [0, 3, 4, 6, 7] (k := rp [0, 3, 4, 6, 7] (k := ?_))
      refine hJc2 _ _ ⟨.nil, .nil, .nil, rfl, by simp (disch := first | omega | (simp only [nxt_set, nxt_new] <;> omega) | fail) only [go_sem] <;> rfl, by simp (disch := first | omega | (simp only [nxt_set, nxt_new] <;> omega) | fail) only [go_sem] <;> rfl, ?_, fun i hi => by have h0 := ltn hi; have h1 := lte hi; simp (disch := first | omega | (simp only [nxt_set, nxt_new] <;> omega) | fail) only [go_sem, Nat.add_assoc, Nat.reduceAdd, ↓reduceIte, h0, h1]⟩
      simp (disch := first | omega | (simp only [nxt_set, nxt_new] <;> omega) | fail) only [go_sem]
      simp only [decide_eq_true_eq, decide_eq_false_iff_not] at *
      have hTe : T = ⟨x % 128, if 1 < b.length then (b[1]?).getD 0 else 0, 0, 0, 0, [], [], 0, 0, []⟩ := by
        rw [hT]
        unfold tookF
        simp only [hg0]
        rw [if_pos (by omega)]
      rw [hTe]
      simp only [if_pos (show 1 < b.length by omega)]
      rw [hy0]
      rfl
    · refine rk (k := rp [0, 3, 4, 6, 7] (k := ?_))
      refine hJc2 _ _ ⟨.nil, .nil, .nil, rfl, by simp (disch := first | omega | (simp only [nxt_set, nxt_new] <;> omega) | fail) only [go_sem] <;> rfl, by simp (disch := first | omega | (simp only [nxt_set, nxt_new] <;> omega) | fail) only [go_sem] <;> rfl, ?_, fun i hi => by have h0 := ltn hi; have h1 := lte hi; simp (disch := first | omega | (simp only [nxt_set, nxt_new] <;> omega) | fail) only [go_sem, Nat.add_assoc, Nat.reduceAdd, ↓reduceIte, h0, h1]⟩
      simp (disch := first | omega | (simp only [nxt_set, nxt_new] <;> omega) | fail) only [go_sem]
      simp only [decide_eq_true_eq, decide_eq_false_iff_not] at *
      have hTe : T = ⟨x % 128, if 1 < b.length then (b[1]?).getD 0 else 0, 0, 0, 0, [], [], 0, 0, []⟩ := by
        rw [hT]
        unfold tookF
        simp only [hg0]
        rw [if_pos (by omega)]
      rw [hTe]
      simp only [if_neg (show ¬ 1 < b.length by omega)]
      rfl
  refine rs (k := rr (k := ro (pre := [_]) (k := rC (h := ref3_has) (k := rh [0, 3, 4, 6, 7, 8] (k := rs (k := rs (k := rr (k := ro (pre := [_]) (k := rC (h := ref3_in (okB_hasS x) (len_hasS x)) (k := rl [0, 3, 4, 6, 7, 58] (k := rc (ht := fun hc4 => ?_) (hf := fun hc4 => ?_))))))))))))
  refine rr (k := ro (pre := [_]) (k := rC (h := ref3_num (b := b) hb (by omega) (i := 1) (by omega)) (k := rh [0, 3, 4, 6, 7] (k := rs (k := rg [0, 3, 4, 6, 7, 62] (k := rb (k := rs (k := rs (k := rg [0, 3, 4, 6, 7, 62, 80] (k := rc (ht := fun hc5 => ?_) (hf := fun hc5 => ?_)))))))))))
  refine rk (k := rc (ht := fun hc6 => ?_) (hf := fun hc6 => ?_))
  refine jO 3 ?_; rotate_left
  · exact Bool.noConfusion (hc5.symm.trans hc6)
  refine rg [0, 3, 4, 6, 7, 62, 80] (k := rc (ht := fun hc6 => ?_) (hf := fun hc6 => ?_))
  refine jO 3 ?_; rotate_left
  refine rs (k := rs (k := rg [0, 3, 4, 6, 7, 62, 95] (k := rc (ht := fun hc8 => ?_) (hf := fun hc8 => ?_))))
  refine rk (k := rc (ht := fun hc10 => ?_) (hf := fun hc10 => ?_))
  refine jO 4 ?_; rotate_left
  · exact Bool.noConfusion (hc8.symm.trans hc10)
  refine rs (k := rg [0, 3, 4, 6, 7, 62, 95] (k := rc (ht := fun hc9 => ?_) (hf := fun hc9 => ?_)))
  refine rk (k := rc (ht := fun hc10 => ?_) (hf := fun hc10 => ?_))
  refine jO 4 ?_; rotate_left
  · exact Bool.noConfusion (hc9.symm.trans hc10)
  refine rg [0, 3, 4, 6, 7, 62, 95] (k := rc (ht := fun hc10 => ?_) (hf := fun hc10 => ?_))
  refine jO 4 ?_; rotate_left
  refine rs (k := rs (k := rg [0, 3, 4, 6, 7, 62, 102] (k := rc (ht := fun hc11 => ?_) (hf := fun hc11 => ?_))))
  refine rk (k := rc (ht := fun hc12 => ?_) (hf := fun hc12 => ?_))
  refine jO 5 ?_; rotate_left
  · exact Bool.noConfusion (hc11.symm.trans hc12)
  refine rg [0, 3, 4, 6, 7, 62, 102] (k := rc (ht := fun hc12 => ?_) (hf := fun hc12 => ?_))
  refine jO 5 ?_; rotate_left
  · refine rs (k := rg [0, 3, 4, 6, 7, 108] (k := rc (ht := fun hc13 => ?_) (hf := fun hc13 => ?_)))
    · refine rs (k := rg [0, 3, 4, 6, 7, 112] (k := rc (ht := fun hc14 => ?_) (hf := fun hc14 => ?_)))
      · have hlen : 1 < b.length := by have := of_decide_eq_true hc14; omega
        have hd1 : ((2 : Int) ≤ (b.length : Int)) = True := eq_true (by omega)
        have htk : ((b.length : Int) - 2).toNat = b.length - 2 := by omega
        have hlm : ((b.map (PV.int .u8)).drop (2 : Int).toNat).take (b.length - 2) = ((b.drop 2).map (PV.int .u8)) := by show ((b.map (PV.int .u8)).drop 2).take (b.length - 2) = _; rw [List.map_drop, List.take_of_length_le (by simp)]
        have hd2 : ((0 : Int) ≤ 2) = True := by decide
        have hd3 : ((2 : Int) = 0) = False := by decide
        have H := aj hd1 (aj htk (aj hlm (aj hd2 (aj hd3 H))))
        refine rr (k := rO (k := ro (pre := [_, _]) (k := ?_)))
        refine RunO.made au au au Try.td28 (by rw [Try.zp5]; rfl) (isEls_map (P := Try.prog) (e := 5) (f := PV.int .u8) (fun a => ⟨rfl, by rw [Try.cz5]; rfl⟩) _) (by rw [Try.by5]; decide) (by rw [Try.by5]; simp; try omega) (.inr rfl) ?_
        intro k1 s1 hm1
        have hmb := hm1.blk
        have H := aj hmb H
        refine rh [0, 3, 4, 6, 7] (k := rB (k := rp [0, 3, 4, 6, 7] (k := ?_)))
        refine hJc2 _ _ ⟨.nil, .nil, k1, rfl, by simp (disch := first | omega | (simp only [nxt_set, nxt_new] <;> omega) | fail) only [hmb, go_sem] <;> rfl, by simp (disch := first | omega | (simp only [nxt_set, nxt_new] <;> omega) | fail) only [hmb, go_sem] <;> rfl, ?_, fun i hi => by have h0 := ltn hi; have h1 := lte hi; simp (disch := first | omega | (simp only [nxt_set, nxt_new] <;> omega) | fail) only [hmb, go_sem, Nat.add_assoc, Nat.reduceAdd, ↓reduceIte, h0, h1]⟩
        simp (disch := first | omega | (simp only [nxt_set, nxt_new] <;> omega) | fail) only [hmb, go_sem]
        simp only [decide_eq_true_eq, decide_eq_false_iff_not] at *
        have hTe : T = ⟨x, 0, if 97 ∈ hasS x then num1 b 1 else 0, 0, 0, [], [], 0, 0, if 1 < b.length then b.drop 2 else []⟩ := by
          rw [hT]
          unfold tookF
          simp only [hg0]
          rw [if_neg (by omega), if_neg (by omega), if_neg (by omega), if_neg (by omega), if_pos (by omega)]
        rw [hTe]
        simp only [if_pos hc4]
        simp only [if_pos (show 1 < b.length by omega)]
        rfl
      · refine rk (k := rB (k := rp [0, 3, 4, 6, 7] (k := ?_)))
        refine hJc2 _ _ ⟨.nil, .nil, .nil, rfl, by simp (disch := first | omega | (simp only [nxt_set, nxt_new] <;> omega) | fail) only [go_sem] <;> rfl, by simp (disch := first | omega | (simp only [nxt_set, nxt_new] <;> omega) | fail) only [go_sem] <;> rfl, ?_, fun i hi => by have h0 := ltn hi; have h1 := lte hi; simp (disch := first | omega | (simp only [nxt_set, nxt_new] <;> omega) | fail) only [go_sem, Nat.add_assoc, Nat.reduceAdd, ↓reduceIte, h0, h1]⟩
        simp (disch := first | omega | (simp only [nxt_set, nxt_new] <;> omega) | fail) only [go_sem]
        simp only [decide_eq_true_eq, decide_eq_false_iff_not] at *
        have hTe : T = ⟨x, 0, if 97 ∈ hasS x then num1 b 1 else 0, 0, 0, [], [], 0, 0, if 1 < b.length then b.drop 2 else []⟩ := by
          rw [hT]
          unfold tookF
          simp only [hg0]
          rw [if_neg (by omega), if_neg (by omega), if_neg (by omega), if_neg (by omega), if_pos (by omega)]
        rw [hTe]
        simp only [if_pos hc4]
        simp only [if_neg (show ¬ 1 < b.length by omega)]
        rfl
    · refine rs (k := rr (k := ro (pre := [_]) (k := rC (h := ref3_guess hb (by omega) hx) (k := rh [0, 3, 4, 6, 7, 9] (k := ?_)))))
      refine Run.genS fun S hS => ?_
      have g0 : S.blk s.nxt = some (.row 33 [.agg [.int .i64 q.fn, .int .i64 q.at_, .int .i64 q.count, .int .i64 q.wat, .int .i64 q.sub, .sl .unk (q.bits.map PV.bool), .sl .unk (q.vals.map (PV.int .u16)), .int .u16 q.and_, .int .u16 q.or_]]) := by rw [hS]; simp (disch := first | omega | (simp only [nxt_set, nxt_new] <;> omega) | fail) only [go_sem] <;> rfl
      have g1 : S.blk (s.nxt + 1) = some (.row 30 [.agg [.int .i64 0, .int .i64 0, .int .i64 0, .int .i64 0, .int .i64 0, .sl .nil [], .sl .nil [], .int .u16 0, .int .u16 0, .sl .nil []]]) := by rw [hS]; simp (disch := first | omega | (simp only [nxt_set, nxt_new] <;> omega) | fail) only [go_sem] <;> rfl
      have g2 : S.blk (s.nxt + 1 + 1) = some (.row 30 [.agg [.int .i64 x, .int .i64 0, .int .i64 (num1 b 1), .int .i64 0, .int .i64 0, .sl .nil [], .sl .nil [], .int .u16 0, .int .u16 0, .sl .nil []]]) := by rw [hS]; simp (disch := first | omega | (simp only [nxt_set, nxt_new] <;> omega) | fail) only [go_sem] <;> rfl
      have g3 : S.blk (s.nxt + 1 + 1 + 1) = some (.row 33 [.agg [.int .i64 (guessR b).fn, .int .i64 (guessR b).at_, .int .i64 (guessR b).count, .int .i64 (guessR b).wat, .int .i64 (guessR b).sub, .sl .unk ((guessR b).bits.map PV.bool), .sl .unk ((guessR b).vals.map (PV.int .u16)), .int .u16 (guessR b).and_, .int .u16 (guessR b).or_]]) := by rw [hS]; simp (disch := first | omega | (simp only [nxt_set, nxt_new] <;> omega) | fail) only [go_sem] <;> rfl
      have gf : ∀ i, i < s.nxt → S.blk i = s.blk i := by
        intro i hi
        rw [hS]
        have h0 := ltn hi; have h1 := lte hi
        simp (disch := first | omega | (simp only [nxt_set, nxt_new] <;> omega) | fail) only [go_sem, Nat.add_assoc, Nat.reduceAdd, ↓reduceIte, h0, h1]
      clear hS
      have H := aj g0 (aj g1 (aj g2 (aj g3 (aj gf H))))
      refine Run.drawM 20 [11, 13, 15, 17, 19] [S, (S.set (s.nxt + 1 + 1) (some (.row 30 [.agg [.int .i64 x, .int .i64 0, .int .i64 (num1 b 1), .int .i64 0, .int .i64 (guessR b).sub, .sl .nil [], .sl .nil [], .int .u16 0, .int .u16 0, .sl .nil []]]))), (S.set (s.nxt + 1 + 1) (some (.row 30 [.agg [.int .i64 x, .int .i64 0, .int .i64 (num1 b 1), .int .i64 0, .int .i64 (guessR b).sub, .sl .unk ((guessR b).bits.map PV.bool), .sl .nil [], .int .u16 0, .int .u16 0, .sl .nil []]]))), (S.set (s.nxt + 1 + 1) (some (.row 30 [.agg [.int .i64 x, .int .i64 0, .int .i64 (num1 b 1), .int .i64 0, .int .i64 (guessR b).sub, .sl .unk ((guessR b).bits.map PV.bool), .sl .unk ((guessR b).vals.map (PV.int .u16)), .int .u16 0, .int .u16 0, .sl .nil []]]))), (S.set (s.nxt + 1 + 1) (some (.row 30 [.agg [.int .i64 x, .int .i64 0, .int .i64 (num1 b 1), .int .i64 0, .int .i64 (guessR b).sub, .sl .unk ((guessR b).bits.map PV.bool), .sl .unk ((guessR b).vals.map (PV.int .u16)), .int .u16 (guessR b).and_, .int .u16 0, .sl .nil []]]))), (S.set (s.nxt + 1 + 1) (some (.row 30 [.agg [.int .i64 x, .int .i64 0, .int .i64 (num1 b 1), .int .i64 0, .int .i64 (guessR b).sub, .sl .unk ((guessR b).bits.map PV.bool), .sl .unk ((guessR b).vals.map (PV.int .u16)), .int .u16 (guessR b).and_, .int .u16 (guessR b).or_, .sl .nil []]])))] Try.mixed (by kernel_rfl) (by kernel_rfl) ?_
      refine DetBC.pre (pre := [_, _, _, _, _, _, _, _, _, _, _]) (by decide) List.mem_cons_self au ?_
      refine DetBC.eff (by decide) List.mem_cons_self au au ?_
      refine DetBC.pre (pre := [_]) (by decide) (List.mem_cons_of_mem _ List.mem_cons_self) au ?_
      refine DetBC.eff (by decide) (List.mem_cons_of_mem _ List.mem_cons_self) au au ?_
      refine DetBC.pre (pre := [_]) (by decide) (List.mem_cons_of_mem _ (List.mem_cons_of_mem _ List.mem_cons_self)) au ?_
      refine DetBC.eff (by decide) (List.mem_cons_of_mem _ (List.mem_cons_of_mem _ List.mem_cons_self)) au au ?_
      refine DetBC.pre (pre := [_]) (by decide) (List.mem_cons_of_mem _ (List.mem_cons_of_mem _ (List.mem_cons_of_mem _ List.mem_cons_self))) au ?_
      refine DetBC.eff (by decide) (List.mem_cons_of_mem _ (List.mem_cons_of_mem _ (List.mem_cons_of_mem _ List.mem_cons_self))) au au ?_
      refine DetBC.pre (pre := [_]) (by decide) (List.mem_cons_of_mem _ (List.mem_cons_of_mem _ (List.mem_cons_of_mem _ (List.mem_cons_of_mem _ List.mem_cons_self)))) au ?_
      refine DetBC.eff (by decide) (List.mem_cons_of_mem _ (List.mem_cons_of_mem _ (List.mem_cons_of_mem _ (List.mem_cons_of_mem _ List.mem_cons_self)))) au au ?_
      refine DetBC.nil (List.mem_cons_of_mem _ (List.mem_cons_of_mem _ (List.mem_cons_of_mem _ (List.mem_cons_of_mem _ (List.mem_cons_of_mem _ List.mem_cons_self))))) ?_
      refine rl [0, 3, 4, 6, 7] (k := rB (k := rp [0, 3, 4, 6, 7] (k := ?_)))
      refine hJc2 _ _ ⟨.unk, .unk, .nil, rfl, by simp (disch := first | omega | (simp only [nxt_set, nxt_new] <;> omega) | fail) only [g0, g1, g2, g3, gf, go_sem] <;> rfl, by simp (disch := first | omega | (simp only [nxt_set, nxt_new] <;> omega) | fail) only [g0, g1, g2, g3, gf, go_sem] <;> rfl, ?_, fun i hi => by have h0 := ltn hi; have h1 := lte hi; simp (disch := first | omega | (simp only [nxt_set, nxt_new] <;> omega) | fail) only [g0, g1, g2, g3, gf, go_sem, Nat.add_assoc, Nat.reduceAdd, ↓reduceIte, h0, h1]⟩
      simp (disch := first | omega | (simp only [nxt_set, nxt_new] <;> omega) | fail) only [g0, g1, g2, g3, gf, go_sem]
      simp only [decide_eq_true_eq, decide_eq_false_iff_not] at *
      have hTe : T = ⟨x, 0, if 97 ∈ hasS x then num1 b 1 else 0, 0, (guessR b).sub, (guessR b).bits, (guessR b).vals, (guessR b).and_, (guessR b).or_, []⟩ := by
        rw [hT]
        unfold tookF
        simp only [hg0]
        rw [if_neg (by omega), if_neg (by omega), if_neg (by omega), if_neg (by omega), if_neg (by omega)]
      rw [hTe]
      simp only [if_pos hc4]
      rfl
  refine rk (k := rs (k := rg [0, 3, 4, 6, 7, 62] (k := rb (k := rs (k := rs (k := rg [0, 3, 4, 6, 7, 62, 80] (k := rc (ht := fun hc5 => ?_) (hf := fun hc5 => ?_))))))))
  refine rk (k := rc (ht := fun hc6 => ?_) (hf := fun hc6 => ?_))
  refine jO 6 ?_; rotate_left
  · exact Bool.noConfusion (hc5.symm.trans hc6)
  refine rg [0, 3, 4, 6, 7, 62, 80] (k := rc (ht := fun hc6 => ?_) (hf := fun hc6 => ?_))
  refine jO 6 ?_; rotate_left
  refine rs (k := rs (k := rg [0, 3, 4, 6, 7, 62, 95] (k := rc (ht := fun hc8 => ?_) (hf := fun hc8 => ?_))))
  refine rk (k := rc (ht := fun hc10 => ?_) (hf := fun hc10 => ?_))
  refine jO 7 ?_; rotate_left
  · exact Bool.noConfusion (hc8.symm.trans hc10)
  refine rs (k := rg [0, 3, 4, 6, 7, 62, 95] (k := rc (ht := fun hc9 => ?_) (hf := fun hc9 => ?_)))
  refine rk (k := rc (ht := fun hc10 => ?_) (hf := fun hc10 => ?_))
  refine jO 7 ?_; rotate_left
  · exact Bool.noConfusion (hc9.symm.trans hc10)
  refine rg [0, 3, 4, 6, 7, 62, 95] (k := rc (ht := fun hc10 => ?_) (hf := fun hc10 => ?_))
  refine jO 7 ?_; rotate_left
  refine rs (k := rs (k := rg [0, 3, 4, 6, 7, 62, 102] (k := rc (ht := fun hc11 => ?_) (hf := fun hc11 => ?_))))
  refine rk (k := rc (ht := fun hc12 => ?_) (hf := fun hc12 => ?_))
  refine jO 8 ?_; rotate_left
  · exact Bool.noConfusion (hc11.symm.trans hc12)
  refine rg [0, 3, 4, 6, 7, 62, 102] (k := rc (ht := fun hc12 => ?_) (hf := fun hc12 => ?_))
  refine jO 8 ?_; rotate_left
  · refine rs (k := rg [0, 3, 4, 6, 7, 108] (k := rc (ht := fun hc13 => ?_) (hf := fun hc13 => ?_)))
    · refine rs (k := rg [0, 3, 4, 6, 7, 112] (k := rc (ht := fun hc14 => ?_) (hf := fun hc14 => ?_)))
      · have hlen : 1 < b.length := by have := of_decide_eq_true hc14; omega
        have hd1 : ((2 : Int) ≤ (b.length : Int)) = True := eq_true (by omega)
        have htk : ((b.length : Int) - 2).toNat = b.length - 2 := by omega
        have hlm : ((b.map (PV.int .u8)).drop (2 : Int).toNat).take (b.length - 2) = ((b.drop 2).map (PV.int .u8)) := by show ((b.map (PV.int .u8)).drop 2).take (b.length - 2) = _; rw [List.map_drop, List.take_of_length_le (by simp)]
        have hd2 : ((0 : Int) ≤ 2) = True := by decide
        have hd3 : ((2 : Int) = 0) = False := by decide
        have H := aj hd1 (aj htk (aj hlm (aj hd2 (aj hd3 H))))
        refine rr (k := rO (k := ro (pre := [_, _]) (k := ?_)))
        refine RunO.made au au au Try.td28 (by rw [Try.zp5]; rfl) (isEls_map (P := Try.prog) (e := 5) (f := PV.int .u8) (fun a => ⟨rfl, by rw [Try.cz5]; rfl⟩) _) (by rw [Try.by5]; decide) (by rw [Try.by5]; simp; try omega) (.inr rfl) ?_
        intro k1 s1 hm1
        have hmb := hm1.blk
        have H := aj hmb H
        refine rh [0, 3, 4, 6, 7] (k := rB (k := rp [0, 3, 4, 6, 7] (k := ?_)))
        refine hJc2 _ _ ⟨.nil, .nil, k1, rfl, by simp (disch := first | omega | (simp only [nxt_set, nxt_new] <;> omega) | fail) only [hmb, go_sem] <;> rfl, by simp (disch := first | omega | (simp only [nxt_set, nxt_new] <;> omega) | fail) only [hmb, go_sem] <;> rfl, ?_, fun i hi => by have h0 := ltn hi; have h1 := lte hi; simp (disch := first | omega | (simp only [nxt_set, nxt_new] <;> omega) | fail) only [hmb, go_sem, Nat.add_assoc, Nat.reduceAdd, ↓reduceIte, h0, h1]⟩
        simp (disch := first | omega | (simp only [nxt_set, nxt_new] <;> omega) | fail) only [hmb, go_sem]
        simp only [decide_eq_true_eq, decide_eq_false_iff_not] at *
        have hTe : T = ⟨x, 0, if 97 ∈ hasS x then num1 b 1 else 0, 0, 0, [], [], 0, 0, if 1 < b.length then b.drop 2 else []⟩ := by
          rw [hT]
          unfold tookF
          simp only [hg0]
          rw [if_neg (by omega), if_neg (by omega), if_neg (by omega), if_neg (by omega), if_pos (by omega)]
        rw [hTe]
        simp only [if_neg hc4]
        simp only [if_pos (show 1 < b.length by omega)]
        rfl
      · refine rk (k := rB (k := rp [0, 3, 4, 6, 7] (k := ?_)))
        refine hJc2 _ _ ⟨.nil, .nil, .nil, rfl, by simp (disch := first | omega | (simp only [nxt_set, nxt_new] <;> omega) | fail) only [go_sem] <;> rfl, by simp (disch := first | omega | (simp only [nxt_set, nxt_new] <;> omega) | fail) only [go_sem] <;> rfl, ?_, fun i hi => by have h0 := ltn hi; have h1 := lte hi; simp (disch := first | omega | (simp only [nxt_set, nxt_new] <;> omega) | fail) only [go_sem, Nat.add_assoc, Nat.reduceAdd, ↓reduceIte, h0, h1]⟩
        simp (disch := first | omega | (simp only [nxt_set, nxt_new] <;> omega) | fail) only [go_sem]
        simp only [decide_eq_true_eq, decide_eq_false_iff_not] at *
        have hTe : T = ⟨x, 0, if 97 ∈ hasS x then num1 b 1 else 0, 0, 0, [], [], 0, 0, if 1 < b.length then b.drop 2 else []⟩ := by
          rw [hT]
          unfold tookF
          simp only [hg0]
          rw [if_neg (by omega), if_neg (by omega), if_neg (by omega), if_neg (by omega), if_pos (by omega)]
        rw [hTe]
        simp only [if_neg hc4]
        simp only [if_neg (show ¬ 1 < b.length by omega)]
        rfl
    · refine rs (k := rr (k := ro (pre := [_]) (k := rC (h := ref3_guess hb (by omega) hx) (k := rh [0, 3, 4, 6, 7, 9] (k := ?_)))))
      refine Run.genS fun S hS => ?_
      have g0 : S.blk s.nxt = some (.row 33 [.agg [.int .i64 q.fn, .int .i64 q.at_, .int .i64 q.count, .int .i64 q.wat, .int .i64 q.sub, .sl .unk (q.bits.map PV.bool), .sl .unk (q.vals.map (PV.int .u16)), .int .u16 q.and_, .int .u16 q.or_]]) := by rw [hS]; simp (disch := first | omega | (simp only [nxt_set, nxt_new] <;> omega) | fail) only [go_sem] <;> rfl
      have g1 : S.blk (s.nxt + 1) = some (.row 30 [.agg [.int .i64 0, .int .i64 0, .int .i64 0, .int .i64 0, .int .i64 0, .sl .nil [], .sl .nil [], .int .u16 0, .int .u16 0, .sl .nil []]]) := by rw [hS]; simp (disch := first | omega | (simp only [nxt_set, nxt_new] <;> omega) | fail) only [go_sem] <;> rfl
      have g2 : S.blk (s.nxt + 1 + 1) = some (.row 30 [.agg [.int .i64 x, .int .i64 0, .int .i64 0, .int .i64 0, .int .i64 0, .sl .nil [], .sl .nil [], .int .u16 0, .int .u16 0, .sl .nil []]]) := by rw [hS]; simp (disch := first | omega | (simp only [nxt_set, nxt_new] <;> omega) | fail) only [go_sem] <;> rfl
      have g3 : S.blk (s.nxt + 1 + 1 + 1) = some (.row 33 [.agg [.int .i64 (guessR b).fn, .int .i64 (guessR b).at_, .int .i64 (guessR b).count, .int .i64 (guessR b).wat, .int .i64 (guessR b).sub, .sl .unk ((guessR b).bits.map PV.bool), .sl .unk ((guessR b).vals.map (PV.int .u16)), .int .u16 (guessR b).and_, .int .u16 (guessR b).or_]]) := by rw [hS]; simp (disch := first | omega | (simp only [nxt_set, nxt_new] <;> omega) | fail) only [go_sem] <;> rfl
      have gf : ∀ i, i < s.nxt → S.blk i = s.blk i := by
        intro i hi
        rw [hS]
        have h0 := ltn hi; have h1 := lte hi
        simp (disch := first | omega | (simp only [nxt_set, nxt_new] <;> omega) | fail) only [go_sem, Nat.add_assoc, Nat.reduceAdd, ↓reduceIte, h0, h1]
      clear hS
      have H := aj g0 (aj g1 (aj g2 (aj g3 (aj gf H))))
      refine Run.drawM 20 [11, 13, 15, 17, 19] [S, (S.set (s.nxt + 1 + 1) (some (.row 30 [.agg [.int .i64 x, .int .i64 0, .int .i64 0, .int .i64 0, .int .i64 (guessR b).sub, .sl .nil [], .sl .nil [], .int .u16 0, .int .u16 0, .sl .nil []]]))), (S.set (s.nxt + 1 + 1) (some (.row 30 [.agg [.int .i64 x, .int .i64 0, .int .i64 0, .int .i64 0, .int .i64 (guessR b).sub, .sl .unk ((guessR b).bits.map PV.bool), .sl .nil [], .int .u16 0, .int .u16 0, .sl .nil []]]))), (S.set (s.nxt + 1 + 1) (some (.row 30 [.agg [.int .i64 x, .int .i64 0, .int .i64 0, .int .i64 0, .int .i64 (guessR b).sub, .sl .unk ((guessR b).bits.map PV.bool), .sl .unk ((guessR b).vals.map (PV.int .u16)), .int .u16 0, .int .u16 0, .sl .nil []]]))), (S.set (s.nxt + 1 + 1) (some (.row 30 [.agg [.int .i64 x, .int .i64 0, .int .i64 0, .int .i64 0, .int .i64 (guessR b).sub, .sl .unk ((guessR b).bits.map PV.bool), .sl .unk ((guessR b).vals.map (PV.int .u16)), .int .u16 (guessR b).and_, .int .u16 0, .sl .nil []]]))), (S.set (s.nxt + 1 + 1) (some (.row 30 [.agg [.int .i64 x, .int .i64 0, .int .i64 0, .int .i64 0, .int .i64 (guessR b).sub, .sl .unk ((guessR b).bits.map PV.bool), .sl .unk ((guessR b).vals.map (PV.int .u16)), .int .u16 (guessR b).and_, .int .u16 (guessR b).or_, .sl .nil []]])))] Try.mixed (by kernel_rfl) (by kernel_rfl) ?_
      refine DetBC.pre (pre := [_, _, _, _, _, _, _, _, _, _, _]) (by decide) List.mem_cons_self au ?_
      refine DetBC.eff (by decide) List.mem_cons_self au au ?_
      refine DetBC.pre (pre := [_]) (by decide) (List.mem_cons_of_mem _ List.mem_cons_self) au ?_
      refine DetBC.eff (by decide) (List.mem_cons_of_mem _ List.mem_cons_self) au au ?_
      refine DetBC.pre (pre := [_]) (by decide) (List.mem_cons_of_mem _ (List.mem_cons_of_mem _ List.mem_cons_self)) au ?_
      refine DetBC.eff (by decide) (List.mem_cons_of_mem _ (List.mem_cons_of_mem _ List.mem_cons_self)) au au ?_
      refine DetBC.pre (pre := [_]) (by decide) (List.mem_cons_of_mem _ (List.mem_cons_of_mem _ (List.mem_cons_of_mem _ List.mem_cons_self))) au ?_
      refine DetBC.eff (by decide) (List.mem_cons_of_mem _ (List.mem_cons_of_mem _ (List.mem_cons_of_mem _ List.mem_cons_self))) au au ?_
      refine DetBC.pre (pre := [_]) (by decide) (List.mem_cons_of_mem _ (List.mem_cons_of_mem _ (List.mem_cons_of_mem _ (List.mem_cons_of_mem _ List.mem_cons_self)))) au ?_
      refine DetBC.eff (by decide) (List.mem_cons_of_mem _ (List.mem_cons_of_mem _ (List.mem_cons_of_mem _ (List.mem_cons_of_mem _ List.mem_cons_self)))) au au ?_
      refine DetBC.nil (List.mem_cons_of_mem _ (List.mem_cons_of_mem _ (List.mem_cons_of_mem _ (List.mem_cons_of_mem _ (List.mem_cons_of_mem _ List.mem_cons_self))))) ?_
      refine rl [0, 3, 4, 6, 7] (k := rB (k := rp [0, 3, 4, 6, 7] (k := ?_)))
      refine hJc2 _ _ ⟨.unk, .unk, .nil, rfl, by simp (disch := first | omega | (simp only [nxt_set, nxt_new] <;> omega) | fail) only [g0, g1, g2, g3, gf, go_sem] <;> rfl, by simp (disch := first | omega | (simp only [nxt_set, nxt_new] <;> omega) | fail) only [g0, g1, g2, g3, gf, go_sem] <;> rfl, ?_, fun i hi => by have h0 := ltn hi; have h1 := lte hi; simp (disch := first | omega | (simp only [nxt_set, nxt_new] <;> omega) | fail) only [g0, g1, g2, g3, gf, go_sem, Nat.add_assoc, Nat.reduceAdd, ↓reduceIte, h0, h1]⟩
      simp (disch := first | omega | (simp only [nxt_set, nxt_new] <;> omega) | fail) only [g0, g1, g2, g3, gf, go_sem]
      simp only [decide_eq_true_eq, decide_eq_false_iff_not] at *
      have hTe : T = ⟨x, 0, if 97 ∈ hasS x then num1 b 1 else 0, 0, (guessR b).sub, (guessR b).bits, (guessR b).vals, (guessR b).and_, (guessR b).or_, []⟩ := by
        rw [hT]
        unfold tookF
        simp only [hg0]
        rw [if_neg (by omega), if_neg (by omega), if_neg (by omega), if_neg (by omega), if_neg (by omega)]
      rw [hTe]
      simp only [if_neg hc4]
      rfl
  any_goals
    refine jI 2 ?_
    refine DetC.all au ?_
    refine jO 9 ?_; rotate_left
  any_goals
    refine jI 9 ?_
    refine re (k := rc (ht := fun hc15 => ?_) (hf := fun hc15 => ?_))
    refine jO 1 ?_; rotate_left
    refine jO 10 ?_; rotate_left
  any_goals
    refine jI 3 ?_
    refine rs (k := rg [0, 3, 4, 6, 7, 85] (k := rc (ht := fun hc7 => ?_) (hf := fun hc7 => ?_)))
    refine jO 11 ?_; rotate_left
    refine jO 12 ?_; rotate_left
  any_goals
    refine jI 6 ?_
    refine rs (k := rg [0, 3, 4, 6, 7, 85] (k := rc (ht := fun hc7 => ?_) (hf := fun hc7 => ?_)))
    refine jO 13 ?_; rotate_left
    refine jO 14 ?_; rotate_left
  any_goals
    refine jI 10 ?_
    refine rk (k := rs (k := rg [4, 5] (k := rR (k := ?_))))
    refine jO 15 ?_; rotate_left
  any_goals
    refine jI 1 ?_
    refine rs (k := rg [4, 5] (k := rR (k := ?_)))
    refine jO 15 ?_; rotate_left
  any_goals
    refine jI 15 ?_
    refine Ret.pure (r' := .tuple [(takeF b q).1.pv, .int .i64 (takeF b q).2]) (by simp only [Try.f15, go_sem, ↓reduceIte] <;> rfl) ?_ (by simp only [PV.blw, PV.blws, and_true, true_and]; exact blw_rep _ _) hwf (fun i hi => by have h0 := ltn hi; have h1 := lte hi; first | (simp (disch := first | omega | (simp only [nxt_set, nxt_new] <;> omega) | fail) only [hfr i hi, go_sem, Nat.add_assoc, Nat.reduceAdd, ↓reduceIte, h0, h1]; done) | simp (disch := first | omega | (simp only [nxt_set, nxt_new] <;> omega) | fail) only [go_sem, Nat.add_assoc, Nat.reduceAdd, ↓reduceIte, h0, h1]) ⟨rfl, rfl⟩
    refine jO 16 ?_; rotate_left
  any_goals
    refine jI 11 ?_
    have hlen : 1 < b.length := by have := of_decide_eq_true hc7; omega
    refine jO 17 ?_; rotate_left
  any_goals
    refine jI 13 ?_
    have hlen : 1 < b.length := by have := of_decide_eq_true hc7; omega
    refine jO 18 ?_; rotate_left
  any_goals
    refine jI 17 ?_
    have hd1 : ((2 : Int) ≤ (b.length : Int)) = True := eq_true (by omega)
    refine jO 19 ?_; rotate_left
  any_goals
    refine jI 18 ?_
    have hd1 : ((2 : Int) ≤ (b.length : Int)) = True := eq_true (by omega)
    refine jO 20 ?_; rotate_left
  any_goals
    refine jI 19 ?_
    have htk : ((b.length : Int) - 2).toNat = b.length - 2 := by omega
    refine jO 21 ?_; rotate_left
  any_goals
    refine jI 20 ?_
    have htk : ((b.length : Int) - 2).toNat = b.length - 2 := by omega
    refine jO 22 ?_; rotate_left
  any_goals
    refine jI 21 ?_
    have hlm : ((b.map (PV.int .u8)).drop (2 : Int).toNat).take (b.length - 2) = ((b.drop 2).map (PV.int .u8)) := by show ((b.map (PV.int .u8)).drop 2).take (b.length - 2) = _; rw [List.map_drop, List.take_of_length_le (by simp)]
    refine jO 23 ?_; rotate_left
  any_goals
    refine jI 22 ?_
    have hlm : ((b.map (PV.int .u8)).drop (2 : Int).toNat).take (b.length - 2) = ((b.drop 2).map (PV.int .u8)) := by show ((b.map (PV.int .u8)).drop 2).take (b.length - 2) = _; rw [List.map_drop, List.take_of_length_le (by simp)]
    refine jO 24 ?_; rotate_left
  any_goals
    refine jI 23 ?_
    have hd2 : ((0 : Int) ≤ 2) = True := by decide
    refine jO 25 ?_; rotate_left
  any_goals
    refine jI 24 ?_
    have hd2 : ((0 : Int) ≤ 2) = True := by decide
    refine jO 26 ?_; rotate_left
  any_goals
    refine jI 16 ?_
    simp only [PV.weak, PV.weaks, weaks_u16, weaks_bools, weaks_u8]
    refine jO 27 ?_; rotate_left
  any_goals
    refine jI 25 ?_
    have hd3 : ((2 : Int) = 0) = False := by decide
    refine jO 28 ?_; rotate_left
  any_goals
    refine jI 26 ?_
    have hd3 : ((2 : Int) = 0) = False := by decide
    refine jO 29 ?_; rotate_left
  any_goals
    refine jI 28 ?_
    have H := aj hd1 (aj htk (aj hlm (aj hd2 (aj hd3 H))))
    refine jO 30 ?_; rotate_left
  any_goals
    refine jI 29 ?_
    have H := aj hd1 (aj htk (aj hlm (aj hd2 (aj hd3 H))))
    refine jO 31 ?_; rotate_left
  any_goals
    refine jI 27 ?_
    simp only [Bool.not_eq_true', Bool.not_eq_false', Bool.or_eq_true, Bool.or_eq_false_iff, Bool.and_eq_true, Bool.and_eq_false_iff, decide_eq_true_eq, decide_eq_false_iff_not] at *
    refine jO 32 ?_; rotate_left
  any_goals
    refine jI 30 ?_
    refine Run.drawC [9] [0, 3, 4, 6, 7] Try.mixed (by kernel_rfl) ?_
    refine jO 33 ?_; rotate_left
  any_goals
    refine jI 31 ?_
    refine Run.drawC [9] [0, 3, 4, 6, 7] Try.mixed (by kernel_rfl) ?_
    refine jO 34 ?_; rotate_left
  any_goals
    refine jI 33 ?_
    refine DetC.pre (pre := [_, _, _, _]) au ?_
    refine jO 35 ?_; rotate_left
  any_goals
    refine jI 34 ?_
    refine DetC.pre (pre := [_, _, _, _]) au ?_
    refine jO 36 ?_; rotate_left
  any_goals
    refine jI 35 ?_
    refine DetC.call au au au (by kernel_rfl) (ref1_Open (b := b.drop 2) (hb.drop 2) (by simp; omega) hq.count (.inr (by simp; omega))) ?_
    refine jO 37 ?_; rotate_left
  any_goals
    refine jI 36 ?_
    refine DetC.call au au au (by kernel_rfl) (ref1_Open (b := b.drop 2) (hb.drop 2) (by simp; omega) hq.count (.inr (by simp; omega))) ?_
    refine jO 38 ?_; rotate_left
  any_goals
    refine jI 32 ?_
    first
      | (cases hc15; done)
      | (have h0 : b = [] := List.length_eq_zero_iff.1 (by omega)
         unfold takeF; simp only; rw [if_pos h0]; rfl)
      | (have hcc : ¬ x = q.fn ∧ ¬ x = o ∨ q.fn < 0 ∨ 255 < q.fn := by omega
         unfold takeF; simp only [hg0, ho]; rw [if_neg h00, if_pos hcc]; rfl)
      | (have hcc : ¬ (¬ x = q.fn ∧ ¬ x = o ∨ q.fn < 0 ∨ 255 < q.fn) := by omega
         have e : takeF b q = if ¬ goodF T = 0 ∨ ¬ layF T = b ∨ T.code = 0 ∧ (x ≤ 2 ∧ ¬ (T.bits.length : Int) = q.count ∨ (x = 3 ∨ x = 4 ∨ x = 23) ∧ ¬ (T.vals.length : Int) = q.count) then (zeroP, 12) else (T, 0) := by
           unfold takeF; simp only [hg0, ho]; rw [if_neg h00, if_neg hcc, ← hT]
         rw [e]
         clear e hcc
         first
         | (rw [if_pos]
            · rfl
            · rcases hc15 with h | h
              · exact .inr (.inl h)
              · refine .inr (.inr ⟨h.1, ?_⟩)
                have h2 := h.2
                clear H
                omega)
         | (rw [if_neg]
            · rfl
            · rintro (h | h | h)
              · exact h hd3
              · exact h hc15.1
              · obtain ⟨h1, h2⟩ := h
                rcases hc15.2 with h3 | h3
                · exact h3 h1
                · clear H
                  omega)
         | (rw [if_pos (.inl hd3)]; rfl))
  any_goals
    refine jI 37 ?_
    refine DetC.pre (pre := [_, _, _, _]) au ?_
    refine jO 39 ?_; rotate_left
  any_goals
    refine jI 38 ?_
    refine DetC.pre (pre := [_, _, _, _]) au ?_
    refine jO 40 ?_; rotate_left
  any_goals
    refine jI 39 ?_
    refine DetC.eff (by decide) au au ?_
    refine jO 41 ?_; rotate_left
  any_goals
    refine jI 40 ?_
    refine DetC.eff (by decide) au au ?_
    refine jO 42 ?_; rotate_left
  any_goals
    refine jI 5 ?_
    refine rr (k := ro (pre := [_]) (k := rC (h := ref3_num (b := b) hb (by omega) (i := 3) (by omega)) (k := rh [0, 3, 4, 6, 7] (k := rB (k := rp [0, 3, 4, 6, 7] (k := ?_))))))
    refine jO 43 ?_; rotate_left
  any_goals
    refine jI 8 ?_
    refine rr (k := ro (pre := [_]) (k := rC (h := ref3_num (b := b) hb (by omega) (i := 3) (by omega)) (k := rh [0, 3, 4, 6, 7] (k := rB (k := rp [0, 3, 4, 6, 7] (k := ?_))))))
    refine jO 44 ?_; rotate_left
  any_goals
    refine jI 4 ?_
    refine rr (k := ro (pre := [_]) (k := rC (h := ref3_words (b := b) hb (by omega) (n := 2) (by omega)) (k := rh [0, 3, 4, 6, 7] (k := rB (k := rp [0, 3, 4, 6, 7] (k := ?_))))))
    refine jO 45 ?_; rotate_left
  any_goals
    refine jI 7 ?_
    refine rr (k := ro (pre := [_]) (k := rC (h := ref3_words (b := b) hb (by omega) (n := 2) (by omega)) (k := rh [0, 3, 4, 6, 7] (k := rB (k := rp [0, 3, 4, 6, 7] (k := ?_))))))
    refine jO 46 ?_; rotate_left
  any_goals
    refine jI 41 ?_
    refine DetC.nil ?_
    refine jO 47 ?_; rotate_left
  any_goals
    refine jI 42 ?_
    refine DetC.nil ?_
    refine jO 48 ?_; rotate_left
  any_goals
    refine jI 12 ?_
    refine rk (k := rB (k := rp [0, 3, 4, 6, 7] (k := ?_)))
    refine jO 49 ?_; rotate_left
  any_goals
    refine jI 14 ?_
    refine rk (k := rB (k := rp [0, 3, 4, 6, 7] (k := ?_)))
    refine jO 50 ?_; rotate_left
  any_goals
    refine jI 47 ?_
    refine re (k := rB (k := rp [0, 3, 4, 6, 7] (k := ?_)))
    refine jO 51 ?_; rotate_left
  any_goals
    refine jI 48 ?_
    refine re (k := rB (k := rp [0, 3, 4, 6, 7] (k := ?_)))
    refine jO 52 ?_; rotate_left
  any_goals
    refine jI 49 ?_
    refine hJc2 _ _ ⟨.nil, .nil, .nil, rfl, by simp (disch := first | omega | (simp only [nxt_set, nxt_new] <;> omega) | fail) only [go_sem] <;> rfl, by simp (disch := first | omega | (simp only [nxt_set, nxt_new] <;> omega) | fail) only [go_sem] <;> rfl, ?_, fun i hi => by have h0 := ltn hi; have h1 := lte hi; simp (disch := first | omega | (simp only [nxt_set, nxt_new] <;> omega) | fail) only [go_sem, Nat.add_assoc, Nat.reduceAdd, ↓reduceIte, h0, h1]⟩
    refine jO 53 ?_; rotate_left
  any_goals
    refine jI 50 ?_
    refine hJc2 _ _ ⟨.nil, .nil, .nil, rfl, by simp (disch := first | omega | (simp only [nxt_set, nxt_new] <;> omega) | fail) only [go_sem] <;> rfl, by simp (disch := first | omega | (simp only [nxt_set, nxt_new] <;> omega) | fail) only [go_sem] <;> rfl, ?_, fun i hi => by have h0 := ltn hi; have h1 := lte hi; simp (disch := first | omega | (simp only [nxt_set, nxt_new] <;> omega) | fail) only [go_sem, Nat.add_assoc, Nat.reduceAdd, ↓reduceIte, h0, h1]⟩
    refine jO 54 ?_; rotate_left
  any_goals
    refine jI 51 ?_
    refine hJc2 _ _ ⟨.unk, .nil, .nil, rfl, by simp (disch := first | omega | (simp only [nxt_set, nxt_new] <;> omega) | fail) only [go_sem] <;> rfl, by simp (disch := first | omega | (simp only [nxt_set, nxt_new] <;> omega) | fail) only [go_sem] <;> rfl, ?_, fun i hi => by have h0 := ltn hi; have h1 := lte hi; simp (disch := first | omega | (simp only [nxt_set, nxt_new] <;> omega) | fail) only [go_sem, Nat.add_assoc, Nat.reduceAdd, ↓reduceIte, h0, h1]⟩
    refine jO 55 ?_; rotate_left
  any_goals
    refine jI 52 ?_
    refine hJc2 _ _ ⟨.unk, .nil, .nil, rfl, by simp (disch := first | omega | (simp only [nxt_set, nxt_new] <;> omega) | fail) only [go_sem] <;> rfl, by simp (disch := first | omega | (simp only [nxt_set, nxt_new] <;> omega) | fail) only [go_sem] <;> rfl, ?_, fun i hi => by have h0 := ltn hi; have h1 := lte hi; simp (disch := first | omega | (simp only [nxt_set, nxt_new] <;> omega) | fail) only [go_sem, Nat.add_assoc, Nat.reduceAdd, ↓reduceIte, h0, h1]⟩
    refine jO 56 ?_; rotate_left
  any_goals
    refine jI 43 ?_
    refine hJc2 _ _ ⟨.nil, .nil, .nil, rfl, by simp (disch := first | omega | (simp only [nxt_set, nxt_new] <;> omega) | fail) only [go_sem] <;> rfl, by simp (disch := first | omega | (simp only [nxt_set, nxt_new] <;> omega) | fail) only [go_sem] <;> rfl, ?_, fun i hi => by have h0 := ltn hi; have h1 := lte hi; simp (disch := first | omega | (simp only [nxt_set, nxt_new] <;> omega) | fail) only [go_sem, Nat.add_assoc, Nat.reduceAdd, ↓reduceIte, h0, h1]⟩
    refine jO 57 ?_; rotate_left
  any_goals
    refine jI 44 ?_
    refine hJc2 _ _ ⟨.nil, .nil, .nil, rfl, by simp (disch := first | omega | (simp only [nxt_set, nxt_new] <;> omega) | fail) only [go_sem] <;> rfl, by simp (disch := first | omega | (simp only [nxt_set, nxt_new] <;> omega) | fail) only [go_sem] <;> rfl, ?_, fun i hi => by have h0 := ltn hi; have h1 := lte hi; simp (disch := first | omega | (simp only [nxt_set, nxt_new] <;> omega) | fail) only [go_sem, Nat.add_assoc, Nat.reduceAdd, ↓reduceIte, h0, h1]⟩
    refine jO 58 ?_; rotate_left
  any_goals
    refine jI 45 ?_
    refine hJc2 _ _ ⟨.nil, .unk, .nil, rfl, by simp (disch := first | omega | (simp only [nxt_set, nxt_new] <;> omega) | fail) only [go_sem] <;> rfl, by simp (disch := first | omega | (simp only [nxt_set, nxt_new] <;> omega) | fail) only [go_sem] <;> rfl, ?_, fun i hi => by have h0 := ltn hi; have h1 := lte hi; simp (disch := first | omega | (simp only [nxt_set, nxt_new] <;> omega) | fail) only [go_sem, Nat.add_assoc, Nat.reduceAdd, ↓reduceIte, h0, h1]⟩
    refine jO 59 ?_; rotate_left
  any_goals
    refine jI 46 ?_
    refine hJc2 _ _ ⟨.nil, .unk, .nil, rfl, by simp (disch := first | omega | (simp only [nxt_set, nxt_new] <;> omega) | fail) only [go_sem] <;> rfl, by simp (disch := first | omega | (simp only [nxt_set, nxt_new] <;> omega) | fail) only [go_sem] <;> rfl, ?_, fun i hi => by have h0 := ltn hi; have h1 := lte hi; simp (disch := first | omega | (simp only [nxt_set, nxt_new] <;> omega) | fail) only [go_sem, Nat.add_assoc, Nat.reduceAdd, ↓reduceIte, h0, h1]⟩
    refine jO 60 ?_; rotate_left
  any_goals
    refine jI 53 ?_
    simp (disch := first | omega | (simp only [nxt_set, nxt_new] <;> omega) | fail) only [go_sem]
    refine jO 61 ?_; rotate_left
  any_goals
    refine jI 54 ?_
    simp (disch := first | omega | (simp only [nxt_set, nxt_new] <;> omega) | fail) only [go_sem]
    refine jO 62 ?_; rotate_left
  any_goals
    refine jI 55 ?_
    simp (disch := first | omega | (simp only [nxt_set, nxt_new] <;> omega) | fail) only [go_sem]
    refine jO 63 ?_; rotate_left
  any_goals
    refine jI 56 ?_
    simp (disch := first | omega | (simp only [nxt_set, nxt_new] <;> omega) | fail) only [go_sem]
    refine jO 64 ?_; rotate_left
  any_goals
    refine jI 57 ?_
    simp (disch := first | omega | (simp only [nxt_set, nxt_new] <;> omega) | fail) only [go_sem]
    refine jO 65 ?_; rotate_left
  any_goals
    refine jI 58 ?_
    simp (disch := first | omega | (simp only [nxt_set, nxt_new] <;> omega) | fail) only [go_sem]
    refine jO 66 ?_; rotate_left
  any_goals
    refine jI 59 ?_
    simp (disch := first | omega | (simp only [nxt_set, nxt_new] <;> omega) | fail) only [go_sem]
    refine jO 67 ?_; rotate_left
  any_goals
    refine jI 60 ?_
    simp (disch := first | omega | (simp only [nxt_set, nxt_new] <;> omega) | fail) only [go_sem]
    refine jO 68 ?_; rotate_left
  any_goals
    refine jI 61 ?_
    simp only [decide_eq_true_eq, decide_eq_false_iff_not] at *
    refine jO 69 ?_; rotate_left
  any_goals
    refine jI 62 ?_
    simp only [decide_eq_true_eq, decide_eq_false_iff_not] at *
    refine jO 70 ?_; rotate_left
  any_goals
    refine jI 63 ?_
    simp only [decide_eq_true_eq, decide_eq_false_iff_not] at *
    refine jO 71 ?_; rotate_left
  any_goals
    refine jI 64 ?_
    simp only [decide_eq_true_eq, decide_eq_false_iff_not] at *
    refine jO 72 ?_; rotate_left
  any_goals
    refine jI 69 ?_
    have hTe : T = ⟨x, 0, if 97 ∈ hasS x then num1 b 1 else 0, 0, 0, if 1 < b.length then (openN (b.drop 2) q.count).getD [] else [], [], 0, 0, []⟩ := by
      rw [hT]
      unfold tookF
      simp only [hg0]
      rw [if_neg (by omega), if_pos (by omega)]
    rw [hTe]
    simp only [if_pos hc4]
    simp only [if_neg (show ¬ 1 < b.length by omega)]
    rfl
  any_goals
    refine jI 70 ?_
    have hTe : T = ⟨x, 0, if 97 ∈ hasS x then num1 b 1 else 0, 0, 0, if 1 < b.length then (openN (b.drop 2) q.count).getD [] else [], [], 0, 0, []⟩ := by
      rw [hT]
      unfold tookF
      simp only [hg0]
      rw [if_neg (by omega), if_pos (by omega)]
    rw [hTe]
    simp only [if_neg hc4]
    simp only [if_neg (show ¬ 1 < b.length by omega)]
    rfl
  any_goals
    refine jI 71 ?_
    have hTe : T = ⟨x, 0, if 97 ∈ hasS x then num1 b 1 else 0, 0, 0, if 1 < b.length then (openN (b.drop 2) q.count).getD [] else [], [], 0, 0, []⟩ := by
      rw [hT]
      unfold tookF
      simp only [hg0]
      rw [if_neg (by omega), if_pos (by omega)]
    rw [hTe]
    simp only [if_pos hc4]
    simp only [if_pos (show 1 < b.length by omega)]
    rfl
  any_goals
    refine jI 72 ?_
    have hTe : T = ⟨x, 0, if 97 ∈ hasS x then num1 b 1 else 0, 0, 0, if 1 < b.length then (openN (b.drop 2) q.count).getD [] else [], [], 0, 0, []⟩ := by
      rw [hT]
      unfold tookF
      simp only [hg0]
      rw [if_neg (by omega), if_pos (by omega)]
    rw [hTe]
    simp only [if_neg hc4]
    simp only [if_pos (show 1 < b.length by omega)]
    rfl
  any_goals
    refine jI 65 ?_
    simp only [decide_eq_true_eq, decide_eq_false_iff_not] at *
    refine jO 73 ?_; rotate_left
  any_goals
    refine jI 66 ?_
    simp only [decide_eq_true_eq, decide_eq_false_iff_not] at *
    refine jO 74 ?_; rotate_left
  any_goals
    refine jI 67 ?_
    simp only [decide_eq_true_eq, decide_eq_false_iff_not] at *
    refine jO 75 ?_; rotate_left
  any_goals
    refine jI 68 ?_
    simp only [decide_eq_true_eq, decide_eq_false_iff_not] at *
    refine jO 76 ?_; rotate_left
  any_goals
    refine jI 73 ?_
    have hTe : T = ⟨x, 0, if 97 ∈ hasS x then num1 b 1 else 0, num1 b 3, 0, [], [], 0, 0, []⟩ := by
      rw [hT]
      unfold tookF
      simp only [hg0]
      rw [if_neg (by omega), if_neg (by omega), if_neg (by omega), if_pos (by omega)]
    rw [hTe]
    simp only [if_pos hc4]
    rfl
  any_goals
    refine jI 74 ?_
    have hTe : T = ⟨x, 0, if 97 ∈ hasS x then num1 b 1 else 0, num1 b 3, 0, [], [], 0, 0, []⟩ := by
      rw [hT]
      unfold tookF
      simp only [hg0]
      rw [if_neg (by omega), if_neg (by omega), if_neg (by omega), if_pos (by omega)]
    rw [hTe]
    simp only [if_neg hc4]
    rfl
  any_goals
    refine jI 75 ?_
    have hTe : T = ⟨x, 0, if 97 ∈ hasS x then num1 b 1 else 0, 0, 0, [], wordsO b 2, 0, 0, []⟩ := by
      rw [hT]
      unfold tookF
      simp only [hg0]
      rw [if_neg (by omega), if_neg (by omega), if_pos (by omega)]
    rw [hTe]
    simp only [if_pos hc4]
    rfl
  any_goals
    refine jI 76 ?_
    have hTe : T = ⟨x, 0, if 97 ∈ hasS x then num1 b 1 else 0, 0, 0, [], wordsO b 2, 0, 0, []⟩ := by
      rw [hT]
      unfold tookF
      simp only [hg0]
      rw [if_neg (by omega), if_neg (by omega), if_pos (by omega)]
    rw [hTe]
    simp only [if_neg hc4]
    rfl
end Go.Proofs
namespace Go.Proofs
open Go.PM
set_option maxHeartbeats 2000000
theorem St.eq_of {a b : St} (h1 : a.nxt = b.nxt) (h2 : ∀ i, a.blk i = b.blk i) : a = b := by
  cases a; cases b
  simp only [St.mk.injEq]
  exact ⟨h1, funext h2⟩
attribute [local go_sem] set_set
set_option maxRecDepth 100000 in
theorem store_New {n : Nat} {s : St} (h1 : 1 ≤ n) (h2 : n ≤ 65536) : ACalls Try.prog 18 [.int .i64 (n : Int)] s (fun r s' => r = .ptr s.nxt 0 0 ∧ s' = (((((((((((s.new (.row 88 [.agg [.sl .nil [], .sl .nil [], .sl .nil [], .sl .nil []]])).new .res).new .res).set (s.nxt + 1) (some (.row 4 (List.replicate n (.bool false))))).set (s.nxt + 2) (some (.row 24 (List.replicate n (.int .u16 0))))).set s.nxt (some (.row 88 [.agg [.own (s.nxt + 1) 0 n, .sl .nil [], .own (s.nxt + 2) 0 n, .sl .nil []]]))).new .res).new .res).set (s.nxt + 3) (some (.row 4 (List.replicate n (.bool false))))).set (s.nxt + 4) (some (.row 24 (List.replicate n (.int .u16 0))))).set s.nxt (some (.row 88 [.agg [.own (s.nxt + 1) 0 n, .own (s.nxt + 3) 0 n, .own (s.nxt + 2) 0 n, .own (s.nxt + 4) 0 n]])))) := by
  refine go Try.func18 (k := fun hwf H => ?_)
  refine rs (k := rg [0] (k := rs (k := rs (k := rg [0, 10] (k := rc (ht := fun hc0 => ?_) (hf := fun hc0 => ?_))))))
  · refine rs (k := ?_)
    exfalso
    simp only [Bool.or_eq_true, decide_eq_true_eq] at hc0
    omega
  · refine rk (k := rs (k := rg [0, 3] (k := rs (k := rs (k := rg [0, 3, 13] (k := rb (k := ?_)))))))
    refine Run.loop (fun e s' => ∃ i : Nat, i ≤ 2 ∧ e = [(0, .int .i64 (n : Int)), (3, .ptr s.nxt 0 0), (13, .int .i64 (i : Int))] ∧ s' = (if i = 0 then (s.new (.row 88 [.agg [.sl .nil [], .sl .nil [], .sl .nil [], .sl .nil []]])) else if i = 1 then ((((((s.new (.row 88 [.agg [.sl .nil [], .sl .nil [], .sl .nil [], .sl .nil []]])).new .res).new .res).set (s.nxt + 1) (some (.row 4 (List.replicate n (.bool false))))).set (s.nxt + 2) (some (.row 24 (List.replicate n (.int .u16 0))))).set s.nxt (some (.row 88 [.agg [.own (s.nxt + 1) 0 n, .sl .nil [], .own (s.nxt + 2) 0 n, .sl .nil []]]))) else (((((((((((s.new (.row 88 [.agg [.sl .nil [], .sl .nil [], .sl .nil [], .sl .nil []]])).new .res).new .res).set (s.nxt + 1) (some (.row 4 (List.replicate n (.bool false))))).set (s.nxt + 2) (some (.row 24 (List.replicate n (.int .u16 0))))).set s.nxt (some (.row 88 [.agg [.own (s.nxt + 1) 0 n, .sl .nil [], .own (s.nxt + 2) 0 n, .sl .nil []]]))).new .res).new .res).set (s.nxt + 3) (some (.row 4 (List.replicate n (.bool false))))).set (s.nxt + 4) (some (.row 24 (List.replicate n (.int .u16 0))))).set s.nxt (some (.row 88 [.agg [.own (s.nxt + 1) 0 n, .own (s.nxt + 3) 0 n, .own (s.nxt + 2) 0 n, .own (s.nxt + 4) 0 n]]))))) (fun e s' => 2 - ivar e 13) ?_ ?_
    · exact ⟨0, by decide, rfl, rfl⟩
    rintro e s' ⟨i, hi, rfl, hs⟩
    subst hs
    obtain rfl | rfl | rfl : i = 0 ∨ i = 1 ∨ i = 2 := by omega
    · refine rs (k := rg [0, 3, 13, 14] (k := rs (k := rc (ht := fun hc1 => ?_) (hf := fun hc1 => ?_))))
      · refine rk (k := rs (k := rb (k := rs (k := rg [0, 3, 4, 13] (k := ?_)))))
        refine Run.reserve (Run.reserve ?_)
        refine Run.drawH 16 [5, 7, 11, 15] [[false, false, false, false], [true, false, false, false], [false, true, false, false], [true, true, false, false], [true, false, true, false], [true, true, true, false], [true, true, true, true]] [(((s.new (.row 88 [.agg [.sl .nil [], .sl .nil [], .sl .nil [], .sl .nil []]])).new .res).new .res), ((((s.new (.row 88 [.agg [.sl .nil [], .sl .nil [], .sl .nil [], .sl .nil []]])).new .res).new .res).set (s.nxt + 1) (some (.row 4 (List.replicate n (.bool false))))), ((((s.new (.row 88 [.agg [.sl .nil [], .sl .nil [], .sl .nil [], .sl .nil []]])).new .res).new .res).set (s.nxt + 2) (some (.row 24 (List.replicate n (.int .u16 0))))), (((((s.new (.row 88 [.agg [.sl .nil [], .sl .nil [], .sl .nil [], .sl .nil []]])).new .res).new .res).set (s.nxt + 1) (some (.row 4 (List.replicate n (.bool false))))).set (s.nxt + 2) (some (.row 24 (List.replicate n (.int .u16 0))))), (((((s.new (.row 88 [.agg [.sl .nil [], .sl .nil [], .sl .nil [], .sl .nil []]])).new .res).new .res).set (s.nxt + 1) (some (.row 4 (List.replicate n (.bool false))))).set s.nxt (some (.row 88 [.agg [.own (s.nxt + 1) 0 n, .sl .nil [], .sl .nil [], .sl .nil []]]))), ((((((s.new (.row 88 [.agg [.sl .nil [], .sl .nil [], .sl .nil [], .sl .nil []]])).new .res).new .res).set (s.nxt + 1) (some (.row 4 (List.replicate n (.bool false))))).set (s.nxt + 2) (some (.row 24 (List.replicate n (.int .u16 0))))).set s.nxt (some (.row 88 [.agg [.own (s.nxt + 1) 0 n, .sl .nil [], .sl .nil [], .sl .nil []]]))), ((((((s.new (.row 88 [.agg [.sl .nil [], .sl .nil [], .sl .nil [], .sl .nil []]])).new .res).new .res).set (s.nxt + 1) (some (.row 4 (List.replicate n (.bool false))))).set (s.nxt + 2) (some (.row 24 (List.replicate n (.int .u16 0))))).set s.nxt (some (.row 88 [.agg [.own (s.nxt + 1) 0 n, .sl .nil [], .own (s.nxt + 2) 0 n, .sl .nil []]])))] (((((((s.new (.row 88 [.agg [.sl .nil [], .sl .nil [], .sl .nil [], .sl .nil []]])).new .res).new .res).set (s.nxt + 1) (some (.row 4 (List.replicate n (.bool false))))).set (s.nxt + 2) (some (.row 24 (List.replicate n (.int .u16 0))))).set s.nxt (some (.row 88 [.agg [.own (s.nxt + 1) 0 n, .sl .nil [], .own (s.nxt + 2) 0 n, .sl .nil []]])))) Try.mixed (by kernel_rfl) (by kernel_rfl) (by kernel_rfl) (by kernel_rfl) (by kernel_rfl) rfl (by kernel_rfl) rfl ?_
        refine DetHC.pre (pre := [_, _, _, _, _]) (s1 := (((s.new (.row 88 [.agg [.sl .nil [], .sl .nil [], .sl .nil [], .sl .nil []]])).new .res).new .res)) [0, 1, 2, 3, 4, 5] [(((s.new (.row 88 [.agg [.sl .nil [], .sl .nil [], .sl .nil [], .sl .nil []]])).new .res).new .res), ((((s.new (.row 88 [.agg [.sl .nil [], .sl .nil [], .sl .nil [], .sl .nil []]])).new .res).new .res).set (s.nxt + 1) (some (.row 4 (List.replicate n (.bool false))))), ((((s.new (.row 88 [.agg [.sl .nil [], .sl .nil [], .sl .nil [], .sl .nil []]])).new .res).new .res).set (s.nxt + 2) (some (.row 24 (List.replicate n (.int .u16 0))))), (((((s.new (.row 88 [.agg [.sl .nil [], .sl .nil [], .sl .nil [], .sl .nil []]])).new .res).new .res).set (s.nxt + 1) (some (.row 4 (List.replicate n (.bool false))))).set (s.nxt + 2) (some (.row 24 (List.replicate n (.int .u16 0))))), (((((s.new (.row 88 [.agg [.sl .nil [], .sl .nil [], .sl .nil [], .sl .nil []]])).new .res).new .res).set (s.nxt + 1) (some (.row 4 (List.replicate n (.bool false))))).set s.nxt (some (.row 88 [.agg [.own (s.nxt + 1) 0 n, .sl .nil [], .sl .nil [], .sl .nil []]]))), ((((((s.new (.row 88 [.agg [.sl .nil [], .sl .nil [], .sl .nil [], .sl .nil []]])).new .res).new .res).set (s.nxt + 1) (some (.row 4 (List.replicate n (.bool false))))).set (s.nxt + 2) (some (.row 24 (List.replicate n (.int .u16 0))))).set s.nxt (some (.row 88 [.agg [.own (s.nxt + 1) 0 n, .sl .nil [], .sl .nil [], .sl .nil []]])))] (by kernel_rfl) rfl au ?_
        refine DetHC.resMake (s.nxt + 1) n [(0, 1), (2, 3)] [((((s.new (.row 88 [.agg [.sl .nil [], .sl .nil [], .sl .nil [], .sl .nil []]])).new .res).new .res), ((((s.new (.row 88 [.agg [.sl .nil [], .sl .nil [], .sl .nil [], .sl .nil []]])).new .res).new .res).set (s.nxt + 1) (some (.row 4 (List.replicate n (.bool false)))))), (((((s.new (.row 88 [.agg [.sl .nil [], .sl .nil [], .sl .nil [], .sl .nil []]])).new .res).new .res).set (s.nxt + 2) (some (.row 24 (List.replicate n (.int .u16 0))))), (((((s.new (.row 88 [.agg [.sl .nil [], .sl .nil [], .sl .nil [], .sl .nil []]])).new .res).new .res).set (s.nxt + 1) (some (.row 4 (List.replicate n (.bool false))))).set (s.nxt + 2) (some (.row 24 (List.replicate n (.int .u16 0))))))] (by kernel_rfl) rfl au au au Try.td23 (by rw [Try.zp4]) (by omega) (by rw [Try.by4]; omega) (by intro q hq; simp only [List.mem_cons, List.not_mem_nil, or_false] at hq; rcases hq with rfl | rfl <;> refine ⟨by simp (disch := first | omega | (simp only [nxt_set, nxt_new] <;> omega) | fail) only [go_sem], ?_⟩ <;> first | rfl | exact St.eq_of rfl fun i => by (simp only [blk_set, blk_new, nxt_new, nxt_set]; (repeat' split) <;> first | rfl | (exfalso; omega))) ?_
        refine DetHC.pre (pre := [_]) (s1 := (((s.new (.row 88 [.agg [.sl .nil [], .sl .nil [], .sl .nil [], .sl .nil []]])).new .res).new .res)) [0, 1, 4] [(((s.new (.row 88 [.agg [.sl .nil [], .sl .nil [], .sl .nil [], .sl .nil []]])).new .res).new .res), ((((s.new (.row 88 [.agg [.sl .nil [], .sl .nil [], .sl .nil [], .sl .nil []]])).new .res).new .res).set (s.nxt + 1) (some (.row 4 (List.replicate n (.bool false))))), (((((s.new (.row 88 [.agg [.sl .nil [], .sl .nil [], .sl .nil [], .sl .nil []]])).new .res).new .res).set (s.nxt + 1) (some (.row 4 (List.replicate n (.bool false))))).set s.nxt (some (.row 88 [.agg [.own (s.nxt + 1) 0 n, .sl .nil [], .sl .nil [], .sl .nil []]])))] (by kernel_rfl) rfl au ?_
        refine DetHC.resMake (s.nxt + 2) n [(0, 2), (1, 3), (4, 5)] [((((s.new (.row 88 [.agg [.sl .nil [], .sl .nil [], .sl .nil [], .sl .nil []]])).new .res).new .res), ((((s.new (.row 88 [.agg [.sl .nil [], .sl .nil [], .sl .nil [], .sl .nil []]])).new .res).new .res).set (s.nxt + 2) (some (.row 24 (List.replicate n (.int .u16 0)))))), (((((s.new (.row 88 [.agg [.sl .nil [], .sl .nil [], .sl .nil [], .sl .nil []]])).new .res).new .res).set (s.nxt + 1) (some (.row 4 (List.replicate n (.bool false))))), (((((s.new (.row 88 [.agg [.sl .nil [], .sl .nil [], .sl .nil [], .sl .nil []]])).new .res).new .res).set (s.nxt + 1) (some (.row 4 (List.replicate n (.bool false))))).set (s.nxt + 2) (some (.row 24 (List.replicate n (.int .u16 0)))))), ((((((s.new (.row 88 [.agg [.sl .nil [], .sl .nil [], .sl .nil [], .sl .nil []]])).new .res).new .res).set (s.nxt + 1) (some (.row 4 (List.replicate n (.bool false))))).set s.nxt (some (.row 88 [.agg [.own (s.nxt + 1) 0 n, .sl .nil [], .sl .nil [], .sl .nil []]]))), ((((((s.new (.row 88 [.agg [.sl .nil [], .sl .nil [], .sl .nil [], .sl .nil []]])).new .res).new .res).set (s.nxt + 1) (some (.row 4 (List.replicate n (.bool false))))).set (s.nxt + 2) (some (.row 24 (List.replicate n (.int .u16 0))))).set s.nxt (some (.row 88 [.agg [.own (s.nxt + 1) 0 n, .sl .nil [], .sl .nil [], .sl .nil []]]))))] (by kernel_rfl) rfl au au au Try.td22 (by rw [Try.zp24]) (by omega) (by rw [Try.by24]; omega) (by intro q hq; simp only [List.mem_cons, List.not_mem_nil, or_false] at hq; rcases hq with rfl | rfl | rfl <;> refine ⟨by simp (disch := first | omega | (simp only [nxt_set, nxt_new] <;> omega) | fail) only [go_sem], ?_⟩ <;> first | rfl | exact St.eq_of rfl fun i => by (simp only [blk_set, blk_new, nxt_new, nxt_set]; (repeat' split) <;> first | rfl | (exfalso; omega))) ?_
        refine DetHC.pre (pre := [_, _, _]) (s1 := (((s.new (.row 88 [.agg [.sl .nil [], .sl .nil [], .sl .nil [], .sl .nil []]])).new .res).new .res)) [0, 1, 2, 3] [(((s.new (.row 88 [.agg [.sl .nil [], .sl .nil [], .sl .nil [], .sl .nil []]])).new .res).new .res), ((((s.new (.row 88 [.agg [.sl .nil [], .sl .nil [], .sl .nil [], .sl .nil []]])).new .res).new .res).set (s.nxt + 1) (some (.row 4 (List.replicate n (.bool false))))), ((((s.new (.row 88 [.agg [.sl .nil [], .sl .nil [], .sl .nil [], .sl .nil []]])).new .res).new .res).set (s.nxt + 2) (some (.row 24 (List.replicate n (.int .u16 0))))), (((((s.new (.row 88 [.agg [.sl .nil [], .sl .nil [], .sl .nil [], .sl .nil []]])).new .res).new .res).set (s.nxt + 1) (some (.row 4 (List.replicate n (.bool false))))).set (s.nxt + 2) (some (.row 24 (List.replicate n (.int .u16 0)))))] (by kernel_rfl) rfl au ?_
        refine DetHC.eff [(1, 4), (3, 5)] (((((s.new (.row 88 [.agg [.sl .nil [], .sl .nil [], .sl .nil [], .sl .nil []]])).new .res).new .res).set (s.nxt + 1) (some (.row 4 (List.replicate n (.bool false)))))) ((((((s.new (.row 88 [.agg [.sl .nil [], .sl .nil [], .sl .nil [], .sl .nil []]])).new .res).new .res).set (s.nxt + 1) (some (.row 4 (List.replicate n (.bool false))))).set s.nxt (some (.row 88 [.agg [.own (s.nxt + 1) 0 n, .sl .nil [], .sl .nil [], .sl .nil []]])))) [((((((s.new (.row 88 [.agg [.sl .nil [], .sl .nil [], .sl .nil [], .sl .nil []]])).new .res).new .res).set (s.nxt + 1) (some (.row 4 (List.replicate n (.bool false))))).set (s.nxt + 2) (some (.row 24 (List.replicate n (.int .u16 0))))), ((((((s.new (.row 88 [.agg [.sl .nil [], .sl .nil [], .sl .nil [], .sl .nil []]])).new .res).new .res).set (s.nxt + 1) (some (.row 4 (List.replicate n (.bool false))))).set (s.nxt + 2) (some (.row 24 (List.replicate n (.int .u16 0))))).set s.nxt (some (.row 88 [.agg [.own (s.nxt + 1) 0 n, .sl .nil [], .sl .nil [], .sl .nil []]]))))] (by kernel_rfl) rfl au au au ?_
        refine DetHC.pre (pre := [_, _, _]) (s1 := (((s.new (.row 88 [.agg [.sl .nil [], .sl .nil [], .sl .nil [], .sl .nil []]])).new .res).new .res)) [0, 1, 2, 3, 4, 5] [(((s.new (.row 88 [.agg [.sl .nil [], .sl .nil [], .sl .nil [], .sl .nil []]])).new .res).new .res), ((((s.new (.row 88 [.agg [.sl .nil [], .sl .nil [], .sl .nil [], .sl .nil []]])).new .res).new .res).set (s.nxt + 1) (some (.row 4 (List.replicate n (.bool false))))), ((((s.new (.row 88 [.agg [.sl .nil [], .sl .nil [], .sl .nil [], .sl .nil []]])).new .res).new .res).set (s.nxt + 2) (some (.row 24 (List.replicate n (.int .u16 0))))), (((((s.new (.row 88 [.agg [.sl .nil [], .sl .nil [], .sl .nil [], .sl .nil []]])).new .res).new .res).set (s.nxt + 1) (some (.row 4 (List.replicate n (.bool false))))).set (s.nxt + 2) (some (.row 24 (List.replicate n (.int .u16 0))))), (((((s.new (.row 88 [.agg [.sl .nil [], .sl .nil [], .sl .nil [], .sl .nil []]])).new .res).new .res).set (s.nxt + 1) (some (.row 4 (List.replicate n (.bool false))))).set s.nxt (some (.row 88 [.agg [.own (s.nxt + 1) 0 n, .sl .nil [], .sl .nil [], .sl .nil []]]))), ((((((s.new (.row 88 [.agg [.sl .nil [], .sl .nil [], .sl .nil [], .sl .nil []]])).new .res).new .res).set (s.nxt + 1) (some (.row 4 (List.replicate n (.bool false))))).set (s.nxt + 2) (some (.row 24 (List.replicate n (.int .u16 0))))).set s.nxt (some (.row 88 [.agg [.own (s.nxt + 1) 0 n, .sl .nil [], .sl .nil [], .sl .nil []]])))] (by kernel_rfl) rfl au ?_
        refine DetHC.eff [(5, 6)] (((((((s.new (.row 88 [.agg [.sl .nil [], .sl .nil [], .sl .nil [], .sl .nil []]])).new .res).new .res).set (s.nxt + 1) (some (.row 4 (List.replicate n (.bool false))))).set (s.nxt + 2) (some (.row 24 (List.replicate n (.int .u16 0))))).set s.nxt (some (.row 88 [.agg [.own (s.nxt + 1) 0 n, .sl .nil [], .sl .nil [], .sl .nil []]])))) (((((((s.new (.row 88 [.agg [.sl .nil [], .sl .nil [], .sl .nil [], .sl .nil []]])).new .res).new .res).set (s.nxt + 1) (some (.row 4 (List.replicate n (.bool false))))).set (s.nxt + 2) (some (.row 24 (List.replicate n (.int .u16 0))))).set s.nxt (some (.row 88 [.agg [.own (s.nxt + 1) 0 n, .sl .nil [], .own (s.nxt + 2) 0 n, .sl .nil []]])))) [] (by kernel_rfl) rfl au au au ?_
        refine DetHC.nil ?_
        refine rl [0, 3, 13] (k := rB (k := rg [0, 3, 13] (k := ?_)))
        refine Run.lp ⟨⟨1, by decide, by rfl, by rfl⟩, ?_⟩
        simp only [ivar, go_sem, ↓reduceIte, Nat.reduceEqDiff]
        decide
      · cases hc1
    · refine rs (k := rg [0, 3, 13, 14] (k := rs (k := rc (ht := fun hc1 => ?_) (hf := fun hc1 => ?_))))
      · refine rk (k := rs (k := rb (k := rs (k := rg [0, 3, 4, 13] (k := ?_)))))
        refine Run.reserve (Run.reserve ?_)
        refine Run.drawH 16 [5, 7, 11, 15] [[false, false, false, false], [true, false, false, false], [false, true, false, false], [true, true, false, false], [true, false, true, false], [true, true, true, false], [true, true, true, true]] [((((((((s.new (.row 88 [.agg [.sl .nil [], .sl .nil [], .sl .nil [], .sl .nil []]])).new .res).new .res).set (s.nxt + 1) (some (.row 4 (List.replicate n (.bool false))))).set (s.nxt + 2) (some (.row 24 (List.replicate n (.int .u16 0))))).set s.nxt (some (.row 88 [.agg [.own (s.nxt + 1) 0 n, .sl .nil [], .own (s.nxt + 2) 0 n, .sl .nil []]]))).new .res).new .res), (((((((((s.new (.row 88 [.agg [.sl .nil [], .sl .nil [], .sl .nil [], .sl .nil []]])).new .res).new .res).set (s.nxt + 1) (some (.row 4 (List.replicate n (.bool false))))).set (s.nxt + 2) (some (.row 24 (List.replicate n (.int .u16 0))))).set s.nxt (some (.row 88 [.agg [.own (s.nxt + 1) 0 n, .sl .nil [], .own (s.nxt + 2) 0 n, .sl .nil []]]))).new .res).new .res).set (s.nxt + 3) (some (.row 4 (List.replicate n (.bool false))))), (((((((((s.new (.row 88 [.agg [.sl .nil [], .sl .nil [], .sl .nil [], .sl .nil []]])).new .res).new .res).set (s.nxt + 1) (some (.row 4 (List.replicate n (.bool false))))).set (s.nxt + 2) (some (.row 24 (List.replicate n (.int .u16 0))))).set s.nxt (some (.row 88 [.agg [.own (s.nxt + 1) 0 n, .sl .nil [], .own (s.nxt + 2) 0 n, .sl .nil []]]))).new .res).new .res).set (s.nxt + 4) (some (.row 24 (List.replicate n (.int .u16 0))))), ((((((((((s.new (.row 88 [.agg [.sl .nil [], .sl .nil [], .sl .nil [], .sl .nil []]])).new .res).new .res).set (s.nxt + 1) (some (.row 4 (List.replicate n (.bool false))))).set (s.nxt + 2) (some (.row 24 (List.replicate n (.int .u16 0))))).set s.nxt (some (.row 88 [.agg [.own (s.nxt + 1) 0 n, .sl .nil [], .own (s.nxt + 2) 0 n, .sl .nil []]]))).new .res).new .res).set (s.nxt + 3) (some (.row 4 (List.replicate n (.bool false))))).set (s.nxt + 4) (some (.row 24 (List.replicate n (.int .u16 0))))), ((((((((((s.new (.row 88 [.agg [.sl .nil [], .sl .nil [], .sl .nil [], .sl .nil []]])).new .res).new .res).set (s.nxt + 1) (some (.row 4 (List.replicate n (.bool false))))).set (s.nxt + 2) (some (.row 24 (List.replicate n (.int .u16 0))))).set s.nxt (some (.row 88 [.agg [.own (s.nxt + 1) 0 n, .sl .nil [], .own (s.nxt + 2) 0 n, .sl .nil []]]))).new .res).new .res).set (s.nxt + 3) (some (.row 4 (List.replicate n (.bool false))))).set s.nxt (some (.row 88 [.agg [.own (s.nxt + 1) 0 n, .own (s.nxt + 3) 0 n, .own (s.nxt + 2) 0 n, .sl .nil []]]))), (((((((((((s.new (.row 88 [.agg [.sl .nil [], .sl .nil [], .sl .nil [], .sl .nil []]])).new .res).new .res).set (s.nxt + 1) (some (.row 4 (List.replicate n (.bool false))))).set (s.nxt + 2) (some (.row 24 (List.replicate n (.int .u16 0))))).set s.nxt (some (.row 88 [.agg [.own (s.nxt + 1) 0 n, .sl .nil [], .own (s.nxt + 2) 0 n, .sl .nil []]]))).new .res).new .res).set (s.nxt + 3) (some (.row 4 (List.replicate n (.bool false))))).set (s.nxt + 4) (some (.row 24 (List.replicate n (.int .u16 0))))).set s.nxt (some (.row 88 [.agg [.own (s.nxt + 1) 0 n, .own (s.nxt + 3) 0 n, .own (s.nxt + 2) 0 n, .sl .nil []]]))), (((((((((((s.new (.row 88 [.agg [.sl .nil [], .sl .nil [], .sl .nil [], .sl .nil []]])).new .res).new .res).set (s.nxt + 1) (some (.row 4 (List.replicate n (.bool false))))).set (s.nxt + 2) (some (.row 24 (List.replicate n (.int .u16 0))))).set s.nxt (some (.row 88 [.agg [.own (s.nxt + 1) 0 n, .sl .nil [], .own (s.nxt + 2) 0 n, .sl .nil []]]))).new .res).new .res).set (s.nxt + 3) (some (.row 4 (List.replicate n (.bool false))))).set (s.nxt + 4) (some (.row 24 (List.replicate n (.int .u16 0))))).set s.nxt (some (.row 88 [.agg [.own (s.nxt + 1) 0 n, .own (s.nxt + 3) 0 n, .own (s.nxt + 2) 0 n, .own (s.nxt + 4) 0 n]])))] ((((((((((((s.new (.row 88 [.agg [.sl .nil [], .sl .nil [], .sl .nil [], .sl .nil []]])).new .res).new .res).set (s.nxt + 1) (some (.row 4 (List.replicate n (.bool false))))).set (s.nxt + 2) (some (.row 24 (List.replicate n (.int .u16 0))))).set s.nxt (some (.row 88 [.agg [.own (s.nxt + 1) 0 n, .sl .nil [], .own (s.nxt + 2) 0 n, .sl .nil []]]))).new .res).new .res).set (s.nxt + 3) (some (.row 4 (List.replicate n (.bool false))))).set (s.nxt + 4) (some (.row 24 (List.replicate n (.int .u16 0))))).set s.nxt (some (.row 88 [.agg [.own (s.nxt + 1) 0 n, .own (s.nxt + 3) 0 n, .own (s.nxt + 2) 0 n, .own (s.nxt + 4) 0 n]])))) Try.mixed (by kernel_rfl) (by kernel_rfl) (by kernel_rfl) (by kernel_rfl) (by kernel_rfl) rfl (by kernel_rfl) rfl ?_
        refine DetHC.pre (pre := [_, _, _, _, _]) (s1 := ((((((((s.new (.row 88 [.agg [.sl .nil [], .sl .nil [], .sl .nil [], .sl .nil []]])).new .res).new .res).set (s.nxt + 1) (some (.row 4 (List.replicate n (.bool false))))).set (s.nxt + 2) (some (.row 24 (List.replicate n (.int .u16 0))))).set s.nxt (some (.row 88 [.agg [.own (s.nxt + 1) 0 n, .sl .nil [], .own (s.nxt + 2) 0 n, .sl .nil []]]))).new .res).new .res)) [0, 1, 2, 3, 4, 5] [((((((((s.new (.row 88 [.agg [.sl .nil [], .sl .nil [], .sl .nil [], .sl .nil []]])).new .res).new .res).set (s.nxt + 1) (some (.row 4 (List.replicate n (.bool false))))).set (s.nxt + 2) (some (.row 24 (List.replicate n (.int .u16 0))))).set s.nxt (some (.row 88 [.agg [.own (s.nxt + 1) 0 n, .sl .nil [], .own (s.nxt + 2) 0 n, .sl .nil []]]))).new .res).new .res), (((((((((s.new (.row 88 [.agg [.sl .nil [], .sl .nil [], .sl .nil [], .sl .nil []]])).new .res).new .res).set (s.nxt + 1) (some (.row 4 (List.replicate n (.bool false))))).set (s.nxt + 2) (some (.row 24 (List.replicate n (.int .u16 0))))).set s.nxt (some (.row 88 [.agg [.own (s.nxt + 1) 0 n, .sl .nil [], .own (s.nxt + 2) 0 n, .sl .nil []]]))).new .res).new .res).set (s.nxt + 3) (some (.row 4 (List.replicate n (.bool false))))), (((((((((s.new (.row 88 [.agg [.sl .nil [], .sl .nil [], .sl .nil [], .sl .nil []]])).new .res).new .res).set (s.nxt + 1) (some (.row 4 (List.replicate n (.bool false))))).set (s.nxt + 2) (some (.row 24 (List.replicate n (.int .u16 0))))).set s.nxt (some (.row 88 [.agg [.own (s.nxt + 1) 0 n, .sl .nil [], .own (s.nxt + 2) 0 n, .sl .nil []]]))).new .res).new .res).set (s.nxt + 4) (some (.row 24 (List.replicate n (.int .u16 0))))), ((((((((((s.new (.row 88 [.agg [.sl .nil [], .sl .nil [], .sl .nil [], .sl .nil []]])).new .res).new .res).set (s.nxt + 1) (some (.row 4 (List.replicate n (.bool false))))).set (s.nxt + 2) (some (.row 24 (List.replicate n (.int .u16 0))))).set s.nxt (some (.row 88 [.agg [.own (s.nxt + 1) 0 n, .sl .nil [], .own (s.nxt + 2) 0 n, .sl .nil []]]))).new .res).new .res).set (s.nxt + 3) (some (.row 4 (List.replicate n (.bool false))))).set (s.nxt + 4) (some (.row 24 (List.replicate n (.int .u16 0))))), ((((((((((s.new (.row 88 [.agg [.sl .nil [], .sl .nil [], .sl .nil [], .sl .nil []]])).new .res).new .res).set (s.nxt + 1) (some (.row 4 (List.replicate n (.bool false))))).set (s.nxt + 2) (some (.row 24 (List.replicate n (.int .u16 0))))).set s.nxt (some (.row 88 [.agg [.own (s.nxt + 1) 0 n, .sl .nil [], .own (s.nxt + 2) 0 n, .sl .nil []]]))).new .res).new .res).set (s.nxt + 3) (some (.row 4 (List.replicate n (.bool false))))).set s.nxt (some (.row 88 [.agg [.own (s.nxt + 1) 0 n, .own (s.nxt + 3) 0 n, .own (s.nxt + 2) 0 n, .sl .nil []]]))), (((((((((((s.new (.row 88 [.agg [.sl .nil [], .sl .nil [], .sl .nil [], .sl .nil []]])).new .res).new .res).set (s.nxt + 1) (some (.row 4 (List.replicate n (.bool false))))).set (s.nxt + 2) (some (.row 24 (List.replicate n (.int .u16 0))))).set s.nxt (some (.row 88 [.agg [.own (s.nxt + 1) 0 n, .sl .nil [], .own (s.nxt + 2) 0 n, .sl .nil []]]))).new .res).new .res).set (s.nxt + 3) (some (.row 4 (List.replicate n (.bool false))))).set (s.nxt + 4) (some (.row 24 (List.replicate n (.int .u16 0))))).set s.nxt (some (.row 88 [.agg [.own (s.nxt + 1) 0 n, .own (s.nxt + 3) 0 n, .own (s.nxt + 2) 0 n, .sl .nil []]])))] (by kernel_rfl) rfl au ?_
        refine DetHC.resMake (s.nxt + 3) n [(0, 1), (2, 3)] [(((((((((s.new (.row 88 [.agg [.sl .nil [], .sl .nil [], .sl .nil [], .sl .nil []]])).new .res).new .res).set (s.nxt + 1) (some (.row 4 (List.replicate n (.bool false))))).set (s.nxt + 2) (some (.row 24 (List.replicate n (.int .u16 0))))).set s.nxt (some (.row 88 [.agg [.own (s.nxt + 1) 0 n, .sl .nil [], .own (s.nxt + 2) 0 n, .sl .nil []]]))).new .res).new .res), (((((((((s.new (.row 88 [.agg [.sl .nil [], .sl .nil [], .sl .nil [], .sl .nil []]])).new .res).new .res).set (s.nxt + 1) (some (.row 4 (List.replicate n (.bool false))))).set (s.nxt + 2) (some (.row 24 (List.replicate n (.int .u16 0))))).set s.nxt (some (.row 88 [.agg [.own (s.nxt + 1) 0 n, .sl .nil [], .own (s.nxt + 2) 0 n, .sl .nil []]]))).new .res).new .res).set (s.nxt + 3) (some (.row 4 (List.replicate n (.bool false)))))), ((((((((((s.new (.row 88 [.agg [.sl .nil [], .sl .nil [], .sl .nil [], .sl .nil []]])).new .res).new .res).set (s.nxt + 1) (some (.row 4 (List.replicate n (.bool false))))).set (s.nxt + 2) (some (.row 24 (List.replicate n (.int .u16 0))))).set s.nxt (some (.row 88 [.agg [.own (s.nxt + 1) 0 n, .sl .nil [], .own (s.nxt + 2) 0 n, .sl .nil []]]))).new .res).new .res).set (s.nxt + 4) (some (.row 24 (List.replicate n (.int .u16 0))))), ((((((((((s.new (.row 88 [.agg [.sl .nil [], .sl .nil [], .sl .nil [], .sl .nil []]])).new .res).new .res).set (s.nxt + 1) (some (.row 4 (List.replicate n (.bool false))))).set (s.nxt + 2) (some (.row 24 (List.replicate n (.int .u16 0))))).set s.nxt (some (.row 88 [.agg [.own (s.nxt + 1) 0 n, .sl .nil [], .own (s.nxt + 2) 0 n, .sl .nil []]]))).new .res).new .res).set (s.nxt + 3) (some (.row 4 (List.replicate n (.bool false))))).set (s.nxt + 4) (some (.row 24 (List.replicate n (.int .u16 0))))))] (by kernel_rfl) rfl au au au Try.td23 (by rw [Try.zp4]) (by omega) (by rw [Try.by4]; omega) (by intro q hq; simp only [List.mem_cons, List.not_mem_nil, or_false] at hq; rcases hq with rfl | rfl <;> refine ⟨by simp (disch := first | omega | (simp only [nxt_set, nxt_new] <;> omega) | fail) only [go_sem], ?_⟩ <;> first | rfl | exact St.eq_of rfl fun i => by (simp only [blk_set, blk_new, nxt_new, nxt_set]; (repeat' split) <;> first | rfl | (exfalso; omega))) ?_
        refine DetHC.pre (pre := [_]) (s1 := ((((((((s.new (.row 88 [.agg [.sl .nil [], .sl .nil [], .sl .nil [], .sl .nil []]])).new .res).new .res).set (s.nxt + 1) (some (.row 4 (List.replicate n (.bool false))))).set (s.nxt + 2) (some (.row 24 (List.replicate n (.int .u16 0))))).set s.nxt (some (.row 88 [.agg [.own (s.nxt + 1) 0 n, .sl .nil [], .own (s.nxt + 2) 0 n, .sl .nil []]]))).new .res).new .res)) [0, 1, 4] [((((((((s.new (.row 88 [.agg [.sl .nil [], .sl .nil [], .sl .nil [], .sl .nil []]])).new .res).new .res).set (s.nxt + 1) (some (.row 4 (List.replicate n (.bool false))))).set (s.nxt + 2) (some (.row 24 (List.replicate n (.int .u16 0))))).set s.nxt (some (.row 88 [.agg [.own (s.nxt + 1) 0 n, .sl .nil [], .own (s.nxt + 2) 0 n, .sl .nil []]]))).new .res).new .res), (((((((((s.new (.row 88 [.agg [.sl .nil [], .sl .nil [], .sl .nil [], .sl .nil []]])).new .res).new .res).set (s.nxt + 1) (some (.row 4 (List.replicate n (.bool false))))).set (s.nxt + 2) (some (.row 24 (List.replicate n (.int .u16 0))))).set s.nxt (some (.row 88 [.agg [.own (s.nxt + 1) 0 n, .sl .nil [], .own (s.nxt + 2) 0 n, .sl .nil []]]))).new .res).new .res).set (s.nxt + 3) (some (.row 4 (List.replicate n (.bool false))))), ((((((((((s.new (.row 88 [.agg [.sl .nil [], .sl .nil [], .sl .nil [], .sl .nil []]])).new .res).new .res).set (s.nxt + 1) (some (.row 4 (List.replicate n (.bool false))))).set (s.nxt + 2) (some (.row 24 (List.replicate n (.int .u16 0))))).set s.nxt (some (.row 88 [.agg [.own (s.nxt + 1) 0 n, .sl .nil [], .own (s.nxt + 2) 0 n, .sl .nil []]]))).new .res).new .res).set (s.nxt + 3) (some (.row 4 (List.replicate n (.bool false))))).set s.nxt (some (.row 88 [.agg [.own (s.nxt + 1) 0 n, .own (s.nxt + 3) 0 n, .own (s.nxt + 2) 0 n, .sl .nil []]])))] (by kernel_rfl) rfl au ?_
        refine DetHC.resMake (s.nxt + 4) n [(0, 2), (1, 3), (4, 5)] [(((((((((s.new (.row 88 [.agg [.sl .nil [], .sl .nil [], .sl .nil [], .sl .nil []]])).new .res).new .res).set (s.nxt + 1) (some (.row 4 (List.replicate n (.bool false))))).set (s.nxt + 2) (some (.row 24 (List.replicate n (.int .u16 0))))).set s.nxt (some (.row 88 [.agg [.own (s.nxt + 1) 0 n, .sl .nil [], .own (s.nxt + 2) 0 n, .sl .nil []]]))).new .res).new .res), (((((((((s.new (.row 88 [.agg [.sl .nil [], .sl .nil [], .sl .nil [], .sl .nil []]])).new .res).new .res).set (s.nxt + 1) (some (.row 4 (List.replicate n (.bool false))))).set (s.nxt + 2) (some (.row 24 (List.replicate n (.int .u16 0))))).set s.nxt (some (.row 88 [.agg [.own (s.nxt + 1) 0 n, .sl .nil [], .own (s.nxt + 2) 0 n, .sl .nil []]]))).new .res).new .res).set (s.nxt + 4) (some (.row 24 (List.replicate n (.int .u16 0)))))), ((((((((((s.new (.row 88 [.agg [.sl .nil [], .sl .nil [], .sl .nil [], .sl .nil []]])).new .res).new .res).set (s.nxt + 1) (some (.row 4 (List.replicate n (.bool false))))).set (s.nxt + 2) (some (.row 24 (List.replicate n (.int .u16 0))))).set s.nxt (some (.row 88 [.agg [.own (s.nxt + 1) 0 n, .sl .nil [], .own (s.nxt + 2) 0 n, .sl .nil []]]))).new .res).new .res).set (s.nxt + 3) (some (.row 4 (List.replicate n (.bool false))))), ((((((((((s.new (.row 88 [.agg [.sl .nil [], .sl .nil [], .sl .nil [], .sl .nil []]])).new .res).new .res).set (s.nxt + 1) (some (.row 4 (List.replicate n (.bool false))))).set (s.nxt + 2) (some (.row 24 (List.replicate n (.int .u16 0))))).set s.nxt (some (.row 88 [.agg [.own (s.nxt + 1) 0 n, .sl .nil [], .own (s.nxt + 2) 0 n, .sl .nil []]]))).new .res).new .res).set (s.nxt + 3) (some (.row 4 (List.replicate n (.bool false))))).set (s.nxt + 4) (some (.row 24 (List.replicate n (.int .u16 0)))))), (((((((((((s.new (.row 88 [.agg [.sl .nil [], .sl .nil [], .sl .nil [], .sl .nil []]])).new .res).new .res).set (s.nxt + 1) (some (.row 4 (List.replicate n (.bool false))))).set (s.nxt + 2) (some (.row 24 (List.replicate n (.int .u16 0))))).set s.nxt (some (.row 88 [.agg [.own (s.nxt + 1) 0 n, .sl .nil [], .own (s.nxt + 2) 0 n, .sl .nil []]]))).new .res).new .res).set (s.nxt + 3) (some (.row 4 (List.replicate n (.bool false))))).set s.nxt (some (.row 88 [.agg [.own (s.nxt + 1) 0 n, .own (s.nxt + 3) 0 n, .own (s.nxt + 2) 0 n, .sl .nil []]]))), (((((((((((s.new (.row 88 [.agg [.sl .nil [], .sl .nil [], .sl .nil [], .sl .nil []]])).new .res).new .res).set (s.nxt + 1) (some (.row 4 (List.replicate n (.bool false))))).set (s.nxt + 2) (some (.row 24 (List.replicate n (.int .u16 0))))).set s.nxt (some (.row 88 [.agg [.own (s.nxt + 1) 0 n, .sl .nil [], .own (s.nxt + 2) 0 n, .sl .nil []]]))).new .res).new .res).set (s.nxt + 3) (some (.row 4 (List.replicate n (.bool false))))).set (s.nxt + 4) (some (.row 24 (List.replicate n (.int .u16 0))))).set s.nxt (some (.row 88 [.agg [.own (s.nxt + 1) 0 n, .own (s.nxt + 3) 0 n, .own (s.nxt + 2) 0 n, .sl .nil []]]))))] (by kernel_rfl) rfl au au au Try.td22 (by rw [Try.zp24]) (by omega) (by rw [Try.by24]; omega) (by intro q hq; simp only [List.mem_cons, List.not_mem_nil, or_false] at hq; rcases hq with rfl | rfl | rfl <;> refine ⟨by simp (disch := first | omega | (simp only [nxt_set, nxt_new] <;> omega) | fail) only [go_sem], ?_⟩ <;> first | rfl | exact St.eq_of rfl fun i => by (simp only [blk_set, blk_new, nxt_new, nxt_set]; (repeat' split) <;> first | rfl | (exfalso; omega))) ?_
        refine DetHC.pre (pre := [_, _, _]) (s1 := ((((((((s.new (.row 88 [.agg [.sl .nil [], .sl .nil [], .sl .nil [], .sl .nil []]])).new .res).new .res).set (s.nxt + 1) (some (.row 4 (List.replicate n (.bool false))))).set (s.nxt + 2) (some (.row 24 (List.replicate n (.int .u16 0))))).set s.nxt (some (.row 88 [.agg [.own (s.nxt + 1) 0 n, .sl .nil [], .own (s.nxt + 2) 0 n, .sl .nil []]]))).new .res).new .res)) [0, 1, 2, 3] [((((((((s.new (.row 88 [.agg [.sl .nil [], .sl .nil [], .sl .nil [], .sl .nil []]])).new .res).new .res).set (s.nxt + 1) (some (.row 4 (List.replicate n (.bool false))))).set (s.nxt + 2) (some (.row 24 (List.replicate n (.int .u16 0))))).set s.nxt (some (.row 88 [.agg [.own (s.nxt + 1) 0 n, .sl .nil [], .own (s.nxt + 2) 0 n, .sl .nil []]]))).new .res).new .res), (((((((((s.new (.row 88 [.agg [.sl .nil [], .sl .nil [], .sl .nil [], .sl .nil []]])).new .res).new .res).set (s.nxt + 1) (some (.row 4 (List.replicate n (.bool false))))).set (s.nxt + 2) (some (.row 24 (List.replicate n (.int .u16 0))))).set s.nxt (some (.row 88 [.agg [.own (s.nxt + 1) 0 n, .sl .nil [], .own (s.nxt + 2) 0 n, .sl .nil []]]))).new .res).new .res).set (s.nxt + 3) (some (.row 4 (List.replicate n (.bool false))))), (((((((((s.new (.row 88 [.agg [.sl .nil [], .sl .nil [], .sl .nil [], .sl .nil []]])).new .res).new .res).set (s.nxt + 1) (some (.row 4 (List.replicate n (.bool false))))).set (s.nxt + 2) (some (.row 24 (List.replicate n (.int .u16 0))))).set s.nxt (some (.row 88 [.agg [.own (s.nxt + 1) 0 n, .sl .nil [], .own (s.nxt + 2) 0 n, .sl .nil []]]))).new .res).new .res).set (s.nxt + 4) (some (.row 24 (List.replicate n (.int .u16 0))))), ((((((((((s.new (.row 88 [.agg [.sl .nil [], .sl .nil [], .sl .nil [], .sl .nil []]])).new .res).new .res).set (s.nxt + 1) (some (.row 4 (List.replicate n (.bool false))))).set (s.nxt + 2) (some (.row 24 (List.replicate n (.int .u16 0))))).set s.nxt (some (.row 88 [.agg [.own (s.nxt + 1) 0 n, .sl .nil [], .own (s.nxt + 2) 0 n, .sl .nil []]]))).new .res).new .res).set (s.nxt + 3) (some (.row 4 (List.replicate n (.bool false))))).set (s.nxt + 4) (some (.row 24 (List.replicate n (.int .u16 0)))))] (by kernel_rfl) rfl au ?_
        refine DetHC.eff [(1, 4), (3, 5)] ((((((((((s.new (.row 88 [.agg [.sl .nil [], .sl .nil [], .sl .nil [], .sl .nil []]])).new .res).new .res).set (s.nxt + 1) (some (.row 4 (List.replicate n (.bool false))))).set (s.nxt + 2) (some (.row 24 (List.replicate n (.int .u16 0))))).set s.nxt (some (.row 88 [.agg [.own (s.nxt + 1) 0 n, .sl .nil [], .own (s.nxt + 2) 0 n, .sl .nil []]]))).new .res).new .res).set (s.nxt + 3) (some (.row 4 (List.replicate n (.bool false)))))) (((((((((((s.new (.row 88 [.agg [.sl .nil [], .sl .nil [], .sl .nil [], .sl .nil []]])).new .res).new .res).set (s.nxt + 1) (some (.row 4 (List.replicate n (.bool false))))).set (s.nxt + 2) (some (.row 24 (List.replicate n (.int .u16 0))))).set s.nxt (some (.row 88 [.agg [.own (s.nxt + 1) 0 n, .sl .nil [], .own (s.nxt + 2) 0 n, .sl .nil []]]))).new .res).new .res).set (s.nxt + 3) (some (.row 4 (List.replicate n (.bool false))))).set s.nxt (some (.row 88 [.agg [.own (s.nxt + 1) 0 n, .own (s.nxt + 3) 0 n, .own (s.nxt + 2) 0 n, .sl .nil []]])))) [(((((((((((s.new (.row 88 [.agg [.sl .nil [], .sl .nil [], .sl .nil [], .sl .nil []]])).new .res).new .res).set (s.nxt + 1) (some (.row 4 (List.replicate n (.bool false))))).set (s.nxt + 2) (some (.row 24 (List.replicate n (.int .u16 0))))).set s.nxt (some (.row 88 [.agg [.own (s.nxt + 1) 0 n, .sl .nil [], .own (s.nxt + 2) 0 n, .sl .nil []]]))).new .res).new .res).set (s.nxt + 3) (some (.row 4 (List.replicate n (.bool false))))).set (s.nxt + 4) (some (.row 24 (List.replicate n (.int .u16 0))))), (((((((((((s.new (.row 88 [.agg [.sl .nil [], .sl .nil [], .sl .nil [], .sl .nil []]])).new .res).new .res).set (s.nxt + 1) (some (.row 4 (List.replicate n (.bool false))))).set (s.nxt + 2) (some (.row 24 (List.replicate n (.int .u16 0))))).set s.nxt (some (.row 88 [.agg [.own (s.nxt + 1) 0 n, .sl .nil [], .own (s.nxt + 2) 0 n, .sl .nil []]]))).new .res).new .res).set (s.nxt + 3) (some (.row 4 (List.replicate n (.bool false))))).set (s.nxt + 4) (some (.row 24 (List.replicate n (.int .u16 0))))).set s.nxt (some (.row 88 [.agg [.own (s.nxt + 1) 0 n, .own (s.nxt + 3) 0 n, .own (s.nxt + 2) 0 n, .sl .nil []]]))))] (by kernel_rfl) rfl au au au ?_
        refine DetHC.pre (pre := [_, _, _]) (s1 := ((((((((s.new (.row 88 [.agg [.sl .nil [], .sl .nil [], .sl .nil [], .sl .nil []]])).new .res).new .res).set (s.nxt + 1) (some (.row 4 (List.replicate n (.bool false))))).set (s.nxt + 2) (some (.row 24 (List.replicate n (.int .u16 0))))).set s.nxt (some (.row 88 [.agg [.own (s.nxt + 1) 0 n, .sl .nil [], .own (s.nxt + 2) 0 n, .sl .nil []]]))).new .res).new .res)) [0, 1, 2, 3, 4, 5] [((((((((s.new (.row 88 [.agg [.sl .nil [], .sl .nil [], .sl .nil [], .sl .nil []]])).new .res).new .res).set (s.nxt + 1) (some (.row 4 (List.replicate n (.bool false))))).set (s.nxt + 2) (some (.row 24 (List.replicate n (.int .u16 0))))).set s.nxt (some (.row 88 [.agg [.own (s.nxt + 1) 0 n, .sl .nil [], .own (s.nxt + 2) 0 n, .sl .nil []]]))).new .res).new .res), (((((((((s.new (.row 88 [.agg [.sl .nil [], .sl .nil [], .sl .nil [], .sl .nil []]])).new .res).new .res).set (s.nxt + 1) (some (.row 4 (List.replicate n (.bool false))))).set (s.nxt + 2) (some (.row 24 (List.replicate n (.int .u16 0))))).set s.nxt (some (.row 88 [.agg [.own (s.nxt + 1) 0 n, .sl .nil [], .own (s.nxt + 2) 0 n, .sl .nil []]]))).new .res).new .res).set (s.nxt + 3) (some (.row 4 (List.replicate n (.bool false))))), (((((((((s.new (.row 88 [.agg [.sl .nil [], .sl .nil [], .sl .nil [], .sl .nil []]])).new .res).new .res).set (s.nxt + 1) (some (.row 4 (List.replicate n (.bool false))))).set (s.nxt + 2) (some (.row 24 (List.replicate n (.int .u16 0))))).set s.nxt (some (.row 88 [.agg [.own (s.nxt + 1) 0 n, .sl .nil [], .own (s.nxt + 2) 0 n, .sl .nil []]]))).new .res).new .res).set (s.nxt + 4) (some (.row 24 (List.replicate n (.int .u16 0))))), ((((((((((s.new (.row 88 [.agg [.sl .nil [], .sl .nil [], .sl .nil [], .sl .nil []]])).new .res).new .res).set (s.nxt + 1) (some (.row 4 (List.replicate n (.bool false))))).set (s.nxt + 2) (some (.row 24 (List.replicate n (.int .u16 0))))).set s.nxt (some (.row 88 [.agg [.own (s.nxt + 1) 0 n, .sl .nil [], .own (s.nxt + 2) 0 n, .sl .nil []]]))).new .res).new .res).set (s.nxt + 3) (some (.row 4 (List.replicate n (.bool false))))).set (s.nxt + 4) (some (.row 24 (List.replicate n (.int .u16 0))))), ((((((((((s.new (.row 88 [.agg [.sl .nil [], .sl .nil [], .sl .nil [], .sl .nil []]])).new .res).new .res).set (s.nxt + 1) (some (.row 4 (List.replicate n (.bool false))))).set (s.nxt + 2) (some (.row 24 (List.replicate n (.int .u16 0))))).set s.nxt (some (.row 88 [.agg [.own (s.nxt + 1) 0 n, .sl .nil [], .own (s.nxt + 2) 0 n, .sl .nil []]]))).new .res).new .res).set (s.nxt + 3) (some (.row 4 (List.replicate n (.bool false))))).set s.nxt (some (.row 88 [.agg [.own (s.nxt + 1) 0 n, .own (s.nxt + 3) 0 n, .own (s.nxt + 2) 0 n, .sl .nil []]]))), (((((((((((s.new (.row 88 [.agg [.sl .nil [], .sl .nil [], .sl .nil [], .sl .nil []]])).new .res).new .res).set (s.nxt + 1) (some (.row 4 (List.replicate n (.bool false))))).set (s.nxt + 2) (some (.row 24 (List.replicate n (.int .u16 0))))).set s.nxt (some (.row 88 [.agg [.own (s.nxt + 1) 0 n, .sl .nil [], .own (s.nxt + 2) 0 n, .sl .nil []]]))).new .res).new .res).set (s.nxt + 3) (some (.row 4 (List.replicate n (.bool false))))).set (s.nxt + 4) (some (.row 24 (List.replicate n (.int .u16 0))))).set s.nxt (some (.row 88 [.agg [.own (s.nxt + 1) 0 n, .own (s.nxt + 3) 0 n, .own (s.nxt + 2) 0 n, .sl .nil []]])))] (by kernel_rfl) rfl au ?_
        refine DetHC.eff [(5, 6)] ((((((((((((s.new (.row 88 [.agg [.sl .nil [], .sl .nil [], .sl .nil [], .sl .nil []]])).new .res).new .res).set (s.nxt + 1) (some (.row 4 (List.replicate n (.bool false))))).set (s.nxt + 2) (some (.row 24 (List.replicate n (.int .u16 0))))).set s.nxt (some (.row 88 [.agg [.own (s.nxt + 1) 0 n, .sl .nil [], .own (s.nxt + 2) 0 n, .sl .nil []]]))).new .res).new .res).set (s.nxt + 3) (some (.row 4 (List.replicate n (.bool false))))).set (s.nxt + 4) (some (.row 24 (List.replicate n (.int .u16 0))))).set s.nxt (some (.row 88 [.agg [.own (s.nxt + 1) 0 n, .own (s.nxt + 3) 0 n, .own (s.nxt + 2) 0 n, .sl .nil []]])))) ((((((((((((s.new (.row 88 [.agg [.sl .nil [], .sl .nil [], .sl .nil [], .sl .nil []]])).new .res).new .res).set (s.nxt + 1) (some (.row 4 (List.replicate n (.bool false))))).set (s.nxt + 2) (some (.row 24 (List.replicate n (.int .u16 0))))).set s.nxt (some (.row 88 [.agg [.own (s.nxt + 1) 0 n, .sl .nil [], .own (s.nxt + 2) 0 n, .sl .nil []]]))).new .res).new .res).set (s.nxt + 3) (some (.row 4 (List.replicate n (.bool false))))).set (s.nxt + 4) (some (.row 24 (List.replicate n (.int .u16 0))))).set s.nxt (some (.row 88 [.agg [.own (s.nxt + 1) 0 n, .own (s.nxt + 3) 0 n, .own (s.nxt + 2) 0 n, .own (s.nxt + 4) 0 n]])))) [] (by kernel_rfl) rfl au au au ?_
        refine DetHC.nil ?_
        refine rl [0, 3, 13] (k := rB (k := rg [0, 3, 13] (k := ?_)))
        refine Run.lp ⟨⟨2, by decide, by rfl, by rfl⟩, ?_⟩
        simp only [ivar, go_sem, ↓reduceIte, Nat.reduceEqDiff]
        decide
      · cases hc1
    · refine rs (k := rg [0, 3, 13, 14] (k := rs (k := rc (ht := fun hc1 => ?_) (hf := fun hc1 => ?_))))
      · cases hc1
      · refine rX (k := rs (k := rg [2] (k := rR (k := ?_))))
        exact Ret.all (by simp only [Try.f18, go_sem, ↓reduceIte] <;> rfl) ⟨rfl, rfl⟩
end Go.Proofs

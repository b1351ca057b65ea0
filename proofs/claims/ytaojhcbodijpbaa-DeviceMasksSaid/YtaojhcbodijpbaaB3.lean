import Derived.Test.YtaojhcbodijpbaaB2
set_option linter.unusedVariables false
set_option linter.unusedSimpArgs false
namespace Go.Proofs
open Go.PM
set_option maxHeartbeats 2000000
attribute [local go_sem] weaks_bools Req.pv
set_option maxRecDepth 100000 in
theorem pdu_Bytes {q : Req} (hq : q.ok) {s : St} : ACalls Try.prog 71 [q.pv] s (fun r s' => r = .tuple [.sl .unk ((bytesF q).map (PV.int .u8)), .int .i64 (rightF q)] ∧ s' = s) := by
  refine go Try.func71 (k := fun hwf H => ?_)
  refine rs (k := rg [1] (k := rs (k := rs (k := rr (k := ro (pre := [_]) (k := rC (h := pdu_Right (q := q)) (k := rh [1, 4] (k := rs (k := rg [1, 4, 10] (k := rc (ht := fun hc0 => ?_) (hf := fun hc0 => ?_)))))))))))
  · refine rs (k := rg [2, 3] (k := rR (k := ?_)))
    refine Ret.pure (r' := .tuple [.sl .unk ((bytesF q).map (PV.int .u8)), .int .i64 (rightF q)]) (by simp only [Try.f71, go_sem, ↓reduceIte] <;> rfl) ?_ (by simp only [PV.blw, PV.blws, and_true]; exact ⟨fun t z e => (by cases e), blws_u8 _ _⟩) hwf (fun i hi => by first | rfl | (have h0 := ltn hi; have h1 := lte hi; simp only [go_sem, Nat.add_assoc, Nat.reduceAdd, ↓reduceIte, h0, h1])) ⟨rfl, rfl⟩
    simp only [PV.weak, PV.weaks, weaks_u8]
    first
      | (have hr0' : ¬ rightF q = 0 := by simpa using hc0
         unfold bytesF
         rw [if_neg hr0']
         rfl)
      | (rw [hr0]
         refine congrArg (fun x => PV.tuple [PV.sl .unk x, .int .i64 0]) ?_
         first | refine congrArg (List.map (PV.int .u8)) ?_ | refine congrArg (List.map (PV.int .u8)) (a₂ := [q.fn]) ?_
         clear hll1 hll2 hll3 hll4 hll5 hll6 hcl hbl hCn hBn hvl hpl hu8 hwf h16a h16o H
         simp only [decide_eq_true_eq, decide_eq_false_iff_not] at *
         simp [bytesF, writeF, *])
  · refine rk (k := rs (k := ?_))
    have hr0 : rightF q = 0 := by simpa using hc0
    have hR := right0 hr0
    have hfn := has_cases hR.has
    have hu8 : IntKind.u8.wrap q.fn = q.fn := by rw [u8_wrap]; omega
    have hmv := hR.mv
    have hmb := hR.mb
    have hpl := packB_len q.bits
    obtain ⟨V, hV⟩ : ∃ V, V = q.vals.flatMap num2 := ⟨_, rfl⟩
    have hvl : V.length = 2 * q.vals.length := by rw [hV]; exact flat2_len _
    obtain ⟨L1, hL1⟩ : ∃ L, L = [q.fn] ++ num2 q.at_ := ⟨_, rfl⟩
    obtain ⟨L2, hL2⟩ : ∃ L, L = L1 ++ num2 q.count := ⟨_, rfl⟩
    obtain ⟨L3, hL3⟩ : ∃ L, L = L2 ++ num2 q.wat := ⟨_, rfl⟩
    obtain ⟨L4, hL4⟩ : ∃ L, L = L3 ++ num2 q.vals.length := ⟨_, rfl⟩
    obtain ⟨L5, hL5⟩ : ∃ L, L = [q.fn] ++ num2 q.sub := ⟨_, rfl⟩
    obtain ⟨L6, hL6⟩ : ∃ L, L = L1 ++ num2 q.and_ := ⟨_, rfl⟩
    obtain ⟨L7, hL7⟩ : ∃ L, L = L6 ++ num2 q.or_ := ⟨_, rfl⟩
    obtain ⟨C, hC⟩ : ∃ C, C = (V.length : Int) :: V := ⟨_, rfl⟩
    obtain ⟨B, hB⟩ : ∃ B, B = ((packB q.bits).length : Int) :: packB q.bits := ⟨_, rfl⟩
    obtain ⟨X9, hX9⟩ : ∃ X, X = L5 ++ V := ⟨_, rfl⟩
    obtain ⟨X18, hX18⟩ : ∃ X, X = L1 ++ V := ⟨_, rfl⟩
    obtain ⟨X24, hX24⟩ : ∃ X, X = L2 ++ B := ⟨_, rfl⟩
    obtain ⟨X26, hX26⟩ : ∃ X, X = L2 ++ C := ⟨_, rfl⟩
    obtain ⟨X28, hX28⟩ : ∃ X, X = L4 ++ C := ⟨_, rfl⟩
    have hll1 : L1.length = 3 := by rw [hL1]; simp [num2]
    have hll2 : L2.length = 5 := by rw [hL2]; simp [num2, hll1]
    have hll3 : L3.length = 7 := by rw [hL3]; simp [num2, hll2]
    have hll4 : L4.length = 9 := by rw [hL4]; simp [num2, hll3]
    have hll5 : L5.length = 3 := by rw [hL5]; simp [num2]
    have hll6 : L6.length = 5 := by rw [hL6]; simp [num2, hll1]
    have hcl : C.length = V.length + 1 := by rw [hC]; rfl
    have hbl : B.length = (packB q.bits).length + 1 := by rw [hB]; rfl
    have hCn : C ≠ [] := by rw [hC]; simp
    have hBn : B ≠ [] := by rw [hB]; simp
    have h16a : IntKind.i64.wrap q.and_ = q.and_ := wrap_i64 (by have := hq.and_; unfold U16 at this; omega)
    have h16o : IntKind.i64.wrap q.or_ = q.or_ := wrap_i64 (by have := hq.or_; unfold U16 at this; omega)
    have H := aj hu8 (aj h16a (aj h16o H))
    refine rr (k := ro (pre := [_, _, _]) (k := rO (k := rh [1, 5] (k := rs (k := rs (k := rg [1, 5, 17] (k := rb (k := rs (k := rg [1, 5, 17, 18] (k := rc (ht := fun hc1 => ?_) (hf := fun hc1 => ?_)))))))))))
    · refine rs (k := rg [2, 3] (k := rR (k := ?_)))
      refine Ret.pure (r' := .tuple [.sl .unk ((bytesF q).map (PV.int .u8)), .int .i64 (rightF q)]) (by simp only [Try.f71, go_sem, ↓reduceIte] <;> rfl) ?_ (by simp only [PV.blw, PV.blws, and_true]; exact ⟨fun t z e => (by cases e), blws_u8 _ _⟩) hwf (fun i hi => by first | rfl | (have h0 := ltn hi; have h1 := lte hi; simp only [go_sem, Nat.add_assoc, Nat.reduceAdd, ↓reduceIte, h0, h1])) ⟨rfl, rfl⟩
      simp only [PV.weak, PV.weaks, weaks_u8]
      first
        | (have hr0' : ¬ rightF q = 0 := by simpa using hc0
           unfold bytesF
           rw [if_neg hr0']
           rfl)
        | (rw [hr0]
           refine congrArg (fun x => PV.tuple [PV.sl .unk x, .int .i64 0]) ?_
           first | refine congrArg (List.map (PV.int .u8)) ?_ | refine congrArg (List.map (PV.int .u8)) (a₂ := [q.fn]) ?_
           clear hll1 hll2 hll3 hll4 hll5 hll6 hcl hbl hCn hBn hvl hpl hu8 hwf h16a h16o H
           simp only [decide_eq_true_eq, decide_eq_false_iff_not] at *
           simp [bytesF, writeF, *])
    · refine rs (k := rg [1, 5, 21] (k := rc (ht := fun hc2 => ?_) (hf := fun hc2 => ?_)))
      · refine rs (k := ?_)
        have hv1 : q.vals.length = 1 := by have := hR.nv; simp only [valsF, decide_eq_true_eq, decide_eq_false_iff_not] at *; simp [*] at this; omega
        have hvn : V ≠ [] := by intro h; rw [h] at hvl; simp at hvl; omega
        refine Run.drawM 7 [3] [(s.new (.row 33 [.agg [.int .i64 q.fn, .int .i64 q.at_, .int .i64 q.count, .int .i64 q.wat, .int .i64 q.sub, .sl .unk (q.bits.map PV.bool), .sl .unk (q.vals.map (PV.int .u16)), .int .u16 q.and_, .int .u16 q.or_]])), ((s.new (.row 33 [.agg [.int .i64 q.fn, .int .i64 q.at_, .int .i64 q.count, .int .i64 q.wat, .int .i64 q.sub, .sl .unk (q.bits.map PV.bool), .sl .unk (q.vals.map (PV.int .u16)), .int .u16 q.and_, .int .u16 q.or_]])).new (.tok L5.length))] Try.mixed (by kernel_rfl) (by kernel_rfl) ?_
        refine DetBC.pre (pre := [_, _, _]) (by decide) List.mem_cons_self au ?_
        refine DetBC.callE (by decide) List.mem_cons_self au au au (by kernel_rfl) (octet_PutXL (l := [q.fn]) hL5 (by simp)) ?_
        refine DetBC.pre (pre := [_, _]) (by decide) (List.mem_cons_of_mem _ List.mem_cons_self) au ?_
        refine DetBC.call (by decide) au au au (by kernel_rfl) (List.mem_cons_of_mem _ List.mem_cons_self) (fun s _ => octet_BytesL hV (by omega)) ?_
        refine DetBC.nil (List.mem_cons_of_mem _ List.mem_cons_self) ?_
        refine RunO.append au au au Try.td28 (by rw [Try.zp5]; rfl) (isEls_map (P := Try.prog) (e := 5) (f := PV.int .u8) (fun a => ⟨rfl, by rw [Try.cz5]; rfl⟩) _) (isEls_map (P := Try.prog) (e := 5) (f := PV.int .u8) (fun a => ⟨rfl, by rw [Try.cz5]; rfl⟩) _) (by rw [Try.by5]; decide) (by rw [Try.by5]; simp; try omega) (aAppend_tokL hX9 hvn (by simp (disch := omega) only [go_sem] <;> rfl) rfl Try.cz5) ?_
        refine rh [2, 3] (k := rR (k := ?_))
        refine Ret.pure (r' := .tuple [.sl .unk ((bytesF q).map (PV.int .u8)), .int .i64 (rightF q)]) (by simp only [Try.f71, go_sem, ↓reduceIte] <;> rfl) ?_ (by simp only [PV.blw, PV.blws, and_true]; exact ⟨fun t z e => (by cases e), blws_u8 _ _⟩) hwf (fun i hi => by first | rfl | (have h0 := ltn hi; have h1 := lte hi; simp only [go_sem, Nat.add_assoc, Nat.reduceAdd, ↓reduceIte, h0, h1])) ⟨rfl, rfl⟩
        simp only [PV.weak, PV.weaks, weaks_u8]
        first
          | (have hr0' : ¬ rightF q = 0 := by simpa using hc0
             unfold bytesF
             rw [if_neg hr0']
             rfl)
          | (rw [hr0]
             refine congrArg (fun x => PV.tuple [PV.sl .unk x, .int .i64 0]) ?_
             first | refine congrArg (List.map (PV.int .u8)) ?_ | refine congrArg (List.map (PV.int .u8)) (a₂ := [q.fn]) ?_
             clear hll1 hll2 hll3 hll4 hll5 hll6 hcl hbl hCn hBn hvl hpl hu8 hwf h16a h16o H
             simp only [decide_eq_true_eq, decide_eq_false_iff_not] at *
             simp [bytesF, writeF, *])
      · refine rk (k := rB (k := rs (k := rr (k := ro (pre := [_, _, _]) (k := ?_)))))
        refine RunO.callw au au au (by kernel_rfl) ((octet_PutXL (l := [q.fn]) hL1 (by simp)).mono ?_)
        rintro r s1 ⟨rfl, rfl⟩
        refine rh [1, 5] (k := rs (k := rs (k := rg [1, 5, 36] (k := rb (k := rs (k := rg [1, 5, 36, 37] (k := rc (ht := fun hc3 => ?_) (hf := fun hc3 => ?_))))))))
        · refine rs (k := rg [1, 5, 6] (k := rs (k := rs (k := ?_))))
          obtain ⟨b, hb⟩ : ∃ b, q.bits = [b] := by
            have := hR.nb
            simp only [bitsF, decide_eq_true_eq] at *
            simp [*] at this
            exact List.length_eq_one_iff.1 (by omega)
          have hb2 : (q.bits.map PV.bool)[0]? = some (.bool b) := by rw [hb]; rfl
          have hb3 : (0 < q.bits.length) = True := by rw [hb]; simp
          have H := aj hb2 (aj hb3 H)
          refine rg [5, 6, 42] (k := rc (ht := fun hc4 => ?_) (hf := fun hc4 => ?_))
          · refine rg [5, 6] (k := rs (k := rr (k := ro (pre := [_, _]) (k := ?_))))
            refine RunO.callw au au au (by kernel_rfl) ((octet_Put (l := L1) (by omega)).mono ?_)
            rintro r s1 ⟨rfl, hs⟩
            subst s1
            refine rh [2, 3] (k := rR (k := ?_))
            refine Ret.pure (r' := .tuple [.sl .unk ((bytesF q).map (PV.int .u8)), .int .i64 (rightF q)]) (by simp only [Try.f71, go_sem, ↓reduceIte] <;> rfl) ?_ (by simp only [PV.blw, PV.blws, and_true]; exact ⟨fun t z e => (by cases e), blws_u8 _ _⟩) hwf (fun i hi => by first | rfl | (have h0 := ltn hi; have h1 := lte hi; simp only [go_sem, Nat.add_assoc, Nat.reduceAdd, ↓reduceIte, h0, h1])) ⟨rfl, rfl⟩
            simp only [PV.weak, PV.weaks, weaks_u8]
            first
              | (have hr0' : ¬ rightF q = 0 := by simpa using hc0
                 unfold bytesF
                 rw [if_neg hr0']
                 rfl)
              | (rw [hr0]
                 refine congrArg (fun x => PV.tuple [PV.sl .unk x, .int .i64 0]) ?_
                 first | refine congrArg (List.map (PV.int .u8)) ?_ | refine congrArg (List.map (PV.int .u8)) (a₂ := [q.fn]) ?_
                 clear hll1 hll2 hll3 hll4 hll5 hll6 hcl hbl hCn hBn hvl hpl hu8 hwf h16a h16o H
                 simp only [decide_eq_true_eq, decide_eq_false_iff_not] at *
                 simp [bytesF, writeF, *])
          · refine rk (k := rs (k := rr (k := ro (pre := [_, _]) (k := ?_))))
            refine RunO.callw au au au (by kernel_rfl) ((octet_Put (l := L1) (by omega)).mono ?_)
            rintro r s1 ⟨rfl, hs⟩
            subst s1
            refine rh [2, 3] (k := rR (k := ?_))
            refine Ret.pure (r' := .tuple [.sl .unk ((bytesF q).map (PV.int .u8)), .int .i64 (rightF q)]) (by simp only [Try.f71, go_sem, ↓reduceIte] <;> rfl) ?_ (by simp only [PV.blw, PV.blws, and_true]; exact ⟨fun t z e => (by cases e), blws_u8 _ _⟩) hwf (fun i hi => by first | rfl | (have h0 := ltn hi; have h1 := lte hi; simp only [go_sem, Nat.add_assoc, Nat.reduceAdd, ↓reduceIte, h0, h1])) ⟨rfl, rfl⟩
            simp only [PV.weak, PV.weaks, weaks_u8]
            first
              | (have hr0' : ¬ rightF q = 0 := by simpa using hc0
                 unfold bytesF
                 rw [if_neg hr0']
                 rfl)
              | (rw [hr0]
                 refine congrArg (fun x => PV.tuple [PV.sl .unk x, .int .i64 0]) ?_
                 first | refine congrArg (List.map (PV.int .u8)) ?_ | refine congrArg (List.map (PV.int .u8)) (a₂ := [q.fn]) ?_
                 clear hll1 hll2 hll3 hll4 hll5 hll6 hcl hbl hCn hBn hvl hpl hu8 hwf h16a h16o H
                 simp only [decide_eq_true_eq, decide_eq_false_iff_not] at *
                 simp [bytesF, writeF, *])
        · refine rs (k := rg [1, 5, 36, 46] (k := rc (ht := fun hc5 => ?_) (hf := fun hc5 => ?_)))
          · refine rs (k := ?_)
            have hv1 : q.vals.length = 1 := by have := hR.nv; simp only [valsF, decide_eq_true_eq, decide_eq_false_iff_not] at *; simp [*] at this; omega
            have hvn : V ≠ [] := by intro h; rw [h] at hvl; simp at hvl; omega
            refine rr (k := ro (pre := [_, _, _]) (k := rC (h := octet_BytesL hV (by omega)) (k := ?_)))
            refine RunO.append au au au Try.td28 (by rw [Try.zp5]; rfl) (isEls_map (P := Try.prog) (e := 5) (f := PV.int .u8) (fun a => ⟨rfl, by rw [Try.cz5]; rfl⟩) _) (isEls_map (P := Try.prog) (e := 5) (f := PV.int .u8) (fun a => ⟨rfl, by rw [Try.cz5]; rfl⟩) _) (by rw [Try.by5]; decide) (by rw [Try.by5]; simp; try omega) (aAppend_tokL hX18 hvn (by simp (disch := omega) only [go_sem] <;> rfl) rfl Try.cz5) ?_
            refine rh [2, 3] (k := rR (k := ?_))
            refine Ret.pure (r' := .tuple [.sl .unk ((bytesF q).map (PV.int .u8)), .int .i64 (rightF q)]) (by simp only [Try.f71, go_sem, ↓reduceIte] <;> rfl) ?_ (by simp only [PV.blw, PV.blws, and_true]; exact ⟨fun t z e => (by cases e), blws_u8 _ _⟩) hwf (fun i hi => by first | rfl | (have h0 := ltn hi; have h1 := lte hi; simp only [go_sem, Nat.add_assoc, Nat.reduceAdd, ↓reduceIte, h0, h1])) ⟨rfl, rfl⟩
            simp only [PV.weak, PV.weaks, weaks_u8]
            first
              | (have hr0' : ¬ rightF q = 0 := by simpa using hc0
                 unfold bytesF
                 rw [if_neg hr0']
                 rfl)
              | (rw [hr0]
                 refine congrArg (fun x => PV.tuple [PV.sl .unk x, .int .i64 0]) ?_
                 first | refine congrArg (List.map (PV.int .u8)) ?_ | refine congrArg (List.map (PV.int .u8)) (a₂ := [q.fn]) ?_
                 clear hll1 hll2 hll3 hll4 hll5 hll6 hcl hbl hCn hBn hvl hpl hu8 hwf h16a h16o H
                 simp only [decide_eq_true_eq, decide_eq_false_iff_not] at *
                 simp [bytesF, writeF, *])
          · refine rs (k := rg [1, 5, 53] (k := rc (ht := fun hc6 => ?_) (hf := fun hc6 => ?_)))
            · refine rs (k := ?_)
              refine Run.drawC [] [2, 3] Try.mixed (by kernel_rfl) ?_
              refine DetC.pre (pre := [_, _, _, _]) au ?_
              refine DetC.call au au au (by kernel_rfl) (octet_PutL hL6 (by omega)) ?_
              refine DetC.pre (pre := [_, _, _]) au ?_
              refine DetC.call au au au (by kernel_rfl) (octet_PutL hL7 (by omega)) ?_
              refine DetC.all au ?_
              refine re (k := rR (k := ?_))
              refine Ret.pure (r' := .tuple [.sl .unk ((bytesF q).map (PV.int .u8)), .int .i64 (rightF q)]) (by simp only [Try.f71, go_sem, ↓reduceIte] <;> rfl) ?_ (by simp only [PV.blw, PV.blws, and_true]; exact ⟨fun t z e => (by cases e), blws_u8 _ _⟩) hwf (fun i hi => by first | rfl | (have h0 := ltn hi; have h1 := lte hi; simp only [go_sem, Nat.add_assoc, Nat.reduceAdd, ↓reduceIte, h0, h1])) ⟨rfl, rfl⟩
              simp only [PV.weak, PV.weaks, weaks_u8]
              first
                | (have hr0' : ¬ rightF q = 0 := by simpa using hc0
                   unfold bytesF
                   rw [if_neg hr0']
                   rfl)
                | (rw [hr0]
                   refine congrArg (fun x => PV.tuple [PV.sl .unk x, .int .i64 0]) ?_
                   first | refine congrArg (List.map (PV.int .u8)) ?_ | refine congrArg (List.map (PV.int .u8)) (a₂ := [q.fn]) ?_
                   clear hll1 hll2 hll3 hll4 hll5 hll6 hcl hbl hCn hBn hvl hpl hu8 hwf h16a h16o H
                   simp only [decide_eq_true_eq, decide_eq_false_iff_not] at *
                   simp [bytesF, writeF, *])
            · refine rk (k := rB (k := rs (k := rr (k := ro (pre := [_, _, _]) (k := ?_)))))
              refine RunO.callw au au au (by kernel_rfl) ((octet_PutXL hL2 (by omega)).mono ?_)
              rintro r s1 ⟨rfl, rfl⟩
              refine rh [1, 5] (k := rs (k := rs (k := rg [1, 5, 69] (k := rb (k := rs (k := rg [1, 5, 69, 70] (k := rc (ht := fun hc7 => ?_) (hf := fun hc7 => ?_))))))))
              · refine rr (k := ro (pre := [_, _, _]) (k := rC (h := octet_Pack (l := q.bits) (by omega)) (k := rC (h := pdu_countedL hB (by omega)) (k := ?_))))
                refine RunO.append au au au Try.td28 (by rw [Try.zp5]; rfl) (isEls_map (P := Try.prog) (e := 5) (f := PV.int .u8) (fun a => ⟨rfl, by rw [Try.cz5]; rfl⟩) _) (isEls_map (P := Try.prog) (e := 5) (f := PV.int .u8) (fun a => ⟨rfl, by rw [Try.cz5]; rfl⟩) _) (by rw [Try.by5]; decide) (by rw [Try.by5]; simp; try omega) (aAppend_tokL hX24 hBn (by simp (disch := omega) only [go_sem] <;> rfl) rfl Try.cz5) ?_
                refine rh [5] (k := rB (k := rs (k := rr (k := ro (pre := [_]) (k := rC (h := clip_u8) (k := rh [2, 3] (k := rR (k := ?_))))))))
                refine Ret.pure (r' := .tuple [.sl .unk ((bytesF q).map (PV.int .u8)), .int .i64 (rightF q)]) (by simp only [Try.f71, go_sem, ↓reduceIte] <;> rfl) ?_ (by simp only [PV.blw, PV.blws, and_true]; exact ⟨fun t z e => (by cases e), blws_u8 _ _⟩) hwf (fun i hi => by first | rfl | (have h0 := ltn hi; have h1 := lte hi; simp only [go_sem, Nat.add_assoc, Nat.reduceAdd, ↓reduceIte, h0, h1])) ⟨rfl, rfl⟩
                simp only [PV.weak, PV.weaks, weaks_u8]
                first
                  | (have hr0' : ¬ rightF q = 0 := by simpa using hc0
                     unfold bytesF
                     rw [if_neg hr0']
                     rfl)
                  | (rw [hr0]
                     refine congrArg (fun x => PV.tuple [PV.sl .unk x, .int .i64 0]) ?_
                     first | refine congrArg (List.map (PV.int .u8)) ?_ | refine congrArg (List.map (PV.int .u8)) (a₂ := [q.fn]) ?_
                     clear hll1 hll2 hll3 hll4 hll5 hll6 hcl hbl hCn hBn hvl hpl hu8 hwf h16a h16o H
                     simp only [decide_eq_true_eq, decide_eq_false_iff_not] at *
                     simp [bytesF, writeF, *])
              · refine rs (k := rg [1, 5, 69, 78] (k := rc (ht := fun hc8 => ?_) (hf := fun hc8 => ?_)))
                · refine rr (k := ro (pre := [_, _, _]) (k := rC (h := octet_BytesL hV (by omega)) (k := rC (h := pdu_countedL hC (by omega)) (k := ?_))))
                  refine RunO.append au au au Try.td28 (by rw [Try.zp5]; rfl) (isEls_map (P := Try.prog) (e := 5) (f := PV.int .u8) (fun a => ⟨rfl, by rw [Try.cz5]; rfl⟩) _) (isEls_map (P := Try.prog) (e := 5) (f := PV.int .u8) (fun a => ⟨rfl, by rw [Try.cz5]; rfl⟩) _) (by rw [Try.by5]; decide) (by rw [Try.by5]; simp; try omega) (aAppend_tokL hX26 hCn (by simp (disch := omega) only [go_sem] <;> rfl) rfl Try.cz5) ?_
                  refine rh [5] (k := rB (k := rs (k := rr (k := ro (pre := [_]) (k := rC (h := clip_u8) (k := rh [2, 3] (k := rR (k := ?_))))))))
                  refine Ret.pure (r' := .tuple [.sl .unk ((bytesF q).map (PV.int .u8)), .int .i64 (rightF q)]) (by simp only [Try.f71, go_sem, ↓reduceIte] <;> rfl) ?_ (by simp only [PV.blw, PV.blws, and_true]; exact ⟨fun t z e => (by cases e), blws_u8 _ _⟩) hwf (fun i hi => by first | rfl | (have h0 := ltn hi; have h1 := lte hi; simp only [go_sem, Nat.add_assoc, Nat.reduceAdd, ↓reduceIte, h0, h1])) ⟨rfl, rfl⟩
                  simp only [PV.weak, PV.weaks, weaks_u8]
                  first
                    | (have hr0' : ¬ rightF q = 0 := by simpa using hc0
                       unfold bytesF
                       rw [if_neg hr0']
                       rfl)
                    | (rw [hr0]
                       refine congrArg (fun x => PV.tuple [PV.sl .unk x, .int .i64 0]) ?_
                       first | refine congrArg (List.map (PV.int .u8)) ?_ | refine congrArg (List.map (PV.int .u8)) (a₂ := [q.fn]) ?_
                       clear hll1 hll2 hll3 hll4 hll5 hll6 hcl hbl hCn hBn hvl hpl hu8 hwf h16a h16o H
                       simp only [decide_eq_true_eq, decide_eq_false_iff_not] at *
                       simp [bytesF, writeF, *])
                · refine rs (k := rg [1, 5, 86] (k := rc (ht := fun hc9 => ?_) (hf := fun hc9 => ?_)))
                  · refine Run.drawM 12 [7] [(((s.new (.row 33 [.agg [.int .i64 q.fn, .int .i64 q.at_, .int .i64 q.count, .int .i64 q.wat, .int .i64 q.sub, .sl .unk (q.bits.map PV.bool), .sl .unk (q.vals.map (PV.int .u16)), .int .u16 q.and_, .int .u16 q.or_]])).new (.tok L1.length)).new (.tok L2.length)), ((((s.new (.row 33 [.agg [.int .i64 q.fn, .int .i64 q.at_, .int .i64 q.count, .int .i64 q.wat, .int .i64 q.sub, .sl .unk (q.bits.map PV.bool), .sl .unk (q.vals.map (PV.int .u16)), .int .u16 q.and_, .int .u16 q.or_]])).new (.tok L1.length)).new (.tok L2.length)).new (.tok L4.length))] Try.mixed (by kernel_rfl) (by kernel_rfl) ?_
                    refine DetBC.pre (pre := [_, _, _]) (by decide) List.mem_cons_self au ?_
                    refine DetBC.call (by decide) au au au (by kernel_rfl) List.mem_cons_self (fun s _ => octet_PutL hL3 (by omega)) ?_
                    refine DetBC.pre (pre := [_, _, _]) (by decide) List.mem_cons_self au ?_
                    refine DetBC.callE (by decide) List.mem_cons_self au au au (by kernel_rfl) (octet_PutXL hL4 (by omega)) ?_
                    refine DetBC.pre (pre := [_, _]) (by decide) (List.mem_cons_of_mem _ List.mem_cons_self) au ?_
                    refine DetBC.call (by decide) au au au (by kernel_rfl) (List.mem_cons_of_mem _ List.mem_cons_self) (fun s _ => octet_BytesL hV (by omega)) ?_
                    refine DetBC.call (by decide) au au au (by kernel_rfl) (List.mem_cons_of_mem _ List.mem_cons_self) (fun s _ => pdu_countedL hC (by omega)) ?_
                    refine DetBC.nil (List.mem_cons_of_mem _ List.mem_cons_self) ?_
                    refine RunO.append au au au Try.td28 (by rw [Try.zp5]; rfl) (isEls_map (P := Try.prog) (e := 5) (f := PV.int .u8) (fun a => ⟨rfl, by rw [Try.cz5]; rfl⟩) _) (isEls_map (P := Try.prog) (e := 5) (f := PV.int .u8) (fun a => ⟨rfl, by rw [Try.cz5]; rfl⟩) _) (by rw [Try.by5]; decide) (by rw [Try.by5]; simp; try omega) (aAppend_tokL hX28 hCn (by simp (disch := omega) only [go_sem] <;> rfl) rfl Try.cz5) ?_
                    refine rh [5] (k := rB (k := rs (k := rr (k := ro (pre := [_]) (k := rC (h := clip_u8) (k := rh [2, 3] (k := rR (k := ?_))))))))
                    refine Ret.pure (r' := .tuple [.sl .unk ((bytesF q).map (PV.int .u8)), .int .i64 (rightF q)]) (by simp only [Try.f71, go_sem, ↓reduceIte] <;> rfl) ?_ (by simp only [PV.blw, PV.blws, and_true]; exact ⟨fun t z e => (by cases e), blws_u8 _ _⟩) hwf (fun i hi => by first | rfl | (have h0 := ltn hi; have h1 := lte hi; simp only [go_sem, Nat.add_assoc, Nat.reduceAdd, ↓reduceIte, h0, h1])) ⟨rfl, rfl⟩
                    simp only [PV.weak, PV.weaks, weaks_u8]
                    first
                      | (have hr0' : ¬ rightF q = 0 := by simpa using hc0
                         unfold bytesF
                         rw [if_neg hr0']
                         rfl)
                      | (rw [hr0]
                         refine congrArg (fun x => PV.tuple [PV.sl .unk x, .int .i64 0]) ?_
                         first | refine congrArg (List.map (PV.int .u8)) ?_ | refine congrArg (List.map (PV.int .u8)) (a₂ := [q.fn]) ?_
                         clear hll1 hll2 hll3 hll4 hll5 hll6 hcl hbl hCn hBn hvl hpl hu8 hwf h16a h16o H
                         simp only [decide_eq_true_eq, decide_eq_false_iff_not] at *
                         simp [bytesF, writeF, *])
                  · refine rk (k := rB (k := rs (k := rr (k := ro (pre := [_]) (k := rC (h := clip_u8) (k := rh [2, 3] (k := rR (k := ?_))))))))
                    refine Ret.pure (r' := .tuple [.sl .unk ((bytesF q).map (PV.int .u8)), .int .i64 (rightF q)]) (by simp only [Try.f71, go_sem, ↓reduceIte] <;> rfl) ?_ (by simp only [PV.blw, PV.blws, and_true]; exact ⟨fun t z e => (by cases e), blws_u8 _ _⟩) hwf (fun i hi => by first | rfl | (have h0 := ltn hi; have h1 := lte hi; simp only [go_sem, Nat.add_assoc, Nat.reduceAdd, ↓reduceIte, h0, h1])) ⟨rfl, rfl⟩
                    simp only [PV.weak, PV.weaks, weaks_u8]
                    first
                      | (have hr0' : ¬ rightF q = 0 := by simpa using hc0
                         unfold bytesF
                         rw [if_neg hr0']
                         rfl)
                      | (rw [hr0]
                         refine congrArg (fun x => PV.tuple [PV.sl .unk x, .int .i64 0]) ?_
                         first | refine congrArg (List.map (PV.int .u8)) ?_ | refine congrArg (List.map (PV.int .u8)) (a₂ := [q.fn]) ?_
                         clear hll1 hll2 hll3 hll4 hll5 hll6 hcl hbl hCn hBn hvl hpl hu8 hwf h16a h16o H
                         simp only [decide_eq_true_eq, decide_eq_false_iff_not] at *
                         simp [bytesF, writeF, *])
end Go.Proofs
namespace Go.Proofs
open Go.PM
set_option maxHeartbeats 2000000
attribute [local go_sem] weaks_bools Req.pv
end Go.Proofs
namespace Go.Proofs
open Go.PM
set_option maxHeartbeats 2000000
theorem pdu_num {b : List Int} (hb : OkB b) (hl : b.length ≤ 10000000) {i : Int} {a : Int} (ha : 1 + 2 * i = a) (hi : 0 ≤ i ∧ i ≤ 100) {s : St} : ACalls Try.prog 86 [.sl .unk (b.map (PV.int .u8)), .int .i64 i] s (fun r s' => r = .int .i64 (num1 b a) ∧ s' = s) := by
  refine go Try.func86 (k := fun hwf H => ?_)
  have hw1 : IntKind.i64.wrap (2 * i) = 2 * i := wrap_i64 (by omega)
  have hw2 : IntKind.i64.wrap (1 + 2 * i) = a := by rw [wrap_i64 (by omega), ha]
  have H := aj hw1 (aj hw2 H)
  refine rs (k := rg [0, 1] (k := rs (k := rr (k := ro (pre := [_, _, _, _]) (k := rC (h := octet_Get hb (a := a) (by constructor <;> omega) (by omega)) (k := rh [5] (k := rs (k := rg [4] (k := rR (k := rP (by simp only [Try.f86, go_sem]; rfl) hwf ⟨?_, rfl⟩))))))))))
  rfl
theorem pdu_words {b : List Int} (hb : OkB b) (hl : b.length ≤ 10000000) {n : Nat} (hn : n ≤ 100) {s : St} : ACalls Try.prog 87 [.sl .unk (b.map (PV.int .u8)), .int .i64 (n : Int)] s (fun r s' => r = .sl .unk ((wordsE b n).map (PV.int .u16)) ∧ s' = s) := by
  refine go Try.func87 (k := fun hwf H => ?_)
  refine rs (k := rg [0, 1] (k := rs (k := rs (k := rg [0, 1, 10] (k := rc (ht := fun hc0 => ?_) (hf := fun hc0 => ?_))))))
  · refine rs (k := rg [4] (k := rR (k := rP (by simp only [Try.f87, go_sem]; rfl) hwf ⟨?_, rfl⟩)))
    first
      | (have : b.length ≤ n := by have := of_decide_eq_true hc0; omega
         have hz : wordsE b n = [] := by unfold wordsE; rw [List.drop_eq_nil_of_le this, List.take_nil]; rfl
         rw [hz]; rfl)
      | (simp only [PV.weak, weaks_u16]; rfl)
  · refine rk (k := rs (k := ?_))
    have hlt : n < b.length := by have := of_decide_eq_false hc0; omega
    have hw1 : IntKind.i64.wrap ((b.length : Int) - n) = ((b.length - n : Nat) : Int) := by rw [wrap_i64 (by omega)]; omega
    have hm1 : ((b.length - n : Nat) : Int).tmod 2 = (((b.length - n) % 2 : Nat) : Int) := by rw [tmod_pos (by omega)]; omega
    have hw2 : IntKind.i64.wrap (((b.length - n) % 2 : Nat) : Int) = (((b.length - n) % 2 : Nat) : Int) := wrap_i64 (by omega)
    have hw3 : IntKind.i64.wrap ((b.length : Int) - (((b.length - n) % 2 : Nat) : Int)) = ((b.length - (b.length - n) % 2 : Nat) : Int) := by rw [wrap_i64 (by omega)]; omega
    have h20 : ((2 : Int) = 0) = False := by decide
    have hd1 : (0 ≤ (n : Int)) = True := eq_true (by omega)
    have hd2 : ((n : Int) ≤ ((b.length - (b.length - n) % 2 : Nat) : Int)) = True := eq_true (by omega)
    have hd3 : (((b.length - (b.length - n) % 2 : Nat) : Int) ≤ (b.length : Int)) = True := eq_true (by omega)
    have htk : ((((b.length - (b.length - n) % 2 : Nat) : Int) - (n : Int)).toNat) = b.length - n - (b.length - n) % 2 := by omega
    have hlm : ((b.map (PV.int .u8)).drop n).take (b.length - n - (b.length - n) % 2) = (((b.drop n).take (b.length - n - (b.length - n) % 2)).map (PV.int .u8)) := by rw [List.map_take, List.map_drop]
    have H := aj hw1 (aj hm1 (aj hw2 (aj hw3 (aj hd1 (aj hd2 (aj hd3 (aj htk (aj hlm (aj h20 H)))))))))
    refine rr (k := ro (pre := [_, _, _, _, _, _, _, _, _, _, _]) (k := rC (h := octet_Words (b := (b.drop n).take (b.length - n - (b.length - n) % 2)) (OkB.take (OkB.drop hb n) _) (by simp; omega)) (k := rh [5] (k := rs (k := rg [4] (k := rR (k := rP (by simp only [Try.f87, go_sem]; rfl) hwf ⟨?_, rfl⟩)))))))
    first
      | (have : b.length ≤ n := by have := of_decide_eq_true hc0; omega
         have hz : wordsE b n = [] := by unfold wordsE; rw [List.drop_eq_nil_of_le this, List.take_nil]; rfl
         rw [hz]; rfl)
      | (simp only [PV.weak, weaks_u16]; rfl)
end Go.Proofs
namespace Go.Proofs
open Go.PM
set_option maxHeartbeats 2000000
theorem mem97 {x : Int} : 97 ∈ usesF x ↔ 1 ≤ x ∧ x ≤ 4 ∨ x = 5 ∨ x = 6 ∨ x = 15 ∨ x = 16 ∨ x = 22 ∨ x = 23 := by
  unfold usesF
  repeat' split
  all_goals (simp only [List.mem_cons, List.not_mem_nil, Int.reduceEq, or_true, true_or, or_false, false_or, true_iff, false_iff]; omega)
theorem mem99 {x : Int} : 99 ∈ usesF x ↔ 1 ≤ x ∧ x ≤ 4 ∨ x = 15 ∨ x = 16 ∨ x = 23 := by
  unfold usesF
  repeat' split
  all_goals (simp only [List.mem_cons, List.not_mem_nil, Int.reduceEq, or_true, true_or, or_false, false_or, true_iff, false_iff]; omega)
attribute [local go_sem] weaks_bools
set_option maxRecDepth 100000 in
theorem pdu_guess {b : List Int} (hb : OkB b) (hl : b.length ≤ 10000000) {x : Int} (hx : b[0]? = some x) {s : St} : ACalls Try.prog 70 [.sl .unk (b.map (PV.int .u8))] s (fun r s' => r = (guessF b).pv ∧ s' = s) := by
  refine go Try.func70 (k := fun hwf H => ?_)
  have hlt : 0 < b.length := by cases b with | nil => cases hx | cons _ _ => simp
  have hxx : (b.map (PV.int .u8))[0]? = some (.int .u8 x) := by rw [List.getElem?_map, hx]; rfl
  have hlT : (0 < b.length) = True := eq_true hlt
  have hx8 : U8 x := hb x (List.mem_of_getElem? hx)
  have hxw : IntKind.i64.wrap x = x := wrap_i64 (by unfold U8 at hx8; omega)
  have hn3 : IntKind.u16.wrap (num1 b 3) = num1 b 3 := by have := num1_u16 hb 3; rw [u16_wrap]; unfold U16 at this; omega
  have hn5 : IntKind.u16.wrap (num1 b 5) = num1 b 5 := by have := num1_u16 hb 5; rw [u16_wrap]; unfold U16 at this; omega
  have hi3 : I64 (num1 b 3) := by have := num1_u16 hb 3; unfold U16 at this; constructor <;> omega
  have hg0 : (b[0]?).getD 0 = x := by rw [hx]; rfl
  have H := aj hxx (aj hlT (aj hxw (aj hn3 (aj hn5 H))))
  refine rs (k := rg [0, 2] (k := rs (k := rg [0, 2, 3] (k := rs (k := rs (k := rg [0, 2, 3, 11] (k := rb (k := rs (k := rg [0, 2, 3, 11, 12] (k := rc (ht := fun hc0 => ?_) (hf := fun hc0 => ?_)))))))))))
  · refine rs (k := rg [2] (k := rR (k := ?_)))
    refine Ret.pure (r' := (guessF b).pv) (by simp only [Try.f70, go_sem, ↓reduceIte] <;> rfl) ?_ (blw_req _ _) hwf (fun i hi => by first | rfl | (have h0 := ltn hi; have h1 := lte hi; simp only [go_sem, Nat.add_assoc, Nat.reduceAdd, ↓reduceIte, h0, h1])) ⟨rfl, rfl⟩
    simp only [PV.weak, PV.weaks, weaks_u16, weaks_bools]
    clear hxx hlT hxw hn3 hn5 H hi3 hwf hb hl hx8 hx
    simp only [decide_eq_true_eq, decide_eq_false_iff_not] at *
    try simp only [mem97, mem99] at hc0 hc1
    first
      | (exfalso; omega)
      | (simp only [guessF, hg0, Req.pv]; simp [*]; done)
      | (have h6n : ¬ 6 ≤ b.length := by omega
         simp only [guessF, hg0, Req.pv]; simp [*]; done)
      | (have h6n : ¬ 6 < b.length := by omega
         simp only [guessF, hg0, Req.pv]; simp [*]; done)
      | (have h6n : 6 < b.length := by omega
         have h14 : ¬ (1 ≤ x ∧ x ≤ 4) := by omega
         simp only [guessF, hg0, Req.pv]; simp [*]; done)
      | (have h14 : 1 ≤ x ∧ x ≤ 4 := by omega
         simp only [guessF, hg0, Req.pv]; simp [*]; done)
      | (have h14 : ¬ (1 ≤ x ∧ x ≤ 4) := by omega
         simp only [guessF, hg0, Req.pv]; simp [*]; done)
      | skip
  · refine rs (k := rg [0, 2, 3, 15] (k := rc (ht := fun hc1 => ?_) (hf := fun hc1 => ?_)))
    · refine rs (k := rr (k := ro (pre := [_]) (k := rC (h := pdu_num (b := b) hb hl (a := 1) (by omega) (by omega)) (k := ro (pre := [_]) (k := rC (h := pdu_words (b := b) hb hl (n := 3) (by omega)) (k := rh [2, 3] (k := rs (k := rg [2] (k := rR (k := ?_))))))))))
      refine Ret.pure (r' := (guessF b).pv) (by simp only [Try.f70, go_sem, ↓reduceIte] <;> rfl) ?_ (blw_req _ _) hwf (fun i hi => by first | rfl | (have h0 := ltn hi; have h1 := lte hi; simp only [go_sem, Nat.add_assoc, Nat.reduceAdd, ↓reduceIte, h0, h1])) ⟨rfl, rfl⟩
      simp only [PV.weak, PV.weaks, weaks_u16, weaks_bools]
      clear hxx hlT hxw hn3 hn5 H hi3 hwf hb hl hx8 hx
      simp only [decide_eq_true_eq, decide_eq_false_iff_not] at *
      try simp only [mem97, mem99] at hc0 hc1
      first
        | (exfalso; omega)
        | (simp only [guessF, hg0, Req.pv]; simp [*]; done)
        | (have h6n : ¬ 6 ≤ b.length := by omega
           simp only [guessF, hg0, Req.pv]; simp [*]; done)
        | (have h6n : ¬ 6 < b.length := by omega
           simp only [guessF, hg0, Req.pv]; simp [*]; done)
        | (have h6n : 6 < b.length := by omega
           have h14 : ¬ (1 ≤ x ∧ x ≤ 4) := by omega
           simp only [guessF, hg0, Req.pv]; simp [*]; done)
        | (have h14 : 1 ≤ x ∧ x ≤ 4 := by omega
           simp only [guessF, hg0, Req.pv]; simp [*]; done)
        | (have h14 : ¬ (1 ≤ x ∧ x ≤ 4) := by omega
           simp only [guessF, hg0, Req.pv]; simp [*]; done)
        | skip
    · refine rk (k := rB (k := rs (k := rr (k := ro (pre := [_]) (k := rC (h := pdu_num (b := b) hb hl (a := 1) (by omega) (by omega)) (k := rh [0, 2, 3] (k := rs (k := rs (k := rg [0, 2, 3, 28] (k := rb (k := rs (k := rg [0, 2, 3, 28, 32] (k := rc (ht := fun hc2 => ?_) (hf := fun hc2 => ?_))))))))))))))
      · refine rr (k := ro (pre := [_]) (k := rC (h := pdu_num (b := b) hb hl (a := 3) (by omega) (by omega)) (k := ro (pre := [_]) (k := rO (k := rh [2, 3] (k := rB (k := rs (k := rg [2] (k := rR (k := ?_))))))))))
        refine Ret.pure (r' := (guessF b).pv) (by simp only [Try.f70, go_sem, ↓reduceIte] <;> rfl) ?_ (blw_req _ _) hwf (fun i hi => by first | rfl | (have h0 := ltn hi; have h1 := lte hi; simp only [go_sem, Nat.add_assoc, Nat.reduceAdd, ↓reduceIte, h0, h1])) ⟨rfl, rfl⟩
        simp only [PV.weak, PV.weaks, weaks_u16, weaks_bools]
        clear hxx hlT hxw hn3 hn5 H hi3 hwf hb hl hx8 hx
        simp only [decide_eq_true_eq, decide_eq_false_iff_not] at *
        try simp only [mem97, mem99] at hc0 hc1
        first
          | (exfalso; omega)
          | (simp only [guessF, hg0, Req.pv]; simp [*]; done)
          | (have h6n : ¬ 6 ≤ b.length := by omega
             simp only [guessF, hg0, Req.pv]; simp [*]; done)
          | (have h6n : ¬ 6 < b.length := by omega
             simp only [guessF, hg0, Req.pv]; simp [*]; done)
          | (have h6n : 6 < b.length := by omega
             have h14 : ¬ (1 ≤ x ∧ x ≤ 4) := by omega
             simp only [guessF, hg0, Req.pv]; simp [*]; done)
          | (have h14 : 1 ≤ x ∧ x ≤ 4 := by omega
             simp only [guessF, hg0, Req.pv]; simp [*]; done)
          | (have h14 : ¬ (1 ≤ x ∧ x ≤ 4) := by omega
             simp only [guessF, hg0, Req.pv]; simp [*]; done)
          | skip
      · refine rs (k := rg [0, 2, 3, 28, 39] (k := rc (ht := fun hc3 => ?_) (hf := fun hc3 => ?_)))
        · refine rr (k := ro (pre := [_]) (k := rC (h := pdu_words (b := b) hb hl (n := 3) (by omega)) (k := rh [2, 3] (k := rB (k := rs (k := rg [2] (k := rR (k := ?_))))))))
          refine Ret.pure (r' := (guessF b).pv) (by simp only [Try.f70, go_sem, ↓reduceIte] <;> rfl) ?_ (blw_req _ _) hwf (fun i hi => by first | rfl | (have h0 := ltn hi; have h1 := lte hi; simp only [go_sem, Nat.add_assoc, Nat.reduceAdd, ↓reduceIte, h0, h1])) ⟨rfl, rfl⟩
          simp only [PV.weak, PV.weaks, weaks_u16, weaks_bools]
          clear hxx hlT hxw hn3 hn5 H hi3 hwf hb hl hx8 hx
          simp only [decide_eq_true_eq, decide_eq_false_iff_not] at *
          try simp only [mem97, mem99] at hc0 hc1
          first
            | (exfalso; omega)
            | (simp only [guessF, hg0, Req.pv]; simp [*]; done)
            | (have h6n : ¬ 6 ≤ b.length := by omega
               simp only [guessF, hg0, Req.pv]; simp [*]; done)
            | (have h6n : ¬ 6 < b.length := by omega
               simp only [guessF, hg0, Req.pv]; simp [*]; done)
            | (have h6n : 6 < b.length := by omega
               have h14 : ¬ (1 ≤ x ∧ x ≤ 4) := by omega
               simp only [guessF, hg0, Req.pv]; simp [*]; done)
            | (have h14 : 1 ≤ x ∧ x ≤ 4 := by omega
               simp only [guessF, hg0, Req.pv]; simp [*]; done)
            | (have h14 : ¬ (1 ≤ x ∧ x ≤ 4) := by omega
               simp only [guessF, hg0, Req.pv]; simp [*]; done)
            | skip
        · refine rs (k := rg [0, 2, 3, 28, 44] (k := rc (ht := fun hc4 => ?_) (hf := fun hc4 => ?_)))
          · refine rr (k := ro (pre := [_]) (k := rC (h := pdu_num (b := b) hb hl (a := 3) (by omega) (by omega)) (k := ro (pre := [_, _]) (k := rC (h := pdu_num (b := b) hb hl (a := 5) (by omega) (by omega)) (k := rh [2, 3] (k := rB (k := rs (k := rg [2] (k := rR (k := ?_))))))))))
            refine Ret.pure (r' := (guessF b).pv) (by simp only [Try.f70, go_sem, ↓reduceIte] <;> rfl) ?_ (blw_req _ _) hwf (fun i hi => by first | rfl | (have h0 := ltn hi; have h1 := lte hi; simp only [go_sem, Nat.add_assoc, Nat.reduceAdd, ↓reduceIte, h0, h1])) ⟨rfl, rfl⟩
            simp only [PV.weak, PV.weaks, weaks_u16, weaks_bools]
            clear hxx hlT hxw hn3 hn5 H hi3 hwf hb hl hx8 hx
            simp only [decide_eq_true_eq, decide_eq_false_iff_not] at *
            try simp only [mem97, mem99] at hc0 hc1
            first
              | (exfalso; omega)
              | (simp only [guessF, hg0, Req.pv]; simp [*]; done)
              | (have h6n : ¬ 6 ≤ b.length := by omega
                 simp only [guessF, hg0, Req.pv]; simp [*]; done)
              | (have h6n : ¬ 6 < b.length := by omega
                 simp only [guessF, hg0, Req.pv]; simp [*]; done)
              | (have h6n : 6 < b.length := by omega
                 have h14 : ¬ (1 ≤ x ∧ x ≤ 4) := by omega
                 simp only [guessF, hg0, Req.pv]; simp [*]; done)
              | (have h14 : 1 ≤ x ∧ x ≤ 4 := by omega
                 simp only [guessF, hg0, Req.pv]; simp [*]; done)
              | (have h14 : ¬ (1 ≤ x ∧ x ≤ 4) := by omega
                 simp only [guessF, hg0, Req.pv]; simp [*]; done)
              | skip
          · refine rs (k := rg [0, 2, 3, 28, 54] (k := rc (ht := fun hc5 => ?_) (hf := fun hc5 => ?_)))
            · refine rs (k := rr (k := ro (pre := [_]) (k := rC (h := pdu_num (b := b) hb hl (a := 3) (by omega) (by omega)) (k := rh [0, 2, 3] (k := rs (k := rg [0, 2, 3, 4] (k := rs (k := rg [0, 2, 3, 4, 62] (k := rc (ht := fun hc6 => ?_) (hf := fun hc6 => ?_))))))))))
              · have hlen : 6 ≤ b.length := by have := of_decide_eq_true hc6; omega
                have hd1 : ((6 : Int) ≤ (b.length : Int)) = True := eq_true (by omega)
                have htk : ((b.length : Int) - 6).toNat = b.length - 6 := by omega
                have hlm : ((b.map (PV.int .u8)).drop (6 : Int).toNat).take (b.length - 6) = ((b.drop 6).map (PV.int .u8)) := by show ((b.map (PV.int .u8)).drop 6).take (b.length - 6) = _; rw [List.map_drop, List.take_of_length_le (by simp)]
                have hd2 : ((0 : Int) ≤ 6) = True := by decide
                have hd3 : ((6 : Int) = 0) = False := by decide
                have H := aj hd1 (aj htk (aj hlm (aj hd2 (aj hd3 H))))
                refine Run.drawC [10] [2, 3] Try.mixed (by kernel_rfl) ?_
                refine DetC.pre (pre := [_, _, _, _, _]) au ?_
                refine DetC.call au au au (by kernel_rfl) (octet_Open (b := b.drop 6) (hb.drop 6) (by simp; omega) hi3) ?_
                refine DetC.pre (pre := [_, _, _, _]) au ?_
                refine DetC.eff (by decide) au au ?_
                refine DetC.nil ?_
                refine re (k := rB (k := rs (k := rg [2] (k := rR (k := ?_)))))
                refine Ret.pure (r' := (guessF b).pv) (by simp only [Try.f70, go_sem, ↓reduceIte] <;> rfl) ?_ (blw_req _ _) hwf (fun i hi => by first | rfl | (have h0 := ltn hi; have h1 := lte hi; simp only [go_sem, Nat.add_assoc, Nat.reduceAdd, ↓reduceIte, h0, h1])) ⟨rfl, rfl⟩
                simp only [PV.weak, PV.weaks, weaks_u16, weaks_bools]
                clear hxx hlT hxw hn3 hn5 H hi3 hwf hb hl hx8 hx
                simp only [decide_eq_true_eq, decide_eq_false_iff_not] at *
                try simp only [mem97, mem99] at hc0 hc1
                first
                  | (exfalso; omega)
                  | (simp only [guessF, hg0, Req.pv]; simp [*]; done)
                  | (have h6n : ¬ 6 ≤ b.length := by omega
                     simp only [guessF, hg0, Req.pv]; simp [*]; done)
                  | (have h6n : ¬ 6 < b.length := by omega
                     simp only [guessF, hg0, Req.pv]; simp [*]; done)
                  | (have h6n : 6 < b.length := by omega
                     have h14 : ¬ (1 ≤ x ∧ x ≤ 4) := by omega
                     simp only [guessF, hg0, Req.pv]; simp [*]; done)
                  | (have h14 : 1 ≤ x ∧ x ≤ 4 := by omega
                     simp only [guessF, hg0, Req.pv]; simp [*]; done)
                  | (have h14 : ¬ (1 ≤ x ∧ x ≤ 4) := by omega
                     simp only [guessF, hg0, Req.pv]; simp [*]; done)
                  | skip
              · refine rk (k := rB (k := rs (k := rg [2] (k := rR (k := ?_)))))
                refine Ret.pure (r' := (guessF b).pv) (by simp only [Try.f70, go_sem, ↓reduceIte] <;> rfl) ?_ (blw_req _ _) hwf (fun i hi => by first | rfl | (have h0 := ltn hi; have h1 := lte hi; simp only [go_sem, Nat.add_assoc, Nat.reduceAdd, ↓reduceIte, h0, h1])) ⟨rfl, rfl⟩
                simp only [PV.weak, PV.weaks, weaks_u16, weaks_bools]
                clear hxx hlT hxw hn3 hn5 H hi3 hwf hb hl hx8 hx
                simp only [decide_eq_true_eq, decide_eq_false_iff_not] at *
                try simp only [mem97, mem99] at hc0 hc1
                first
                  | (exfalso; omega)
                  | (simp only [guessF, hg0, Req.pv]; simp [*]; done)
                  | (have h6n : ¬ 6 ≤ b.length := by omega
                     simp only [guessF, hg0, Req.pv]; simp [*]; done)
                  | (have h6n : ¬ 6 < b.length := by omega
                     simp only [guessF, hg0, Req.pv]; simp [*]; done)
                  | (have h6n : 6 < b.length := by omega
                     have h14 : ¬ (1 ≤ x ∧ x ≤ 4) := by omega
                     simp only [guessF, hg0, Req.pv]; simp [*]; done)
                  | (have h14 : 1 ≤ x ∧ x ≤ 4 := by omega
                     simp only [guessF, hg0, Req.pv]; simp [*]; done)
                  | (have h14 : ¬ (1 ≤ x ∧ x ≤ 4) := by omega
                     simp only [guessF, hg0, Req.pv]; simp [*]; done)
                  | skip
            · refine rs (k := rg [0, 2, 3, 28, 73] (k := rc (ht := fun hc7 => ?_) (hf := fun hc7 => ?_)))
              · refine rr (k := ro (pre := [_]) (k := rC (h := pdu_num (b := b) hb hl (a := 3) (by omega) (by omega)) (k := ro (pre := [_]) (k := rC (h := pdu_words (b := b) hb hl (n := 6) (by omega)) (k := rh [2, 3] (k := rB (k := rs (k := rg [2] (k := rR (k := ?_))))))))))
                refine Ret.pure (r' := (guessF b).pv) (by simp only [Try.f70, go_sem, ↓reduceIte] <;> rfl) ?_ (blw_req _ _) hwf (fun i hi => by first | rfl | (have h0 := ltn hi; have h1 := lte hi; simp only [go_sem, Nat.add_assoc, Nat.reduceAdd, ↓reduceIte, h0, h1])) ⟨rfl, rfl⟩
                simp only [PV.weak, PV.weaks, weaks_u16, weaks_bools]
                clear hxx hlT hxw hn3 hn5 H hi3 hwf hb hl hx8 hx
                simp only [decide_eq_true_eq, decide_eq_false_iff_not] at *
                try simp only [mem97, mem99] at hc0 hc1
                first
                  | (exfalso; omega)
                  | (simp only [guessF, hg0, Req.pv]; simp [*]; done)
                  | (have h6n : ¬ 6 ≤ b.length := by omega
                     simp only [guessF, hg0, Req.pv]; simp [*]; done)
                  | (have h6n : ¬ 6 < b.length := by omega
                     simp only [guessF, hg0, Req.pv]; simp [*]; done)
                  | (have h6n : 6 < b.length := by omega
                     have h14 : ¬ (1 ≤ x ∧ x ≤ 4) := by omega
                     simp only [guessF, hg0, Req.pv]; simp [*]; done)
                  | (have h14 : 1 ≤ x ∧ x ≤ 4 := by omega
                     simp only [guessF, hg0, Req.pv]; simp [*]; done)
                  | (have h14 : ¬ (1 ≤ x ∧ x ≤ 4) := by omega
                     simp only [guessF, hg0, Req.pv]; simp [*]; done)
                  | skip
              · refine rs (k := rg [0, 2, 3, 81] (k := rc (ht := fun hc8 => ?_) (hf := fun hc8 => ?_)))
                · refine rr (k := ro (pre := [_]) (k := rC (h := pdu_num (b := b) hb hl (a := 3) (by omega) (by omega)) (k := ro (pre := [_]) (k := rC (h := pdu_num (b := b) hb hl (a := 5) (by omega) (by omega)) (k := ro (pre := [_]) (k := rC (h := pdu_words (b := b) hb hl (n := 10) (by omega)) (k := rh [2, 3] (k := rB (k := rs (k := rg [2] (k := rR (k := ?_))))))))))))
                  refine Ret.pure (r' := (guessF b).pv) (by simp only [Try.f70, go_sem, ↓reduceIte] <;> rfl) ?_ (blw_req _ _) hwf (fun i hi => by first | rfl | (have h0 := ltn hi; have h1 := lte hi; simp only [go_sem, Nat.add_assoc, Nat.reduceAdd, ↓reduceIte, h0, h1])) ⟨rfl, rfl⟩
                  simp only [PV.weak, PV.weaks, weaks_u16, weaks_bools]
                  clear hxx hlT hxw hn3 hn5 H hi3 hwf hb hl hx8 hx
                  simp only [decide_eq_true_eq, decide_eq_false_iff_not] at *
                  try simp only [mem97, mem99] at hc0 hc1
                  first
                    | (exfalso; omega)
                    | (simp only [guessF, hg0, Req.pv]; simp [*]; done)
                    | (have h6n : ¬ 6 ≤ b.length := by omega
                       simp only [guessF, hg0, Req.pv]; simp [*]; done)
                    | (have h6n : ¬ 6 < b.length := by omega
                       simp only [guessF, hg0, Req.pv]; simp [*]; done)
                    | (have h6n : 6 < b.length := by omega
                       have h14 : ¬ (1 ≤ x ∧ x ≤ 4) := by omega
                       simp only [guessF, hg0, Req.pv]; simp [*]; done)
                    | (have h14 : 1 ≤ x ∧ x ≤ 4 := by omega
                       simp only [guessF, hg0, Req.pv]; simp [*]; done)
                    | (have h14 : ¬ (1 ≤ x ∧ x ≤ 4) := by omega
                       simp only [guessF, hg0, Req.pv]; simp [*]; done)
                    | skip
                · refine rr (k := ro (pre := [_]) (k := rC (h := pdu_num (b := b) hb hl (a := 3) (by omega) (by omega)) (k := rh [2, 3] (k := rB (k := rs (k := rg [2] (k := rR (k := ?_))))))))
                  refine Ret.pure (r' := (guessF b).pv) (by simp only [Try.f70, go_sem, ↓reduceIte] <;> rfl) ?_ (blw_req _ _) hwf (fun i hi => by first | rfl | (have h0 := ltn hi; have h1 := lte hi; simp only [go_sem, Nat.add_assoc, Nat.reduceAdd, ↓reduceIte, h0, h1])) ⟨rfl, rfl⟩
                  simp only [PV.weak, PV.weaks, weaks_u16, weaks_bools]
                  clear hxx hlT hxw hn3 hn5 H hi3 hwf hb hl hx8 hx
                  simp only [decide_eq_true_eq, decide_eq_false_iff_not] at *
                  try simp only [mem97, mem99] at hc0 hc1
                  first
                    | (exfalso; omega)
                    | (simp only [guessF, hg0, Req.pv]; simp [*]; done)
                    | (have h6n : ¬ 6 ≤ b.length := by omega
                       simp only [guessF, hg0, Req.pv]; simp [*]; done)
                    | (have h6n : ¬ 6 < b.length := by omega
                       simp only [guessF, hg0, Req.pv]; simp [*]; done)
                    | (have h6n : 6 < b.length := by omega
                       have h14 : ¬ (1 ≤ x ∧ x ≤ 4) := by omega
                       simp only [guessF, hg0, Req.pv]; simp [*]; done)
                    | (have h14 : 1 ≤ x ∧ x ≤ 4 := by omega
                       simp only [guessF, hg0, Req.pv]; simp [*]; done)
                    | (have h14 : ¬ (1 ≤ x ∧ x ≤ 4) := by omega
                       simp only [guessF, hg0, Req.pv]; simp [*]; done)
                    | skip
attribute [local go_sem] weaks_bools
attribute [local go_sem] weaks_bools Req.pv
attribute [local go_sem] weaks_bools Req.pv
theorem pdu_Read {b : List Int} (hb : OkB b) (hl : b.length ≤ 10000000) {s : St} : ACalls Try.prog 39 [.sl .unk (b.map (PV.int .u8))] s (fun r s' => r = .tuple [(readF b).1.pv, .int .i64 (readF b).2] ∧ s' = s) := by
  refine go Try.func39 (k := fun hwf H => ?_)
  refine rs (k := rg [0, 2] (k := rs (k := rb (k := rs (k := rg [0, 2, 7] (k := rc (ht := fun hc0 => ?_) (hf := fun hc0 => ?_)))))))
  · refine rs (k := rg [2, 3] (k := rR (k := ?_)))
    refine Ret.pure (r' := .tuple [(readF b).1.pv, .int .i64 (readF b).2]) (by simp only [Try.f39, go_sem, ↓reduceIte] <;> rfl) ?_ (by simp only [PV.blw, PV.blws, and_true, true_and]; exact blw_req _ _) hwf (fun i hi => by first | rfl | (have h0 := ltn hi; have h1 := lte hi; simp only [go_sem, Nat.add_assoc, Nat.reduceAdd, ↓reduceIte, h0, h1])) ⟨rfl, rfl⟩
    simp only [PV.weak, PV.weaks, weaks_bools, weaks_u16]
    first
      | (have h0 : b = [] := by simp at hc0; exact hc0
         unfold readF; rw [if_pos h0]; rfl)
      | (have h0 : ¬ b = [] := by intro h; rw [h] at hlt; cases hlt
         have h1 : hasF x = false := by simpa using hc1
         unfold readF; rw [if_neg h0, hg0, if_pos h1]; rfl)
      | (have h0 : ¬ b = [] := by intro h; rw [h] at hlt; cases hlt
         have h1 : ¬ hasF x = false := by simpa using hc1
         have h2 : ¬ (rightF (guessF b) = 0 ∧ writeF (guessF b) = b) := by
           rintro ⟨e1, e2⟩
           have e3 : bytesF (guessF b) = b := by unfold bytesF; rw [if_pos e1, e2]
           simp [e1, e3] at hc2
         unfold readF; rw [if_neg h0, hg0, if_neg h1, if_neg h2]; rfl)
      | (have h0 : ¬ b = [] := by intro h; rw [h] at hlt; cases hlt
         have h1 : ¬ hasF x = false := by simpa using hc1
         have h2 : rightF (guessF b) = 0 ∧ writeF (guessF b) = b := by
           simp at hc2
           have e1 := hc2.1
           have e3 := hc2.2
           unfold bytesF at e3
           rw [if_pos e1] at e3
           exact ⟨e1, e3⟩
         unfold readF; rw [if_neg h0, hg0, if_neg h1, if_pos h2]; rfl)
  · refine rs (k := ?_)
    have hlt : 0 < b.length := by simp at hc0; cases b with | nil => exact absurd rfl hc0 | cons _ _ => simp
    obtain ⟨x, hx⟩ : ∃ x, b[0]? = some x := ⟨b[0], List.getElem?_eq_getElem hlt⟩
    have hxx : (b.map (PV.int .u8))[0]? = some (.int .u8 x) := by rw [List.getElem?_map, hx]; rfl
    have hlT : (0 < b.length) = True := eq_true hlt
    have hx8 : U8 x := hb x (List.mem_of_getElem? hx)
    have hxw : IntKind.i64.wrap x = x := wrap_i64 (by unfold U8 at hx8; omega)
    have hg0 : (b[0]?).getD 0 = x := by rw [hx]; rfl
    have hbl : (bytesF (guessF b)).length < 140737488355328 := bytesF_len _
    have H := aj hxx (aj hlT (aj hxw H))
    refine rr (k := ro (pre := [_, _, _, _]) (k := rC (h := pdu_function (fn := x)) (k := rh [0, 2, 12] (k := rc (ht := fun hc1 => ?_) (hf := fun hc1 => ?_)))))
    · refine rs (k := rg [2, 3] (k := rR (k := ?_)))
      refine Ret.pure (r' := .tuple [(readF b).1.pv, .int .i64 (readF b).2]) (by simp only [Try.f39, go_sem, ↓reduceIte] <;> rfl) ?_ (by simp only [PV.blw, PV.blws, and_true, true_and]; exact blw_req _ _) hwf (fun i hi => by first | rfl | (have h0 := ltn hi; have h1 := lte hi; simp only [go_sem, Nat.add_assoc, Nat.reduceAdd, ↓reduceIte, h0, h1])) ⟨rfl, rfl⟩
      simp only [PV.weak, PV.weaks, weaks_bools, weaks_u16]
      first
        | (have h0 : b = [] := by simp at hc0; exact hc0
           unfold readF; rw [if_pos h0]; rfl)
        | (have h0 : ¬ b = [] := by intro h; rw [h] at hlt; cases hlt
           have h1 : hasF x = false := by simpa using hc1
           unfold readF; rw [if_neg h0, hg0, if_pos h1]; rfl)
        | (have h0 : ¬ b = [] := by intro h; rw [h] at hlt; cases hlt
           have h1 : ¬ hasF x = false := by simpa using hc1
           have h2 : ¬ (rightF (guessF b) = 0 ∧ writeF (guessF b) = b) := by
             rintro ⟨e1, e2⟩
             have e3 : bytesF (guessF b) = b := by unfold bytesF; rw [if_pos e1, e2]
             simp [e1, e3] at hc2
           unfold readF; rw [if_neg h0, hg0, if_neg h1, if_neg h2]; rfl)
        | (have h0 : ¬ b = [] := by intro h; rw [h] at hlt; cases hlt
           have h1 : ¬ hasF x = false := by simpa using hc1
           have h2 : rightF (guessF b) = 0 ∧ writeF (guessF b) = b := by
             simp at hc2
             have e1 := hc2.1
             have e3 := hc2.2
             unfold bytesF at e3
             rw [if_pos e1] at e3
             exact ⟨e1, e3⟩
           unfold readF; rw [if_neg h0, hg0, if_neg h1, if_pos h2]; rfl)
    · refine rk (k := rB (k := rs (k := rr (k := ro (pre := [_]) (k := rC (h := pdu_guess hb hl hx) (k := rh [0, 2, 4] (k := rs (k := rs (k := rr (k := ro (pre := [_]) (k := rC (h := pdu_Bytes (guessF_ok hb hl)) (k := rh [0, 2, 4, 5, 6] (k := rs (k := rr (k := ro (pre := [_, _, _, _, _]) (k := rG (h := fun hb => equal_u8 (xs := bytesF (guessF b)) (ys := b) hbl) (k := ?_)))))))))))))))))
      refine rh [2, 4, 34] (k := rc (ht := fun hc2 => ?_) (hf := fun hc2 => ?_))
      · refine rs (k := rg [2, 3] (k := rR (k := ?_)))
        refine Ret.pure (r' := .tuple [(readF b).1.pv, .int .i64 (readF b).2]) (by simp only [Try.f39, go_sem, ↓reduceIte] <;> rfl) ?_ (by simp only [PV.blw, PV.blws, and_true, true_and]; exact blw_req _ _) hwf (fun i hi => by first | rfl | (have h0 := ltn hi; have h1 := lte hi; simp only [go_sem, Nat.add_assoc, Nat.reduceAdd, ↓reduceIte, h0, h1])) ⟨rfl, rfl⟩
        simp only [PV.weak, PV.weaks, weaks_bools, weaks_u16]
        first
          | (have h0 : b = [] := by simp at hc0; exact hc0
             unfold readF; rw [if_pos h0]; rfl)
          | (have h0 : ¬ b = [] := by intro h; rw [h] at hlt; cases hlt
             have h1 : hasF x = false := by simpa using hc1
             unfold readF; rw [if_neg h0, hg0, if_pos h1]; rfl)
          | (have h0 : ¬ b = [] := by intro h; rw [h] at hlt; cases hlt
             have h1 : ¬ hasF x = false := by simpa using hc1
             have h2 : ¬ (rightF (guessF b) = 0 ∧ writeF (guessF b) = b) := by
               rintro ⟨e1, e2⟩
               have e3 : bytesF (guessF b) = b := by unfold bytesF; rw [if_pos e1, e2]
               simp [e1, e3] at hc2
             unfold readF; rw [if_neg h0, hg0, if_neg h1, if_neg h2]; rfl)
          | (have h0 : ¬ b = [] := by intro h; rw [h] at hlt; cases hlt
             have h1 : ¬ hasF x = false := by simpa using hc1
             have h2 : rightF (guessF b) = 0 ∧ writeF (guessF b) = b := by
               simp at hc2
               have e1 := hc2.1
               have e3 := hc2.2
               unfold bytesF at e3
               rw [if_pos e1] at e3
               exact ⟨e1, e3⟩
             unfold readF; rw [if_neg h0, hg0, if_neg h1, if_pos h2]; rfl)
      · refine rk (k := rs (k := rg [2, 3] (k := rR (k := ?_))))
        refine Ret.pure (r' := .tuple [(readF b).1.pv, .int .i64 (readF b).2]) (by simp only [Try.f39, go_sem, ↓reduceIte] <;> rfl) ?_ (by simp only [PV.blw, PV.blws, and_true, true_and]; exact blw_req _ _) hwf (fun i hi => by first | rfl | (have h0 := ltn hi; have h1 := lte hi; simp only [go_sem, Nat.add_assoc, Nat.reduceAdd, ↓reduceIte, h0, h1])) ⟨rfl, rfl⟩
        simp only [PV.weak, PV.weaks, weaks_bools, weaks_u16]
        first
          | (have h0 : b = [] := by simp at hc0; exact hc0
             unfold readF; rw [if_pos h0]; rfl)
          | (have h0 : ¬ b = [] := by intro h; rw [h] at hlt; cases hlt
             have h1 : hasF x = false := by simpa using hc1
             unfold readF; rw [if_neg h0, hg0, if_pos h1]; rfl)
          | (have h0 : ¬ b = [] := by intro h; rw [h] at hlt; cases hlt
             have h1 : ¬ hasF x = false := by simpa using hc1
             have h2 : ¬ (rightF (guessF b) = 0 ∧ writeF (guessF b) = b) := by
               rintro ⟨e1, e2⟩
               have e3 : bytesF (guessF b) = b := by unfold bytesF; rw [if_pos e1, e2]
               simp [e1, e3] at hc2
             unfold readF; rw [if_neg h0, hg0, if_neg h1, if_neg h2]; rfl)
          | (have h0 : ¬ b = [] := by intro h; rw [h] at hlt; cases hlt
             have h1 : ¬ hasF x = false := by simpa using hc1
             have h2 : rightF (guessF b) = 0 ∧ writeF (guessF b) = b := by
               simp at hc2
               have e1 := hc2.1
               have e3 := hc2.2
               unfold bytesF at e3
               rw [if_pos e1] at e3
               exact ⟨e1, e3⟩
             unfold readF; rw [if_neg h0, hg0, if_neg h1, if_pos h2]; rfl)
end Go.Proofs
namespace Go.Proofs
open Go.PM
set_option maxHeartbeats 2000000
theorem equal_bool {xs ys : List Bool} (nx : xs.length < 140737488355328) {s : St} : ACalls Try.prog 98 [.sl .unk (xs.map PV.bool), .sl .unk (ys.map PV.bool)] s (fun r s' => r = .bool (decide (xs = ys)) ∧ s' = s) := by
  refine go Try.func98 (k := fun hwf H => ?_)
  refine rs (k := rg [0, 1] (k := rs (k := rs (k := rg [0, 1, 10] (k := rc (ht := fun hc0 => ?_) (hf := fun hc0 => ?_))))))
  · refine rs (k := rg [4] (k := rR (k := rP (by simp only [Try.f98, go_sem]; rfl) hwf ⟨?_, rfl⟩)))
    first
      | (have hne : xs ≠ ys := by rintro rfl; simp at hc0
         rw [decide_eq_false hne]; rfl)
      | (have hne : xs ≠ ys := by
           rintro rfl
           rw [hxe] at hye
           subst hye
           simp at hc2
         rw [decide_eq_false hne]; rfl)
      | (have hlen : xs.length = ys.length := by simp at hc0; omega
         have : i = xs.length := by have := of_decide_eq_false hc1; omega
         rw [this, List.take_length, hlen, List.take_length] at hbe
         rw [decide_eq_true hbe]; rfl)
  · refine rk (k := rs (k := rs (k := ?_)))
    have hlen : xs.length = ys.length := by simp at hc0; omega
    refine rg [0, 1, 12, 13] (k := rb (k := ?_))
    refine Run.loop (fun e s' => s' = s ∧ ∃ i : Nat, e = [(0, .sl .unk (xs.map PV.bool)), (1, .sl .unk (ys.map PV.bool)), (12, .int .i64 xs.length), (13, .int .i64 i)] ∧ i ≤ xs.length ∧ xs.take i = ys.take i) (fun e s' => xs.length - ivar e 13) ?_ ?_
    · exact ⟨rfl, 0, rfl, by omega, rfl⟩
    rintro e s' ⟨hs, i, rfl, hi, hbe⟩
    subst s'
    refine rs (k := rg [0, 1, 12, 13, 14] (k := rs (k := rc (ht := fun hc1 => ?_) (hf := fun hc1 => ?_))))
    · refine rk (k := rs (k := rb (k := rs (k := ?_))))
      have hil : i < xs.length := by have := of_decide_eq_true hc1; omega
      have hjl : i < ys.length := by omega
      obtain ⟨x, hxe⟩ : ∃ z_, xs[i]'hil = z_ := ⟨_, rfl⟩
      have hxx : (xs.map PV.bool)[i]? = some (.bool x) := by rw [map_get hil, hxe]
      obtain ⟨y, hye⟩ : ∃ z_, ys[i]'hjl = z_ := ⟨_, rfl⟩
      have hxy : (ys.map PV.bool)[i]? = some (.bool y) := by rw [map_get hjl, hye]
      have hw : IntKind.i64.wrap ((i : Int) + 1) = ((i + 1 : Nat) : Int) := by rw [wrap_i64 (by omega)]; omega
      have H := aj hxx (aj hxy (aj hw H))
      refine rg [0, 1, 5, 12, 13] (k := rs (k := ?_))
      refine Run.drawC [] [0, 1, 12, 13, 24] Try.mixed (by kernel_rfl) ?_
      refine DetC.all au ?_
      refine re (k := rc (ht := fun hc2 => ?_) (hf := fun hc2 => ?_))
      · refine rs (k := rg [4] (k := rR (k := rP (by simp only [Try.f98, go_sem]; rfl) hwf ⟨?_, rfl⟩)))
        first
          | (have hne : xs ≠ ys := by rintro rfl; simp at hc0
             rw [decide_eq_false hne]; rfl)
          | (have hne : xs ≠ ys := by
               rintro rfl
               rw [hxe] at hye
               subst hye
               simp at hc2
             rw [decide_eq_false hne]; rfl)
          | (have hlen : xs.length = ys.length := by simp at hc0; omega
             have : i = xs.length := by have := of_decide_eq_false hc1; omega
             rw [this, List.take_length, hlen, List.take_length] at hbe
             rw [decide_eq_true hbe]; rfl)
      · refine rk (k := rB (k := rg [0, 1, 12, 13] (k := ?_)))
        have hxy : x = y := by simpa using hc2
        refine Run.lp ⟨⟨rfl, i + 1, rfl, by omega, ?_⟩, ?_⟩
        · rw [take_get hil, take_get hjl, hbe, hxe, hye, hxy]
        · simp only [ivar, go_sem, ↓reduceIte, Nat.reduceEqDiff]
          omega
    · refine rX (k := rs (k := rg [4] (k := rR (k := rP (by simp only [Try.f98, go_sem]; rfl) hwf ⟨?_, rfl⟩))))
      first
        | (have hne : xs ≠ ys := by rintro rfl; simp at hc0
           rw [decide_eq_false hne]; rfl)
        | (have hne : xs ≠ ys := by
             rintro rfl
             rw [hxe] at hye
             subst hye
             simp at hc2
           rw [decide_eq_false hne]; rfl)
        | (have hlen : xs.length = ys.length := by simp at hc0; omega
           have : i = xs.length := by have := of_decide_eq_false hc1; omega
           rw [this, List.take_length, hlen, List.take_length] at hbe
           rw [decide_eq_true hbe]; rfl)
theorem reply_within {n : Int} {s : St} : ACalls Try.prog 92 [.int .i64 n] s (fun r s' => r = .bool (wordF n) ∧ s' = s) := by
  refine go Try.func92 (k := fun hwf H => ?_)
  refine rs (k := rg [0] (k := rs (k := rg [2] (k := rR (k := rP (by simp only [Try.f92, go_sem]; rfl) hwf ⟨?_, rfl⟩)))))
  unfold wordF; by_cases h1 : 0 ≤ n <;> by_cases h2 : n ≤ 65535 <;> simp [h1, h2, PV.weak]
attribute [local go_sem] weaks_bools Rep.pv
set_option maxRecDepth 100000 in
theorem reply_Same {a b : Rep} (ha : a.ok) {s : St} : ACalls Try.prog 90 [a.pv, b.pv] s (fun r s' => r = .bool (decide (a = b)) ∧ s' = s) := by
  refine go Try.func90 (k := fun hwf H => ?_)
  refine rs (k := rg [2, 3] (k := rs (k := rrA [some 5, some 6, some 7, some 8, some 9, some 10, some 11, some 12, some 13, some 14, some 15, some 16, some 17, some 18, some 19, some 20, some 21, some 22, some 23, some 24, some 25, some 26, some 27, some 28, some 29, some 30, some 31, some 32, some 33, some 34, some 35, some 36, some 37, some 38, some 39, some 40, some 41, some 42, some 43, some 44, some 45, some 46, some 47, some 48, some 49, some 50, some 51, some 52, some 53, some 54, some 55, some 56, some 57, some 58, some 59, some 60, some 61, some 62, some 63, some 64, some 65, some 66, some 67, some 68, some 69, some 70, some 71, some 72, some 4] (k := fun ops hops => ?_))))
  have H := aj hops H
  refine ro (pre := [_, _, _, _, _, _, _, _, _, _, _, _, _, _, _, _, _, _, _, _, _, _, _, _, _, _, _, _, _, _, _, _, _, _, _, _, _, _, _, _, _, _, _, _, _, _, _, _, _, _, _, _]) (k := rG (h := fun hb => equal_bool (xs := a.bits) (ys := b.bits) (by have := ha.nb; omega)) (k := ro (pre := [_, _, _, _, _, _]) (k := rG (h := fun hb => equal_u16 (xs := a.vals) (ys := b.vals) (by have := ha.nv; omega)) (k := ?_))))
  refine ro (pre := [_, _, _, _, _, _]) (k := rG (h := fun hb => equal_u8 (xs := a.data) (ys := b.data) (by have := ha.nd; omega)) (k := rh [4] (k := rR (k := rP (by simp only [Try.f90, go_sem]; rfl) hwf ⟨?_, rfl⟩))))
  simp only [PV.weak]
  congr 1
  rw [Bool.eq_iff_iff]
  simp only [Bool.and_eq_true, decide_eq_true_eq]
  constructor
  · intro h
    cases a; cases b
    simp_all
  · intro h
    subst h
    simp
theorem reply_Refuse {fn code : Int} (hf : I64 fn) (hc : I64 code) {s : St} : ACalls Try.prog 49 [.int .i64 fn, .int .i64 code] s (fun r s' => r = (refuseP fn code).pv ∧ s' = s) := by
  refine go Try.func49 (k := fun hwf H => ?_)
  have and127 : ibits .and .i64 fn 127 = fn % 128 := ibits_and127 fn
  have and255 : ibits .and .i64 code 255 = code % 256 := ibits_and255 code
  have H := aj and127 (aj and255 H)
  have H := aj and127 (aj and255 H)
  refine rs (k := rg [0, 1, 4] (k := rs (k := rg [4] (k := rR (k := rP (by simp only [Try.f49, go_sem]; rfl) hwf ⟨?_, rfl⟩)))))
  rfl
attribute [local go_sem] weaks_bools Req.pv
set_option maxRecDepth 100000 in
theorem pdu_Counts {q : Req} {s : St} : ACalls Try.prog 22 [q.pv] s (fun r s' => r = .bool (countF q) ∧ s' = s) := by
  refine go Try.func22 (k := fun hwf H => ?_)
  refine rs (k := rg [1] (k := rs (k := rs (k := rr (k := ro (pre := [_]) (k := rC (h := pdu_Right (q := q)) (k := rh [1, 6] (k := rc (ht := fun hc0 => ?_) (hf := fun hc0 => ?_)))))))))
  · refine rs (k := rg [2] (k := rR (k := rP (by simp only [Try.f22, go_sem]; rfl) hwf ⟨?_, rfl⟩)))
    simp only [PV.weak]
    congr 1
    unfold countF
    simp only [Bool.not_eq_true', Bool.not_eq_false', Bool.or_eq_true, Bool.or_eq_false_iff, decide_eq_true_eq, decide_eq_false_iff_not] at *
    rw [Bool.eq_iff_iff]
    simp only [Bool.and_eq_true, decide_eq_true_eq, Bool.false_eq_true, false_iff, true_iff]
    first
      | omega
      | (simp only [*, Int.reduceEq, or_true, true_or, or_self, if_true, if_false, true_and, and_true, false_and, and_false, not_false_eq_true, ite_true, ite_false]; first | done | omega)
      | skip
  · refine rk (k := rs (k := rg [1] (k := rs (k := rs (k := rg [1, 8] (k := rb (k := rs (k := rs (k := rg [1, 8, 9] (k := rc (ht := fun hc1 => ?_) (hf := fun hc1 => ?_)))))))))))
    · refine rk (k := rc (ht := fun hc2 => ?_) (hf := fun hc2 => ?_))
      · refine rg [1, 3] (k := rB (k := rs (k := rg [2] (k := rR (k := rP (by simp only [Try.f22, go_sem]; rfl) hwf ⟨?_, rfl⟩)))))
        simp only [PV.weak]
        congr 1
        unfold countF
        simp only [Bool.not_eq_true', Bool.not_eq_false', Bool.or_eq_true, Bool.or_eq_false_iff, decide_eq_true_eq, decide_eq_false_iff_not] at *
        rw [Bool.eq_iff_iff]
        simp only [Bool.and_eq_true, decide_eq_true_eq, Bool.false_eq_true, false_iff, true_iff]
        first
          | omega
          | (simp only [*, Int.reduceEq, or_true, true_or, or_self, if_true, if_false, true_and, and_true, false_and, and_false, not_false_eq_true, ite_true, ite_false]; first | done | omega)
          | skip
      · refine rs (k := rs (k := rg [1, 8, 12] (k := rc (ht := fun hc3 => ?_) (hf := fun hc3 => ?_))))
        · refine rk (k := rc (ht := fun hc4 => ?_) (hf := fun hc4 => ?_))
          · refine rg [1, 3] (k := rB (k := rs (k := rg [2] (k := rR (k := rP (by simp only [Try.f22, go_sem]; rfl) hwf ⟨?_, rfl⟩)))))
            simp only [PV.weak]
            congr 1
            unfold countF
            simp only [Bool.not_eq_true', Bool.not_eq_false', Bool.or_eq_true, Bool.or_eq_false_iff, decide_eq_true_eq, decide_eq_false_iff_not] at *
            rw [Bool.eq_iff_iff]
            simp only [Bool.and_eq_true, decide_eq_true_eq, Bool.false_eq_true, false_iff, true_iff]
            first
              | omega
              | (simp only [*, Int.reduceEq, or_true, true_or, or_self, if_true, if_false, true_and, and_true, false_and, and_false, not_false_eq_true, ite_true, ite_false]; first | done | omega)
              | skip
          · refine rs (k := rg [1, 8, 15] (k := rc (ht := fun hc5 => ?_) (hf := fun hc5 => ?_)))
            · refine rg [1, 3] (k := rB (k := rs (k := rg [2] (k := rR (k := rP (by simp only [Try.f22, go_sem]; rfl) hwf ⟨?_, rfl⟩)))))
              simp only [PV.weak]
              congr 1
              unfold countF
              simp only [Bool.not_eq_true', Bool.not_eq_false', Bool.or_eq_true, Bool.or_eq_false_iff, decide_eq_true_eq, decide_eq_false_iff_not] at *
              rw [Bool.eq_iff_iff]
              simp only [Bool.and_eq_true, decide_eq_true_eq, Bool.false_eq_true, false_iff, true_iff]
              first
                | omega
                | (simp only [*, Int.reduceEq, or_true, true_or, or_self, if_true, if_false, true_and, and_true, false_and, and_false, not_false_eq_true, ite_true, ite_false]; first | done | omega)
                | skip
            · refine rs (k := rg [1, 8, 17] (k := rc (ht := fun hc6 => ?_) (hf := fun hc6 => ?_)))
              · refine rg [1, 3] (k := rB (k := rs (k := rg [2] (k := rR (k := rP (by simp only [Try.f22, go_sem]; rfl) hwf ⟨?_, rfl⟩)))))
                simp only [PV.weak]
                congr 1
                unfold countF
                simp only [Bool.not_eq_true', Bool.not_eq_false', Bool.or_eq_true, Bool.or_eq_false_iff, decide_eq_true_eq, decide_eq_false_iff_not] at *
                rw [Bool.eq_iff_iff]
                simp only [Bool.and_eq_true, decide_eq_true_eq, Bool.false_eq_true, false_iff, true_iff]
                first
                  | omega
                  | (simp only [*, Int.reduceEq, or_true, true_or, or_self, if_true, if_false, true_and, and_true, false_and, and_false, not_false_eq_true, ite_true, ite_false]; first | done | omega)
                  | skip
              · refine rs (k := rg [1, 19] (k := rc (ht := fun hc7 => ?_) (hf := fun hc7 => ?_)))
                · refine rs (k := rs (k := rg [1, 30] (k := rc (ht := fun hc8 => ?_) (hf := fun hc8 => ?_))))
                  · refine rs (k := rg [2] (k := rR (k := rP (by simp only [Try.f22, go_sem]; rfl) hwf ⟨?_, rfl⟩)))
                    simp only [PV.weak]
                    congr 1
                    unfold countF
                    simp only [Bool.not_eq_true', Bool.not_eq_false', Bool.or_eq_true, Bool.or_eq_false_iff, decide_eq_true_eq, decide_eq_false_iff_not] at *
                    rw [Bool.eq_iff_iff]
                    simp only [Bool.and_eq_true, decide_eq_true_eq, Bool.false_eq_true, false_iff, true_iff]
                    first
                      | omega
                      | (simp only [*, Int.reduceEq, or_true, true_or, or_self, if_true, if_false, true_and, and_true, false_and, and_false, not_false_eq_true, ite_true, ite_false]; first | done | omega)
                      | skip
                  · refine rk (k := rg [1, 3] (k := rB (k := rs (k := rg [2] (k := rR (k := rP (by simp only [Try.f22, go_sem]; rfl) hwf ⟨?_, rfl⟩))))))
                    simp only [PV.weak]
                    congr 1
                    unfold countF
                    simp only [Bool.not_eq_true', Bool.not_eq_false', Bool.or_eq_true, Bool.or_eq_false_iff, decide_eq_true_eq, decide_eq_false_iff_not] at *
                    rw [Bool.eq_iff_iff]
                    simp only [Bool.and_eq_true, decide_eq_true_eq, Bool.false_eq_true, false_iff, true_iff]
                    first
                      | omega
                      | (simp only [*, Int.reduceEq, or_true, true_or, or_self, if_true, if_false, true_and, and_true, false_and, and_false, not_false_eq_true, ite_true, ite_false]; first | done | omega)
                      | skip
                · refine rs (k := rg [2] (k := rR (k := rP (by simp only [Try.f22, go_sem]; rfl) hwf ⟨?_, rfl⟩)))
                  simp only [PV.weak]
                  congr 1
                  unfold countF
                  simp only [Bool.not_eq_true', Bool.not_eq_false', Bool.or_eq_true, Bool.or_eq_false_iff, decide_eq_true_eq, decide_eq_false_iff_not] at *
                  rw [Bool.eq_iff_iff]
                  simp only [Bool.and_eq_true, decide_eq_true_eq, Bool.false_eq_true, false_iff, true_iff]
                  first
                    | omega
                    | (simp only [*, Int.reduceEq, or_true, true_or, or_self, if_true, if_false, true_and, and_true, false_and, and_false, not_false_eq_true, ite_true, ite_false]; first | done | omega)
                    | skip
        · refine rg [1, 8, 12] (k := rc (ht := fun hc4 => ?_) (hf := fun hc4 => ?_))
          · refine rg [1, 3] (k := rB (k := rs (k := rg [2] (k := rR (k := rP (by simp only [Try.f22, go_sem]; rfl) hwf ⟨?_, rfl⟩)))))
            simp only [PV.weak]
            congr 1
            unfold countF
            simp only [Bool.not_eq_true', Bool.not_eq_false', Bool.or_eq_true, Bool.or_eq_false_iff, decide_eq_true_eq, decide_eq_false_iff_not] at *
            rw [Bool.eq_iff_iff]
            simp only [Bool.and_eq_true, decide_eq_true_eq, Bool.false_eq_true, false_iff, true_iff]
            first
              | omega
              | (simp only [*, Int.reduceEq, or_true, true_or, or_self, if_true, if_false, true_and, and_true, false_and, and_false, not_false_eq_true, ite_true, ite_false]; first | done | omega)
              | skip
          · refine rs (k := rg [1, 8, 15] (k := rc (ht := fun hc5 => ?_) (hf := fun hc5 => ?_)))
            · refine rg [1, 3] (k := rB (k := rs (k := rg [2] (k := rR (k := rP (by simp only [Try.f22, go_sem]; rfl) hwf ⟨?_, rfl⟩)))))
              simp only [PV.weak]
              congr 1
              unfold countF
              simp only [Bool.not_eq_true', Bool.not_eq_false', Bool.or_eq_true, Bool.or_eq_false_iff, decide_eq_true_eq, decide_eq_false_iff_not] at *
              rw [Bool.eq_iff_iff]
              simp only [Bool.and_eq_true, decide_eq_true_eq, Bool.false_eq_true, false_iff, true_iff]
              first
                | omega
                | (simp only [*, Int.reduceEq, or_true, true_or, or_self, if_true, if_false, true_and, and_true, false_and, and_false, not_false_eq_true, ite_true, ite_false]; first | done | omega)
                | skip
            · refine rs (k := rg [1, 8, 17] (k := rc (ht := fun hc6 => ?_) (hf := fun hc6 => ?_)))
              · refine rg [1, 3] (k := rB (k := rs (k := rg [2] (k := rR (k := rP (by simp only [Try.f22, go_sem]; rfl) hwf ⟨?_, rfl⟩)))))
                simp only [PV.weak]
                congr 1
                unfold countF
                simp only [Bool.not_eq_true', Bool.not_eq_false', Bool.or_eq_true, Bool.or_eq_false_iff, decide_eq_true_eq, decide_eq_false_iff_not] at *
                rw [Bool.eq_iff_iff]
                simp only [Bool.and_eq_true, decide_eq_true_eq, Bool.false_eq_true, false_iff, true_iff]
                first
                  | omega
                  | (simp only [*, Int.reduceEq, or_true, true_or, or_self, if_true, if_false, true_and, and_true, false_and, and_false, not_false_eq_true, ite_true, ite_false]; first | done | omega)
                  | skip
              · refine rs (k := rg [1, 19] (k := rc (ht := fun hc7 => ?_) (hf := fun hc7 => ?_)))
                · refine rs (k := rs (k := rg [1, 30] (k := rc (ht := fun hc8 => ?_) (hf := fun hc8 => ?_))))
                  · refine rs (k := rg [2] (k := rR (k := rP (by simp only [Try.f22, go_sem]; rfl) hwf ⟨?_, rfl⟩)))
                    simp only [PV.weak]
                    congr 1
                    unfold countF
                    simp only [Bool.not_eq_true', Bool.not_eq_false', Bool.or_eq_true, Bool.or_eq_false_iff, decide_eq_true_eq, decide_eq_false_iff_not] at *
                    rw [Bool.eq_iff_iff]
                    simp only [Bool.and_eq_true, decide_eq_true_eq, Bool.false_eq_true, false_iff, true_iff]
                    first
                      | omega
                      | (simp only [*, Int.reduceEq, or_true, true_or, or_self, if_true, if_false, true_and, and_true, false_and, and_false, not_false_eq_true, ite_true, ite_false]; first | done | omega)
                      | skip
                  · refine rk (k := rg [1, 3] (k := rB (k := rs (k := rg [2] (k := rR (k := rP (by simp only [Try.f22, go_sem]; rfl) hwf ⟨?_, rfl⟩))))))
                    simp only [PV.weak]
                    congr 1
                    unfold countF
                    simp only [Bool.not_eq_true', Bool.not_eq_false', Bool.or_eq_true, Bool.or_eq_false_iff, decide_eq_true_eq, decide_eq_false_iff_not] at *
                    rw [Bool.eq_iff_iff]
                    simp only [Bool.and_eq_true, decide_eq_true_eq, Bool.false_eq_true, false_iff, true_iff]
                    first
                      | omega
                      | (simp only [*, Int.reduceEq, or_true, true_or, or_self, if_true, if_false, true_and, and_true, false_and, and_false, not_false_eq_true, ite_true, ite_false]; first | done | omega)
                      | skip
                · refine rs (k := rg [2] (k := rR (k := rP (by simp only [Try.f22, go_sem]; rfl) hwf ⟨?_, rfl⟩)))
                  simp only [PV.weak]
                  congr 1
                  unfold countF
                  simp only [Bool.not_eq_true', Bool.not_eq_false', Bool.or_eq_true, Bool.or_eq_false_iff, decide_eq_true_eq, decide_eq_false_iff_not] at *
                  rw [Bool.eq_iff_iff]
                  simp only [Bool.and_eq_true, decide_eq_true_eq, Bool.false_eq_true, false_iff, true_iff]
                  first
                    | omega
                    | (simp only [*, Int.reduceEq, or_true, true_or, or_self, if_true, if_false, true_and, and_true, false_and, and_false, not_false_eq_true, ite_true, ite_false]; first | done | omega)
                    | skip
    · refine rg [1, 8, 9] (k := rc (ht := fun hc2 => ?_) (hf := fun hc2 => ?_))
      · refine rg [1, 3] (k := rB (k := rs (k := rg [2] (k := rR (k := rP (by simp only [Try.f22, go_sem]; rfl) hwf ⟨?_, rfl⟩)))))
        simp only [PV.weak]
        congr 1
        unfold countF
        simp only [Bool.not_eq_true', Bool.not_eq_false', Bool.or_eq_true, Bool.or_eq_false_iff, decide_eq_true_eq, decide_eq_false_iff_not] at *
        rw [Bool.eq_iff_iff]
        simp only [Bool.and_eq_true, decide_eq_true_eq, Bool.false_eq_true, false_iff, true_iff]
        first
          | omega
          | (simp only [*, Int.reduceEq, or_true, true_or, or_self, if_true, if_false, true_and, and_true, false_and, and_false, not_false_eq_true, ite_true, ite_false]; first | done | omega)
          | skip
      · refine rs (k := rs (k := rg [1, 8, 12] (k := rc (ht := fun hc3 => ?_) (hf := fun hc3 => ?_))))
        · refine rk (k := rc (ht := fun hc4 => ?_) (hf := fun hc4 => ?_))
          · refine rg [1, 3] (k := rB (k := rs (k := rg [2] (k := rR (k := rP (by simp only [Try.f22, go_sem]; rfl) hwf ⟨?_, rfl⟩)))))
            simp only [PV.weak]
            congr 1
            unfold countF
            simp only [Bool.not_eq_true', Bool.not_eq_false', Bool.or_eq_true, Bool.or_eq_false_iff, decide_eq_true_eq, decide_eq_false_iff_not] at *
            rw [Bool.eq_iff_iff]
            simp only [Bool.and_eq_true, decide_eq_true_eq, Bool.false_eq_true, false_iff, true_iff]
            first
              | omega
              | (simp only [*, Int.reduceEq, or_true, true_or, or_self, if_true, if_false, true_and, and_true, false_and, and_false, not_false_eq_true, ite_true, ite_false]; first | done | omega)
              | skip
          · refine rs (k := rg [1, 8, 15] (k := rc (ht := fun hc5 => ?_) (hf := fun hc5 => ?_)))
            · refine rg [1, 3] (k := rB (k := rs (k := rg [2] (k := rR (k := rP (by simp only [Try.f22, go_sem]; rfl) hwf ⟨?_, rfl⟩)))))
              simp only [PV.weak]
              congr 1
              unfold countF
              simp only [Bool.not_eq_true', Bool.not_eq_false', Bool.or_eq_true, Bool.or_eq_false_iff, decide_eq_true_eq, decide_eq_false_iff_not] at *
              rw [Bool.eq_iff_iff]
              simp only [Bool.and_eq_true, decide_eq_true_eq, Bool.false_eq_true, false_iff, true_iff]
              first
                | omega
                | (simp only [*, Int.reduceEq, or_true, true_or, or_self, if_true, if_false, true_and, and_true, false_and, and_false, not_false_eq_true, ite_true, ite_false]; first | done | omega)
                | skip
            · refine rs (k := rg [1, 8, 17] (k := rc (ht := fun hc6 => ?_) (hf := fun hc6 => ?_)))
              · refine rg [1, 3] (k := rB (k := rs (k := rg [2] (k := rR (k := rP (by simp only [Try.f22, go_sem]; rfl) hwf ⟨?_, rfl⟩)))))
                simp only [PV.weak]
                congr 1
                unfold countF
                simp only [Bool.not_eq_true', Bool.not_eq_false', Bool.or_eq_true, Bool.or_eq_false_iff, decide_eq_true_eq, decide_eq_false_iff_not] at *
                rw [Bool.eq_iff_iff]
                simp only [Bool.and_eq_true, decide_eq_true_eq, Bool.false_eq_true, false_iff, true_iff]
                first
                  | omega
                  | (simp only [*, Int.reduceEq, or_true, true_or, or_self, if_true, if_false, true_and, and_true, false_and, and_false, not_false_eq_true, ite_true, ite_false]; first | done | omega)
                  | skip
              · refine rs (k := rg [1, 19] (k := rc (ht := fun hc7 => ?_) (hf := fun hc7 => ?_)))
                · refine rs (k := rs (k := rg [1, 30] (k := rc (ht := fun hc8 => ?_) (hf := fun hc8 => ?_))))
                  · refine rs (k := rg [2] (k := rR (k := rP (by simp only [Try.f22, go_sem]; rfl) hwf ⟨?_, rfl⟩)))
                    simp only [PV.weak]
                    congr 1
                    unfold countF
                    simp only [Bool.not_eq_true', Bool.not_eq_false', Bool.or_eq_true, Bool.or_eq_false_iff, decide_eq_true_eq, decide_eq_false_iff_not] at *
                    rw [Bool.eq_iff_iff]
                    simp only [Bool.and_eq_true, decide_eq_true_eq, Bool.false_eq_true, false_iff, true_iff]
                    first
                      | omega
                      | (simp only [*, Int.reduceEq, or_true, true_or, or_self, if_true, if_false, true_and, and_true, false_and, and_false, not_false_eq_true, ite_true, ite_false]; first | done | omega)
                      | skip
                  · refine rk (k := rg [1, 3] (k := rB (k := rs (k := rg [2] (k := rR (k := rP (by simp only [Try.f22, go_sem]; rfl) hwf ⟨?_, rfl⟩))))))
                    simp only [PV.weak]
                    congr 1
                    unfold countF
                    simp only [Bool.not_eq_true', Bool.not_eq_false', Bool.or_eq_true, Bool.or_eq_false_iff, decide_eq_true_eq, decide_eq_false_iff_not] at *
                    rw [Bool.eq_iff_iff]
                    simp only [Bool.and_eq_true, decide_eq_true_eq, Bool.false_eq_true, false_iff, true_iff]
                    first
                      | omega
                      | (simp only [*, Int.reduceEq, or_true, true_or, or_self, if_true, if_false, true_and, and_true, false_and, and_false, not_false_eq_true, ite_true, ite_false]; first | done | omega)
                      | skip
                · refine rs (k := rg [2] (k := rR (k := rP (by simp only [Try.f22, go_sem]; rfl) hwf ⟨?_, rfl⟩)))
                  simp only [PV.weak]
                  congr 1
                  unfold countF
                  simp only [Bool.not_eq_true', Bool.not_eq_false', Bool.or_eq_true, Bool.or_eq_false_iff, decide_eq_true_eq, decide_eq_false_iff_not] at *
                  rw [Bool.eq_iff_iff]
                  simp only [Bool.and_eq_true, decide_eq_true_eq, Bool.false_eq_true, false_iff, true_iff]
                  first
                    | omega
                    | (simp only [*, Int.reduceEq, or_true, true_or, or_self, if_true, if_false, true_and, and_true, false_and, and_false, not_false_eq_true, ite_true, ite_false]; first | done | omega)
                    | skip
        · refine rg [1, 8, 12] (k := rc (ht := fun hc4 => ?_) (hf := fun hc4 => ?_))
          · refine rg [1, 3] (k := rB (k := rs (k := rg [2] (k := rR (k := rP (by simp only [Try.f22, go_sem]; rfl) hwf ⟨?_, rfl⟩)))))
            simp only [PV.weak]
            congr 1
            unfold countF
            simp only [Bool.not_eq_true', Bool.not_eq_false', Bool.or_eq_true, Bool.or_eq_false_iff, decide_eq_true_eq, decide_eq_false_iff_not] at *
            rw [Bool.eq_iff_iff]
            simp only [Bool.and_eq_true, decide_eq_true_eq, Bool.false_eq_true, false_iff, true_iff]
            first
              | omega
              | (simp only [*, Int.reduceEq, or_true, true_or, or_self, if_true, if_false, true_and, and_true, false_and, and_false, not_false_eq_true, ite_true, ite_false]; first | done | omega)
              | skip
          · refine rs (k := rg [1, 8, 15] (k := rc (ht := fun hc5 => ?_) (hf := fun hc5 => ?_)))
            · refine rg [1, 3] (k := rB (k := rs (k := rg [2] (k := rR (k := rP (by simp only [Try.f22, go_sem]; rfl) hwf ⟨?_, rfl⟩)))))
              simp only [PV.weak]
              congr 1
              unfold countF
              simp only [Bool.not_eq_true', Bool.not_eq_false', Bool.or_eq_true, Bool.or_eq_false_iff, decide_eq_true_eq, decide_eq_false_iff_not] at *
              rw [Bool.eq_iff_iff]
              simp only [Bool.and_eq_true, decide_eq_true_eq, Bool.false_eq_true, false_iff, true_iff]
              first
                | omega
                | (simp only [*, Int.reduceEq, or_true, true_or, or_self, if_true, if_false, true_and, and_true, false_and, and_false, not_false_eq_true, ite_true, ite_false]; first | done | omega)
                | skip
            · refine rs (k := rg [1, 8, 17] (k := rc (ht := fun hc6 => ?_) (hf := fun hc6 => ?_)))
              · refine rg [1, 3] (k := rB (k := rs (k := rg [2] (k := rR (k := rP (by simp only [Try.f22, go_sem]; rfl) hwf ⟨?_, rfl⟩)))))
                simp only [PV.weak]
                congr 1
                unfold countF
                simp only [Bool.not_eq_true', Bool.not_eq_false', Bool.or_eq_true, Bool.or_eq_false_iff, decide_eq_true_eq, decide_eq_false_iff_not] at *
                rw [Bool.eq_iff_iff]
                simp only [Bool.and_eq_true, decide_eq_true_eq, Bool.false_eq_true, false_iff, true_iff]
                first
                  | omega
                  | (simp only [*, Int.reduceEq, or_true, true_or, or_self, if_true, if_false, true_and, and_true, false_and, and_false, not_false_eq_true, ite_true, ite_false]; first | done | omega)
                  | skip
              · refine rs (k := rg [1, 19] (k := rc (ht := fun hc7 => ?_) (hf := fun hc7 => ?_)))
                · refine rs (k := rs (k := rg [1, 30] (k := rc (ht := fun hc8 => ?_) (hf := fun hc8 => ?_))))
                  · refine rs (k := rg [2] (k := rR (k := rP (by simp only [Try.f22, go_sem]; rfl) hwf ⟨?_, rfl⟩)))
                    simp only [PV.weak]
                    congr 1
                    unfold countF
                    simp only [Bool.not_eq_true', Bool.not_eq_false', Bool.or_eq_true, Bool.or_eq_false_iff, decide_eq_true_eq, decide_eq_false_iff_not] at *
                    rw [Bool.eq_iff_iff]
                    simp only [Bool.and_eq_true, decide_eq_true_eq, Bool.false_eq_true, false_iff, true_iff]
                    first
                      | omega
                      | (simp only [*, Int.reduceEq, or_true, true_or, or_self, if_true, if_false, true_and, and_true, false_and, and_false, not_false_eq_true, ite_true, ite_false]; first | done | omega)
                      | skip
                  · refine rk (k := rg [1, 3] (k := rB (k := rs (k := rg [2] (k := rR (k := rP (by simp only [Try.f22, go_sem]; rfl) hwf ⟨?_, rfl⟩))))))
                    simp only [PV.weak]
                    congr 1
                    unfold countF
                    simp only [Bool.not_eq_true', Bool.not_eq_false', Bool.or_eq_true, Bool.or_eq_false_iff, decide_eq_true_eq, decide_eq_false_iff_not] at *
                    rw [Bool.eq_iff_iff]
                    simp only [Bool.and_eq_true, decide_eq_true_eq, Bool.false_eq_true, false_iff, true_iff]
                    first
                      | omega
                      | (simp only [*, Int.reduceEq, or_true, true_or, or_self, if_true, if_false, true_and, and_true, false_and, and_false, not_false_eq_true, ite_true, ite_false]; first | done | omega)
                      | skip
                · refine rs (k := rg [2] (k := rR (k := rP (by simp only [Try.f22, go_sem]; rfl) hwf ⟨?_, rfl⟩)))
                  simp only [PV.weak]
                  congr 1
                  unfold countF
                  simp only [Bool.not_eq_true', Bool.not_eq_false', Bool.or_eq_true, Bool.or_eq_false_iff, decide_eq_true_eq, decide_eq_false_iff_not] at *
                  rw [Bool.eq_iff_iff]
                  simp only [Bool.and_eq_true, decide_eq_true_eq, Bool.false_eq_true, false_iff, true_iff]
                  first
                    | omega
                    | (simp only [*, Int.reduceEq, or_true, true_or, or_self, if_true, if_false, true_and, and_true, false_and, and_false, not_false_eq_true, ite_true, ite_false]; first | done | omega)
                    | skip
end Go.Proofs
namespace Go.Proofs
open Go.PM
set_option maxHeartbeats 2000000
attribute [local go_sem] set_set weaks_bools Rep.pv
set_option maxRecDepth 100000 in
theorem reply_has {r : Rep} {s : St} : ACalls Try.prog 91 [r.pv] s (fun v s' => v = .tuple [(if hasF r.fn = true then hasP r else zeroP).pv, .bool (hasF r.fn)] ∧ s' = s) := by
  refine go Try.func91 (k := fun hwf H => ?_)
  refine rs (k := rg [1, 2] (k := rs (k := rg [1, 2] (k := rs (k := rs (k := rg [1, 2, 8] (k := rb (k := rs (k := rs (k := rg [1, 2, 8, 10] (k := rc (ht := fun hc0 => ?_) (hf := fun hc0 => ?_))))))))))))
  · refine rk (k := rc (ht := fun hc1 => ?_) (hf := fun hc1 => ?_))
    · refine rg [2] (k := rB (k := rs (k := rg [2, 3] (k := rR (k := ?_)))))
      refine Ret.pure (r' := .tuple [(if hasF r.fn = true then hasP r else zeroP).pv, .bool (hasF r.fn)]) (by simp only [Try.f91, go_sem, ↓reduceIte] <;> rfl) ?_ (by simp only [PV.blw, PV.blws, and_true]; exact blw_rep _ _) hwf (fun i hi => by first | rfl | (have h0 := ltn hi; have h1 := lte hi; simp only [go_sem, Nat.add_assoc, Nat.reduceAdd, ↓reduceIte, h0, h1])) ⟨rfl, rfl⟩
      simp only [PV.weak, PV.weaks, weaks_u16, weaks_bools, weaks_u8]
      clear H hwf
      simp only [decide_eq_true_eq, decide_eq_false_iff_not] at *
      have hhas : hasF r.fn = decide (1 ≤ r.fn ∧ r.fn ≤ 6 ∨ r.fn = 8 ∨ r.fn = 15 ∨ r.fn = 16 ∨ r.fn = 17 ∨ r.fn = 22 ∨ r.fn = 23) := rfl
      first
        | (have e : hasF r.fn = true := by rw [hhas]; exact decide_eq_true (by omega)
           rw [e]
           clear hhas e
           simp only [hasP, if_true]
           simp [Rep.pv, *]; done)
        | (have e : hasF r.fn = false := by rw [hhas]; exact decide_eq_false (by omega)
           rw [e]; rfl)
        | skip
    · exact Bool.noConfusion (hc0.symm.trans hc1)
  · refine rg [1, 2, 8, 10] (k := rc (ht := fun hc1 => ?_) (hf := fun hc1 => ?_))
    · refine rg [2] (k := rB (k := rs (k := rg [2, 3] (k := rR (k := ?_)))))
      refine Ret.pure (r' := .tuple [(if hasF r.fn = true then hasP r else zeroP).pv, .bool (hasF r.fn)]) (by simp only [Try.f91, go_sem, ↓reduceIte] <;> rfl) ?_ (by simp only [PV.blw, PV.blws, and_true]; exact blw_rep _ _) hwf (fun i hi => by first | rfl | (have h0 := ltn hi; have h1 := lte hi; simp only [go_sem, Nat.add_assoc, Nat.reduceAdd, ↓reduceIte, h0, h1])) ⟨rfl, rfl⟩
      simp only [PV.weak, PV.weaks, weaks_u16, weaks_bools, weaks_u8]
      clear H hwf
      simp only [decide_eq_true_eq, decide_eq_false_iff_not] at *
      have hhas : hasF r.fn = decide (1 ≤ r.fn ∧ r.fn ≤ 6 ∨ r.fn = 8 ∨ r.fn = 15 ∨ r.fn = 16 ∨ r.fn = 17 ∨ r.fn = 22 ∨ r.fn = 23) := rfl
      first
        | (have e : hasF r.fn = true := by rw [hhas]; exact decide_eq_true (by omega)
           rw [e]
           clear hhas e
           simp only [hasP, if_true]
           simp [Rep.pv, *]; done)
        | (have e : hasF r.fn = false := by rw [hhas]; exact decide_eq_false (by omega)
           rw [e]; rfl)
        | skip
    · refine rs (k := rs (k := rg [1, 2, 8, 16] (k := rc (ht := fun hc2 => ?_) (hf := fun hc2 => ?_))))
      · refine rk (k := rc (ht := fun hc4 => ?_) (hf := fun hc4 => ?_))
        · refine rg [2] (k := rB (k := rs (k := rg [2, 3] (k := rR (k := ?_)))))
          refine Ret.pure (r' := .tuple [(if hasF r.fn = true then hasP r else zeroP).pv, .bool (hasF r.fn)]) (by simp only [Try.f91, go_sem, ↓reduceIte] <;> rfl) ?_ (by simp only [PV.blw, PV.blws, and_true]; exact blw_rep _ _) hwf (fun i hi => by first | rfl | (have h0 := ltn hi; have h1 := lte hi; simp only [go_sem, Nat.add_assoc, Nat.reduceAdd, ↓reduceIte, h0, h1])) ⟨rfl, rfl⟩
          simp only [PV.weak, PV.weaks, weaks_u16, weaks_bools, weaks_u8]
          clear H hwf
          simp only [decide_eq_true_eq, decide_eq_false_iff_not] at *
          have hhas : hasF r.fn = decide (1 ≤ r.fn ∧ r.fn ≤ 6 ∨ r.fn = 8 ∨ r.fn = 15 ∨ r.fn = 16 ∨ r.fn = 17 ∨ r.fn = 22 ∨ r.fn = 23) := rfl
          first
            | (have e : hasF r.fn = true := by rw [hhas]; exact decide_eq_true (by omega)
               rw [e]
               clear hhas e
               simp only [hasP, if_true]
               simp [Rep.pv, *]; done)
            | (have e : hasF r.fn = false := by rw [hhas]; exact decide_eq_false (by omega)
               rw [e]; rfl)
            | skip
        · exact Bool.noConfusion (hc2.symm.trans hc4)
      · refine rs (k := rg [1, 2, 8, 16] (k := rc (ht := fun hc3 => ?_) (hf := fun hc3 => ?_)))
        · refine rk (k := rc (ht := fun hc4 => ?_) (hf := fun hc4 => ?_))
          · refine rg [2] (k := rB (k := rs (k := rg [2, 3] (k := rR (k := ?_)))))
            refine Ret.pure (r' := .tuple [(if hasF r.fn = true then hasP r else zeroP).pv, .bool (hasF r.fn)]) (by simp only [Try.f91, go_sem, ↓reduceIte] <;> rfl) ?_ (by simp only [PV.blw, PV.blws, and_true]; exact blw_rep _ _) hwf (fun i hi => by first | rfl | (have h0 := ltn hi; have h1 := lte hi; simp only [go_sem, Nat.add_assoc, Nat.reduceAdd, ↓reduceIte, h0, h1])) ⟨rfl, rfl⟩
            simp only [PV.weak, PV.weaks, weaks_u16, weaks_bools, weaks_u8]
            clear H hwf
            simp only [decide_eq_true_eq, decide_eq_false_iff_not] at *
            have hhas : hasF r.fn = decide (1 ≤ r.fn ∧ r.fn ≤ 6 ∨ r.fn = 8 ∨ r.fn = 15 ∨ r.fn = 16 ∨ r.fn = 17 ∨ r.fn = 22 ∨ r.fn = 23) := rfl
            first
              | (have e : hasF r.fn = true := by rw [hhas]; exact decide_eq_true (by omega)
                 rw [e]
                 clear hhas e
                 simp only [hasP, if_true]
                 simp [Rep.pv, *]; done)
              | (have e : hasF r.fn = false := by rw [hhas]; exact decide_eq_false (by omega)
                 rw [e]; rfl)
              | skip
          · exact Bool.noConfusion (hc3.symm.trans hc4)
        · refine rg [1, 2, 8, 16] (k := rc (ht := fun hc4 => ?_) (hf := fun hc4 => ?_))
          · refine rg [2] (k := rB (k := rs (k := rg [2, 3] (k := rR (k := ?_)))))
            refine Ret.pure (r' := .tuple [(if hasF r.fn = true then hasP r else zeroP).pv, .bool (hasF r.fn)]) (by simp only [Try.f91, go_sem, ↓reduceIte] <;> rfl) ?_ (by simp only [PV.blw, PV.blws, and_true]; exact blw_rep _ _) hwf (fun i hi => by first | rfl | (have h0 := ltn hi; have h1 := lte hi; simp only [go_sem, Nat.add_assoc, Nat.reduceAdd, ↓reduceIte, h0, h1])) ⟨rfl, rfl⟩
            simp only [PV.weak, PV.weaks, weaks_u16, weaks_bools, weaks_u8]
            clear H hwf
            simp only [decide_eq_true_eq, decide_eq_false_iff_not] at *
            have hhas : hasF r.fn = decide (1 ≤ r.fn ∧ r.fn ≤ 6 ∨ r.fn = 8 ∨ r.fn = 15 ∨ r.fn = 16 ∨ r.fn = 17 ∨ r.fn = 22 ∨ r.fn = 23) := rfl
            first
              | (have e : hasF r.fn = true := by rw [hhas]; exact decide_eq_true (by omega)
                 rw [e]
                 clear hhas e
                 simp only [hasP, if_true]
                 simp [Rep.pv, *]; done)
              | (have e : hasF r.fn = false := by rw [hhas]; exact decide_eq_false (by omega)
                 rw [e]; rfl)
              | skip
          · refine rs (k := rg [1, 2, 8, 23] (k := rc (ht := fun hc5 => ?_) (hf := fun hc5 => ?_)))
            · refine Run.drawM 8 [5, 7] [((((s.new (.row 30 [.agg [.int .i64 r.fn, .int .i64 r.code, .int .i64 r.at_, .int .i64 r.count, .int .i64 r.sub, .sl .unk (r.bits.map PV.bool), .sl .unk (r.vals.map (PV.int .u16)), .int .u16 r.and_, .int .u16 r.or_, .sl .unk (r.data.map (PV.int .u8))]]))).new (.row 30 [.agg [.int .i64 0, .int .i64 0, .int .i64 0, .int .i64 0, .int .i64 0, .sl .nil [], .sl .nil [], .int .u16 0, .int .u16 0, .sl .nil []]])).set (s.nxt + 1) (some (.row 30 [.agg [.int .i64 r.fn, .int .i64 0, .int .i64 0, .int .i64 0, .int .i64 0, .sl .nil [], .sl .nil [], .int .u16 0, .int .u16 0, .sl .nil []]]))), ((((s.new (.row 30 [.agg [.int .i64 r.fn, .int .i64 r.code, .int .i64 r.at_, .int .i64 r.count, .int .i64 r.sub, .sl .unk (r.bits.map PV.bool), .sl .unk (r.vals.map (PV.int .u16)), .int .u16 r.and_, .int .u16 r.or_, .sl .unk (r.data.map (PV.int .u8))]]))).new (.row 30 [.agg [.int .i64 0, .int .i64 0, .int .i64 0, .int .i64 0, .int .i64 0, .sl .nil [], .sl .nil [], .int .u16 0, .int .u16 0, .sl .nil []]])).set (s.nxt + 1) (some (.row 30 [.agg [.int .i64 r.fn, .int .i64 0, .int .i64 r.at_, .int .i64 0, .int .i64 0, .sl .nil [], .sl .nil [], .int .u16 0, .int .u16 0, .sl .nil []]]))), ((((s.new (.row 30 [.agg [.int .i64 r.fn, .int .i64 r.code, .int .i64 r.at_, .int .i64 r.count, .int .i64 r.sub, .sl .unk (r.bits.map PV.bool), .sl .unk (r.vals.map (PV.int .u16)), .int .u16 r.and_, .int .u16 r.or_, .sl .unk (r.data.map (PV.int .u8))]]))).new (.row 30 [.agg [.int .i64 0, .int .i64 0, .int .i64 0, .int .i64 0, .int .i64 0, .sl .nil [], .sl .nil [], .int .u16 0, .int .u16 0, .sl .nil []]])).set (s.nxt + 1) (some (.row 30 [.agg [.int .i64 r.fn, .int .i64 0, .int .i64 r.at_, .int .i64 0, .int .i64 0, .sl .unk (r.bits.map PV.bool), .sl .nil [], .int .u16 0, .int .u16 0, .sl .nil []]])))] Try.mixed (by kernel_rfl) (by kernel_rfl) ?_
              refine DetBC.pre (pre := [_, _, _, _, _]) (by decide) List.mem_cons_self au ?_
              refine DetBC.eff (by decide) List.mem_cons_self au au ?_
              refine DetBC.pre (pre := [_]) (by decide) (List.mem_cons_of_mem _ List.mem_cons_self) au ?_
              refine DetBC.eff (by decide) (List.mem_cons_of_mem _ List.mem_cons_self) au au ?_
              refine DetBC.nil (List.mem_cons_of_mem _ (List.mem_cons_of_mem _ List.mem_cons_self)) ?_
              refine rl [2] (k := rB (k := rs (k := rg [2, 3] (k := rR (k := ?_)))))
              refine Ret.pure (r' := .tuple [(if hasF r.fn = true then hasP r else zeroP).pv, .bool (hasF r.fn)]) (by simp only [Try.f91, go_sem, ↓reduceIte] <;> rfl) ?_ (by simp only [PV.blw, PV.blws, and_true]; exact blw_rep _ _) hwf (fun i hi => by first | rfl | (have h0 := ltn hi; have h1 := lte hi; simp only [go_sem, Nat.add_assoc, Nat.reduceAdd, ↓reduceIte, h0, h1])) ⟨rfl, rfl⟩
              simp only [PV.weak, PV.weaks, weaks_u16, weaks_bools, weaks_u8]
              clear H hwf
              simp only [decide_eq_true_eq, decide_eq_false_iff_not] at *
              have hhas : hasF r.fn = decide (1 ≤ r.fn ∧ r.fn ≤ 6 ∨ r.fn = 8 ∨ r.fn = 15 ∨ r.fn = 16 ∨ r.fn = 17 ∨ r.fn = 22 ∨ r.fn = 23) := rfl
              first
                | (have e : hasF r.fn = true := by rw [hhas]; exact decide_eq_true (by omega)
                   rw [e]
                   clear hhas e
                   simp only [hasP, if_true]
                   simp [Rep.pv, *]; done)
                | (have e : hasF r.fn = false := by rw [hhas]; exact decide_eq_false (by omega)
                   rw [e]; rfl)
                | skip
            · refine rs (k := rg [1, 2, 8, 31] (k := rc (ht := fun hc6 => ?_) (hf := fun hc6 => ?_)))
              · refine Run.drawM 8 [5, 7] [((((s.new (.row 30 [.agg [.int .i64 r.fn, .int .i64 r.code, .int .i64 r.at_, .int .i64 r.count, .int .i64 r.sub, .sl .unk (r.bits.map PV.bool), .sl .unk (r.vals.map (PV.int .u16)), .int .u16 r.and_, .int .u16 r.or_, .sl .unk (r.data.map (PV.int .u8))]]))).new (.row 30 [.agg [.int .i64 0, .int .i64 0, .int .i64 0, .int .i64 0, .int .i64 0, .sl .nil [], .sl .nil [], .int .u16 0, .int .u16 0, .sl .nil []]])).set (s.nxt + 1) (some (.row 30 [.agg [.int .i64 r.fn, .int .i64 0, .int .i64 0, .int .i64 0, .int .i64 0, .sl .nil [], .sl .nil [], .int .u16 0, .int .u16 0, .sl .nil []]]))), ((((s.new (.row 30 [.agg [.int .i64 r.fn, .int .i64 r.code, .int .i64 r.at_, .int .i64 r.count, .int .i64 r.sub, .sl .unk (r.bits.map PV.bool), .sl .unk (r.vals.map (PV.int .u16)), .int .u16 r.and_, .int .u16 r.or_, .sl .unk (r.data.map (PV.int .u8))]]))).new (.row 30 [.agg [.int .i64 0, .int .i64 0, .int .i64 0, .int .i64 0, .int .i64 0, .sl .nil [], .sl .nil [], .int .u16 0, .int .u16 0, .sl .nil []]])).set (s.nxt + 1) (some (.row 30 [.agg [.int .i64 r.fn, .int .i64 0, .int .i64 r.at_, .int .i64 0, .int .i64 0, .sl .nil [], .sl .nil [], .int .u16 0, .int .u16 0, .sl .nil []]]))), ((((s.new (.row 30 [.agg [.int .i64 r.fn, .int .i64 r.code, .int .i64 r.at_, .int .i64 r.count, .int .i64 r.sub, .sl .unk (r.bits.map PV.bool), .sl .unk (r.vals.map (PV.int .u16)), .int .u16 r.and_, .int .u16 r.or_, .sl .unk (r.data.map (PV.int .u8))]]))).new (.row 30 [.agg [.int .i64 0, .int .i64 0, .int .i64 0, .int .i64 0, .int .i64 0, .sl .nil [], .sl .nil [], .int .u16 0, .int .u16 0, .sl .nil []]])).set (s.nxt + 1) (some (.row 30 [.agg [.int .i64 r.fn, .int .i64 0, .int .i64 r.at_, .int .i64 0, .int .i64 0, .sl .nil [], .sl .unk (r.vals.map (PV.int .u16)), .int .u16 0, .int .u16 0, .sl .nil []]])))] Try.mixed (by kernel_rfl) (by kernel_rfl) ?_
                refine DetBC.pre (pre := [_, _, _, _, _]) (by decide) List.mem_cons_self au ?_
                refine DetBC.eff (by decide) List.mem_cons_self au au ?_
                refine DetBC.pre (pre := [_]) (by decide) (List.mem_cons_of_mem _ List.mem_cons_self) au ?_
                refine DetBC.eff (by decide) (List.mem_cons_of_mem _ List.mem_cons_self) au au ?_
                refine DetBC.nil (List.mem_cons_of_mem _ (List.mem_cons_of_mem _ List.mem_cons_self)) ?_
                refine rl [2] (k := rB (k := rs (k := rg [2, 3] (k := rR (k := ?_)))))
                refine Ret.pure (r' := .tuple [(if hasF r.fn = true then hasP r else zeroP).pv, .bool (hasF r.fn)]) (by simp only [Try.f91, go_sem, ↓reduceIte] <;> rfl) ?_ (by simp only [PV.blw, PV.blws, and_true]; exact blw_rep _ _) hwf (fun i hi => by first | rfl | (have h0 := ltn hi; have h1 := lte hi; simp only [go_sem, Nat.add_assoc, Nat.reduceAdd, ↓reduceIte, h0, h1])) ⟨rfl, rfl⟩
                simp only [PV.weak, PV.weaks, weaks_u16, weaks_bools, weaks_u8]
                clear H hwf
                simp only [decide_eq_true_eq, decide_eq_false_iff_not] at *
                have hhas : hasF r.fn = decide (1 ≤ r.fn ∧ r.fn ≤ 6 ∨ r.fn = 8 ∨ r.fn = 15 ∨ r.fn = 16 ∨ r.fn = 17 ∨ r.fn = 22 ∨ r.fn = 23) := rfl
                first
                  | (have e : hasF r.fn = true := by rw [hhas]; exact decide_eq_true (by omega)
                     rw [e]
                     clear hhas e
                     simp only [hasP, if_true]
                     simp [Rep.pv, *]; done)
                  | (have e : hasF r.fn = false := by rw [hhas]; exact decide_eq_false (by omega)
                     rw [e]; rfl)
                  | skip
              · refine rs (k := rg [1, 2, 8, 39] (k := rc (ht := fun hc7 => ?_) (hf := fun hc7 => ?_)))
                · refine Run.drawM 8 [5, 7] [((((s.new (.row 30 [.agg [.int .i64 r.fn, .int .i64 r.code, .int .i64 r.at_, .int .i64 r.count, .int .i64 r.sub, .sl .unk (r.bits.map PV.bool), .sl .unk (r.vals.map (PV.int .u16)), .int .u16 r.and_, .int .u16 r.or_, .sl .unk (r.data.map (PV.int .u8))]]))).new (.row 30 [.agg [.int .i64 0, .int .i64 0, .int .i64 0, .int .i64 0, .int .i64 0, .sl .nil [], .sl .nil [], .int .u16 0, .int .u16 0, .sl .nil []]])).set (s.nxt + 1) (some (.row 30 [.agg [.int .i64 r.fn, .int .i64 0, .int .i64 0, .int .i64 0, .int .i64 0, .sl .nil [], .sl .nil [], .int .u16 0, .int .u16 0, .sl .nil []]]))), ((((s.new (.row 30 [.agg [.int .i64 r.fn, .int .i64 r.code, .int .i64 r.at_, .int .i64 r.count, .int .i64 r.sub, .sl .unk (r.bits.map PV.bool), .sl .unk (r.vals.map (PV.int .u16)), .int .u16 r.and_, .int .u16 r.or_, .sl .unk (r.data.map (PV.int .u8))]]))).new (.row 30 [.agg [.int .i64 0, .int .i64 0, .int .i64 0, .int .i64 0, .int .i64 0, .sl .nil [], .sl .nil [], .int .u16 0, .int .u16 0, .sl .nil []]])).set (s.nxt + 1) (some (.row 30 [.agg [.int .i64 r.fn, .int .i64 0, .int .i64 0, .int .i64 0, .int .i64 r.sub, .sl .nil [], .sl .nil [], .int .u16 0, .int .u16 0, .sl .nil []]]))), ((((s.new (.row 30 [.agg [.int .i64 r.fn, .int .i64 r.code, .int .i64 r.at_, .int .i64 r.count, .int .i64 r.sub, .sl .unk (r.bits.map PV.bool), .sl .unk (r.vals.map (PV.int .u16)), .int .u16 r.and_, .int .u16 r.or_, .sl .unk (r.data.map (PV.int .u8))]]))).new (.row 30 [.agg [.int .i64 0, .int .i64 0, .int .i64 0, .int .i64 0, .int .i64 0, .sl .nil [], .sl .nil [], .int .u16 0, .int .u16 0, .sl .nil []]])).set (s.nxt + 1) (some (.row 30 [.agg [.int .i64 r.fn, .int .i64 0, .int .i64 0, .int .i64 0, .int .i64 r.sub, .sl .nil [], .sl .unk (r.vals.map (PV.int .u16)), .int .u16 0, .int .u16 0, .sl .nil []]])))] Try.mixed (by kernel_rfl) (by kernel_rfl) ?_
                  refine DetBC.pre (pre := [_, _, _, _, _]) (by decide) List.mem_cons_self au ?_
                  refine DetBC.eff (by decide) List.mem_cons_self au au ?_
                  refine DetBC.pre (pre := [_]) (by decide) (List.mem_cons_of_mem _ List.mem_cons_self) au ?_
                  refine DetBC.eff (by decide) (List.mem_cons_of_mem _ List.mem_cons_self) au au ?_
                  refine DetBC.nil (List.mem_cons_of_mem _ (List.mem_cons_of_mem _ List.mem_cons_self)) ?_
                  refine rl [2] (k := rB (k := rs (k := rg [2, 3] (k := rR (k := ?_)))))
                  refine Ret.pure (r' := .tuple [(if hasF r.fn = true then hasP r else zeroP).pv, .bool (hasF r.fn)]) (by simp only [Try.f91, go_sem, ↓reduceIte] <;> rfl) ?_ (by simp only [PV.blw, PV.blws, and_true]; exact blw_rep _ _) hwf (fun i hi => by first | rfl | (have h0 := ltn hi; have h1 := lte hi; simp only [go_sem, Nat.add_assoc, Nat.reduceAdd, ↓reduceIte, h0, h1])) ⟨rfl, rfl⟩
                  simp only [PV.weak, PV.weaks, weaks_u16, weaks_bools, weaks_u8]
                  clear H hwf
                  simp only [decide_eq_true_eq, decide_eq_false_iff_not] at *
                  have hhas : hasF r.fn = decide (1 ≤ r.fn ∧ r.fn ≤ 6 ∨ r.fn = 8 ∨ r.fn = 15 ∨ r.fn = 16 ∨ r.fn = 17 ∨ r.fn = 22 ∨ r.fn = 23) := rfl
                  first
                    | (have e : hasF r.fn = true := by rw [hhas]; exact decide_eq_true (by omega)
                       rw [e]
                       clear hhas e
                       simp only [hasP, if_true]
                       simp [Rep.pv, *]; done)
                    | (have e : hasF r.fn = false := by rw [hhas]; exact decide_eq_false (by omega)
                       rw [e]; rfl)
                    | skip
                · refine rs (k := rs (k := rg [1, 2, 8, 47] (k := rc (ht := fun hc8 => ?_) (hf := fun hc8 => ?_))))
                  · refine rk (k := rc (ht := fun hc9 => ?_) (hf := fun hc9 => ?_))
                    · refine Run.drawM 8 [5, 7] [((((s.new (.row 30 [.agg [.int .i64 r.fn, .int .i64 r.code, .int .i64 r.at_, .int .i64 r.count, .int .i64 r.sub, .sl .unk (r.bits.map PV.bool), .sl .unk (r.vals.map (PV.int .u16)), .int .u16 r.and_, .int .u16 r.or_, .sl .unk (r.data.map (PV.int .u8))]]))).new (.row 30 [.agg [.int .i64 0, .int .i64 0, .int .i64 0, .int .i64 0, .int .i64 0, .sl .nil [], .sl .nil [], .int .u16 0, .int .u16 0, .sl .nil []]])).set (s.nxt + 1) (some (.row 30 [.agg [.int .i64 r.fn, .int .i64 0, .int .i64 0, .int .i64 0, .int .i64 0, .sl .nil [], .sl .nil [], .int .u16 0, .int .u16 0, .sl .nil []]]))), ((((s.new (.row 30 [.agg [.int .i64 r.fn, .int .i64 r.code, .int .i64 r.at_, .int .i64 r.count, .int .i64 r.sub, .sl .unk (r.bits.map PV.bool), .sl .unk (r.vals.map (PV.int .u16)), .int .u16 r.and_, .int .u16 r.or_, .sl .unk (r.data.map (PV.int .u8))]]))).new (.row 30 [.agg [.int .i64 0, .int .i64 0, .int .i64 0, .int .i64 0, .int .i64 0, .sl .nil [], .sl .nil [], .int .u16 0, .int .u16 0, .sl .nil []]])).set (s.nxt + 1) (some (.row 30 [.agg [.int .i64 r.fn, .int .i64 0, .int .i64 r.at_, .int .i64 0, .int .i64 0, .sl .nil [], .sl .nil [], .int .u16 0, .int .u16 0, .sl .nil []]]))), ((((s.new (.row 30 [.agg [.int .i64 r.fn, .int .i64 r.code, .int .i64 r.at_, .int .i64 r.count, .int .i64 r.sub, .sl .unk (r.bits.map PV.bool), .sl .unk (r.vals.map (PV.int .u16)), .int .u16 r.and_, .int .u16 r.or_, .sl .unk (r.data.map (PV.int .u8))]]))).new (.row 30 [.agg [.int .i64 0, .int .i64 0, .int .i64 0, .int .i64 0, .int .i64 0, .sl .nil [], .sl .nil [], .int .u16 0, .int .u16 0, .sl .nil []]])).set (s.nxt + 1) (some (.row 30 [.agg [.int .i64 r.fn, .int .i64 0, .int .i64 r.at_, .int .i64 r.count, .int .i64 0, .sl .nil [], .sl .nil [], .int .u16 0, .int .u16 0, .sl .nil []]])))] Try.mixed (by kernel_rfl) (by kernel_rfl) ?_
                      refine DetBC.pre (pre := [_, _, _, _, _]) (by decide) List.mem_cons_self au ?_
                      refine DetBC.eff (by decide) List.mem_cons_self au au ?_
                      refine DetBC.pre (pre := [_]) (by decide) (List.mem_cons_of_mem _ List.mem_cons_self) au ?_
                      refine DetBC.eff (by decide) (List.mem_cons_of_mem _ List.mem_cons_self) au au ?_
                      refine DetBC.nil (List.mem_cons_of_mem _ (List.mem_cons_of_mem _ List.mem_cons_self)) ?_
                      refine rl [2] (k := rB (k := rs (k := rg [2, 3] (k := rR (k := ?_)))))
                      refine Ret.pure (r' := .tuple [(if hasF r.fn = true then hasP r else zeroP).pv, .bool (hasF r.fn)]) (by simp only [Try.f91, go_sem, ↓reduceIte] <;> rfl) ?_ (by simp only [PV.blw, PV.blws, and_true]; exact blw_rep _ _) hwf (fun i hi => by first | rfl | (have h0 := ltn hi; have h1 := lte hi; simp only [go_sem, Nat.add_assoc, Nat.reduceAdd, ↓reduceIte, h0, h1])) ⟨rfl, rfl⟩
                      simp only [PV.weak, PV.weaks, weaks_u16, weaks_bools, weaks_u8]
                      clear H hwf
                      simp only [decide_eq_true_eq, decide_eq_false_iff_not] at *
                      have hhas : hasF r.fn = decide (1 ≤ r.fn ∧ r.fn ≤ 6 ∨ r.fn = 8 ∨ r.fn = 15 ∨ r.fn = 16 ∨ r.fn = 17 ∨ r.fn = 22 ∨ r.fn = 23) := rfl
                      first
                        | (have e : hasF r.fn = true := by rw [hhas]; exact decide_eq_true (by omega)
                           rw [e]
                           clear hhas e
                           simp only [hasP, if_true]
                           simp [Rep.pv, *]; done)
                        | (have e : hasF r.fn = false := by rw [hhas]; exact decide_eq_false (by omega)
                           rw [e]; rfl)
                        | skip
                    · exact Bool.noConfusion (hc8.symm.trans hc9)
                  · refine rg [1, 2, 8, 47] (k := rc (ht := fun hc9 => ?_) (hf := fun hc9 => ?_))
                    · refine Run.drawM 8 [5, 7] [((((s.new (.row 30 [.agg [.int .i64 r.fn, .int .i64 r.code, .int .i64 r.at_, .int .i64 r.count, .int .i64 r.sub, .sl .unk (r.bits.map PV.bool), .sl .unk (r.vals.map (PV.int .u16)), .int .u16 r.and_, .int .u16 r.or_, .sl .unk (r.data.map (PV.int .u8))]]))).new (.row 30 [.agg [.int .i64 0, .int .i64 0, .int .i64 0, .int .i64 0, .int .i64 0, .sl .nil [], .sl .nil [], .int .u16 0, .int .u16 0, .sl .nil []]])).set (s.nxt + 1) (some (.row 30 [.agg [.int .i64 r.fn, .int .i64 0, .int .i64 0, .int .i64 0, .int .i64 0, .sl .nil [], .sl .nil [], .int .u16 0, .int .u16 0, .sl .nil []]]))), ((((s.new (.row 30 [.agg [.int .i64 r.fn, .int .i64 r.code, .int .i64 r.at_, .int .i64 r.count, .int .i64 r.sub, .sl .unk (r.bits.map PV.bool), .sl .unk (r.vals.map (PV.int .u16)), .int .u16 r.and_, .int .u16 r.or_, .sl .unk (r.data.map (PV.int .u8))]]))).new (.row 30 [.agg [.int .i64 0, .int .i64 0, .int .i64 0, .int .i64 0, .int .i64 0, .sl .nil [], .sl .nil [], .int .u16 0, .int .u16 0, .sl .nil []]])).set (s.nxt + 1) (some (.row 30 [.agg [.int .i64 r.fn, .int .i64 0, .int .i64 r.at_, .int .i64 0, .int .i64 0, .sl .nil [], .sl .nil [], .int .u16 0, .int .u16 0, .sl .nil []]]))), ((((s.new (.row 30 [.agg [.int .i64 r.fn, .int .i64 r.code, .int .i64 r.at_, .int .i64 r.count, .int .i64 r.sub, .sl .unk (r.bits.map PV.bool), .sl .unk (r.vals.map (PV.int .u16)), .int .u16 r.and_, .int .u16 r.or_, .sl .unk (r.data.map (PV.int .u8))]]))).new (.row 30 [.agg [.int .i64 0, .int .i64 0, .int .i64 0, .int .i64 0, .int .i64 0, .sl .nil [], .sl .nil [], .int .u16 0, .int .u16 0, .sl .nil []]])).set (s.nxt + 1) (some (.row 30 [.agg [.int .i64 r.fn, .int .i64 0, .int .i64 r.at_, .int .i64 r.count, .int .i64 0, .sl .nil [], .sl .nil [], .int .u16 0, .int .u16 0, .sl .nil []]])))] Try.mixed (by kernel_rfl) (by kernel_rfl) ?_
                      refine DetBC.pre (pre := [_, _, _, _, _]) (by decide) List.mem_cons_self au ?_
                      refine DetBC.eff (by decide) List.mem_cons_self au au ?_
                      refine DetBC.pre (pre := [_]) (by decide) (List.mem_cons_of_mem _ List.mem_cons_self) au ?_
                      refine DetBC.eff (by decide) (List.mem_cons_of_mem _ List.mem_cons_self) au au ?_
                      refine DetBC.nil (List.mem_cons_of_mem _ (List.mem_cons_of_mem _ List.mem_cons_self)) ?_
                      refine rl [2] (k := rB (k := rs (k := rg [2, 3] (k := rR (k := ?_)))))
                      refine Ret.pure (r' := .tuple [(if hasF r.fn = true then hasP r else zeroP).pv, .bool (hasF r.fn)]) (by simp only [Try.f91, go_sem, ↓reduceIte] <;> rfl) ?_ (by simp only [PV.blw, PV.blws, and_true]; exact blw_rep _ _) hwf (fun i hi => by first | rfl | (have h0 := ltn hi; have h1 := lte hi; simp only [go_sem, Nat.add_assoc, Nat.reduceAdd, ↓reduceIte, h0, h1])) ⟨rfl, rfl⟩
                      simp only [PV.weak, PV.weaks, weaks_u16, weaks_bools, weaks_u8]
                      clear H hwf
                      simp only [decide_eq_true_eq, decide_eq_false_iff_not] at *
                      have hhas : hasF r.fn = decide (1 ≤ r.fn ∧ r.fn ≤ 6 ∨ r.fn = 8 ∨ r.fn = 15 ∨ r.fn = 16 ∨ r.fn = 17 ∨ r.fn = 22 ∨ r.fn = 23) := rfl
                      first
                        | (have e : hasF r.fn = true := by rw [hhas]; exact decide_eq_true (by omega)
                           rw [e]
                           clear hhas e
                           simp only [hasP, if_true]
                           simp [Rep.pv, *]; done)
                        | (have e : hasF r.fn = false := by rw [hhas]; exact decide_eq_false (by omega)
                           rw [e]; rfl)
                        | skip
                    · refine rs (k := rg [1, 2, 8, 56] (k := rc (ht := fun hc10 => ?_) (hf := fun hc10 => ?_)))
                      · refine Run.drawM 12 [7, 9, 11] [((((s.new (.row 30 [.agg [.int .i64 r.fn, .int .i64 r.code, .int .i64 r.at_, .int .i64 r.count, .int .i64 r.sub, .sl .unk (r.bits.map PV.bool), .sl .unk (r.vals.map (PV.int .u16)), .int .u16 r.and_, .int .u16 r.or_, .sl .unk (r.data.map (PV.int .u8))]]))).new (.row 30 [.agg [.int .i64 0, .int .i64 0, .int .i64 0, .int .i64 0, .int .i64 0, .sl .nil [], .sl .nil [], .int .u16 0, .int .u16 0, .sl .nil []]])).set (s.nxt + 1) (some (.row 30 [.agg [.int .i64 r.fn, .int .i64 0, .int .i64 0, .int .i64 0, .int .i64 0, .sl .nil [], .sl .nil [], .int .u16 0, .int .u16 0, .sl .nil []]]))), ((((s.new (.row 30 [.agg [.int .i64 r.fn, .int .i64 r.code, .int .i64 r.at_, .int .i64 r.count, .int .i64 r.sub, .sl .unk (r.bits.map PV.bool), .sl .unk (r.vals.map (PV.int .u16)), .int .u16 r.and_, .int .u16 r.or_, .sl .unk (r.data.map (PV.int .u8))]]))).new (.row 30 [.agg [.int .i64 0, .int .i64 0, .int .i64 0, .int .i64 0, .int .i64 0, .sl .nil [], .sl .nil [], .int .u16 0, .int .u16 0, .sl .nil []]])).set (s.nxt + 1) (some (.row 30 [.agg [.int .i64 r.fn, .int .i64 0, .int .i64 r.at_, .int .i64 0, .int .i64 0, .sl .nil [], .sl .nil [], .int .u16 0, .int .u16 0, .sl .nil []]]))), ((((s.new (.row 30 [.agg [.int .i64 r.fn, .int .i64 r.code, .int .i64 r.at_, .int .i64 r.count, .int .i64 r.sub, .sl .unk (r.bits.map PV.bool), .sl .unk (r.vals.map (PV.int .u16)), .int .u16 r.and_, .int .u16 r.or_, .sl .unk (r.data.map (PV.int .u8))]]))).new (.row 30 [.agg [.int .i64 0, .int .i64 0, .int .i64 0, .int .i64 0, .int .i64 0, .sl .nil [], .sl .nil [], .int .u16 0, .int .u16 0, .sl .nil []]])).set (s.nxt + 1) (some (.row 30 [.agg [.int .i64 r.fn, .int .i64 0, .int .i64 r.at_, .int .i64 0, .int .i64 0, .sl .nil [], .sl .nil [], .int .u16 r.and_, .int .u16 0, .sl .nil []]]))), ((((s.new (.row 30 [.agg [.int .i64 r.fn, .int .i64 r.code, .int .i64 r.at_, .int .i64 r.count, .int .i64 r.sub, .sl .unk (r.bits.map PV.bool), .sl .unk (r.vals.map (PV.int .u16)), .int .u16 r.and_, .int .u16 r.or_, .sl .unk (r.data.map (PV.int .u8))]]))).new (.row 30 [.agg [.int .i64 0, .int .i64 0, .int .i64 0, .int .i64 0, .int .i64 0, .sl .nil [], .sl .nil [], .int .u16 0, .int .u16 0, .sl .nil []]])).set (s.nxt + 1) (some (.row 30 [.agg [.int .i64 r.fn, .int .i64 0, .int .i64 r.at_, .int .i64 0, .int .i64 0, .sl .nil [], .sl .nil [], .int .u16 r.and_, .int .u16 r.or_, .sl .nil []]])))] Try.mixed (by kernel_rfl) (by kernel_rfl) ?_
                        refine DetBC.pre (pre := [_, _, _, _, _, _, _]) (by decide) List.mem_cons_self au ?_
                        refine DetBC.eff (by decide) List.mem_cons_self au au ?_
                        refine DetBC.pre (pre := [_]) (by decide) (List.mem_cons_of_mem _ List.mem_cons_self) au ?_
                        refine DetBC.eff (by decide) (List.mem_cons_of_mem _ List.mem_cons_self) au au ?_
                        refine DetBC.pre (pre := [_]) (by decide) (List.mem_cons_of_mem _ (List.mem_cons_of_mem _ List.mem_cons_self)) au ?_
                        refine DetBC.eff (by decide) (List.mem_cons_of_mem _ (List.mem_cons_of_mem _ List.mem_cons_self)) au au ?_
                        refine DetBC.nil (List.mem_cons_of_mem _ (List.mem_cons_of_mem _ (List.mem_cons_of_mem _ List.mem_cons_self))) ?_
                        refine rl [2] (k := rB (k := rs (k := rg [2, 3] (k := rR (k := ?_)))))
                        refine Ret.pure (r' := .tuple [(if hasF r.fn = true then hasP r else zeroP).pv, .bool (hasF r.fn)]) (by simp only [Try.f91, go_sem, ↓reduceIte] <;> rfl) ?_ (by simp only [PV.blw, PV.blws, and_true]; exact blw_rep _ _) hwf (fun i hi => by first | rfl | (have h0 := ltn hi; have h1 := lte hi; simp only [go_sem, Nat.add_assoc, Nat.reduceAdd, ↓reduceIte, h0, h1])) ⟨rfl, rfl⟩
                        simp only [PV.weak, PV.weaks, weaks_u16, weaks_bools, weaks_u8]
                        clear H hwf
                        simp only [decide_eq_true_eq, decide_eq_false_iff_not] at *
                        have hhas : hasF r.fn = decide (1 ≤ r.fn ∧ r.fn ≤ 6 ∨ r.fn = 8 ∨ r.fn = 15 ∨ r.fn = 16 ∨ r.fn = 17 ∨ r.fn = 22 ∨ r.fn = 23) := rfl
                        first
                          | (have e : hasF r.fn = true := by rw [hhas]; exact decide_eq_true (by omega)
                             rw [e]
                             clear hhas e
                             simp only [hasP, if_true]
                             simp [Rep.pv, *]; done)
                          | (have e : hasF r.fn = false := by rw [hhas]; exact decide_eq_false (by omega)
                             rw [e]; rfl)
                          | skip
                      · refine rs (k := rg [1, 2, 67] (k := rc (ht := fun hc11 => ?_) (hf := fun hc11 => ?_)))
                        · refine rg [2] (k := rB (k := rs (k := rg [2, 3] (k := rR (k := ?_)))))
                          refine Ret.pure (r' := .tuple [(if hasF r.fn = true then hasP r else zeroP).pv, .bool (hasF r.fn)]) (by simp only [Try.f91, go_sem, ↓reduceIte] <;> rfl) ?_ (by simp only [PV.blw, PV.blws, and_true]; exact blw_rep _ _) hwf (fun i hi => by first | rfl | (have h0 := ltn hi; have h1 := lte hi; simp only [go_sem, Nat.add_assoc, Nat.reduceAdd, ↓reduceIte, h0, h1])) ⟨rfl, rfl⟩
                          simp only [PV.weak, PV.weaks, weaks_u16, weaks_bools, weaks_u8]
                          clear H hwf
                          simp only [decide_eq_true_eq, decide_eq_false_iff_not] at *
                          have hhas : hasF r.fn = decide (1 ≤ r.fn ∧ r.fn ≤ 6 ∨ r.fn = 8 ∨ r.fn = 15 ∨ r.fn = 16 ∨ r.fn = 17 ∨ r.fn = 22 ∨ r.fn = 23) := rfl
                          first
                            | (have e : hasF r.fn = true := by rw [hhas]; exact decide_eq_true (by omega)
                               rw [e]
                               clear hhas e
                               simp only [hasP, if_true]
                               simp [Rep.pv, *]; done)
                            | (have e : hasF r.fn = false := by rw [hhas]; exact decide_eq_false (by omega)
                               rw [e]; rfl)
                            | skip
                        · refine rs (k := rg [2, 3] (k := rR (k := ?_)))
                          refine Ret.pure (r' := .tuple [(if hasF r.fn = true then hasP r else zeroP).pv, .bool (hasF r.fn)]) (by simp only [Try.f91, go_sem, ↓reduceIte] <;> rfl) ?_ (by simp only [PV.blw, PV.blws, and_true]; exact blw_rep _ _) hwf (fun i hi => by first | rfl | (have h0 := ltn hi; have h1 := lte hi; simp only [go_sem, Nat.add_assoc, Nat.reduceAdd, ↓reduceIte, h0, h1])) ⟨rfl, rfl⟩
                          simp only [PV.weak, PV.weaks, weaks_u16, weaks_bools, weaks_u8]
                          clear H hwf
                          simp only [decide_eq_true_eq, decide_eq_false_iff_not] at *
                          have hhas : hasF r.fn = decide (1 ≤ r.fn ∧ r.fn ≤ 6 ∨ r.fn = 8 ∨ r.fn = 15 ∨ r.fn = 16 ∨ r.fn = 17 ∨ r.fn = 22 ∨ r.fn = 23) := rfl
                          first
                            | (have e : hasF r.fn = true := by rw [hhas]; exact decide_eq_true (by omega)
                               rw [e]
                               clear hhas e
                               simp only [hasP, if_true]
                               simp [Rep.pv, *]; done)
                            | (have e : hasF r.fn = false := by rw [hhas]; exact decide_eq_false (by omega)
                               rw [e]; rfl)
                            | skip
end Go.Proofs
namespace Go.Proofs
open Go.PM
set_option maxHeartbeats 2000000
attribute [local go_sem] weaks_bools Rep.pv
set_option maxRecDepth 100000 in
theorem reply_Right {r : Rep} (hr : r.ok) {s : St} : ACalls Try.prog 73 [r.pv] s (fun v s' => v = .int .i64 (goodF r) ∧ s' = s) := by
  refine go Try.func73 (k := fun hwf H => ?_)
  obtain ⟨X, hX⟩ : ∃ X, X = (if hasF r.fn = true then hasP r else zeroP) := ⟨_, rfl⟩
  refine rs (k := rg [1] (k := rs (k := rs (k := rg [1, 7] (k := rc (ht := fun hc0 => ?_) (hf := fun hc0 => ?_))))))
  · refine rs (k := rs (k := rr (k := ro (pre := [_, _, _, _, _, _, _, _, _, _, _, _, _, _, _, _, _, _, _, _, _, _, _, _, _]) (k := rG (h := fun hb => reply_Same (a := r) (b := ⟨r.fn, r.code, 0, 0, 0, [], [], 0, 0, []⟩) hr) (k := rh [35] (k := rc (ht := fun hc1 => ?_) (hf := fun hc1 => ?_)))))))
    · refine rs (k := rg [2] (k := rR (k := rP (by simp only [Try.f73, go_sem]; rfl) hwf ⟨?_, rfl⟩)))
      refine congrArg (PV.int .i64) ?_
      simp only [Bool.not_eq_true', Bool.not_eq_false', Bool.or_eq_true, Bool.or_eq_false_iff, Bool.and_eq_true, Bool.and_eq_false_iff, decide_eq_true_eq, decide_eq_false_iff_not] at *
      first
        | (unfold goodF; rw [if_pos hc0, if_neg]; intro h; obtain ⟨h1, h2, h3, h4, h5⟩ := h; rcases hc1 with (((h | h) | h) | h) | h <;> first | omega | exact h h5)
        | (unfold goodF; rw [if_pos hc0, if_pos]; exact ⟨by omega, by omega, by omega, by omega, by simpa using hc1.2⟩)
        | (have e0 : ¬ ¬ r.code = 0 := by simpa using hc0
           unfold goodF; rw [if_neg e0, if_pos hc2]; done)
        | (have e0 : ¬ ¬ r.code = 0 := by simpa using hc0
           have hXe : X = hasP r := by rw [hX, if_pos hc2]
           unfold goodF; rw [if_neg e0, if_neg (by rw [hc2]; decide), ← hXe]
           first
           | (rw [if_neg]
              rintro (h | h | h | h | h | h | h | h | h)
              · exact h hc3.1.1.1
              · rw [hc3.1.1.2] at h; cases h
              · rw [hc3.1.2] at h; cases h
              · rw [hc3.2] at h; cases h
              all_goals omega)
           | (rw [if_pos]
              rcases hc5 with (h | h) | h
              · exact .inr (.inr (.inr (.inr (.inr (.inr (.inl (by omega)))))))
              · exact .inr (.inr (.inr (.inr (.inr (.inr (.inr (.inl (by omega))))))))
              · exact .inr (.inr (.inr (.inr (.inr (.inr (.inr (.inr (by omega)))))))))
           | (rw [if_pos]
              rcases hc4 with h | h
              · exact .inr (.inr (.inr (.inr (.inl ⟨h.1, by omega⟩))))
              · exact .inr (.inr (.inr (.inr (.inr (.inl ⟨h.1, by omega⟩))))))
           | (rw [if_pos]
              rcases hc3 with ((h | h) | h) | h
              · exact .inl h
              · exact .inr (.inl h)
              · exact .inr (.inr (.inl h))
              · exact .inr (.inr (.inr (.inl h)))))
        | skip
    · refine rk (k := rs (k := rg [2] (k := rR (k := rP (by simp only [Try.f73, go_sem]; rfl) hwf ⟨?_, rfl⟩))))
      refine congrArg (PV.int .i64) ?_
      simp only [Bool.not_eq_true', Bool.not_eq_false', Bool.or_eq_true, Bool.or_eq_false_iff, Bool.and_eq_true, Bool.and_eq_false_iff, decide_eq_true_eq, decide_eq_false_iff_not] at *
      first
        | (unfold goodF; rw [if_pos hc0, if_neg]; intro h; obtain ⟨h1, h2, h3, h4, h5⟩ := h; rcases hc1 with (((h | h) | h) | h) | h <;> first | omega | exact h h5)
        | (unfold goodF; rw [if_pos hc0, if_pos]; exact ⟨by omega, by omega, by omega, by omega, by simpa using hc1.2⟩)
        | (have e0 : ¬ ¬ r.code = 0 := by simpa using hc0
           unfold goodF; rw [if_neg e0, if_pos hc2]; done)
        | (have e0 : ¬ ¬ r.code = 0 := by simpa using hc0
           have hXe : X = hasP r := by rw [hX, if_pos hc2]
           unfold goodF; rw [if_neg e0, if_neg (by rw [hc2]; decide), ← hXe]
           first
           | (rw [if_neg]
              rintro (h | h | h | h | h | h | h | h | h)
              · exact h hc3.1.1.1
              · rw [hc3.1.1.2] at h; cases h
              · rw [hc3.1.2] at h; cases h
              · rw [hc3.2] at h; cases h
              all_goals omega)
           | (rw [if_pos]
              rcases hc5 with (h | h) | h
              · exact .inr (.inr (.inr (.inr (.inr (.inr (.inl (by omega)))))))
              · exact .inr (.inr (.inr (.inr (.inr (.inr (.inr (.inl (by omega))))))))
              · exact .inr (.inr (.inr (.inr (.inr (.inr (.inr (.inr (by omega)))))))))
           | (rw [if_pos]
              rcases hc4 with h | h
              · exact .inr (.inr (.inr (.inr (.inl ⟨h.1, by omega⟩))))
              · exact .inr (.inr (.inr (.inr (.inr (.inl ⟨h.1, by omega⟩))))))
           | (rw [if_pos]
              rcases hc3 with ((h | h) | h) | h
              · exact .inl h
              · exact .inr (.inl h)
              · exact .inr (.inr (.inl h))
              · exact .inr (.inr (.inr (.inl h)))))
        | skip
  · refine rk (k := rs (k := rr (k := ro (pre := [_]) (k := rC (h := (by rw [hX]; exact reply_has (r := r) : ACalls Try.prog 91 [r.pv] _ (fun v s' => v = .tuple [X.pv, .bool (hasF r.fn)] ∧ s' = _))) (k := rh [1, 3, 4] (k := rs (k := rb (k := rs (k := rg [1, 3, 41] (k := rc (ht := fun hc2 => ?_) (hf := fun hc2 => ?_)))))))))))
    · refine rs (k := rg [2] (k := rR (k := rP (by simp only [Try.f73, go_sem]; rfl) hwf ⟨?_, rfl⟩)))
      refine congrArg (PV.int .i64) ?_
      simp only [Bool.not_eq_true', Bool.not_eq_false', Bool.or_eq_true, Bool.or_eq_false_iff, Bool.and_eq_true, Bool.and_eq_false_iff, decide_eq_true_eq, decide_eq_false_iff_not] at *
      first
        | (unfold goodF; rw [if_pos hc0, if_neg]; intro h; obtain ⟨h1, h2, h3, h4, h5⟩ := h; rcases hc1 with (((h | h) | h) | h) | h <;> first | omega | exact h h5)
        | (unfold goodF; rw [if_pos hc0, if_pos]; exact ⟨by omega, by omega, by omega, by omega, by simpa using hc1.2⟩)
        | (have e0 : ¬ ¬ r.code = 0 := by simpa using hc0
           unfold goodF; rw [if_neg e0, if_pos hc2]; done)
        | (have e0 : ¬ ¬ r.code = 0 := by simpa using hc0
           have hXe : X = hasP r := by rw [hX, if_pos hc2]
           unfold goodF; rw [if_neg e0, if_neg (by rw [hc2]; decide), ← hXe]
           first
           | (rw [if_neg]
              rintro (h | h | h | h | h | h | h | h | h)
              · exact h hc3.1.1.1
              · rw [hc3.1.1.2] at h; cases h
              · rw [hc3.1.2] at h; cases h
              · rw [hc3.2] at h; cases h
              all_goals omega)
           | (rw [if_pos]
              rcases hc5 with (h | h) | h
              · exact .inr (.inr (.inr (.inr (.inr (.inr (.inl (by omega)))))))
              · exact .inr (.inr (.inr (.inr (.inr (.inr (.inr (.inl (by omega))))))))
              · exact .inr (.inr (.inr (.inr (.inr (.inr (.inr (.inr (by omega)))))))))
           | (rw [if_pos]
              rcases hc4 with h | h
              · exact .inr (.inr (.inr (.inr (.inl ⟨h.1, by omega⟩))))
              · exact .inr (.inr (.inr (.inr (.inr (.inl ⟨h.1, by omega⟩))))))
           | (rw [if_pos]
              rcases hc3 with ((h | h) | h) | h
              · exact .inl h
              · exact .inr (.inl h)
              · exact .inr (.inr (.inl h))
              · exact .inr (.inr (.inr (.inl h)))))
        | skip
    · refine rs (k := rr (k := ro (pre := [_, _]) (k := rC (h := reply_Same (a := r) (b := X) hr) (k := ro (pre := [_, _, _, _]) (k := rG (h := fun hb => reply_within) (k := ro (pre := [_, _, _, _, _]) (k := rG (h := fun hb => reply_within) (k := ro (pre := [_, _, _, _, _]) (k := rG (h := fun hb => reply_within) (k := rh [1, 44] (k := rc (ht := fun hc3 => ?_) (hf := fun hc3 => ?_))))))))))))
      · refine rs (k := rg [2] (k := rR (k := rP (by simp only [Try.f73, go_sem]; rfl) hwf ⟨?_, rfl⟩)))
        refine congrArg (PV.int .i64) ?_
        simp only [Bool.not_eq_true', Bool.not_eq_false', Bool.or_eq_true, Bool.or_eq_false_iff, Bool.and_eq_true, Bool.and_eq_false_iff, decide_eq_true_eq, decide_eq_false_iff_not] at *
        first
          | (unfold goodF; rw [if_pos hc0, if_neg]; intro h; obtain ⟨h1, h2, h3, h4, h5⟩ := h; rcases hc1 with (((h | h) | h) | h) | h <;> first | omega | exact h h5)
          | (unfold goodF; rw [if_pos hc0, if_pos]; exact ⟨by omega, by omega, by omega, by omega, by simpa using hc1.2⟩)
          | (have e0 : ¬ ¬ r.code = 0 := by simpa using hc0
             unfold goodF; rw [if_neg e0, if_pos hc2]; done)
          | (have e0 : ¬ ¬ r.code = 0 := by simpa using hc0
             have hXe : X = hasP r := by rw [hX, if_pos hc2]
             unfold goodF; rw [if_neg e0, if_neg (by rw [hc2]; decide), ← hXe]
             first
             | (rw [if_neg]
                rintro (h | h | h | h | h | h | h | h | h)
                · exact h hc3.1.1.1
                · rw [hc3.1.1.2] at h; cases h
                · rw [hc3.1.2] at h; cases h
                · rw [hc3.2] at h; cases h
                all_goals omega)
             | (rw [if_pos]
                rcases hc5 with (h | h) | h
                · exact .inr (.inr (.inr (.inr (.inr (.inr (.inl (by omega)))))))
                · exact .inr (.inr (.inr (.inr (.inr (.inr (.inr (.inl (by omega))))))))
                · exact .inr (.inr (.inr (.inr (.inr (.inr (.inr (.inr (by omega)))))))))
             | (rw [if_pos]
                rcases hc4 with h | h
                · exact .inr (.inr (.inr (.inr (.inl ⟨h.1, by omega⟩))))
                · exact .inr (.inr (.inr (.inr (.inr (.inl ⟨h.1, by omega⟩))))))
             | (rw [if_pos]
                rcases hc3 with ((h | h) | h) | h
                · exact .inl h
                · exact .inr (.inl h)
                · exact .inr (.inr (.inl h))
                · exact .inr (.inr (.inr (.inl h)))))
          | skip
      · refine rs (k := rg [1, 67] (k := rc (ht := fun hc4 => ?_) (hf := fun hc4 => ?_)))
        · refine rs (k := rg [2] (k := rR (k := rP (by simp only [Try.f73, go_sem]; rfl) hwf ⟨?_, rfl⟩)))
          refine congrArg (PV.int .i64) ?_
          simp only [Bool.not_eq_true', Bool.not_eq_false', Bool.or_eq_true, Bool.or_eq_false_iff, Bool.and_eq_true, Bool.and_eq_false_iff, decide_eq_true_eq, decide_eq_false_iff_not] at *
          first
            | (unfold goodF; rw [if_pos hc0, if_neg]; intro h; obtain ⟨h1, h2, h3, h4, h5⟩ := h; rcases hc1 with (((h | h) | h) | h) | h <;> first | omega | exact h h5)
            | (unfold goodF; rw [if_pos hc0, if_pos]; exact ⟨by omega, by omega, by omega, by omega, by simpa using hc1.2⟩)
            | (have e0 : ¬ ¬ r.code = 0 := by simpa using hc0
               unfold goodF; rw [if_neg e0, if_pos hc2]; done)
            | (have e0 : ¬ ¬ r.code = 0 := by simpa using hc0
               have hXe : X = hasP r := by rw [hX, if_pos hc2]
               unfold goodF; rw [if_neg e0, if_neg (by rw [hc2]; decide), ← hXe]
               first
               | (rw [if_neg]
                  rintro (h | h | h | h | h | h | h | h | h)
                  · exact h hc3.1.1.1
                  · rw [hc3.1.1.2] at h; cases h
                  · rw [hc3.1.2] at h; cases h
                  · rw [hc3.2] at h; cases h
                  all_goals omega)
               | (rw [if_pos]
                  rcases hc5 with (h | h) | h
                  · exact .inr (.inr (.inr (.inr (.inr (.inr (.inl (by omega)))))))
                  · exact .inr (.inr (.inr (.inr (.inr (.inr (.inr (.inl (by omega))))))))
                  · exact .inr (.inr (.inr (.inr (.inr (.inr (.inr (.inr (by omega)))))))))
               | (rw [if_pos]
                  rcases hc4 with h | h
                  · exact .inr (.inr (.inr (.inr (.inl ⟨h.1, by omega⟩))))
                  · exact .inr (.inr (.inr (.inr (.inr (.inl ⟨h.1, by omega⟩))))))
               | (rw [if_pos]
                  rcases hc3 with ((h | h) | h) | h
                  · exact .inl h
                  · exact .inr (.inl h)
                  · exact .inr (.inr (.inl h))
                  · exact .inr (.inr (.inr (.inl h)))))
            | skip
        · refine rs (k := rg [93] (k := rc (ht := fun hc5 => ?_) (hf := fun hc5 => ?_)))
          · refine rs (k := rg [2] (k := rR (k := rP (by simp only [Try.f73, go_sem]; rfl) hwf ⟨?_, rfl⟩)))
            refine congrArg (PV.int .i64) ?_
            simp only [Bool.not_eq_true', Bool.not_eq_false', Bool.or_eq_true, Bool.or_eq_false_iff, Bool.and_eq_true, Bool.and_eq_false_iff, decide_eq_true_eq, decide_eq_false_iff_not] at *
            first
              | (unfold goodF; rw [if_pos hc0, if_neg]; intro h; obtain ⟨h1, h2, h3, h4, h5⟩ := h; rcases hc1 with (((h | h) | h) | h) | h <;> first | omega | exact h h5)
              | (unfold goodF; rw [if_pos hc0, if_pos]; exact ⟨by omega, by omega, by omega, by omega, by simpa using hc1.2⟩)
              | (have e0 : ¬ ¬ r.code = 0 := by simpa using hc0
                 unfold goodF; rw [if_neg e0, if_pos hc2]; done)
              | (have e0 : ¬ ¬ r.code = 0 := by simpa using hc0
                 have hXe : X = hasP r := by rw [hX, if_pos hc2]
                 unfold goodF; rw [if_neg e0, if_neg (by rw [hc2]; decide), ← hXe]
                 first
                 | (rw [if_neg]
                    rintro (h | h | h | h | h | h | h | h | h)
                    · exact h hc3.1.1.1
                    · rw [hc3.1.1.2] at h; cases h
                    · rw [hc3.1.2] at h; cases h
                    · rw [hc3.2] at h; cases h
                    all_goals omega)
                 | (rw [if_pos]
                    rcases hc5 with (h | h) | h
                    · exact .inr (.inr (.inr (.inr (.inr (.inr (.inl (by omega)))))))
                    · exact .inr (.inr (.inr (.inr (.inr (.inr (.inr (.inl (by omega))))))))
                    · exact .inr (.inr (.inr (.inr (.inr (.inr (.inr (.inr (by omega)))))))))
                 | (rw [if_pos]
                    rcases hc4 with h | h
                    · exact .inr (.inr (.inr (.inr (.inl ⟨h.1, by omega⟩))))
                    · exact .inr (.inr (.inr (.inr (.inr (.inl ⟨h.1, by omega⟩))))))
                 | (rw [if_pos]
                    rcases hc3 with ((h | h) | h) | h
                    · exact .inl h
                    · exact .inr (.inl h)
                    · exact .inr (.inr (.inl h))
                    · exact .inr (.inr (.inr (.inl h)))))
              | skip
          · refine rk (k := rB (k := rs (k := rg [2] (k := rR (k := rP (by simp only [Try.f73, go_sem]; rfl) hwf ⟨?_, rfl⟩)))))
            refine congrArg (PV.int .i64) ?_
            simp only [Bool.not_eq_true', Bool.not_eq_false', Bool.or_eq_true, Bool.or_eq_false_iff, Bool.and_eq_true, Bool.and_eq_false_iff, decide_eq_true_eq, decide_eq_false_iff_not] at *
            first
              | (unfold goodF; rw [if_pos hc0, if_neg]; intro h; obtain ⟨h1, h2, h3, h4, h5⟩ := h; rcases hc1 with (((h | h) | h) | h) | h <;> first | omega | exact h h5)
              | (unfold goodF; rw [if_pos hc0, if_pos]; exact ⟨by omega, by omega, by omega, by omega, by simpa using hc1.2⟩)
              | (have e0 : ¬ ¬ r.code = 0 := by simpa using hc0
                 unfold goodF; rw [if_neg e0, if_pos hc2]; done)
              | (have e0 : ¬ ¬ r.code = 0 := by simpa using hc0
                 have hXe : X = hasP r := by rw [hX, if_pos hc2]
                 unfold goodF; rw [if_neg e0, if_neg (by rw [hc2]; decide), ← hXe]
                 first
                 | (rw [if_neg]
                    rintro (h | h | h | h | h | h | h | h | h)
                    · exact h hc3.1.1.1
                    · rw [hc3.1.1.2] at h; cases h
                    · rw [hc3.1.2] at h; cases h
                    · rw [hc3.2] at h; cases h
                    all_goals omega)
                 | (rw [if_pos]
                    rcases hc5 with (h | h) | h
                    · exact .inr (.inr (.inr (.inr (.inr (.inr (.inl (by omega)))))))
                    · exact .inr (.inr (.inr (.inr (.inr (.inr (.inr (.inl (by omega))))))))
                    · exact .inr (.inr (.inr (.inr (.inr (.inr (.inr (.inr (by omega)))))))))
                 | (rw [if_pos]
                    rcases hc4 with h | h
                    · exact .inr (.inr (.inr (.inr (.inl ⟨h.1, by omega⟩))))
                    · exact .inr (.inr (.inr (.inr (.inr (.inl ⟨h.1, by omega⟩))))))
                 | (rw [if_pos]
                    rcases hc3 with ((h | h) | h) | h
                    · exact .inl h
                    · exact .inr (.inl h)
                    · exact .inr (.inr (.inl h))
                    · exact .inr (.inr (.inr (.inl h)))))
              | skip
attribute [local go_sem] weaks_bools Rep.pv
set_option maxRecDepth 100000 in
theorem reply_Bytes {r : Rep} (hr : r.ok) {s : St} : ACalls Try.prog 40 [r.pv] s (fun v s' => v = .tuple [.sl .unk ((repF r).map (PV.int .u8)), .int .i64 (goodF r)] ∧ s' = s) := by
  refine go Try.func40 (k := fun hwf H => ?_)
  refine rs (k := rg [1] (k := rs (k := rs (k := rr (k := ro (pre := [_]) (k := rC (h := reply_Right hr) (k := rh [1, 4] (k := rs (k := rg [1, 4, 10] (k := rc (ht := fun hc0 => ?_) (hf := fun hc0 => ?_)))))))))))
  · refine rs (k := rg [2, 3] (k := rR (k := ?_)))
    refine Ret.pure (r' := .tuple [.sl .unk ((repF r).map (PV.int .u8)), .int .i64 (goodF r)]) (by simp only [Try.f40, go_sem, ↓reduceIte] <;> rfl) ?_ (by simp only [PV.blw, PV.blws, and_true]; exact ⟨fun t z e => (by cases e), blws_u8 _ _⟩) hwf (fun i hi => by first | rfl | (have h0 := ltn hi; have h1 := lte hi; simp only [go_sem, Nat.add_assoc, Nat.reduceAdd, ↓reduceIte, h0, h1])) ⟨rfl, rfl⟩
    simp only [PV.weak, PV.weaks, weaks_u8]
    first
      | (have hr0' : ¬ goodF r = 0 := by simpa using hc0
         unfold repF
         rw [if_neg hr0']
         rfl)
      | (unfold repF layF
         rw [if_pos hr0, hr0, if_pos hcz]
         rfl)
      | (rw [hr0]
         refine congrArg (fun x => PV.tuple [PV.sl .unk x, .int .i64 0]) ?_
         refine congrArg (List.map (PV.int .u8)) ?_
         clear hll1 hll2 hll5 hll6 hvl hpl hu8 hu8r hu8c hor hwf h16a h16o H hfr hc1
         simp only [decide_eq_true_eq, decide_eq_false_iff_not] at *
         have hcz' : ¬ ¬ r.code = 0 := fun h => h hcz
         unfold repF layF
         rw [if_pos hr0, if_neg hcz']
         clear hcz' hr0 hcz
         first
         | (simp [*]; done)
         | (have e : r.fn = 17 := by omega
            simp [*]; done)
         | skip)
  · refine rk (k := rs (k := rs (k := ?_)))
    have hr0 : goodF r = 0 := by simpa using hc0
    have hu8c : IntKind.u8.wrap r.code = r.code ∨ r.code = 0 := by
      by_cases hcz : r.code = 0
      · exact .inr hcz
      · have := goodC hr0 hcz
        left; rw [u8_wrap]; omega
    have hfr : 0 ≤ r.fn ∧ r.fn ≤ 127 := by
      by_cases hcz : r.code = 0
      · have := (good0 hr0 hcz).has
        have := has_cases this
        omega
      · have := goodC hr0 hcz
        omega
    have hor : ibits .or .i64 r.fn 128 = r.fn + 128 := ibits_or128 (by omega)
    have hu8 : IntKind.u8.wrap r.fn = r.fn := by rw [u8_wrap]; omega
    have hu8r : IntKind.u8.wrap (r.fn + 128) = r.fn + 128 := by rw [u8_wrap]; omega
    have H := aj hor (aj hu8 (aj hu8r H))
    refine rg [1, 14] (k := rc (ht := fun hc1 => ?_) (hf := fun hc1 => ?_))
    · refine rs (k := ?_)
      have hcz : ¬ r.code = 0 := by simpa using hc1
      have hu8d : IntKind.u8.wrap r.code = r.code := by rcases hu8c with h | h; exact h; exact absurd h hcz
      have H := aj hu8d H
      refine rr (k := ro (pre := [_, _, _, _, _, _, _]) (k := rO (k := rh [2, 3] (k := rR (k := ?_)))))
      refine Ret.pure (r' := .tuple [.sl .unk ((repF r).map (PV.int .u8)), .int .i64 (goodF r)]) (by simp only [Try.f40, go_sem, ↓reduceIte] <;> rfl) ?_ (by simp only [PV.blw, PV.blws, and_true]; exact ⟨fun t z e => (by cases e), blws_u8 _ _⟩) hwf (fun i hi => by first | rfl | (have h0 := ltn hi; have h1 := lte hi; simp only [go_sem, Nat.add_assoc, Nat.reduceAdd, ↓reduceIte, h0, h1])) ⟨rfl, rfl⟩
      simp only [PV.weak, PV.weaks, weaks_u8]
      first
        | (have hr0' : ¬ goodF r = 0 := by simpa using hc0
           unfold repF
           rw [if_neg hr0']
           rfl)
        | (unfold repF layF
           rw [if_pos hr0, hr0, if_pos hcz]
           rfl)
        | (rw [hr0]
           refine congrArg (fun x => PV.tuple [PV.sl .unk x, .int .i64 0]) ?_
           refine congrArg (List.map (PV.int .u8)) ?_
           clear hll1 hll2 hll5 hll6 hvl hpl hu8 hu8r hu8c hor hwf h16a h16o H hfr hc1
           simp only [decide_eq_true_eq, decide_eq_false_iff_not] at *
           have hcz' : ¬ ¬ r.code = 0 := fun h => h hcz
           unfold repF layF
           rw [if_pos hr0, if_neg hcz']
           clear hcz' hr0 hcz
           first
           | (simp [*]; done)
           | (have e : r.fn = 17 := by omega
              simp [*]; done)
           | skip)
    · refine rk (k := rs (k := ?_))
      have hcz : r.code = 0 := by simpa using hc1
      have hG := good0 hr0 hcz
      have hfn := has_cases hG.has
      have hmv := hG.mv
      have hmb := hG.mb
      have hmd := hG.md
      have hpl := packB_len r.bits
      obtain ⟨V, hV⟩ : ∃ V, V = r.vals.flatMap num2 := ⟨_, rfl⟩
      have hvl : V.length = 2 * r.vals.length := by rw [hV]; exact flat2_len _
      obtain ⟨L1, hL1⟩ : ∃ L, L = [r.fn] ++ num2 r.at_ := ⟨_, rfl⟩
      obtain ⟨L2, hL2⟩ : ∃ L, L = L1 ++ num2 r.count := ⟨_, rfl⟩
      obtain ⟨L5, hL5⟩ : ∃ L, L = [r.fn] ++ num2 r.sub := ⟨_, rfl⟩
      obtain ⟨L6, hL6⟩ : ∃ L, L = L1 ++ num2 r.and_ := ⟨_, rfl⟩
      obtain ⟨L7, hL7⟩ : ∃ L, L = L6 ++ num2 r.or_ := ⟨_, rfl⟩
      obtain ⟨La, hLa⟩ : ∃ L, L = L1 ++ num2 65280 := ⟨_, rfl⟩
      obtain ⟨Lb, hLb⟩ : ∃ L, L = L1 ++ num2 0 := ⟨_, rfl⟩
      obtain ⟨X6, hX6⟩ : ∃ L, L = L1 ++ V := ⟨_, rfl⟩
      obtain ⟨X8, hX8⟩ : ∃ L, L = L5 ++ V := ⟨_, rfl⟩
      obtain ⟨C, hC⟩ : ∃ C, C = r.fn :: (V.length : Int) :: V := ⟨_, rfl⟩
      obtain ⟨B, hB⟩ : ∃ B, B = r.fn :: ((packB r.bits).length : Int) :: packB r.bits := ⟨_, rfl⟩
      obtain ⟨D, hD⟩ : ∃ D, D = r.fn :: (r.data.length : Int) :: r.data := ⟨_, rfl⟩
      have hll1 : L1.length = 3 := by rw [hL1]; simp [num2]
      have hll2 : L2.length = 5 := by rw [hL2]; simp [num2, hll1]
      have hll5 : L5.length = 3 := by rw [hL5]; simp [num2]
      have hll6 : L6.length = 5 := by rw [hL6]; simp [num2, hll1]
      have h16a : IntKind.i64.wrap r.and_ = r.and_ := wrap_i64 (by have := hr.and_; unfold U16 at this; omega)
      have h16o : IntKind.i64.wrap r.or_ = r.or_ := wrap_i64 (by have := hr.or_; unfold U16 at this; omega)
      have H := aj h16a (aj h16o H)
      refine rr (k := ro (pre := [_, _, _]) (k := rO (k := rh [1, 5] (k := rs (k := rs (k := rg [1, 5, 28] (k := rb (k := rs (k := rs (k := rg [1, 5, 28, 29] (k := rc (ht := fun hc2 => ?_) (hf := fun hc2 => ?_))))))))))))
      · refine rk (k := rc (ht := fun hc3 => ?_) (hf := fun hc3 => ?_))
        · refine Run.drawC [] [5] Try.mixed (by kernel_rfl) ?_
          refine DetC.pre (pre := [_, _, _, _]) au ?_
          refine DetC.call au au au (by kernel_rfl) (octet_Pack (l := r.bits) (by omega)) ?_
          refine DetC.call au au au (by kernel_rfl) (reply_countedL hB (by omega) (by omega)) ?_
          refine DetC.all au ?_
          refine re (k := rB (k := rs (k := rr (k := ro (pre := [_]) (k := rC (h := clip_u8) (k := rh [2, 3] (k := rR (k := ?_))))))))
          refine Ret.pure (r' := .tuple [.sl .unk ((repF r).map (PV.int .u8)), .int .i64 (goodF r)]) (by simp only [Try.f40, go_sem, ↓reduceIte] <;> rfl) ?_ (by simp only [PV.blw, PV.blws, and_true]; exact ⟨fun t z e => (by cases e), blws_u8 _ _⟩) hwf (fun i hi => by first | rfl | (have h0 := ltn hi; have h1 := lte hi; simp only [go_sem, Nat.add_assoc, Nat.reduceAdd, ↓reduceIte, h0, h1])) ⟨rfl, rfl⟩
          simp only [PV.weak, PV.weaks, weaks_u8]
          first
            | (have hr0' : ¬ goodF r = 0 := by simpa using hc0
               unfold repF
               rw [if_neg hr0']
               rfl)
            | (unfold repF layF
               rw [if_pos hr0, hr0, if_pos hcz]
               rfl)
            | (rw [hr0]
               refine congrArg (fun x => PV.tuple [PV.sl .unk x, .int .i64 0]) ?_
               refine congrArg (List.map (PV.int .u8)) ?_
               clear hll1 hll2 hll5 hll6 hvl hpl hu8 hu8r hu8c hor hwf h16a h16o H hfr hc1
               simp only [decide_eq_true_eq, decide_eq_false_iff_not] at *
               have hcz' : ¬ ¬ r.code = 0 := fun h => h hcz
               unfold repF layF
               rw [if_pos hr0, if_neg hcz']
               clear hcz' hr0 hcz
               first
               | (simp [*]; done)
               | (have e : r.fn = 17 := by omega
                  simp [*]; done)
               | skip)
        · exact Bool.noConfusion (hc2.symm.trans hc3)
      · refine rg [1, 5, 28, 29] (k := rc (ht := fun hc3 => ?_) (hf := fun hc3 => ?_))
        · refine Run.drawC [] [5] Try.mixed (by kernel_rfl) ?_
          refine DetC.pre (pre := [_, _, _, _]) au ?_
          refine DetC.call au au au (by kernel_rfl) (octet_Pack (l := r.bits) (by omega)) ?_
          refine DetC.call au au au (by kernel_rfl) (reply_countedL hB (by omega) (by omega)) ?_
          refine DetC.all au ?_
          refine re (k := rB (k := rs (k := rr (k := ro (pre := [_]) (k := rC (h := clip_u8) (k := rh [2, 3] (k := rR (k := ?_))))))))
          refine Ret.pure (r' := .tuple [.sl .unk ((repF r).map (PV.int .u8)), .int .i64 (goodF r)]) (by simp only [Try.f40, go_sem, ↓reduceIte] <;> rfl) ?_ (by simp only [PV.blw, PV.blws, and_true]; exact ⟨fun t z e => (by cases e), blws_u8 _ _⟩) hwf (fun i hi => by first | rfl | (have h0 := ltn hi; have h1 := lte hi; simp only [go_sem, Nat.add_assoc, Nat.reduceAdd, ↓reduceIte, h0, h1])) ⟨rfl, rfl⟩
          simp only [PV.weak, PV.weaks, weaks_u8]
          first
            | (have hr0' : ¬ goodF r = 0 := by simpa using hc0
               unfold repF
               rw [if_neg hr0']
               rfl)
            | (unfold repF layF
               rw [if_pos hr0, hr0, if_pos hcz]
               rfl)
            | (rw [hr0]
               refine congrArg (fun x => PV.tuple [PV.sl .unk x, .int .i64 0]) ?_
               refine congrArg (List.map (PV.int .u8)) ?_
               clear hll1 hll2 hll5 hll6 hvl hpl hu8 hu8r hu8c hor hwf h16a h16o H hfr hc1
               simp only [decide_eq_true_eq, decide_eq_false_iff_not] at *
               have hcz' : ¬ ¬ r.code = 0 := fun h => h hcz
               unfold repF layF
               rw [if_pos hr0, if_neg hcz']
               clear hcz' hr0 hcz
               first
               | (simp [*]; done)
               | (have e : r.fn = 17 := by omega
                  simp [*]; done)
               | skip)
        · refine rs (k := rs (k := rg [1, 5, 28, 38] (k := rc (ht := fun hc4 => ?_) (hf := fun hc4 => ?_))))
          · refine rk (k := rc (ht := fun hc6 => ?_) (hf := fun hc6 => ?_))
            · refine Run.drawC [] [5] Try.mixed (by kernel_rfl) ?_
              refine DetC.pre (pre := [_, _, _, _]) au ?_
              refine DetC.call au au au (by kernel_rfl) (octet_BytesL hV (by omega)) ?_
              refine DetC.call au au au (by kernel_rfl) (reply_countedL hC (by omega) (by omega)) ?_
              refine DetC.all au ?_
              refine re (k := rB (k := rs (k := rr (k := ro (pre := [_]) (k := rC (h := clip_u8) (k := rh [2, 3] (k := rR (k := ?_))))))))
              refine Ret.pure (r' := .tuple [.sl .unk ((repF r).map (PV.int .u8)), .int .i64 (goodF r)]) (by simp only [Try.f40, go_sem, ↓reduceIte] <;> rfl) ?_ (by simp only [PV.blw, PV.blws, and_true]; exact ⟨fun t z e => (by cases e), blws_u8 _ _⟩) hwf (fun i hi => by first | rfl | (have h0 := ltn hi; have h1 := lte hi; simp only [go_sem, Nat.add_assoc, Nat.reduceAdd, ↓reduceIte, h0, h1])) ⟨rfl, rfl⟩
              simp only [PV.weak, PV.weaks, weaks_u8]
              first
                | (have hr0' : ¬ goodF r = 0 := by simpa using hc0
                   unfold repF
                   rw [if_neg hr0']
                   rfl)
                | (unfold repF layF
                   rw [if_pos hr0, hr0, if_pos hcz]
                   rfl)
                | (rw [hr0]
                   refine congrArg (fun x => PV.tuple [PV.sl .unk x, .int .i64 0]) ?_
                   refine congrArg (List.map (PV.int .u8)) ?_
                   clear hll1 hll2 hll5 hll6 hvl hpl hu8 hu8r hu8c hor hwf h16a h16o H hfr hc1
                   simp only [decide_eq_true_eq, decide_eq_false_iff_not] at *
                   have hcz' : ¬ ¬ r.code = 0 := fun h => h hcz
                   unfold repF layF
                   rw [if_pos hr0, if_neg hcz']
                   clear hcz' hr0 hcz
                   first
                   | (simp [*]; done)
                   | (have e : r.fn = 17 := by omega
                      simp [*]; done)
                   | skip)
            · exact Bool.noConfusion (hc4.symm.trans hc6)
          · refine rs (k := rg [1, 5, 28, 38] (k := rc (ht := fun hc5 => ?_) (hf := fun hc5 => ?_)))
            · refine rk (k := rc (ht := fun hc6 => ?_) (hf := fun hc6 => ?_))
              · refine Run.drawC [] [5] Try.mixed (by kernel_rfl) ?_
                refine DetC.pre (pre := [_, _, _, _]) au ?_
                refine DetC.call au au au (by kernel_rfl) (octet_BytesL hV (by omega)) ?_
                refine DetC.call au au au (by kernel_rfl) (reply_countedL hC (by omega) (by omega)) ?_
                refine DetC.all au ?_
                refine re (k := rB (k := rs (k := rr (k := ro (pre := [_]) (k := rC (h := clip_u8) (k := rh [2, 3] (k := rR (k := ?_))))))))
                refine Ret.pure (r' := .tuple [.sl .unk ((repF r).map (PV.int .u8)), .int .i64 (goodF r)]) (by simp only [Try.f40, go_sem, ↓reduceIte] <;> rfl) ?_ (by simp only [PV.blw, PV.blws, and_true]; exact ⟨fun t z e => (by cases e), blws_u8 _ _⟩) hwf (fun i hi => by first | rfl | (have h0 := ltn hi; have h1 := lte hi; simp only [go_sem, Nat.add_assoc, Nat.reduceAdd, ↓reduceIte, h0, h1])) ⟨rfl, rfl⟩
                simp only [PV.weak, PV.weaks, weaks_u8]
                first
                  | (have hr0' : ¬ goodF r = 0 := by simpa using hc0
                     unfold repF
                     rw [if_neg hr0']
                     rfl)
                  | (unfold repF layF
                     rw [if_pos hr0, hr0, if_pos hcz]
                     rfl)
                  | (rw [hr0]
                     refine congrArg (fun x => PV.tuple [PV.sl .unk x, .int .i64 0]) ?_
                     refine congrArg (List.map (PV.int .u8)) ?_
                     clear hll1 hll2 hll5 hll6 hvl hpl hu8 hu8r hu8c hor hwf h16a h16o H hfr hc1
                     simp only [decide_eq_true_eq, decide_eq_false_iff_not] at *
                     have hcz' : ¬ ¬ r.code = 0 := fun h => h hcz
                     unfold repF layF
                     rw [if_pos hr0, if_neg hcz']
                     clear hcz' hr0 hcz
                     first
                     | (simp [*]; done)
                     | (have e : r.fn = 17 := by omega
                        simp [*]; done)
                     | skip)
              · exact Bool.noConfusion (hc5.symm.trans hc6)
            · refine rg [1, 5, 28, 38] (k := rc (ht := fun hc6 => ?_) (hf := fun hc6 => ?_))
              · refine Run.drawC [] [5] Try.mixed (by kernel_rfl) ?_
                refine DetC.pre (pre := [_, _, _, _]) au ?_
                refine DetC.call au au au (by kernel_rfl) (octet_BytesL hV (by omega)) ?_
                refine DetC.call au au au (by kernel_rfl) (reply_countedL hC (by omega) (by omega)) ?_
                refine DetC.all au ?_
                refine re (k := rB (k := rs (k := rr (k := ro (pre := [_]) (k := rC (h := clip_u8) (k := rh [2, 3] (k := rR (k := ?_))))))))
                refine Ret.pure (r' := .tuple [.sl .unk ((repF r).map (PV.int .u8)), .int .i64 (goodF r)]) (by simp only [Try.f40, go_sem, ↓reduceIte] <;> rfl) ?_ (by simp only [PV.blw, PV.blws, and_true]; exact ⟨fun t z e => (by cases e), blws_u8 _ _⟩) hwf (fun i hi => by first | rfl | (have h0 := ltn hi; have h1 := lte hi; simp only [go_sem, Nat.add_assoc, Nat.reduceAdd, ↓reduceIte, h0, h1])) ⟨rfl, rfl⟩
                simp only [PV.weak, PV.weaks, weaks_u8]
                first
                  | (have hr0' : ¬ goodF r = 0 := by simpa using hc0
                     unfold repF
                     rw [if_neg hr0']
                     rfl)
                  | (unfold repF layF
                     rw [if_pos hr0, hr0, if_pos hcz]
                     rfl)
                  | (rw [hr0]
                     refine congrArg (fun x => PV.tuple [PV.sl .unk x, .int .i64 0]) ?_
                     refine congrArg (List.map (PV.int .u8)) ?_
                     clear hll1 hll2 hll5 hll6 hvl hpl hu8 hu8r hu8c hor hwf h16a h16o H hfr hc1
                     simp only [decide_eq_true_eq, decide_eq_false_iff_not] at *
                     have hcz' : ¬ ¬ r.code = 0 := fun h => h hcz
                     unfold repF layF
                     rw [if_pos hr0, if_neg hcz']
                     clear hcz' hr0 hcz
                     first
                     | (simp [*]; done)
                     | (have e : r.fn = 17 := by omega
                        simp [*]; done)
                     | skip)
              · refine rs (k := rg [1, 5, 28, 48] (k := rc (ht := fun hc7 => ?_) (hf := fun hc7 => ?_)))
                · refine rs (k := rg [1, 5, 6] (k := rs (k := rs (k := ?_))))
                  have h5 : r.fn = 5 := by simpa using hc7
                  obtain ⟨b, hb⟩ : ∃ b, r.bits = [b] := List.length_eq_one_iff.1 (hG.b5 h5)
                  have hb2 : (r.bits.map PV.bool)[0]? = some (.bool b) := by rw [hb]; rfl
                  have hb3 : (0 < r.bits.length) = True := by rw [hb]; simp
                  have H := aj hb2 (aj hb3 H)
                  refine rg [1, 5, 6, 53] (k := rc (ht := fun hc8 => ?_) (hf := fun hc8 => ?_))
                  · refine rg [1, 5, 6] (k := rr (k := ro (pre := [_, _, _]) (k := rC (h := octet_PutL (l := [r.fn]) hL1 (by simp)) (k := ro (pre := [_]) (k := ?_)))))
                    refine RunO.callw au au au (by kernel_rfl) ((octet_Put (l := L1) (by omega)).mono ?_)
                    rintro v s1 ⟨rfl, hs⟩
                    subst s1
                    refine rh [5] (k := rB (k := rs (k := rr (k := ro (pre := [_]) (k := rC (h := clip_u8) (k := rh [2, 3] (k := rR (k := ?_))))))))
                    refine Ret.pure (r' := .tuple [.sl .unk ((repF r).map (PV.int .u8)), .int .i64 (goodF r)]) (by simp only [Try.f40, go_sem, ↓reduceIte] <;> rfl) ?_ (by simp only [PV.blw, PV.blws, and_true]; exact ⟨fun t z e => (by cases e), blws_u8 _ _⟩) hwf (fun i hi => by first | rfl | (have h0 := ltn hi; have h1 := lte hi; simp only [go_sem, Nat.add_assoc, Nat.reduceAdd, ↓reduceIte, h0, h1])) ⟨rfl, rfl⟩
                    simp only [PV.weak, PV.weaks, weaks_u8]
                    first
                      | (have hr0' : ¬ goodF r = 0 := by simpa using hc0
                         unfold repF
                         rw [if_neg hr0']
                         rfl)
                      | (unfold repF layF
                         rw [if_pos hr0, hr0, if_pos hcz]
                         rfl)
                      | (rw [hr0]
                         refine congrArg (fun x => PV.tuple [PV.sl .unk x, .int .i64 0]) ?_
                         refine congrArg (List.map (PV.int .u8)) ?_
                         clear hll1 hll2 hll5 hll6 hvl hpl hu8 hu8r hu8c hor hwf h16a h16o H hfr hc1
                         simp only [decide_eq_true_eq, decide_eq_false_iff_not] at *
                         have hcz' : ¬ ¬ r.code = 0 := fun h => h hcz
                         unfold repF layF
                         rw [if_pos hr0, if_neg hcz']
                         clear hcz' hr0 hcz
                         first
                         | (simp [*]; done)
                         | (have e : r.fn = 17 := by omega
                            simp [*]; done)
                         | skip)
                  · refine rk (k := rr (k := ro (pre := [_, _, _]) (k := rC (h := octet_PutL (l := [r.fn]) hL1 (by simp)) (k := ro (pre := [_]) (k := ?_)))))
                    refine RunO.callw au au au (by kernel_rfl) ((octet_Put (l := L1) (by omega)).mono ?_)
                    rintro v s1 ⟨rfl, hs⟩
                    subst s1
                    refine rh [5] (k := rB (k := rs (k := rr (k := ro (pre := [_]) (k := rC (h := clip_u8) (k := rh [2, 3] (k := rR (k := ?_))))))))
                    refine Ret.pure (r' := .tuple [.sl .unk ((repF r).map (PV.int .u8)), .int .i64 (goodF r)]) (by simp only [Try.f40, go_sem, ↓reduceIte] <;> rfl) ?_ (by simp only [PV.blw, PV.blws, and_true]; exact ⟨fun t z e => (by cases e), blws_u8 _ _⟩) hwf (fun i hi => by first | rfl | (have h0 := ltn hi; have h1 := lte hi; simp only [go_sem, Nat.add_assoc, Nat.reduceAdd, ↓reduceIte, h0, h1])) ⟨rfl, rfl⟩
                    simp only [PV.weak, PV.weaks, weaks_u8]
                    first
                      | (have hr0' : ¬ goodF r = 0 := by simpa using hc0
                         unfold repF
                         rw [if_neg hr0']
                         rfl)
                      | (unfold repF layF
                         rw [if_pos hr0, hr0, if_pos hcz]
                         rfl)
                      | (rw [hr0]
                         refine congrArg (fun x => PV.tuple [PV.sl .unk x, .int .i64 0]) ?_
                         refine congrArg (List.map (PV.int .u8)) ?_
                         clear hll1 hll2 hll5 hll6 hvl hpl hu8 hu8r hu8c hor hwf h16a h16o H hfr hc1
                         simp only [decide_eq_true_eq, decide_eq_false_iff_not] at *
                         have hcz' : ¬ ¬ r.code = 0 := fun h => h hcz
                         unfold repF layF
                         rw [if_pos hr0, if_neg hcz']
                         clear hcz' hr0 hcz
                         first
                         | (simp [*]; done)
                         | (have e : r.fn = 17 := by omega
                            simp [*]; done)
                         | skip)
                · refine rs (k := rg [1, 5, 28, 60] (k := rc (ht := fun hc9 => ?_) (hf := fun hc9 => ?_)))
                  · have hvn : V ≠ [] := by
                      intro h
                      have h68 : r.fn = 6 ∨ r.fn = 8 := by first | exact .inl (of_decide_eq_true hc9) | exact .inr (of_decide_eq_true hc10)
                      have := hG.v6 h68
                      rw [h] at hvl; simp at hvl; omega
                    refine Run.drawM 7 [3] [(s.new (.row 30 [.agg [.int .i64 r.fn, .int .i64 r.code, .int .i64 r.at_, .int .i64 r.count, .int .i64 r.sub, .sl .unk (r.bits.map PV.bool), .sl .unk (r.vals.map (PV.int .u16)), .int .u16 r.and_, .int .u16 r.or_, .sl .unk (r.data.map (PV.int .u8))]])), ((s.new (.row 30 [.agg [.int .i64 r.fn, .int .i64 r.code, .int .i64 r.at_, .int .i64 r.count, .int .i64 r.sub, .sl .unk (r.bits.map PV.bool), .sl .unk (r.vals.map (PV.int .u16)), .int .u16 r.and_, .int .u16 r.or_, .sl .unk (r.data.map (PV.int .u8))]])).new (.tok L1.length))] Try.mixed (by kernel_rfl) (by kernel_rfl) ?_
                    refine DetBC.pre (pre := [_, _, _]) (by decide) List.mem_cons_self au ?_
                    refine DetBC.callE (by decide) List.mem_cons_self au au au (by kernel_rfl) (octet_PutXL (l := [r.fn]) hL1 (by simp)) ?_
                    refine DetBC.pre (pre := [_, _]) (by decide) (List.mem_cons_of_mem _ List.mem_cons_self) au ?_
                    refine DetBC.call (by decide) au au au (by kernel_rfl) (List.mem_cons_of_mem _ List.mem_cons_self) (fun s _ => octet_BytesL hV (by omega)) ?_
                    refine DetBC.nil (List.mem_cons_of_mem _ List.mem_cons_self) ?_
                    refine RunO.append au au au Try.td28 (by rw [Try.zp5]; rfl) (isEls_map (P := Try.prog) (e := 5) (f := PV.int .u8) (fun a => ⟨rfl, by rw [Try.cz5]; rfl⟩) _) (isEls_map (P := Try.prog) (e := 5) (f := PV.int .u8) (fun a => ⟨rfl, by rw [Try.cz5]; rfl⟩) _) (by rw [Try.by5]; decide) (by rw [Try.by5]; simp; try omega) (aAppend_tokL hX6 hvn (by simp (disch := omega) only [go_sem] <;> rfl) rfl Try.cz5) ?_
                    refine rh [5] (k := rB (k := rs (k := rr (k := ro (pre := [_]) (k := rC (h := clip_u8) (k := rh [2, 3] (k := rR (k := ?_))))))))
                    refine Ret.pure (r' := .tuple [.sl .unk ((repF r).map (PV.int .u8)), .int .i64 (goodF r)]) (by simp only [Try.f40, go_sem, ↓reduceIte] <;> rfl) ?_ (by simp only [PV.blw, PV.blws, and_true]; exact ⟨fun t z e => (by cases e), blws_u8 _ _⟩) hwf (fun i hi => by first | rfl | (have h0 := ltn hi; have h1 := lte hi; simp only [go_sem, Nat.add_assoc, Nat.reduceAdd, ↓reduceIte, h0, h1])) ⟨rfl, rfl⟩
                    simp only [PV.weak, PV.weaks, weaks_u8]
                    first
                      | (have hr0' : ¬ goodF r = 0 := by simpa using hc0
                         unfold repF
                         rw [if_neg hr0']
                         rfl)
                      | (unfold repF layF
                         rw [if_pos hr0, hr0, if_pos hcz]
                         rfl)
                      | (rw [hr0]
                         refine congrArg (fun x => PV.tuple [PV.sl .unk x, .int .i64 0]) ?_
                         refine congrArg (List.map (PV.int .u8)) ?_
                         clear hll1 hll2 hll5 hll6 hvl hpl hu8 hu8r hu8c hor hwf h16a h16o H hfr hc1
                         simp only [decide_eq_true_eq, decide_eq_false_iff_not] at *
                         have hcz' : ¬ ¬ r.code = 0 := fun h => h hcz
                         unfold repF layF
                         rw [if_pos hr0, if_neg hcz']
                         clear hcz' hr0 hcz
                         first
                         | (simp [*]; done)
                         | (have e : r.fn = 17 := by omega
                            simp [*]; done)
                         | skip)
                  · refine rs (k := rg [1, 5, 28, 70] (k := rc (ht := fun hc10 => ?_) (hf := fun hc10 => ?_)))
                    · have hvn : V ≠ [] := by
                        intro h
                        have h68 : r.fn = 6 ∨ r.fn = 8 := by first | exact .inl (of_decide_eq_true hc9) | exact .inr (of_decide_eq_true hc10)
                        have := hG.v6 h68
                        rw [h] at hvl; simp at hvl; omega
                      refine Run.drawM 7 [3] [(s.new (.row 30 [.agg [.int .i64 r.fn, .int .i64 r.code, .int .i64 r.at_, .int .i64 r.count, .int .i64 r.sub, .sl .unk (r.bits.map PV.bool), .sl .unk (r.vals.map (PV.int .u16)), .int .u16 r.and_, .int .u16 r.or_, .sl .unk (r.data.map (PV.int .u8))]])), ((s.new (.row 30 [.agg [.int .i64 r.fn, .int .i64 r.code, .int .i64 r.at_, .int .i64 r.count, .int .i64 r.sub, .sl .unk (r.bits.map PV.bool), .sl .unk (r.vals.map (PV.int .u16)), .int .u16 r.and_, .int .u16 r.or_, .sl .unk (r.data.map (PV.int .u8))]])).new (.tok L5.length))] Try.mixed (by kernel_rfl) (by kernel_rfl) ?_
                      refine DetBC.pre (pre := [_, _, _]) (by decide) List.mem_cons_self au ?_
                      refine DetBC.callE (by decide) List.mem_cons_self au au au (by kernel_rfl) (octet_PutXL (l := [r.fn]) hL5 (by simp)) ?_
                      refine DetBC.pre (pre := [_, _]) (by decide) (List.mem_cons_of_mem _ List.mem_cons_self) au ?_
                      refine DetBC.call (by decide) au au au (by kernel_rfl) (List.mem_cons_of_mem _ List.mem_cons_self) (fun s _ => octet_BytesL hV (by omega)) ?_
                      refine DetBC.nil (List.mem_cons_of_mem _ List.mem_cons_self) ?_
                      refine RunO.append au au au Try.td28 (by rw [Try.zp5]; rfl) (isEls_map (P := Try.prog) (e := 5) (f := PV.int .u8) (fun a => ⟨rfl, by rw [Try.cz5]; rfl⟩) _) (isEls_map (P := Try.prog) (e := 5) (f := PV.int .u8) (fun a => ⟨rfl, by rw [Try.cz5]; rfl⟩) _) (by rw [Try.by5]; decide) (by rw [Try.by5]; simp; try omega) (aAppend_tokL hX8 hvn (by simp (disch := omega) only [go_sem] <;> rfl) rfl Try.cz5) ?_
                      refine rh [5] (k := rB (k := rs (k := rr (k := ro (pre := [_]) (k := rC (h := clip_u8) (k := rh [2, 3] (k := rR (k := ?_))))))))
                      refine Ret.pure (r' := .tuple [.sl .unk ((repF r).map (PV.int .u8)), .int .i64 (goodF r)]) (by simp only [Try.f40, go_sem, ↓reduceIte] <;> rfl) ?_ (by simp only [PV.blw, PV.blws, and_true]; exact ⟨fun t z e => (by cases e), blws_u8 _ _⟩) hwf (fun i hi => by first | rfl | (have h0 := ltn hi; have h1 := lte hi; simp only [go_sem, Nat.add_assoc, Nat.reduceAdd, ↓reduceIte, h0, h1])) ⟨rfl, rfl⟩
                      simp only [PV.weak, PV.weaks, weaks_u8]
                      first
                        | (have hr0' : ¬ goodF r = 0 := by simpa using hc0
                           unfold repF
                           rw [if_neg hr0']
                           rfl)
                        | (unfold repF layF
                           rw [if_pos hr0, hr0, if_pos hcz]
                           rfl)
                        | (rw [hr0]
                           refine congrArg (fun x => PV.tuple [PV.sl .unk x, .int .i64 0]) ?_
                           refine congrArg (List.map (PV.int .u8)) ?_
                           clear hll1 hll2 hll5 hll6 hvl hpl hu8 hu8r hu8c hor hwf h16a h16o H hfr hc1
                           simp only [decide_eq_true_eq, decide_eq_false_iff_not] at *
                           have hcz' : ¬ ¬ r.code = 0 := fun h => h hcz
                           unfold repF layF
                           rw [if_pos hr0, if_neg hcz']
                           clear hcz' hr0 hcz
                           first
                           | (simp [*]; done)
                           | (have e : r.fn = 17 := by omega
                              simp [*]; done)
                           | skip)
                    · refine rs (k := rs (k := rg [1, 5, 28, 80] (k := rc (ht := fun hc11 => ?_) (hf := fun hc11 => ?_))))
                      · refine rk (k := rc (ht := fun hc12 => ?_) (hf := fun hc12 => ?_))
                        · refine Run.drawC [] [5] Try.mixed (by kernel_rfl) ?_
                          refine DetC.pre (pre := [_, _, _]) au ?_
                          refine DetC.call au au au (by kernel_rfl) (octet_PutL (l := [r.fn]) hL1 (by simp)) ?_
                          refine DetC.pre (pre := [_, _]) au ?_
                          refine DetC.call au au au (by kernel_rfl) (octet_PutL hL2 (by omega)) ?_
                          refine DetC.all au ?_
                          refine re (k := rB (k := rs (k := rr (k := ro (pre := [_]) (k := rC (h := clip_u8) (k := rh [2, 3] (k := rR (k := ?_))))))))
                          refine Ret.pure (r' := .tuple [.sl .unk ((repF r).map (PV.int .u8)), .int .i64 (goodF r)]) (by simp only [Try.f40, go_sem, ↓reduceIte] <;> rfl) ?_ (by simp only [PV.blw, PV.blws, and_true]; exact ⟨fun t z e => (by cases e), blws_u8 _ _⟩) hwf (fun i hi => by first | rfl | (have h0 := ltn hi; have h1 := lte hi; simp only [go_sem, Nat.add_assoc, Nat.reduceAdd, ↓reduceIte, h0, h1])) ⟨rfl, rfl⟩
                          simp only [PV.weak, PV.weaks, weaks_u8]
                          first
                            | (have hr0' : ¬ goodF r = 0 := by simpa using hc0
                               unfold repF
                               rw [if_neg hr0']
                               rfl)
                            | (unfold repF layF
                               rw [if_pos hr0, hr0, if_pos hcz]
                               rfl)
                            | (rw [hr0]
                               refine congrArg (fun x => PV.tuple [PV.sl .unk x, .int .i64 0]) ?_
                               refine congrArg (List.map (PV.int .u8)) ?_
                               clear hll1 hll2 hll5 hll6 hvl hpl hu8 hu8r hu8c hor hwf h16a h16o H hfr hc1
                               simp only [decide_eq_true_eq, decide_eq_false_iff_not] at *
                               have hcz' : ¬ ¬ r.code = 0 := fun h => h hcz
                               unfold repF layF
                               rw [if_pos hr0, if_neg hcz']
                               clear hcz' hr0 hcz
                               first
                               | (simp [*]; done)
                               | (have e : r.fn = 17 := by omega
                                  simp [*]; done)
                               | skip)
                        · exact Bool.noConfusion (hc11.symm.trans hc12)
                      · refine rg [1, 5, 28, 80] (k := rc (ht := fun hc12 => ?_) (hf := fun hc12 => ?_))
                        · refine Run.drawC [] [5] Try.mixed (by kernel_rfl) ?_
                          refine DetC.pre (pre := [_, _, _]) au ?_
                          refine DetC.call au au au (by kernel_rfl) (octet_PutL (l := [r.fn]) hL1 (by simp)) ?_
                          refine DetC.pre (pre := [_, _]) au ?_
                          refine DetC.call au au au (by kernel_rfl) (octet_PutL hL2 (by omega)) ?_
                          refine DetC.all au ?_
                          refine re (k := rB (k := rs (k := rr (k := ro (pre := [_]) (k := rC (h := clip_u8) (k := rh [2, 3] (k := rR (k := ?_))))))))
                          refine Ret.pure (r' := .tuple [.sl .unk ((repF r).map (PV.int .u8)), .int .i64 (goodF r)]) (by simp only [Try.f40, go_sem, ↓reduceIte] <;> rfl) ?_ (by simp only [PV.blw, PV.blws, and_true]; exact ⟨fun t z e => (by cases e), blws_u8 _ _⟩) hwf (fun i hi => by first | rfl | (have h0 := ltn hi; have h1 := lte hi; simp only [go_sem, Nat.add_assoc, Nat.reduceAdd, ↓reduceIte, h0, h1])) ⟨rfl, rfl⟩
                          simp only [PV.weak, PV.weaks, weaks_u8]
                          first
                            | (have hr0' : ¬ goodF r = 0 := by simpa using hc0
                               unfold repF
                               rw [if_neg hr0']
                               rfl)
                            | (unfold repF layF
                               rw [if_pos hr0, hr0, if_pos hcz]
                               rfl)
                            | (rw [hr0]
                               refine congrArg (fun x => PV.tuple [PV.sl .unk x, .int .i64 0]) ?_
                               refine congrArg (List.map (PV.int .u8)) ?_
                               clear hll1 hll2 hll5 hll6 hvl hpl hu8 hu8r hu8c hor hwf h16a h16o H hfr hc1
                               simp only [decide_eq_true_eq, decide_eq_false_iff_not] at *
                               have hcz' : ¬ ¬ r.code = 0 := fun h => h hcz
                               unfold repF layF
                               rw [if_pos hr0, if_neg hcz']
                               clear hcz' hr0 hcz
                               first
                               | (simp [*]; done)
                               | (have e : r.fn = 17 := by omega
                                  simp [*]; done)
                               | skip)
                        · refine rs (k := rg [1, 5, 28, 90] (k := rc (ht := fun hc13 => ?_) (hf := fun hc13 => ?_)))
                          · refine Run.drawC [] [5] Try.mixed (by kernel_rfl) ?_
                            refine DetC.pre (pre := [_, _, _]) au ?_
                            refine DetC.call au au au (by kernel_rfl) (octet_PutL (l := [r.fn]) hL1 (by simp)) ?_
                            refine DetC.pre (pre := [_, _, _]) au ?_
                            refine DetC.call au au au (by kernel_rfl) (octet_PutL hL6 (by omega)) ?_
                            refine DetC.pre (pre := [_, _, _]) au ?_
                            refine DetC.call au au au (by kernel_rfl) (octet_PutL hL7 (by omega)) ?_
                            refine DetC.all au ?_
                            refine re (k := rB (k := rs (k := rr (k := ro (pre := [_]) (k := rC (h := clip_u8) (k := rh [2, 3] (k := rR (k := ?_))))))))
                            refine Ret.pure (r' := .tuple [.sl .unk ((repF r).map (PV.int .u8)), .int .i64 (goodF r)]) (by simp only [Try.f40, go_sem, ↓reduceIte] <;> rfl) ?_ (by simp only [PV.blw, PV.blws, and_true]; exact ⟨fun t z e => (by cases e), blws_u8 _ _⟩) hwf (fun i hi => by first | rfl | (have h0 := ltn hi; have h1 := lte hi; simp only [go_sem, Nat.add_assoc, Nat.reduceAdd, ↓reduceIte, h0, h1])) ⟨rfl, rfl⟩
                            simp only [PV.weak, PV.weaks, weaks_u8]
                            first
                              | (have hr0' : ¬ goodF r = 0 := by simpa using hc0
                                 unfold repF
                                 rw [if_neg hr0']
                                 rfl)
                              | (unfold repF layF
                                 rw [if_pos hr0, hr0, if_pos hcz]
                                 rfl)
                              | (rw [hr0]
                                 refine congrArg (fun x => PV.tuple [PV.sl .unk x, .int .i64 0]) ?_
                                 refine congrArg (List.map (PV.int .u8)) ?_
                                 clear hll1 hll2 hll5 hll6 hvl hpl hu8 hu8r hu8c hor hwf h16a h16o H hfr hc1
                                 simp only [decide_eq_true_eq, decide_eq_false_iff_not] at *
                                 have hcz' : ¬ ¬ r.code = 0 := fun h => h hcz
                                 unfold repF layF
                                 rw [if_pos hr0, if_neg hcz']
                                 clear hcz' hr0 hcz
                                 first
                                 | (simp [*]; done)
                                 | (have e : r.fn = 17 := by omega
                                    simp [*]; done)
                                 | skip)
                          · refine rs (k := rg [1, 5, 104] (k := rc (ht := fun hc14 => ?_) (hf := fun hc14 => ?_)))
                            · refine rr (k := ro (pre := [_, _, _, _]) (k := rC (h := reply_countedL hD (by omega) (by omega)) (k := rh [5] (k := rB (k := rs (k := rr (k := ro (pre := [_]) (k := rC (h := clip_u8) (k := rh [2, 3] (k := rR (k := ?_)))))))))))
                              refine Ret.pure (r' := .tuple [.sl .unk ((repF r).map (PV.int .u8)), .int .i64 (goodF r)]) (by simp only [Try.f40, go_sem, ↓reduceIte] <;> rfl) ?_ (by simp only [PV.blw, PV.blws, and_true]; exact ⟨fun t z e => (by cases e), blws_u8 _ _⟩) hwf (fun i hi => by first | rfl | (have h0 := ltn hi; have h1 := lte hi; simp only [go_sem, Nat.add_assoc, Nat.reduceAdd, ↓reduceIte, h0, h1])) ⟨rfl, rfl⟩
                              simp only [PV.weak, PV.weaks, weaks_u8]
                              first
                                | (have hr0' : ¬ goodF r = 0 := by simpa using hc0
                                   unfold repF
                                   rw [if_neg hr0']
                                   rfl)
                                | (unfold repF layF
                                   rw [if_pos hr0, hr0, if_pos hcz]
                                   rfl)
                                | (rw [hr0]
                                   refine congrArg (fun x => PV.tuple [PV.sl .unk x, .int .i64 0]) ?_
                                   refine congrArg (List.map (PV.int .u8)) ?_
                                   clear hll1 hll2 hll5 hll6 hvl hpl hu8 hu8r hu8c hor hwf h16a h16o H hfr hc1
                                   simp only [decide_eq_true_eq, decide_eq_false_iff_not] at *
                                   have hcz' : ¬ ¬ r.code = 0 := fun h => h hcz
                                   unfold repF layF
                                   rw [if_pos hr0, if_neg hcz']
                                   clear hcz' hr0 hcz
                                   first
                                   | (simp [*]; done)
                                   | (have e : r.fn = 17 := by omega
                                      simp [*]; done)
                                   | skip)
                            · refine rk (k := rB (k := rs (k := ?_)))
                              exfalso
                              simp only [decide_eq_true_eq, decide_eq_false_iff_not] at *
                              omega
end Go.Proofs
namespace Go.Proofs
open Go.PM
set_option maxHeartbeats 2000000
theorem ref3_bits {xs ys : List Bool} (nx : xs.length < 140737488355328) {s : St} : ACalls Try.prog 58 [.sl .unk (xs.map PV.bool), .sl .unk (ys.map PV.bool)] s (fun r s' => r = .bool (decide (xs = ys)) ∧ s' = s) := by
  refine go Try.func58 (k := fun hwf H => ?_)
  refine rs (k := rg [0, 1] (k := rs (k := rs (k := rg [0, 1, 10] (k := rc (ht := fun hc0 => ?_) (hf := fun hc0 => ?_))))))
  · refine rs (k := rg [4] (k := rR (k := rP (by simp only [Try.f58, go_sem]; rfl) hwf ⟨?_, rfl⟩)))
    first
      | (have hne : xs ≠ ys := by rintro rfl; simp at hc0
         rw [decide_eq_false hne]; rfl)
      | (have hne : xs ≠ ys := by
           rintro rfl
           rw [hxe] at hye
           subst hye
           simp at hc2
         rw [decide_eq_false hne]; rfl)
      | (have hlen : xs.length = ys.length := by simp at hc0; omega
         have : i = xs.length := by have := of_decide_eq_false hc1; omega
         rw [this, List.take_length, hlen, List.take_length] at hbe
         rw [decide_eq_true hbe]; rfl)
  · refine rk (k := rs (k := rs (k := ?_)))
    have hlen : xs.length = ys.length := by simp at hc0; omega
    refine rg [0, 1, 12, 13] (k := rb (k := ?_))
    refine Run.loop (fun e s' => s' = s ∧ ∃ i : Nat, e = [(0, .sl .unk (xs.map PV.bool)), (1, .sl .unk (ys.map PV.bool)), (12, .int .i64 xs.length), (13, .int .i64 (i : Int))] ∧ i ≤ xs.length ∧ xs.take i = ys.take i) (fun e s' => xs.length - ivar e 13) ?_ ?_
    · exact ⟨rfl, 0, rfl, by omega, rfl⟩
    rintro e s' ⟨hs, i, rfl, hi, hbe⟩
    subst s'
    refine rs (k := rg [0, 1, 12, 13, 14] (k := rs (k := rc (ht := fun hc1 => ?_) (hf := fun hc1 => ?_))))
    · refine rk (k := rs (k := rb (k := rs (k := ?_))))
      have hil : i < xs.length := by have := of_decide_eq_true hc1; omega
      have hjl : i < ys.length := by omega
      obtain ⟨x, hxe⟩ : ∃ z_, xs[i]'hil = z_ := ⟨_, rfl⟩
      have hxx : (xs.map PV.bool)[i]? = some (.bool x) := by rw [map_get hil, hxe]
      obtain ⟨y, hye⟩ : ∃ z_, ys[i]'hjl = z_ := ⟨_, rfl⟩
      have hxy : (ys.map PV.bool)[i]? = some (.bool y) := by rw [map_get hjl, hye]
      have hw : IntKind.i64.wrap ((i : Int) + 1) = ((i + 1 : Nat) : Int) := by rw [wrap_i64 (by omega)]; omega
      have H := aj hxx (aj hxy (aj hw H))
      refine rg [0, 1, 5, 12, 13] (k := rs (k := ?_))
      refine Run.drawC [] [0, 1, 12, 13, 24] Try.mixed (by kernel_rfl) ?_
      refine DetC.all au ?_
      refine re (k := rc (ht := fun hc2 => ?_) (hf := fun hc2 => ?_))
      · refine rs (k := rg [4] (k := rR (k := rP (by simp only [Try.f58, go_sem]; rfl) hwf ⟨?_, rfl⟩)))
        first
          | (have hne : xs ≠ ys := by rintro rfl; simp at hc0
             rw [decide_eq_false hne]; rfl)
          | (have hne : xs ≠ ys := by
               rintro rfl
               rw [hxe] at hye
               subst hye
               simp at hc2
             rw [decide_eq_false hne]; rfl)
          | (have hlen : xs.length = ys.length := by simp at hc0; omega
             have : i = xs.length := by have := of_decide_eq_false hc1; omega
             rw [this, List.take_length, hlen, List.take_length] at hbe
             rw [decide_eq_true hbe]; rfl)
      · refine rk (k := rB (k := rg [0, 1, 12, 13] (k := ?_)))
        have hxy : x = y := by simpa using hc2
        refine Run.lp ⟨⟨rfl, i + 1, rfl, by omega, ?_⟩, ?_⟩
        · rw [take_get hil, take_get hjl, hbe, hxe, hye, hxy]
        · simp only [ivar, go_sem, ↓reduceIte, Nat.reduceEqDiff]
          omega
    · refine rX (k := rs (k := rg [4] (k := rR (k := rP (by simp only [Try.f58, go_sem]; rfl) hwf ⟨?_, rfl⟩))))
      first
        | (have hne : xs ≠ ys := by rintro rfl; simp at hc0
           rw [decide_eq_false hne]; rfl)
        | (have hne : xs ≠ ys := by
             rintro rfl
             rw [hxe] at hye
             subst hye
             simp at hc2
           rw [decide_eq_false hne]; rfl)
        | (have hlen : xs.length = ys.length := by simp at hc0; omega
           have : i = xs.length := by have := of_decide_eq_false hc1; omega
           rw [this, List.take_length, hlen, List.take_length] at hbe
           rw [decide_eq_true hbe]; rfl)
theorem ref3_vals {xs ys : List Int} (nx : xs.length < 140737488355328) {s : St} : ACalls Try.prog 59 [.sl .unk (xs.map (PV.int .u16)), .sl .unk (ys.map (PV.int .u16))] s (fun r s' => r = .bool (decide (xs = ys)) ∧ s' = s) := by
  refine go Try.func59 (k := fun hwf H => ?_)
  refine rs (k := rg [0, 1] (k := rs (k := rs (k := rg [0, 1, 10] (k := rc (ht := fun hc0 => ?_) (hf := fun hc0 => ?_))))))
  · refine rs (k := rg [4] (k := rR (k := rP (by simp only [Try.f59, go_sem]; rfl) hwf ⟨?_, rfl⟩)))
    first
      | (have hne : xs ≠ ys := by rintro rfl; simp at hc0
         rw [decide_eq_false hne]; rfl)
      | (have hne : xs ≠ ys := by
           rintro rfl
           rw [hxe] at hye
           subst hye
           simp at hc2
         rw [decide_eq_false hne]; rfl)
      | (have hlen : xs.length = ys.length := by simp at hc0; omega
         have : i = xs.length := by have := of_decide_eq_false hc1; omega
         rw [this, List.take_length, hlen, List.take_length] at hbe
         rw [decide_eq_true hbe]; rfl)
  · refine rk (k := rs (k := rs (k := ?_)))
    have hlen : xs.length = ys.length := by simp at hc0; omega
    refine rg [0, 1, 12, 13] (k := rb (k := ?_))
    refine Run.loop (fun e s' => s' = s ∧ ∃ i : Nat, e = [(0, .sl .unk (xs.map (PV.int .u16))), (1, .sl .unk (ys.map (PV.int .u16))), (12, .int .i64 xs.length), (13, .int .i64 (i : Int))] ∧ i ≤ xs.length ∧ xs.take i = ys.take i) (fun e s' => xs.length - ivar e 13) ?_ ?_
    · exact ⟨rfl, 0, rfl, by omega, rfl⟩
    rintro e s' ⟨hs, i, rfl, hi, hbe⟩
    subst s'
    refine rs (k := rg [0, 1, 12, 13, 14] (k := rs (k := rc (ht := fun hc1 => ?_) (hf := fun hc1 => ?_))))
    · refine rk (k := rs (k := rb (k := rs (k := ?_))))
      have hil : i < xs.length := by have := of_decide_eq_true hc1; omega
      have hjl : i < ys.length := by omega
      obtain ⟨x, hxe⟩ : ∃ z_, xs[i]'hil = z_ := ⟨_, rfl⟩
      have hxx : (xs.map (PV.int .u16))[i]? = some (.int .u16 x) := by rw [map_get hil, hxe]
      obtain ⟨y, hye⟩ : ∃ z_, ys[i]'hjl = z_ := ⟨_, rfl⟩
      have hxy : (ys.map (PV.int .u16))[i]? = some (.int .u16 y) := by rw [map_get hjl, hye]
      have hw : IntKind.i64.wrap ((i : Int) + 1) = ((i + 1 : Nat) : Int) := by rw [wrap_i64 (by omega)]; omega
      have H := aj hxx (aj hxy (aj hw H))
      refine rg [0, 1, 5, 12, 13] (k := rs (k := ?_))
      refine Run.drawC [] [0, 1, 12, 13, 24] Try.mixed (by kernel_rfl) ?_
      refine DetC.all au ?_
      refine re (k := rc (ht := fun hc2 => ?_) (hf := fun hc2 => ?_))
      · refine rs (k := rg [4] (k := rR (k := rP (by simp only [Try.f59, go_sem]; rfl) hwf ⟨?_, rfl⟩)))
        first
          | (have hne : xs ≠ ys := by rintro rfl; simp at hc0
             rw [decide_eq_false hne]; rfl)
          | (have hne : xs ≠ ys := by
               rintro rfl
               rw [hxe] at hye
               subst hye
               simp at hc2
             rw [decide_eq_false hne]; rfl)
          | (have hlen : xs.length = ys.length := by simp at hc0; omega
             have : i = xs.length := by have := of_decide_eq_false hc1; omega
             rw [this, List.take_length, hlen, List.take_length] at hbe
             rw [decide_eq_true hbe]; rfl)
      · refine rk (k := rB (k := rg [0, 1, 12, 13] (k := ?_)))
        have hxy : x = y := by simpa using hc2
        refine Run.lp ⟨⟨rfl, i + 1, rfl, by omega, ?_⟩, ?_⟩
        · rw [take_get hil, take_get hjl, hbe, hxe, hye, hxy]
        · simp only [ivar, go_sem, ↓reduceIte, Nat.reduceEqDiff]
          omega
    · refine rX (k := rs (k := rg [4] (k := rR (k := rP (by simp only [Try.f59, go_sem]; rfl) hwf ⟨?_, rfl⟩))))
      first
        | (have hne : xs ≠ ys := by rintro rfl; simp at hc0
           rw [decide_eq_false hne]; rfl)
        | (have hne : xs ≠ ys := by
             rintro rfl
             rw [hxe] at hye
             subst hye
             simp at hc2
           rw [decide_eq_false hne]; rfl)
        | (have hlen : xs.length = ys.length := by simp at hc0; omega
           have : i = xs.length := by have := of_decide_eq_false hc1; omega
           rw [this, List.take_length, hlen, List.take_length] at hbe
           rw [decide_eq_true hbe]; rfl)
attribute [local go_sem] weaks_bools Rep.pv
set_option maxRecDepth 100000 in
theorem ref3_Alike {a b : Rep} (ha : a.ok) (hb : b.ok) {s : St} : ACalls Try.prog 26 [a.pv, b.pv] s (fun r s' => r = .bool (decide (a = b)) ∧ s' = s) := by
  refine go Try.func26 (k := fun hwf H => ?_)
  have hst : ((strB a.data).toList == (strB b.data).toList) = decide (a.data = b.data) := strB_beq ha.data hb.data
  have H := aj hst H
  refine rs (k := rg [2, 3] (k := rs (k := rrA [some 5, some 6, some 7, some 8, some 9, some 10, some 11, some 12, some 13, some 14, some 15, some 16, some 17, some 18, some 19, some 20, some 21, some 22, some 23, some 24, some 25, some 26, some 27, some 28, some 29, some 30, some 31, some 32, some 33, some 34, some 35, some 36, some 37, some 38, some 39, some 40, some 41, some 42, some 43, some 44, some 45, some 46, some 47, some 48, some 49, some 50, some 51, some 52, some 53, some 54, some 55, some 56, some 57, some 58, some 59, some 60, some 61, some 62, some 63, some 64, some 65, some 66, some 67, some 68, some 69, some 70, some 71, some 72, some 73, some 74, some 4] (k := fun ops hops => ?_))))
  have H := aj hops H
  refine ro (pre := [_, _, _, _, _, _, _, _, _, _, _, _, _, _, _, _, _, _, _, _, _, _, _, _, _, _, _, _, _, _, _, _, _, _, _, _, _, _, _, _, _, _, _, _, _, _, _, _, _, _, _, _]) (k := rG (h := fun hb => ref3_bits (xs := a.bits) (ys := b.bits) (by have := ha.nb; omega)) (k := ro (pre := [_, _, _, _, _, _]) (k := rG (h := fun hb => ref3_vals (xs := a.vals) (ys := b.vals) (by have := ha.nv; omega)) (k := ?_))))
  refine rh [4] (k := rR (k := rP (by simp only [Try.f26, go_sem]; rfl) hwf ⟨?_, rfl⟩))
  simp only [PV.weak]
  congr 1
  rw [Bool.eq_iff_iff]
  simp only [Bool.and_eq_true, decide_eq_true_eq]
  constructor
  · intro h
    cases a; cases b
    simp_all
  · intro h
    subst h
    simp
attribute [local go_sem] weaks_bools Rep.pv
end Go.Proofs
namespace Go.Proofs
open Go.PM
set_option maxHeartbeats 2000000
attribute [local go_sem] weaks_bools Rep.pv Req.pv
end Go.Proofs
namespace Go.Proofs
open Go.PM
set_option maxHeartbeats 2000000
attribute [local go_sem] set_set weaks_bools Req.pv Rep.pv
end Go.Proofs
namespace Go.Proofs
open Go.PM
set_option maxHeartbeats 2000000
theorem St.eq_of {a b : St} (h1 : a.nxt = b.nxt) (h2 : ∀ i, a.blk i = b.blk i) : a = b := by
  cases a; cases b
  simp only [St.mk.injEq]
  exact ⟨h1, funext h2⟩
attribute [local go_sem] set_set
set_option maxRecDepth 100000 in
theorem store_New {n : Nat} {s : St} (h1 : 1 ≤ n) (h2 : n ≤ 65536) : ACalls Try.prog 18 [.int .i64 (n : Int)] s (fun r s' => r = .ptr s.nxt 0 0 ∧ s' = (((((((((((s.new (.row 88 [.agg [.sl .nil [], .sl .nil [], .sl .nil [], .sl .nil []]])).new .res).new .res).set (s.nxt + 1) (some (.row 4 (List.replicate n (.bool false))))).set (s.nxt + 2) (some (.row 24 (List.replicate n (.int .u16 0))))).set s.nxt (some (.row 88 [.agg [.own (s.nxt + 1) 0 n, .sl .nil [], .own (s.nxt + 2) 0 n, .sl .nil []]]))).new .res).new .res).set (s.nxt + 3) (some (.row 4 (List.replicate n (.bool false))))).set (s.nxt + 4) (some (.row 24 (List.replicate n (.int .u16 0))))).set s.nxt (some (.row 88 [.agg [.own (s.nxt + 1) 0 n, .own (s.nxt + 3) 0 n, .own (s.nxt + 2) 0 n, .own (s.nxt + 4) 0 n]])))) := by
  refine go Try.func18 (k := fun hwf H => ?_)
  refine rs (k := rg [0] (k := rs (k := rs (k := rg [0, 10] (k := rc (ht := fun hc0 => ?_) (hf := fun hc0 => ?_))))))
  · refine rs (k := ?_)
    exfalso
    simp only [Bool.or_eq_true, decide_eq_true_eq] at hc0
    omega
  · refine rk (k := rs (k := rg [0, 3] (k := rs (k := rs (k := rg [0, 3, 13] (k := rb (k := ?_)))))))
    refine Run.loop (fun e s' => ∃ i : Nat, i ≤ 2 ∧ e = [(0, .int .i64 (n : Int)), (3, .ptr s.nxt 0 0), (13, .int .i64 (i : Int))] ∧ s' = (if i = 0 then (s.new (.row 88 [.agg [.sl .nil [], .sl .nil [], .sl .nil [], .sl .nil []]])) else if i = 1 then ((((((s.new (.row 88 [.agg [.sl .nil [], .sl .nil [], .sl .nil [], .sl .nil []]])).new .res).new .res).set (s.nxt + 1) (some (.row 4 (List.replicate n (.bool false))))).set (s.nxt + 2) (some (.row 24 (List.replicate n (.int .u16 0))))).set s.nxt (some (.row 88 [.agg [.own (s.nxt + 1) 0 n, .sl .nil [], .own (s.nxt + 2) 0 n, .sl .nil []]]))) else (((((((((((s.new (.row 88 [.agg [.sl .nil [], .sl .nil [], .sl .nil [], .sl .nil []]])).new .res).new .res).set (s.nxt + 1) (some (.row 4 (List.replicate n (.bool false))))).set (s.nxt + 2) (some (.row 24 (List.replicate n (.int .u16 0))))).set s.nxt (some (.row 88 [.agg [.own (s.nxt + 1) 0 n, .sl .nil [], .own (s.nxt + 2) 0 n, .sl .nil []]]))).new .res).new .res).set (s.nxt + 3) (some (.row 4 (List.replicate n (.bool false))))).set (s.nxt + 4) (some (.row 24 (List.replicate n (.int .u16 0))))).set s.nxt (some (.row 88 [.agg [.own (s.nxt + 1) 0 n, .own (s.nxt + 3) 0 n, .own (s.nxt + 2) 0 n, .own (s.nxt + 4) 0 n]]))))) (fun e s' => 2 - ivar e 13) ?_ ?_
    · exact ⟨0, by decide, rfl, rfl⟩
    rintro e s' ⟨i, hi, rfl, hs⟩
    subst hs
    obtain rfl | rfl | rfl : i = 0 ∨ i = 1 ∨ i = 2 := by omega
    · refine rs (k := rg [0, 3, 13, 14] (k := rs (k := rc (ht := fun hc1 => ?_) (hf := fun hc1 => ?_))))
      · refine rk (k := rs (k := rb (k := rs (k := rg [0, 3, 4, 13] (k := ?_)))))
        refine Run.reserve (Run.reserve ?_)
        refine Run.drawH 16 [5, 7, 11, 15] [[false, false, false, false], [true, false, false, false], [false, true, false, false], [true, true, false, false], [true, false, true, false], [true, true, true, false], [true, true, true, true]] [(((s.new (.row 88 [.agg [.sl .nil [], .sl .nil [], .sl .nil [], .sl .nil []]])).new .res).new .res), ((((s.new (.row 88 [.agg [.sl .nil [], .sl .nil [], .sl .nil [], .sl .nil []]])).new .res).new .res).set (s.nxt + 1) (some (.row 4 (List.replicate n (.bool false))))), ((((s.new (.row 88 [.agg [.sl .nil [], .sl .nil [], .sl .nil [], .sl .nil []]])).new .res).new .res).set (s.nxt + 2) (some (.row 24 (List.replicate n (.int .u16 0))))), (((((s.new (.row 88 [.agg [.sl .nil [], .sl .nil [], .sl .nil [], .sl .nil []]])).new .res).new .res).set (s.nxt + 1) (some (.row 4 (List.replicate n (.bool false))))).set (s.nxt + 2) (some (.row 24 (List.replicate n (.int .u16 0))))), (((((s.new (.row 88 [.agg [.sl .nil [], .sl .nil [], .sl .nil [], .sl .nil []]])).new .res).new .res).set (s.nxt + 1) (some (.row 4 (List.replicate n (.bool false))))).set s.nxt (some (.row 88 [.agg [.own (s.nxt + 1) 0 n, .sl .nil [], .sl .nil [], .sl .nil []]]))), ((((((s.new (.row 88 [.agg [.sl .nil [], .sl .nil [], .sl .nil [], .sl .nil []]])).new .res).new .res).set (s.nxt + 1) (some (.row 4 (List.replicate n (.bool false))))).set (s.nxt + 2) (some (.row 24 (List.replicate n (.int .u16 0))))).set s.nxt (some (.row 88 [.agg [.own (s.nxt + 1) 0 n, .sl .nil [], .sl .nil [], .sl .nil []]]))), ((((((s.new (.row 88 [.agg [.sl .nil [], .sl .nil [], .sl .nil [], .sl .nil []]])).new .res).new .res).set (s.nxt + 1) (some (.row 4 (List.replicate n (.bool false))))).set (s.nxt + 2) (some (.row 24 (List.replicate n (.int .u16 0))))).set s.nxt (some (.row 88 [.agg [.own (s.nxt + 1) 0 n, .sl .nil [], .own (s.nxt + 2) 0 n, .sl .nil []]])))] (((((((s.new (.row 88 [.agg [.sl .nil [], .sl .nil [], .sl .nil [], .sl .nil []]])).new .res).new .res).set (s.nxt + 1) (some (.row 4 (List.replicate n (.bool false))))).set (s.nxt + 2) (some (.row 24 (List.replicate n (.int .u16 0))))).set s.nxt (some (.row 88 [.agg [.own (s.nxt + 1) 0 n, .sl .nil [], .own (s.nxt + 2) 0 n, .sl .nil []]])))) Try.mixed (by kernel_rfl) (by kernel_rfl) (by kernel_rfl) (by kernel_rfl) (by kernel_rfl) rfl (by kernel_rfl) rfl ?_
        refine DetHC.pre (pre := [_, _, _, _, _]) (s1 := (((s.new (.row 88 [.agg [.sl .nil [], .sl .nil [], .sl .nil [], .sl .nil []]])).new .res).new .res)) [0, 1, 2, 3, 4, 5] [(((s.new (.row 88 [.agg [.sl .nil [], .sl .nil [], .sl .nil [], .sl .nil []]])).new .res).new .res), ((((s.new (.row 88 [.agg [.sl .nil [], .sl .nil [], .sl .nil [], .sl .nil []]])).new .res).new .res).set (s.nxt + 1) (some (.row 4 (List.replicate n (.bool false))))), ((((s.new (.row 88 [.agg [.sl .nil [], .sl .nil [], .sl .nil [], .sl .nil []]])).new .res).new .res).set (s.nxt + 2) (some (.row 24 (List.replicate n (.int .u16 0))))), (((((s.new (.row 88 [.agg [.sl .nil [], .sl .nil [], .sl .nil [], .sl .nil []]])).new .res).new .res).set (s.nxt + 1) (some (.row 4 (List.replicate n (.bool false))))).set (s.nxt + 2) (some (.row 24 (List.replicate n (.int .u16 0))))), (((((s.new (.row 88 [.agg [.sl .nil [], .sl .nil [], .sl .nil [], .sl .nil []]])).new .res).new .res).set (s.nxt + 1) (some (.row 4 (List.replicate n (.bool false))))).set s.nxt (some (.row 88 [.agg [.own (s.nxt + 1) 0 n, .sl .nil [], .sl .nil [], .sl .nil []]]))), ((((((s.new (.row 88 [.agg [.sl .nil [], .sl .nil [], .sl .nil [], .sl .nil []]])).new .res).new .res).set (s.nxt + 1) (some (.row 4 (List.replicate n (.bool false))))).set (s.nxt + 2) (some (.row 24 (List.replicate n (.int .u16 0))))).set s.nxt (some (.row 88 [.agg [.own (s.nxt + 1) 0 n, .sl .nil [], .sl .nil [], .sl .nil []]])))] (by kernel_rfl) rfl au ?_
        refine DetHC.resMake (s.nxt + 1) n [(0, 1), (2, 3)] [((((s.new (.row 88 [.agg [.sl .nil [], .sl .nil [], .sl .nil [], .sl .nil []]])).new .res).new .res), ((((s.new (.row 88 [.agg [.sl .nil [], .sl .nil [], .sl .nil [], .sl .nil []]])).new .res).new .res).set (s.nxt + 1) (some (.row 4 (List.replicate n (.bool false)))))), (((((s.new (.row 88 [.agg [.sl .nil [], .sl .nil [], .sl .nil [], .sl .nil []]])).new .res).new .res).set (s.nxt + 2) (some (.row 24 (List.replicate n (.int .u16 0))))), (((((s.new (.row 88 [.agg [.sl .nil [], .sl .nil [], .sl .nil [], .sl .nil []]])).new .res).new .res).set (s.nxt + 1) (some (.row 4 (List.replicate n (.bool false))))).set (s.nxt + 2) (some (.row 24 (List.replicate n (.int .u16 0))))))] (by kernel_rfl) rfl au au au Try.td23 (by rw [Try.zp4]) (by omega) (by rw [Try.by4]; omega) (by intro q hq; simp only [List.mem_cons, List.not_mem_nil, or_false] at hq; rcases hq with rfl | rfl <;> refine ⟨by simp (disch := first | omega | (simp only [nxt_set, nxt_new] <;> omega) | fail) only [go_sem], ?_⟩ <;> first | rfl | exact St.eq_of rfl fun i => by (simp only [blk_set, blk_new, nxt_new, nxt_set]; (repeat' split) <;> first | rfl | (exfalso; omega))) ?_
        refine DetHC.pre (pre := [_]) (s1 := (((s.new (.row 88 [.agg [.sl .nil [], .sl .nil [], .sl .nil [], .sl .nil []]])).new .res).new .res)) [0, 1, 4] [(((s.new (.row 88 [.agg [.sl .nil [], .sl .nil [], .sl .nil [], .sl .nil []]])).new .res).new .res), ((((s.new (.row 88 [.agg [.sl .nil [], .sl .nil [], .sl .nil [], .sl .nil []]])).new .res).new .res).set (s.nxt + 1) (some (.row 4 (List.replicate n (.bool false))))), (((((s.new (.row 88 [.agg [.sl .nil [], .sl .nil [], .sl .nil [], .sl .nil []]])).new .res).new .res).set (s.nxt + 1) (some (.row 4 (List.replicate n (.bool false))))).set s.nxt (some (.row 88 [.agg [.own (s.nxt + 1) 0 n, .sl .nil [], .sl .nil [], .sl .nil []]])))] (by kernel_rfl) rfl au ?_
        refine DetHC.resMake (s.nxt + 2) n [(0, 2), (1, 3), (4, 5)] [((((s.new (.row 88 [.agg [.sl .nil [], .sl .nil [], .sl .nil [], .sl .nil []]])).new .res).new .res), ((((s.new (.row 88 [.agg [.sl .nil [], .sl .nil [], .sl .nil [], .sl .nil []]])).new .res).new .res).set (s.nxt + 2) (some (.row 24 (List.replicate n (.int .u16 0)))))), (((((s.new (.row 88 [.agg [.sl .nil [], .sl .nil [], .sl .nil [], .sl .nil []]])).new .res).new .res).set (s.nxt + 1) (some (.row 4 (List.replicate n (.bool false))))), (((((s.new (.row 88 [.agg [.sl .nil [], .sl .nil [], .sl .nil [], .sl .nil []]])).new .res).new .res).set (s.nxt + 1) (some (.row 4 (List.replicate n (.bool false))))).set (s.nxt + 2) (some (.row 24 (List.replicate n (.int .u16 0)))))), ((((((s.new (.row 88 [.agg [.sl .nil [], .sl .nil [], .sl .nil [], .sl .nil []]])).new .res).new .res).set (s.nxt + 1) (some (.row 4 (List.replicate n (.bool false))))).set s.nxt (some (.row 88 [.agg [.own (s.nxt + 1) 0 n, .sl .nil [], .sl .nil [], .sl .nil []]]))), ((((((s.new (.row 88 [.agg [.sl .nil [], .sl .nil [], .sl .nil [], .sl .nil []]])).new .res).new .res).set (s.nxt + 1) (some (.row 4 (List.replicate n (.bool false))))).set (s.nxt + 2) (some (.row 24 (List.replicate n (.int .u16 0))))).set s.nxt (some (.row 88 [.agg [.own (s.nxt + 1) 0 n, .sl .nil [], .sl .nil [], .sl .nil []]]))))] (by kernel_rfl) rfl au au au Try.td22 (by rw [Try.zp24]) (by omega) (by rw [Try.by24]; omega) (by intro q hq; simp only [List.mem_cons, List.not_mem_nil, or_false] at hq; rcases hq with rfl | rfl | rfl <;> refine ⟨by simp (disch := first | omega | (simp only [nxt_set, nxt_new] <;> omega) | fail) only [go_sem], ?_⟩ <;> first | rfl | exact St.eq_of rfl fun i => by (simp only [blk_set, blk_new, nxt_new, nxt_set]; (repeat' split) <;> first | rfl | (exfalso; omega))) ?_
        refine DetHC.pre (pre := [_, _, _]) (s1 := (((s.new (.row 88 [.agg [.sl .nil [], .sl .nil [], .sl .nil [], .sl .nil []]])).new .res).new .res)) [0, 1, 2, 3] [(((s.new (.row 88 [.agg [.sl .nil [], .sl .nil [], .sl .nil [], .sl .nil []]])).new .res).new .res), ((((s.new (.row 88 [.agg [.sl .nil [], .sl .nil [], .sl .nil [], .sl .nil []]])).new .res).new .res).set (s.nxt + 1) (some (.row 4 (List.replicate n (.bool false))))), ((((s.new (.row 88 [.agg [.sl .nil [], .sl .nil [], .sl .nil [], .sl .nil []]])).new .res).new .res).set (s.nxt + 2) (some (.row 24 (List.replicate n (.int .u16 0))))), (((((s.new (.row 88 [.agg [.sl .nil [], .sl .nil [], .sl .nil [], .sl .nil []]])).new .res).new .res).set (s.nxt + 1) (some (.row 4 (List.replicate n (.bool false))))).set (s.nxt + 2) (some (.row 24 (List.replicate n (.int .u16 0)))))] (by kernel_rfl) rfl au ?_
        refine DetHC.eff [(1, 4), (3, 5)] (((((s.new (.row 88 [.agg [.sl .nil [], .sl .nil [], .sl .nil [], .sl .nil []]])).new .res).new .res).set (s.nxt + 1) (some (.row 4 (List.replicate n (.bool false)))))) ((((((s.new (.row 88 [.agg [.sl .nil [], .sl .nil [], .sl .nil [], .sl .nil []]])).new .res).new .res).set (s.nxt + 1) (some (.row 4 (List.replicate n (.bool false))))).set s.nxt (some (.row 88 [.agg [.own (s.nxt + 1) 0 n, .sl .nil [], .sl .nil [], .sl .nil []]])))) [((((((s.new (.row 88 [.agg [.sl .nil [], .sl .nil [], .sl .nil [], .sl .nil []]])).new .res).new .res).set (s.nxt + 1) (some (.row 4 (List.replicate n (.bool false))))).set (s.nxt + 2) (some (.row 24 (List.replicate n (.int .u16 0))))), ((((((s.new (.row 88 [.agg [.sl .nil [], .sl .nil [], .sl .nil [], .sl .nil []]])).new .res).new .res).set (s.nxt + 1) (some (.row 4 (List.replicate n (.bool false))))).set (s.nxt + 2) (some (.row 24 (List.replicate n (.int .u16 0))))).set s.nxt (some (.row 88 [.agg [.own (s.nxt + 1) 0 n, .sl .nil [], .sl .nil [], .sl .nil []]]))))] (by kernel_rfl) rfl au au au ?_
        refine DetHC.pre (pre := [_, _, _]) (s1 := (((s.new (.row 88 [.agg [.sl .nil [], .sl .nil [], .sl .nil [], .sl .nil []]])).new .res).new .res)) [0, 1, 2, 3, 4, 5] [(((s.new (.row 88 [.agg [.sl .nil [], .sl .nil [], .sl .nil [], .sl .nil []]])).new .res).new .res), ((((s.new (.row 88 [.agg [.sl .nil [], .sl .nil [], .sl .nil [], .sl .nil []]])).new .res).new .res).set (s.nxt + 1) (some (.row 4 (List.replicate n (.bool false))))), ((((s.new (.row 88 [.agg [.sl .nil [], .sl .nil [], .sl .nil [], .sl .nil []]])).new .res).new .res).set (s.nxt + 2) (some (.row 24 (List.replicate n (.int .u16 0))))), (((((s.new (.row 88 [.agg [.sl .nil [], .sl .nil [], .sl .nil [], .sl .nil []]])).new .res).new .res).set (s.nxt + 1) (some (.row 4 (List.replicate n (.bool false))))).set (s.nxt + 2) (some (.row 24 (List.replicate n (.int .u16 0))))), (((((s.new (.row 88 [.agg [.sl .nil [], .sl .nil [], .sl .nil [], .sl .nil []]])).new .res).new .res).set (s.nxt + 1) (some (.row 4 (List.replicate n (.bool false))))).set s.nxt (some (.row 88 [.agg [.own (s.nxt + 1) 0 n, .sl .nil [], .sl .nil [], .sl .nil []]]))), ((((((s.new (.row 88 [.agg [.sl .nil [], .sl .nil [], .sl .nil [], .sl .nil []]])).new .res).new .res).set (s.nxt + 1) (some (.row 4 (List.replicate n (.bool false))))).set (s.nxt + 2) (some (.row 24 (List.replicate n (.int .u16 0))))).set s.nxt (some (.row 88 [.agg [.own (s.nxt + 1) 0 n, .sl .nil [], .sl .nil [], .sl .nil []]])))] (by kernel_rfl) rfl au ?_
        refine DetHC.eff [(5, 6)] (((((((s.new (.row 88 [.agg [.sl .nil [], .sl .nil [], .sl .nil [], .sl .nil []]])).new .res).new .res).set (s.nxt + 1) (some (.row 4 (List.replicate n (.bool false))))).set (s.nxt + 2) (some (.row 24 (List.replicate n (.int .u16 0))))).set s.nxt (some (.row 88 [.agg [.own (s.nxt + 1) 0 n, .sl .nil [], .sl .nil [], .sl .nil []]])))) (((((((s.new (.row 88 [.agg [.sl .nil [], .sl .nil [], .sl .nil [], .sl .nil []]])).new .res).new .res).set (s.nxt + 1) (some (.row 4 (List.replicate n (.bool false))))).set (s.nxt + 2) (some (.row 24 (List.replicate n (.int .u16 0))))).set s.nxt (some (.row 88 [.agg [.own (s.nxt + 1) 0 n, .sl .nil [], .own (s.nxt + 2) 0 n, .sl .nil []]])))) [] (by kernel_rfl) rfl au au au ?_
        refine DetHC.nil ?_
        refine rl [0, 3, 13] (k := rB (k := rg [0, 3, 13] (k := ?_)))
        refine Run.lp ⟨⟨1, by decide, by rfl, by rfl⟩, ?_⟩
        simp only [ivar, go_sem, ↓reduceIte, Nat.reduceEqDiff]
        decide
      · cases hc1
    · refine rs (k := rg [0, 3, 13, 14] (k := rs (k := rc (ht := fun hc1 => ?_) (hf := fun hc1 => ?_))))
      · refine rk (k := rs (k := rb (k := rs (k := rg [0, 3, 4, 13] (k := ?_)))))
        refine Run.reserve (Run.reserve ?_)
        refine Run.drawH 16 [5, 7, 11, 15] [[false, false, false, false], [true, false, false, false], [false, true, false, false], [true, true, false, false], [true, false, true, false], [true, true, true, false], [true, true, true, true]] [((((((((s.new (.row 88 [.agg [.sl .nil [], .sl .nil [], .sl .nil [], .sl .nil []]])).new .res).new .res).set (s.nxt + 1) (some (.row 4 (List.replicate n (.bool false))))).set (s.nxt + 2) (some (.row 24 (List.replicate n (.int .u16 0))))).set s.nxt (some (.row 88 [.agg [.own (s.nxt + 1) 0 n, .sl .nil [], .own (s.nxt + 2) 0 n, .sl .nil []]]))).new .res).new .res), (((((((((s.new (.row 88 [.agg [.sl .nil [], .sl .nil [], .sl .nil [], .sl .nil []]])).new .res).new .res).set (s.nxt + 1) (some (.row 4 (List.replicate n (.bool false))))).set (s.nxt + 2) (some (.row 24 (List.replicate n (.int .u16 0))))).set s.nxt (some (.row 88 [.agg [.own (s.nxt + 1) 0 n, .sl .nil [], .own (s.nxt + 2) 0 n, .sl .nil []]]))).new .res).new .res).set (s.nxt + 3) (some (.row 4 (List.replicate n (.bool false))))), (((((((((s.new (.row 88 [.agg [.sl .nil [], .sl .nil [], .sl .nil [], .sl .nil []]])).new .res).new .res).set (s.nxt + 1) (some (.row 4 (List.replicate n (.bool false))))).set (s.nxt + 2) (some (.row 24 (List.replicate n (.int .u16 0))))).set s.nxt (some (.row 88 [.agg [.own (s.nxt + 1) 0 n, .sl .nil [], .own (s.nxt + 2) 0 n, .sl .nil []]]))).new .res).new .res).set (s.nxt + 4) (some (.row 24 (List.replicate n (.int .u16 0))))), ((((((((((s.new (.row 88 [.agg [.sl .nil [], .sl .nil [], .sl .nil [], .sl .nil []]])).new .res).new .res).set (s.nxt + 1) (some (.row 4 (List.replicate n (.bool false))))).set (s.nxt + 2) (some (.row 24 (List.replicate n (.int .u16 0))))).set s.nxt (some (.row 88 [.agg [.own (s.nxt + 1) 0 n, .sl .nil [], .own (s.nxt + 2) 0 n, .sl .nil []]]))).new .res).new .res).set (s.nxt + 3) (some (.row 4 (List.replicate n (.bool false))))).set (s.nxt + 4) (some (.row 24 (List.replicate n (.int .u16 0))))), ((((((((((s.new (.row 88 [.agg [.sl .nil [], .sl .nil [], .sl .nil [], .sl .nil []]])).new .res).new .res).set (s.nxt + 1) (some (.row 4 (List.replicate n (.bool false))))).set (s.nxt + 2) (some (.row 24 (List.replicate n (.int .u16 0))))).set s.nxt (some (.row 88 [.agg [.own (s.nxt + 1) 0 n, .sl .nil [], .own (s.nxt + 2) 0 n, .sl .nil []]]))).new .res).new .res).set (s.nxt + 3) (some (.row 4 (List.replicate n (.bool false))))).set s.nxt (some (.row 88 [.agg [.own (s.nxt + 1) 0 n, .own (s.nxt + 3) 0 n, .own (s.nxt + 2) 0 n, .sl .nil []]]))), (((((((((((s.new (.row 88 [.agg [.sl .nil [], .sl .nil [], .sl .nil [], .sl .nil []]])).new .res).new .res).set (s.nxt + 1) (some (.row 4 (List.replicate n (.bool false))))).set (s.nxt + 2) (some (.row 24 (List.replicate n (.int .u16 0))))).set s.nxt (some (.row 88 [.agg [.own (s.nxt + 1) 0 n, .sl .nil [], .own (s.nxt + 2) 0 n, .sl .nil []]]))).new .res).new .res).set (s.nxt + 3) (some (.row 4 (List.replicate n (.bool false))))).set (s.nxt + 4) (some (.row 24 (List.replicate n (.int .u16 0))))).set s.nxt (some (.row 88 [.agg [.own (s.nxt + 1) 0 n, .own (s.nxt + 3) 0 n, .own (s.nxt + 2) 0 n, .sl .nil []]]))), (((((((((((s.new (.row 88 [.agg [.sl .nil [], .sl .nil [], .sl .nil [], .sl .nil []]])).new .res).new .res).set (s.nxt + 1) (some (.row 4 (List.replicate n (.bool false))))).set (s.nxt + 2) (some (.row 24 (List.replicate n (.int .u16 0))))).set s.nxt (some (.row 88 [.agg [.own (s.nxt + 1) 0 n, .sl .nil [], .own (s.nxt + 2) 0 n, .sl .nil []]]))).new .res).new .res).set (s.nxt + 3) (some (.row 4 (List.replicate n (.bool false))))).set (s.nxt + 4) (some (.row 24 (List.replicate n (.int .u16 0))))).set s.nxt (some (.row 88 [.agg [.own (s.nxt + 1) 0 n, .own (s.nxt + 3) 0 n, .own (s.nxt + 2) 0 n, .own (s.nxt + 4) 0 n]])))] ((((((((((((s.new (.row 88 [.agg [.sl .nil [], .sl .nil [], .sl .nil [], .sl .nil []]])).new .res).new .res).set (s.nxt + 1) (some (.row 4 (List.replicate n (.bool false))))).set (s.nxt + 2) (some (.row 24 (List.replicate n (.int .u16 0))))).set s.nxt (some (.row 88 [.agg [.own (s.nxt + 1) 0 n, .sl .nil [], .own (s.nxt + 2) 0 n, .sl .nil []]]))).new .res).new .res).set (s.nxt + 3) (some (.row 4 (List.replicate n (.bool false))))).set (s.nxt + 4) (some (.row 24 (List.replicate n (.int .u16 0))))).set s.nxt (some (.row 88 [.agg [.own (s.nxt + 1) 0 n, .own (s.nxt + 3) 0 n, .own (s.nxt + 2) 0 n, .own (s.nxt + 4) 0 n]])))) Try.mixed (by kernel_rfl) (by kernel_rfl) (by kernel_rfl) (by kernel_rfl) (by kernel_rfl) rfl (by kernel_rfl) rfl ?_
        refine DetHC.pre (pre := [_, _, _, _, _]) (s1 := ((((((((s.new (.row 88 [.agg [.sl .nil [], .sl .nil [], .sl .nil [], .sl .nil []]])).new .res).new .res).set (s.nxt + 1) (some (.row 4 (List.replicate n (.bool false))))).set (s.nxt + 2) (some (.row 24 (List.replicate n (.int .u16 0))))).set s.nxt (some (.row 88 [.agg [.own (s.nxt + 1) 0 n, .sl .nil [], .own (s.nxt + 2) 0 n, .sl .nil []]]))).new .res).new .res)) [0, 1, 2, 3, 4, 5] [((((((((s.new (.row 88 [.agg [.sl .nil [], .sl .nil [], .sl .nil [], .sl .nil []]])).new .res).new .res).set (s.nxt + 1) (some (.row 4 (List.replicate n (.bool false))))).set (s.nxt + 2) (some (.row 24 (List.replicate n (.int .u16 0))))).set s.nxt (some (.row 88 [.agg [.own (s.nxt + 1) 0 n, .sl .nil [], .own (s.nxt + 2) 0 n, .sl .nil []]]))).new .res).new .res), (((((((((s.new (.row 88 [.agg [.sl .nil [], .sl .nil [], .sl .nil [], .sl .nil []]])).new .res).new .res).set (s.nxt + 1) (some (.row 4 (List.replicate n (.bool false))))).set (s.nxt + 2) (some (.row 24 (List.replicate n (.int .u16 0))))).set s.nxt (some (.row 88 [.agg [.own (s.nxt + 1) 0 n, .sl .nil [], .own (s.nxt + 2) 0 n, .sl .nil []]]))).new .res).new .res).set (s.nxt + 3) (some (.row 4 (List.replicate n (.bool false))))), (((((((((s.new (.row 88 [.agg [.sl .nil [], .sl .nil [], .sl .nil [], .sl .nil []]])).new .res).new .res).set (s.nxt + 1) (some (.row 4 (List.replicate n (.bool false))))).set (s.nxt + 2) (some (.row 24 (List.replicate n (.int .u16 0))))).set s.nxt (some (.row 88 [.agg [.own (s.nxt + 1) 0 n, .sl .nil [], .own (s.nxt + 2) 0 n, .sl .nil []]]))).new .res).new .res).set (s.nxt + 4) (some (.row 24 (List.replicate n (.int .u16 0))))), ((((((((((s.new (.row 88 [.agg [.sl .nil [], .sl .nil [], .sl .nil [], .sl .nil []]])).new .res).new .res).set (s.nxt + 1) (some (.row 4 (List.replicate n (.bool false))))).set (s.nxt + 2) (some (.row 24 (List.replicate n (.int .u16 0))))).set s.nxt (some (.row 88 [.agg [.own (s.nxt + 1) 0 n, .sl .nil [], .own (s.nxt + 2) 0 n, .sl .nil []]]))).new .res).new .res).set (s.nxt + 3) (some (.row 4 (List.replicate n (.bool false))))).set (s.nxt + 4) (some (.row 24 (List.replicate n (.int .u16 0))))), ((((((((((s.new (.row 88 [.agg [.sl .nil [], .sl .nil [], .sl .nil [], .sl .nil []]])).new .res).new .res).set (s.nxt + 1) (some (.row 4 (List.replicate n (.bool false))))).set (s.nxt + 2) (some (.row 24 (List.replicate n (.int .u16 0))))).set s.nxt (some (.row 88 [.agg [.own (s.nxt + 1) 0 n, .sl .nil [], .own (s.nxt + 2) 0 n, .sl .nil []]]))).new .res).new .res).set (s.nxt + 3) (some (.row 4 (List.replicate n (.bool false))))).set s.nxt (some (.row 88 [.agg [.own (s.nxt + 1) 0 n, .own (s.nxt + 3) 0 n, .own (s.nxt + 2) 0 n, .sl .nil []]]))), (((((((((((s.new (.row 88 [.agg [.sl .nil [], .sl .nil [], .sl .nil [], .sl .nil []]])).new .res).new .res).set (s.nxt + 1) (some (.row 4 (List.replicate n (.bool false))))).set (s.nxt + 2) (some (.row 24 (List.replicate n (.int .u16 0))))).set s.nxt (some (.row 88 [.agg [.own (s.nxt + 1) 0 n, .sl .nil [], .own (s.nxt + 2) 0 n, .sl .nil []]]))).new .res).new .res).set (s.nxt + 3) (some (.row 4 (List.replicate n (.bool false))))).set (s.nxt + 4) (some (.row 24 (List.replicate n (.int .u16 0))))).set s.nxt (some (.row 88 [.agg [.own (s.nxt + 1) 0 n, .own (s.nxt + 3) 0 n, .own (s.nxt + 2) 0 n, .sl .nil []]])))] (by kernel_rfl) rfl au ?_
        refine DetHC.resMake (s.nxt + 3) n [(0, 1), (2, 3)] [(((((((((s.new (.row 88 [.agg [.sl .nil [], .sl .nil [], .sl .nil [], .sl .nil []]])).new .res).new .res).set (s.nxt + 1) (some (.row 4 (List.replicate n (.bool false))))).set (s.nxt + 2) (some (.row 24 (List.replicate n (.int .u16 0))))).set s.nxt (some (.row 88 [.agg [.own (s.nxt + 1) 0 n, .sl .nil [], .own (s.nxt + 2) 0 n, .sl .nil []]]))).new .res).new .res), (((((((((s.new (.row 88 [.agg [.sl .nil [], .sl .nil [], .sl .nil [], .sl .nil []]])).new .res).new .res).set (s.nxt + 1) (some (.row 4 (List.replicate n (.bool false))))).set (s.nxt + 2) (some (.row 24 (List.replicate n (.int .u16 0))))).set s.nxt (some (.row 88 [.agg [.own (s.nxt + 1) 0 n, .sl .nil [], .own (s.nxt + 2) 0 n, .sl .nil []]]))).new .res).new .res).set (s.nxt + 3) (some (.row 4 (List.replicate n (.bool false)))))), ((((((((((s.new (.row 88 [.agg [.sl .nil [], .sl .nil [], .sl .nil [], .sl .nil []]])).new .res).new .res).set (s.nxt + 1) (some (.row 4 (List.replicate n (.bool false))))).set (s.nxt + 2) (some (.row 24 (List.replicate n (.int .u16 0))))).set s.nxt (some (.row 88 [.agg [.own (s.nxt + 1) 0 n, .sl .nil [], .own (s.nxt + 2) 0 n, .sl .nil []]]))).new .res).new .res).set (s.nxt + 4) (some (.row 24 (List.replicate n (.int .u16 0))))), ((((((((((s.new (.row 88 [.agg [.sl .nil [], .sl .nil [], .sl .nil [], .sl .nil []]])).new .res).new .res).set (s.nxt + 1) (some (.row 4 (List.replicate n (.bool false))))).set (s.nxt + 2) (some (.row 24 (List.replicate n (.int .u16 0))))).set s.nxt (some (.row 88 [.agg [.own (s.nxt + 1) 0 n, .sl .nil [], .own (s.nxt + 2) 0 n, .sl .nil []]]))).new .res).new .res).set (s.nxt + 3) (some (.row 4 (List.replicate n (.bool false))))).set (s.nxt + 4) (some (.row 24 (List.replicate n (.int .u16 0))))))] (by kernel_rfl) rfl au au au Try.td23 (by rw [Try.zp4]) (by omega) (by rw [Try.by4]; omega) (by intro q hq; simp only [List.mem_cons, List.not_mem_nil, or_false] at hq; rcases hq with rfl | rfl <;> refine ⟨by simp (disch := first | omega | (simp only [nxt_set, nxt_new] <;> omega) | fail) only [go_sem], ?_⟩ <;> first | rfl | exact St.eq_of rfl fun i => by (simp only [blk_set, blk_new, nxt_new, nxt_set]; (repeat' split) <;> first | rfl | (exfalso; omega))) ?_
        refine DetHC.pre (pre := [_]) (s1 := ((((((((s.new (.row 88 [.agg [.sl .nil [], .sl .nil [], .sl .nil [], .sl .nil []]])).new .res).new .res).set (s.nxt + 1) (some (.row 4 (List.replicate n (.bool false))))).set (s.nxt + 2) (some (.row 24 (List.replicate n (.int .u16 0))))).set s.nxt (some (.row 88 [.agg [.own (s.nxt + 1) 0 n, .sl .nil [], .own (s.nxt + 2) 0 n, .sl .nil []]]))).new .res).new .res)) [0, 1, 4] [((((((((s.new (.row 88 [.agg [.sl .nil [], .sl .nil [], .sl .nil [], .sl .nil []]])).new .res).new .res).set (s.nxt + 1) (some (.row 4 (List.replicate n (.bool false))))).set (s.nxt + 2) (some (.row 24 (List.replicate n (.int .u16 0))))).set s.nxt (some (.row 88 [.agg [.own (s.nxt + 1) 0 n, .sl .nil [], .own (s.nxt + 2) 0 n, .sl .nil []]]))).new .res).new .res), (((((((((s.new (.row 88 [.agg [.sl .nil [], .sl .nil [], .sl .nil [], .sl .nil []]])).new .res).new .res).set (s.nxt + 1) (some (.row 4 (List.replicate n (.bool false))))).set (s.nxt + 2) (some (.row 24 (List.replicate n (.int .u16 0))))).set s.nxt (some (.row 88 [.agg [.own (s.nxt + 1) 0 n, .sl .nil [], .own (s.nxt + 2) 0 n, .sl .nil []]]))).new .res).new .res).set (s.nxt + 3) (some (.row 4 (List.replicate n (.bool false))))), ((((((((((s.new (.row 88 [.agg [.sl .nil [], .sl .nil [], .sl .nil [], .sl .nil []]])).new .res).new .res).set (s.nxt + 1) (some (.row 4 (List.replicate n (.bool false))))).set (s.nxt + 2) (some (.row 24 (List.replicate n (.int .u16 0))))).set s.nxt (some (.row 88 [.agg [.own (s.nxt + 1) 0 n, .sl .nil [], .own (s.nxt + 2) 0 n, .sl .nil []]]))).new .res).new .res).set (s.nxt + 3) (some (.row 4 (List.replicate n (.bool false))))).set s.nxt (some (.row 88 [.agg [.own (s.nxt + 1) 0 n, .own (s.nxt + 3) 0 n, .own (s.nxt + 2) 0 n, .sl .nil []]])))] (by kernel_rfl) rfl au ?_
        refine DetHC.resMake (s.nxt + 4) n [(0, 2), (1, 3), (4, 5)] [(((((((((s.new (.row 88 [.agg [.sl .nil [], .sl .nil [], .sl .nil [], .sl .nil []]])).new .res).new .res).set (s.nxt + 1) (some (.row 4 (List.replicate n (.bool false))))).set (s.nxt + 2) (some (.row 24 (List.replicate n (.int .u16 0))))).set s.nxt (some (.row 88 [.agg [.own (s.nxt + 1) 0 n, .sl .nil [], .own (s.nxt + 2) 0 n, .sl .nil []]]))).new .res).new .res), (((((((((s.new (.row 88 [.agg [.sl .nil [], .sl .nil [], .sl .nil [], .sl .nil []]])).new .res).new .res).set (s.nxt + 1) (some (.row 4 (List.replicate n (.bool false))))).set (s.nxt + 2) (some (.row 24 (List.replicate n (.int .u16 0))))).set s.nxt (some (.row 88 [.agg [.own (s.nxt + 1) 0 n, .sl .nil [], .own (s.nxt + 2) 0 n, .sl .nil []]]))).new .res).new .res).set (s.nxt + 4) (some (.row 24 (List.replicate n (.int .u16 0)))))), ((((((((((s.new (.row 88 [.agg [.sl .nil [], .sl .nil [], .sl .nil [], .sl .nil []]])).new .res).new .res).set (s.nxt + 1) (some (.row 4 (List.replicate n (.bool false))))).set (s.nxt + 2) (some (.row 24 (List.replicate n (.int .u16 0))))).set s.nxt (some (.row 88 [.agg [.own (s.nxt + 1) 0 n, .sl .nil [], .own (s.nxt + 2) 0 n, .sl .nil []]]))).new .res).new .res).set (s.nxt + 3) (some (.row 4 (List.replicate n (.bool false))))), ((((((((((s.new (.row 88 [.agg [.sl .nil [], .sl .nil [], .sl .nil [], .sl .nil []]])).new .res).new .res).set (s.nxt + 1) (some (.row 4 (List.replicate n (.bool false))))).set (s.nxt + 2) (some (.row 24 (List.replicate n (.int .u16 0))))).set s.nxt (some (.row 88 [.agg [.own (s.nxt + 1) 0 n, .sl .nil [], .own (s.nxt + 2) 0 n, .sl .nil []]]))).new .res).new .res).set (s.nxt + 3) (some (.row 4 (List.replicate n (.bool false))))).set (s.nxt + 4) (some (.row 24 (List.replicate n (.int .u16 0)))))), (((((((((((s.new (.row 88 [.agg [.sl .nil [], .sl .nil [], .sl .nil [], .sl .nil []]])).new .res).new .res).set (s.nxt + 1) (some (.row 4 (List.replicate n (.bool false))))).set (s.nxt + 2) (some (.row 24 (List.replicate n (.int .u16 0))))).set s.nxt (some (.row 88 [.agg [.own (s.nxt + 1) 0 n, .sl .nil [], .own (s.nxt + 2) 0 n, .sl .nil []]]))).new .res).new .res).set (s.nxt + 3) (some (.row 4 (List.replicate n (.bool false))))).set s.nxt (some (.row 88 [.agg [.own (s.nxt + 1) 0 n, .own (s.nxt + 3) 0 n, .own (s.nxt + 2) 0 n, .sl .nil []]]))), (((((((((((s.new (.row 88 [.agg [.sl .nil [], .sl .nil [], .sl .nil [], .sl .nil []]])).new .res).new .res).set (s.nxt + 1) (some (.row 4 (List.replicate n (.bool false))))).set (s.nxt + 2) (some (.row 24 (List.replicate n (.int .u16 0))))).set s.nxt (some (.row 88 [.agg [.own (s.nxt + 1) 0 n, .sl .nil [], .own (s.nxt + 2) 0 n, .sl .nil []]]))).new .res).new .res).set (s.nxt + 3) (some (.row 4 (List.replicate n (.bool false))))).set (s.nxt + 4) (some (.row 24 (List.replicate n (.int .u16 0))))).set s.nxt (some (.row 88 [.agg [.own (s.nxt + 1) 0 n, .own (s.nxt + 3) 0 n, .own (s.nxt + 2) 0 n, .sl .nil []]]))))] (by kernel_rfl) rfl au au au Try.td22 (by rw [Try.zp24]) (by omega) (by rw [Try.by24]; omega) (by intro q hq; simp only [List.mem_cons, List.not_mem_nil, or_false] at hq; rcases hq with rfl | rfl | rfl <;> refine ⟨by simp (disch := first | omega | (simp only [nxt_set, nxt_new] <;> omega) | fail) only [go_sem], ?_⟩ <;> first | rfl | exact St.eq_of rfl fun i => by (simp only [blk_set, blk_new, nxt_new, nxt_set]; (repeat' split) <;> first | rfl | (exfalso; omega))) ?_
        refine DetHC.pre (pre := [_, _, _]) (s1 := ((((((((s.new (.row 88 [.agg [.sl .nil [], .sl .nil [], .sl .nil [], .sl .nil []]])).new .res).new .res).set (s.nxt + 1) (some (.row 4 (List.replicate n (.bool false))))).set (s.nxt + 2) (some (.row 24 (List.replicate n (.int .u16 0))))).set s.nxt (some (.row 88 [.agg [.own (s.nxt + 1) 0 n, .sl .nil [], .own (s.nxt + 2) 0 n, .sl .nil []]]))).new .res).new .res)) [0, 1, 2, 3] [((((((((s.new (.row 88 [.agg [.sl .nil [], .sl .nil [], .sl .nil [], .sl .nil []]])).new .res).new .res).set (s.nxt + 1) (some (.row 4 (List.replicate n (.bool false))))).set (s.nxt + 2) (some (.row 24 (List.replicate n (.int .u16 0))))).set s.nxt (some (.row 88 [.agg [.own (s.nxt + 1) 0 n, .sl .nil [], .own (s.nxt + 2) 0 n, .sl .nil []]]))).new .res).new .res), (((((((((s.new (.row 88 [.agg [.sl .nil [], .sl .nil [], .sl .nil [], .sl .nil []]])).new .res).new .res).set (s.nxt + 1) (some (.row 4 (List.replicate n (.bool false))))).set (s.nxt + 2) (some (.row 24 (List.replicate n (.int .u16 0))))).set s.nxt (some (.row 88 [.agg [.own (s.nxt + 1) 0 n, .sl .nil [], .own (s.nxt + 2) 0 n, .sl .nil []]]))).new .res).new .res).set (s.nxt + 3) (some (.row 4 (List.replicate n (.bool false))))), (((((((((s.new (.row 88 [.agg [.sl .nil [], .sl .nil [], .sl .nil [], .sl .nil []]])).new .res).new .res).set (s.nxt + 1) (some (.row 4 (List.replicate n (.bool false))))).set (s.nxt + 2) (some (.row 24 (List.replicate n (.int .u16 0))))).set s.nxt (some (.row 88 [.agg [.own (s.nxt + 1) 0 n, .sl .nil [], .own (s.nxt + 2) 0 n, .sl .nil []]]))).new .res).new .res).set (s.nxt + 4) (some (.row 24 (List.replicate n (.int .u16 0))))), ((((((((((s.new (.row 88 [.agg [.sl .nil [], .sl .nil [], .sl .nil [], .sl .nil []]])).new .res).new .res).set (s.nxt + 1) (some (.row 4 (List.replicate n (.bool false))))).set (s.nxt + 2) (some (.row 24 (List.replicate n (.int .u16 0))))).set s.nxt (some (.row 88 [.agg [.own (s.nxt + 1) 0 n, .sl .nil [], .own (s.nxt + 2) 0 n, .sl .nil []]]))).new .res).new .res).set (s.nxt + 3) (some (.row 4 (List.replicate n (.bool false))))).set (s.nxt + 4) (some (.row 24 (List.replicate n (.int .u16 0)))))] (by kernel_rfl) rfl au ?_
        refine DetHC.eff [(1, 4), (3, 5)] ((((((((((s.new (.row 88 [.agg [.sl .nil [], .sl .nil [], .sl .nil [], .sl .nil []]])).new .res).new .res).set (s.nxt + 1) (some (.row 4 (List.replicate n (.bool false))))).set (s.nxt + 2) (some (.row 24 (List.replicate n (.int .u16 0))))).set s.nxt (some (.row 88 [.agg [.own (s.nxt + 1) 0 n, .sl .nil [], .own (s.nxt + 2) 0 n, .sl .nil []]]))).new .res).new .res).set (s.nxt + 3) (some (.row 4 (List.replicate n (.bool false)))))) (((((((((((s.new (.row 88 [.agg [.sl .nil [], .sl .nil [], .sl .nil [], .sl .nil []]])).new .res).new .res).set (s.nxt + 1) (some (.row 4 (List.replicate n (.bool false))))).set (s.nxt + 2) (some (.row 24 (List.replicate n (.int .u16 0))))).set s.nxt (some (.row 88 [.agg [.own (s.nxt + 1) 0 n, .sl .nil [], .own (s.nxt + 2) 0 n, .sl .nil []]]))).new .res).new .res).set (s.nxt + 3) (some (.row 4 (List.replicate n (.bool false))))).set s.nxt (some (.row 88 [.agg [.own (s.nxt + 1) 0 n, .own (s.nxt + 3) 0 n, .own (s.nxt + 2) 0 n, .sl .nil []]])))) [(((((((((((s.new (.row 88 [.agg [.sl .nil [], .sl .nil [], .sl .nil [], .sl .nil []]])).new .res).new .res).set (s.nxt + 1) (some (.row 4 (List.replicate n (.bool false))))).set (s.nxt + 2) (some (.row 24 (List.replicate n (.int .u16 0))))).set s.nxt (some (.row 88 [.agg [.own (s.nxt + 1) 0 n, .sl .nil [], .own (s.nxt + 2) 0 n, .sl .nil []]]))).new .res).new .res).set (s.nxt + 3) (some (.row 4 (List.replicate n (.bool false))))).set (s.nxt + 4) (some (.row 24 (List.replicate n (.int .u16 0))))), (((((((((((s.new (.row 88 [.agg [.sl .nil [], .sl .nil [], .sl .nil [], .sl .nil []]])).new .res).new .res).set (s.nxt + 1) (some (.row 4 (List.replicate n (.bool false))))).set (s.nxt + 2) (some (.row 24 (List.replicate n (.int .u16 0))))).set s.nxt (some (.row 88 [.agg [.own (s.nxt + 1) 0 n, .sl .nil [], .own (s.nxt + 2) 0 n, .sl .nil []]]))).new .res).new .res).set (s.nxt + 3) (some (.row 4 (List.replicate n (.bool false))))).set (s.nxt + 4) (some (.row 24 (List.replicate n (.int .u16 0))))).set s.nxt (some (.row 88 [.agg [.own (s.nxt + 1) 0 n, .own (s.nxt + 3) 0 n, .own (s.nxt + 2) 0 n, .sl .nil []]]))))] (by kernel_rfl) rfl au au au ?_
        refine DetHC.pre (pre := [_, _, _]) (s1 := ((((((((s.new (.row 88 [.agg [.sl .nil [], .sl .nil [], .sl .nil [], .sl .nil []]])).new .res).new .res).set (s.nxt + 1) (some (.row 4 (List.replicate n (.bool false))))).set (s.nxt + 2) (some (.row 24 (List.replicate n (.int .u16 0))))).set s.nxt (some (.row 88 [.agg [.own (s.nxt + 1) 0 n, .sl .nil [], .own (s.nxt + 2) 0 n, .sl .nil []]]))).new .res).new .res)) [0, 1, 2, 3, 4, 5] [((((((((s.new (.row 88 [.agg [.sl .nil [], .sl .nil [], .sl .nil [], .sl .nil []]])).new .res).new .res).set (s.nxt + 1) (some (.row 4 (List.replicate n (.bool false))))).set (s.nxt + 2) (some (.row 24 (List.replicate n (.int .u16 0))))).set s.nxt (some (.row 88 [.agg [.own (s.nxt + 1) 0 n, .sl .nil [], .own (s.nxt + 2) 0 n, .sl .nil []]]))).new .res).new .res), (((((((((s.new (.row 88 [.agg [.sl .nil [], .sl .nil [], .sl .nil [], .sl .nil []]])).new .res).new .res).set (s.nxt + 1) (some (.row 4 (List.replicate n (.bool false))))).set (s.nxt + 2) (some (.row 24 (List.replicate n (.int .u16 0))))).set s.nxt (some (.row 88 [.agg [.own (s.nxt + 1) 0 n, .sl .nil [], .own (s.nxt + 2) 0 n, .sl .nil []]]))).new .res).new .res).set (s.nxt + 3) (some (.row 4 (List.replicate n (.bool false))))), (((((((((s.new (.row 88 [.agg [.sl .nil [], .sl .nil [], .sl .nil [], .sl .nil []]])).new .res).new .res).set (s.nxt + 1) (some (.row 4 (List.replicate n (.bool false))))).set (s.nxt + 2) (some (.row 24 (List.replicate n (.int .u16 0))))).set s.nxt (some (.row 88 [.agg [.own (s.nxt + 1) 0 n, .sl .nil [], .own (s.nxt + 2) 0 n, .sl .nil []]]))).new .res).new .res).set (s.nxt + 4) (some (.row 24 (List.replicate n (.int .u16 0))))), ((((((((((s.new (.row 88 [.agg [.sl .nil [], .sl .nil [], .sl .nil [], .sl .nil []]])).new .res).new .res).set (s.nxt + 1) (some (.row 4 (List.replicate n (.bool false))))).set (s.nxt + 2) (some (.row 24 (List.replicate n (.int .u16 0))))).set s.nxt (some (.row 88 [.agg [.own (s.nxt + 1) 0 n, .sl .nil [], .own (s.nxt + 2) 0 n, .sl .nil []]]))).new .res).new .res).set (s.nxt + 3) (some (.row 4 (List.replicate n (.bool false))))).set (s.nxt + 4) (some (.row 24 (List.replicate n (.int .u16 0))))), ((((((((((s.new (.row 88 [.agg [.sl .nil [], .sl .nil [], .sl .nil [], .sl .nil []]])).new .res).new .res).set (s.nxt + 1) (some (.row 4 (List.replicate n (.bool false))))).set (s.nxt + 2) (some (.row 24 (List.replicate n (.int .u16 0))))).set s.nxt (some (.row 88 [.agg [.own (s.nxt + 1) 0 n, .sl .nil [], .own (s.nxt + 2) 0 n, .sl .nil []]]))).new .res).new .res).set (s.nxt + 3) (some (.row 4 (List.replicate n (.bool false))))).set s.nxt (some (.row 88 [.agg [.own (s.nxt + 1) 0 n, .own (s.nxt + 3) 0 n, .own (s.nxt + 2) 0 n, .sl .nil []]]))), (((((((((((s.new (.row 88 [.agg [.sl .nil [], .sl .nil [], .sl .nil [], .sl .nil []]])).new .res).new .res).set (s.nxt + 1) (some (.row 4 (List.replicate n (.bool false))))).set (s.nxt + 2) (some (.row 24 (List.replicate n (.int .u16 0))))).set s.nxt (some (.row 88 [.agg [.own (s.nxt + 1) 0 n, .sl .nil [], .own (s.nxt + 2) 0 n, .sl .nil []]]))).new .res).new .res).set (s.nxt + 3) (some (.row 4 (List.replicate n (.bool false))))).set (s.nxt + 4) (some (.row 24 (List.replicate n (.int .u16 0))))).set s.nxt (some (.row 88 [.agg [.own (s.nxt + 1) 0 n, .own (s.nxt + 3) 0 n, .own (s.nxt + 2) 0 n, .sl .nil []]])))] (by kernel_rfl) rfl au ?_
        refine DetHC.eff [(5, 6)] ((((((((((((s.new (.row 88 [.agg [.sl .nil [], .sl .nil [], .sl .nil [], .sl .nil []]])).new .res).new .res).set (s.nxt + 1) (some (.row 4 (List.replicate n (.bool false))))).set (s.nxt + 2) (some (.row 24 (List.replicate n (.int .u16 0))))).set s.nxt (some (.row 88 [.agg [.own (s.nxt + 1) 0 n, .sl .nil [], .own (s.nxt + 2) 0 n, .sl .nil []]]))).new .res).new .res).set (s.nxt + 3) (some (.row 4 (List.replicate n (.bool false))))).set (s.nxt + 4) (some (.row 24 (List.replicate n (.int .u16 0))))).set s.nxt (some (.row 88 [.agg [.own (s.nxt + 1) 0 n, .own (s.nxt + 3) 0 n, .own (s.nxt + 2) 0 n, .sl .nil []]])))) ((((((((((((s.new (.row 88 [.agg [.sl .nil [], .sl .nil [], .sl .nil [], .sl .nil []]])).new .res).new .res).set (s.nxt + 1) (some (.row 4 (List.replicate n (.bool false))))).set (s.nxt + 2) (some (.row 24 (List.replicate n (.int .u16 0))))).set s.nxt (some (.row 88 [.agg [.own (s.nxt + 1) 0 n, .sl .nil [], .own (s.nxt + 2) 0 n, .sl .nil []]]))).new .res).new .res).set (s.nxt + 3) (some (.row 4 (List.replicate n (.bool false))))).set (s.nxt + 4) (some (.row 24 (List.replicate n (.int .u16 0))))).set s.nxt (some (.row 88 [.agg [.own (s.nxt + 1) 0 n, .own (s.nxt + 3) 0 n, .own (s.nxt + 2) 0 n, .own (s.nxt + 4) 0 n]])))) [] (by kernel_rfl) rfl au au au ?_
        refine DetHC.nil ?_
        refine rl [0, 3, 13] (k := rB (k := rg [0, 3, 13] (k := ?_)))
        refine Run.lp ⟨⟨2, by decide, by rfl, by rfl⟩, ?_⟩
        simp only [ivar, go_sem, ↓reduceIte, Nat.reduceEqDiff]
        decide
      · cases hc1
    · refine rs (k := rg [0, 3, 13, 14] (k := rs (k := rc (ht := fun hc1 => ?_) (hf := fun hc1 => ?_))))
      · cases hc1
      · refine rX (k := rs (k := rg [2] (k := rR (k := ?_))))
        exact Ret.all (by simp only [Try.f18, go_sem, ↓reduceIte] <;> rfl) ⟨rfl, rfl⟩
end Go.Proofs
namespace Go.Proofs
open Go.PM
set_option maxHeartbeats 2000000
theorem store_fl0 {s : St} {st b0 b1 v0 v1 n : Nat} (hst : s.blk st = some (.row 88 [.agg [.own b0 0 n, .own b1 0 n, .own v0 0 n, .own v1 0 n]])) : ACalls Try.prog 94 [.ptr st 0 0, .int .i64 0] s (fun r s' => r = .own b0 0 n ∧ s' = s) := by
  refine go Try.func94 (k := fun hwf H => ?_)
  have f0 : ((0 : Int) < ((2 : Nat) : Int)) = True := by decide
  have f1 : ((1 : Int) < ((2 : Nat) : Int)) = True := by decide
  have ft : Int.toNat 1 = 1 := rfl
  have f2 : ((0 : Int) ≤ 1) = True := by decide
  have H := aj f0 (aj f1 (aj ft (aj f2 H)))
  have hw : IntKind.i64.wrap (0 - 2) = -2 := by decide
  have H := aj hw H
  have H := aj hst H
  refine rs (k := rg [0, 1] (k := rs (k := rs (k := rg [0, 1, 10] (k := rc (ht := fun hc0 => ?_) (hf := fun hc0 => ?_))))))
  · cases hc0
  · refine rk (k := rs (k := rg [4] (k := rR (k := ?_))))
    exact Ret.all (by simp only [Try.f94, go_sem, ↓reduceIte] <;> rfl) ⟨rfl, rfl⟩
theorem store_fl1 {s : St} {st b0 b1 v0 v1 n : Nat} (hst : s.blk st = some (.row 88 [.agg [.own b0 0 n, .own b1 0 n, .own v0 0 n, .own v1 0 n]])) : ACalls Try.prog 94 [.ptr st 0 0, .int .i64 1] s (fun r s' => r = .own b1 0 n ∧ s' = s) := by
  refine go Try.func94 (k := fun hwf H => ?_)
  have f0 : ((0 : Int) < ((2 : Nat) : Int)) = True := by decide
  have f1 : ((1 : Int) < ((2 : Nat) : Int)) = True := by decide
  have ft : Int.toNat 1 = 1 := rfl
  have f2 : ((0 : Int) ≤ 1) = True := by decide
  have H := aj f0 (aj f1 (aj ft (aj f2 H)))
  have hw : IntKind.i64.wrap (1 - 2) = -1 := by decide
  have H := aj hw H
  have H := aj hst H
  refine rs (k := rg [0, 1] (k := rs (k := rs (k := rg [0, 1, 10] (k := rc (ht := fun hc0 => ?_) (hf := fun hc0 => ?_))))))
  · cases hc0
  · refine rk (k := rs (k := rg [4] (k := rR (k := ?_))))
    exact Ret.all (by simp only [Try.f94, go_sem, ↓reduceIte] <;> rfl) ⟨rfl, rfl⟩
theorem store_fl2 {s : St} {st b0 b1 v0 v1 n : Nat} (hst : s.blk st = some (.row 88 [.agg [.own b0 0 n, .own b1 0 n, .own v0 0 n, .own v1 0 n]])) : ACalls Try.prog 55 [.ptr st 0 0, .int .i64 2] s (fun r s' => r = .own v0 0 n ∧ s' = s) := by
  refine go Try.func55 (k := fun hwf H => ?_)
  have f0 : ((0 : Int) < ((2 : Nat) : Int)) = True := by decide
  have f1 : ((1 : Int) < ((2 : Nat) : Int)) = True := by decide
  have ft : Int.toNat 1 = 1 := rfl
  have f2 : ((0 : Int) ≤ 1) = True := by decide
  have H := aj f0 (aj f1 (aj ft (aj f2 H)))
  have hw : IntKind.i64.wrap (2 - 2) = 0 := by decide
  have H := aj hw H
  have H := aj hst H
  refine rs (k := rg [0, 1] (k := rs (k := rs (k := rg [0, 1, 10] (k := rc (ht := fun hc0 => ?_) (hf := fun hc0 => ?_))))))
  · cases hc0
  · refine rk (k := rs (k := rg [4] (k := rR (k := ?_))))
    exact Ret.all (by simp only [Try.f55, go_sem, ↓reduceIte] <;> rfl) ⟨rfl, rfl⟩
theorem store_fl3 {s : St} {st b0 b1 v0 v1 n : Nat} (hst : s.blk st = some (.row 88 [.agg [.own b0 0 n, .own b1 0 n, .own v0 0 n, .own v1 0 n]])) : ACalls Try.prog 55 [.ptr st 0 0, .int .i64 3] s (fun r s' => r = .own v1 0 n ∧ s' = s) := by
  refine go Try.func55 (k := fun hwf H => ?_)
  have f0 : ((0 : Int) < ((2 : Nat) : Int)) = True := by decide
  have f1 : ((1 : Int) < ((2 : Nat) : Int)) = True := by decide
  have ft : Int.toNat 1 = 1 := rfl
  have f2 : ((0 : Int) ≤ 1) = True := by decide
  have H := aj f0 (aj f1 (aj ft (aj f2 H)))
  have hw : IntKind.i64.wrap (3 - 2) = 1 := by decide
  have H := aj hw H
  have H := aj hst H
  refine rs (k := rg [0, 1] (k := rs (k := rs (k := rg [0, 1, 10] (k := rc (ht := fun hc0 => ?_) (hf := fun hc0 => ?_))))))
  · cases hc0
  · refine rk (k := rs (k := rg [4] (k := rR (k := ?_))))
    exact Ret.all (by simp only [Try.f55, go_sem, ↓reduceIte] <;> rfl) ⟨rfl, rfl⟩
theorem store_Len {s : St} {st b0 b1 v0 v1 n : Nat} (hst : s.blk st = some (.row 88 [.agg [.own b0 0 n, .own b1 0 n, .own v0 0 n, .own v1 0 n]])) : ACalls Try.prog 85 [.ptr st 0 0] s (fun r s' => r = .int .i64 n ∧ s' = s) := by
  refine go Try.func85 (k := fun hwf H => ?_)
  have f0 : ((0 : Int) < ((2 : Nat) : Int)) = True := by decide
  have f1 : ((1 : Int) < ((2 : Nat) : Int)) = True := by decide
  have ft : Int.toNat 1 = 1 := rfl
  have f2 : ((0 : Int) ≤ 1) = True := by decide
  have H := aj f0 (aj f1 (aj ft (aj f2 H)))
  have H := aj hst H
  refine rs (k := rg [0] (k := rs (k := rg [2] (k := rR (k := ?_)))))
  exact Ret.all (by simp only [Try.f85, go_sem, ↓reduceIte] <;> rfl) ⟨rfl, rfl⟩
theorem store_there {s : St} {st b0 b1 v0 v1 n : Nat} (hst : s.blk st = some (.row 88 [.agg [.own b0 0 n, .own b1 0 n, .own v0 0 n, .own v1 0 n]])) (hn : n ≤ 65536) {a m : Int} (ha : I64 a) : ACalls Try.prog 56 [.ptr st 0 0, .int .i64 a, .int .i64 m] s (fun r s' => r = .bool (thereF n a m) ∧ s' = s) := by
  refine go Try.func56 (k := fun hwf H => ?_)
  have H := aj hst H
  refine rs (k := rg [0, 1, 2] (k := rs (k := rr (k := ro (pre := [_, _, _, _, _, _, _, _, _]) (k := rG (h := fun hb => store_Len hst) (k := ro (pre := [_, _, _, _, _]) (k := rG (h := fun hb => store_Len hst) (k := rh [6] (k := rR (k := ?_))))))))))
  refine Ret.all (by simp only [Try.f56, go_sem, ↓reduceIte] <;> rfl) ⟨?_, rfl⟩
  refine congrArg PV.bool ?_
  unfold thereF
  by_cases h0 : 0 ≤ a
  · by_cases h3 : a ≤ n
    · have hw : IntKind.i64.wrap ((n : Int) - a) = n - a := wrap_i64 (by omega)
      rw [hw, Bool.eq_iff_iff]
      simp only [Bool.and_eq_true, decide_eq_true_eq]
      omega
    · simp [h3]
  · simp [h0]
theorem clone_own_bool {l ys : List Bool} {id off m : Nat} {s : St} (hb : s.blk id = some (.row 4 (l.map PV.bool))) (hys : (l.drop off).take m = ys) (hle : off + m ≤ l.length) (hl : l.length ≤ 65536) : ACalls Try.prog 95 [.own id off m] s (fun r s' => r = .sl .unk (ys.map PV.bool) ∧ s' = s) := by
  refine go Try.func95 (k := fun hwf H => ?_)
  have hyl : ys.length ≤ 65536 := by rw [← hys, List.length_take, List.length_drop]; omega
  refine rs (k := rg [0] (k := rs (k := rs (k := rg [0, 4] (k := rc (ht := fun hc0 => ?_) (hf := fun hc0 => ?_))))))
  · cases hc0
  · refine rk (k := rs (k := rr (k := rO (k := ro (pre := [_]) (k := ?_)))))
    refine RunO.appendFrom (els := l.map PV.bool) (ys := ys.map PV.bool) au au au hb (by rw [← hys, List.map_take, List.map_drop]) (by rw [List.length_map]; exact hle) Try.td23 (by rw [Try.zp4]; rfl) (isEls_map (P := Try.prog) (e := 4) (f := PV.bool) (fun a => ⟨rfl, by rw [Try.cz4]; rfl⟩) _) (by rw [Try.by4]; decide) (by rw [Try.by4, List.length_map]; omega) (.inr rfl) ?_
    intro k1 s1 hm1
    refine rh [2] (k := rR (k := ?_))
    refine Ret.pure (r' := .sl .unk (ys.map PV.bool)) (by simp only [Try.f95, go_sem, ↓reduceIte] <;> rfl) (by simp only [PV.weak, weaks_bools]) (by simp only [PV.blw]; exact ⟨fun t z e => (by cases e), (by rw [blws_boolsT]; trivial)⟩) hwf (hm1.fr hwf).blk ⟨rfl, rfl⟩
theorem clone_own_uint16 {l ys : List Int} {id off m : Nat} {s : St} (hb : s.blk id = some (.row 24 (l.map (PV.int .u16)))) (hys : (l.drop off).take m = ys) (hle : off + m ≤ l.length) (hl : l.length ≤ 65536) : ACalls Try.prog 57 [.own id off m] s (fun r s' => r = .sl .unk (ys.map (PV.int .u16)) ∧ s' = s) := by
  refine go Try.func57 (k := fun hwf H => ?_)
  have hyl : ys.length ≤ 65536 := by rw [← hys, List.length_take, List.length_drop]; omega
  refine rs (k := rg [0] (k := rs (k := rs (k := rg [0, 4] (k := rc (ht := fun hc0 => ?_) (hf := fun hc0 => ?_))))))
  · cases hc0
  · refine rk (k := rs (k := rr (k := rO (k := ro (pre := [_]) (k := ?_)))))
    refine RunO.appendFrom (els := l.map (PV.int .u16)) (ys := ys.map (PV.int .u16)) au au au hb (by rw [← hys, List.map_take, List.map_drop]) (by rw [List.length_map]; exact hle) Try.td22 (by rw [Try.zp24]; rfl) (isEls_map (P := Try.prog) (e := 24) (f := (PV.int .u16)) (fun a => ⟨rfl, by rw [Try.cz24]; rfl⟩) _) (by rw [Try.by24]; decide) (by rw [Try.by24, List.length_map]; omega) (.inr rfl) ?_
    intro k1 s1 hm1
    refine rh [2] (k := rR (k := ?_))
    refine Ret.pure (r' := .sl .unk (ys.map (PV.int .u16))) (by simp only [Try.f57, go_sem, ↓reduceIte] <;> rfl) (by simp only [PV.weak, weaks_u16]) (by simp only [PV.blw]; exact ⟨fun t z e => (by cases e), blws_u16 _ _⟩) hwf (hm1.fr hwf).blk ⟨rfl, rfl⟩
theorem store_get0 {s : St} {st b0 b1 v0 v1 n : Nat} (hst : s.blk st = some (.row 88 [.agg [.own b0 0 n, .own b1 0 n, .own v0 0 n, .own v1 0 n]])) {l : List Bool} (hb : s.blk b0 = some (.row 4 (l.map PV.bool))) (hn : l.length = n) (hn2 : n ≤ 65536) {a m : Int} (ha : I64 a) (hm : 1 ≤ m) : ACalls Try.prog 79 [.ptr st 0 0, .int .i64 0, .int .i64 a, .int .i64 m] s (fun r s' => r = .tuple [.sl .unk ((cutF l a m).map PV.bool), .bool (thereF n a m)] ∧ s' = s) := by
  refine go Try.func79 (k := fun hwf H => ?_)
  have H := aj hst (aj hb H)
  refine rs (k := rg [0, 1, 2, 3] (k := rs (k := rr (k := ro (pre := [_, _]) (k := ?_)))))
  refine RunO.callw au au au (by kernel_rfl) ((store_fl0 hst).mono ?_)
  rintro r s1 ⟨rfl, hs⟩
  subst s1
  refine rh [0, 2, 3, 10] (k := rs (k := rs (k := rr (k := ro (pre := [_, _, _, _, _, _]) (k := rG (h := fun hb => store_there hst hn2 ha) (k := rh [2, 3, 10, 22] (k := rc (ht := fun hc0 => ?_) (hf := fun hc0 => ?_))))))))
  · refine rs (k := rg [8, 9] (k := rR (k := ?_)))
    first
      | (have htF : thereF n a m = false := by simpa using hc0
         refine Ret.pure (r' := .tuple [.sl .unk ((cutF l a m).map PV.bool), .bool (thereF n a m)]) (by simp only [Try.f79, go_sem, ↓reduceIte] <;> rfl) ?_ (by simp only [PV.blw, PV.blws, blws_boolsT, and_true, true_and]; exact fun t z e => (by cases e)) hwf (fun _ _ => rfl) ⟨rfl, rfl⟩
         simp only [PV.weak, PV.weaks, weaks_bools]
         unfold cutF
         rw [hn, htF]; rfl)
      | (refine Ret.pure (r' := .tuple [.sl .unk ((cutF l (x : Int) (y : Int)).map PV.bool), .bool (thereF n (x : Int) (y : Int))]) (by simp only [Try.f79, go_sem, ↓reduceIte] <;> rfl) ?_ (by simp only [PV.blw, PV.blws, blws_boolsT, and_true, true_and]; exact fun t z e => (by cases e)) hwf (fun _ _ => rfl) ⟨rfl, rfl⟩
         simp only [PV.weak, PV.weaks, weaks_bools]
         unfold cutF
         rw [hn, htT, if_pos rfl]; rfl)
  · refine rk (k := rs (k := ?_))
    have htT : thereF n a m = true := by simpa using hc0
    have htt := htT
    unfold thereF at htt
    have htt := of_decide_eq_true htt
    obtain ⟨x, rfl⟩ : ∃ x : Nat, a = x := ⟨a.toNat, (Int.toNat_of_nonneg htt.1).symm⟩
    obtain ⟨y, rfl⟩ : ∃ y : Nat, m = y := ⟨m.toNat, (Int.toNat_of_nonneg (by omega)).symm⟩
    have hw : IntKind.i64.wrap ((x : Int) + y) = ((x + y : Nat) : Int) := by rw [wrap_i64 (by omega)]; omega
    have hsl := aSlice_own (P := Try.prog) (t := 23) (id := b0) (off := 0) (len := n) (a := x) (m := y) Try.td23 (by rw [Try.cz4]; decide) rfl hb (by omega) (by omega)
    rw [Nat.zero_add] at hsl
    have H := aj hw H
    refine rr (k := ro (pre := [_, _, _, _, _]) (k := ?_))
    refine RunO.gdo au (v := .own b0 x y) (s' := s) (by
      simp (disch := omega) only [go_sem, H]
      rw [if_pos ⟨by decide, by omega, by omega⟩, if_neg (show ¬ ((x : Int) = n) by omega)]
      by_cases hx0 : (x : Int) = 0
      · rw [if_pos hx0]
        have : x = 0 := by omega
        subst this
        simp
      · rw [if_neg hx0]
        have : (((x + y : Nat) : Int) - (x : Int)).toNat = y := by omega
        rw [this]) ?_
    refine rC (h := clone_own_bool hb rfl (by omega) (by omega)) (k := rh [8, 9] (k := rR (k := ?_)))
    first
      | (have htF : thereF n a m = false := by simpa using hc0
         refine Ret.pure (r' := .tuple [.sl .unk ((cutF l a m).map PV.bool), .bool (thereF n a m)]) (by simp only [Try.f79, go_sem, ↓reduceIte] <;> rfl) ?_ (by simp only [PV.blw, PV.blws, blws_boolsT, and_true, true_and]; exact fun t z e => (by cases e)) hwf (fun _ _ => rfl) ⟨rfl, rfl⟩
         simp only [PV.weak, PV.weaks, weaks_bools]
         unfold cutF
         rw [hn, htF]; rfl)
      | (refine Ret.pure (r' := .tuple [.sl .unk ((cutF l (x : Int) (y : Int)).map PV.bool), .bool (thereF n (x : Int) (y : Int))]) (by simp only [Try.f79, go_sem, ↓reduceIte] <;> rfl) ?_ (by simp only [PV.blw, PV.blws, blws_boolsT, and_true, true_and]; exact fun t z e => (by cases e)) hwf (fun _ _ => rfl) ⟨rfl, rfl⟩
         simp only [PV.weak, PV.weaks, weaks_bools]
         unfold cutF
         rw [hn, htT, if_pos rfl]; rfl)
theorem store_get1 {s : St} {st b0 b1 v0 v1 n : Nat} (hst : s.blk st = some (.row 88 [.agg [.own b0 0 n, .own b1 0 n, .own v0 0 n, .own v1 0 n]])) {l : List Bool} (hb : s.blk b1 = some (.row 4 (l.map PV.bool))) (hn : l.length = n) (hn2 : n ≤ 65536) {a m : Int} (ha : I64 a) (hm : 1 ≤ m) : ACalls Try.prog 79 [.ptr st 0 0, .int .i64 1, .int .i64 a, .int .i64 m] s (fun r s' => r = .tuple [.sl .unk ((cutF l a m).map PV.bool), .bool (thereF n a m)] ∧ s' = s) := by
  refine go Try.func79 (k := fun hwf H => ?_)
  have H := aj hst (aj hb H)
  refine rs (k := rg [0, 1, 2, 3] (k := rs (k := rr (k := ro (pre := [_, _]) (k := ?_)))))
  refine RunO.callw au au au (by kernel_rfl) ((store_fl1 hst).mono ?_)
  rintro r s1 ⟨rfl, hs⟩
  subst s1
  refine rh [0, 2, 3, 10] (k := rs (k := rs (k := rr (k := ro (pre := [_, _, _, _, _, _]) (k := rG (h := fun hb => store_there hst hn2 ha) (k := rh [2, 3, 10, 22] (k := rc (ht := fun hc0 => ?_) (hf := fun hc0 => ?_))))))))
  · refine rs (k := rg [8, 9] (k := rR (k := ?_)))
    first
      | (have htF : thereF n a m = false := by simpa using hc0
         refine Ret.pure (r' := .tuple [.sl .unk ((cutF l a m).map PV.bool), .bool (thereF n a m)]) (by simp only [Try.f79, go_sem, ↓reduceIte] <;> rfl) ?_ (by simp only [PV.blw, PV.blws, blws_boolsT, and_true, true_and]; exact fun t z e => (by cases e)) hwf (fun _ _ => rfl) ⟨rfl, rfl⟩
         simp only [PV.weak, PV.weaks, weaks_bools]
         unfold cutF
         rw [hn, htF]; rfl)
      | (refine Ret.pure (r' := .tuple [.sl .unk ((cutF l (x : Int) (y : Int)).map PV.bool), .bool (thereF n (x : Int) (y : Int))]) (by simp only [Try.f79, go_sem, ↓reduceIte] <;> rfl) ?_ (by simp only [PV.blw, PV.blws, blws_boolsT, and_true, true_and]; exact fun t z e => (by cases e)) hwf (fun _ _ => rfl) ⟨rfl, rfl⟩
         simp only [PV.weak, PV.weaks, weaks_bools]
         unfold cutF
         rw [hn, htT, if_pos rfl]; rfl)
  · refine rk (k := rs (k := ?_))
    have htT : thereF n a m = true := by simpa using hc0
    have htt := htT
    unfold thereF at htt
    have htt := of_decide_eq_true htt
    obtain ⟨x, rfl⟩ : ∃ x : Nat, a = x := ⟨a.toNat, (Int.toNat_of_nonneg htt.1).symm⟩
    obtain ⟨y, rfl⟩ : ∃ y : Nat, m = y := ⟨m.toNat, (Int.toNat_of_nonneg (by omega)).symm⟩
    have hw : IntKind.i64.wrap ((x : Int) + y) = ((x + y : Nat) : Int) := by rw [wrap_i64 (by omega)]; omega
    have hsl := aSlice_own (P := Try.prog) (t := 23) (id := b1) (off := 0) (len := n) (a := x) (m := y) Try.td23 (by rw [Try.cz4]; decide) rfl hb (by omega) (by omega)
    rw [Nat.zero_add] at hsl
    have H := aj hw H
    refine rr (k := ro (pre := [_, _, _, _, _]) (k := ?_))
    refine RunO.gdo au (v := .own b1 x y) (s' := s) (by
      simp (disch := omega) only [go_sem, H]
      rw [if_pos ⟨by decide, by omega, by omega⟩, if_neg (show ¬ ((x : Int) = n) by omega)]
      by_cases hx0 : (x : Int) = 0
      · rw [if_pos hx0]
        have : x = 0 := by omega
        subst this
        simp
      · rw [if_neg hx0]
        have : (((x + y : Nat) : Int) - (x : Int)).toNat = y := by omega
        rw [this]) ?_
    refine rC (h := clone_own_bool hb rfl (by omega) (by omega)) (k := rh [8, 9] (k := rR (k := ?_)))
    first
      | (have htF : thereF n a m = false := by simpa using hc0
         refine Ret.pure (r' := .tuple [.sl .unk ((cutF l a m).map PV.bool), .bool (thereF n a m)]) (by simp only [Try.f79, go_sem, ↓reduceIte] <;> rfl) ?_ (by simp only [PV.blw, PV.blws, blws_boolsT, and_true, true_and]; exact fun t z e => (by cases e)) hwf (fun _ _ => rfl) ⟨rfl, rfl⟩
         simp only [PV.weak, PV.weaks, weaks_bools]
         unfold cutF
         rw [hn, htF]; rfl)
      | (refine Ret.pure (r' := .tuple [.sl .unk ((cutF l (x : Int) (y : Int)).map PV.bool), .bool (thereF n (x : Int) (y : Int))]) (by simp only [Try.f79, go_sem, ↓reduceIte] <;> rfl) ?_ (by simp only [PV.blw, PV.blws, blws_boolsT, and_true, true_and]; exact fun t z e => (by cases e)) hwf (fun _ _ => rfl) ⟨rfl, rfl⟩
         simp only [PV.weak, PV.weaks, weaks_bools]
         unfold cutF
         rw [hn, htT, if_pos rfl]; rfl)
theorem store_get2 {s : St} {st b0 b1 v0 v1 n : Nat} (hst : s.blk st = some (.row 88 [.agg [.own b0 0 n, .own b1 0 n, .own v0 0 n, .own v1 0 n]])) {l : List Int} (hb : s.blk v0 = some (.row 24 (l.map (PV.int .u16)))) (hn : l.length = n) (hn2 : n ≤ 65536) {a m : Int} (ha : I64 a) (hm : 1 ≤ m) : ACalls Try.prog 24 [.ptr st 0 0, .int .i64 2, .int .i64 a, .int .i64 m] s (fun r s' => r = .tuple [.sl .unk ((cutF l a m).map (PV.int .u16)), .bool (thereF n a m)] ∧ s' = s) := by
  refine go Try.func24 (k := fun hwf H => ?_)
  have H := aj hst (aj hb H)
  refine rs (k := rg [0, 1, 2, 3] (k := rs (k := rr (k := ro (pre := [_, _]) (k := ?_)))))
  refine RunO.callw au au au (by kernel_rfl) ((store_fl2 hst).mono ?_)
  rintro r s1 ⟨rfl, hs⟩
  subst s1
  refine rh [0, 2, 3, 10] (k := rs (k := rs (k := rr (k := ro (pre := [_, _, _, _, _, _]) (k := rG (h := fun hb => store_there hst hn2 ha) (k := rh [2, 3, 10, 22] (k := rc (ht := fun hc0 => ?_) (hf := fun hc0 => ?_))))))))
  · refine rs (k := rg [8, 9] (k := rR (k := ?_)))
    first
      | (have htF : thereF n a m = false := by simpa using hc0
         refine Ret.pure (r' := .tuple [.sl .unk ((cutF l a m).map (PV.int .u16)), .bool (thereF n a m)]) (by simp only [Try.f24, go_sem, ↓reduceIte] <;> rfl) ?_ (by simp only [PV.blw, PV.blws, blws_u16T, and_true, true_and]; exact fun t z e => (by cases e)) hwf (fun _ _ => rfl) ⟨rfl, rfl⟩
         simp only [PV.weak, PV.weaks, weaks_u16]
         unfold cutF
         rw [hn, htF]; rfl)
      | (refine Ret.pure (r' := .tuple [.sl .unk ((cutF l (x : Int) (y : Int)).map (PV.int .u16)), .bool (thereF n (x : Int) (y : Int))]) (by simp only [Try.f24, go_sem, ↓reduceIte] <;> rfl) ?_ (by simp only [PV.blw, PV.blws, blws_u16T, and_true, true_and]; exact fun t z e => (by cases e)) hwf (fun _ _ => rfl) ⟨rfl, rfl⟩
         simp only [PV.weak, PV.weaks, weaks_u16]
         unfold cutF
         rw [hn, htT, if_pos rfl]; rfl)
  · refine rk (k := rs (k := ?_))
    have htT : thereF n a m = true := by simpa using hc0
    have htt := htT
    unfold thereF at htt
    have htt := of_decide_eq_true htt
    obtain ⟨x, rfl⟩ : ∃ x : Nat, a = x := ⟨a.toNat, (Int.toNat_of_nonneg htt.1).symm⟩
    obtain ⟨y, rfl⟩ : ∃ y : Nat, m = y := ⟨m.toNat, (Int.toNat_of_nonneg (by omega)).symm⟩
    have hw : IntKind.i64.wrap ((x : Int) + y) = ((x + y : Nat) : Int) := by rw [wrap_i64 (by omega)]; omega
    have hsl := aSlice_own (P := Try.prog) (t := 22) (id := v0) (off := 0) (len := n) (a := x) (m := y) Try.td22 (by rw [Try.cz24]; decide) rfl hb (by omega) (by omega)
    rw [Nat.zero_add] at hsl
    have H := aj hw H
    refine rr (k := ro (pre := [_, _, _, _, _]) (k := ?_))
    refine RunO.gdo au (v := .own v0 x y) (s' := s) (by
      simp (disch := omega) only [go_sem, H]
      rw [if_pos ⟨by decide, by omega, by omega⟩, if_neg (show ¬ ((x : Int) = n) by omega)]
      by_cases hx0 : (x : Int) = 0
      · rw [if_pos hx0]
        have : x = 0 := by omega
        subst this
        simp
      · rw [if_neg hx0]
        have : (((x + y : Nat) : Int) - (x : Int)).toNat = y := by omega
        rw [this]) ?_
    refine rC (h := clone_own_uint16 hb rfl (by omega) (by omega)) (k := rh [8, 9] (k := rR (k := ?_)))
    first
      | (have htF : thereF n a m = false := by simpa using hc0
         refine Ret.pure (r' := .tuple [.sl .unk ((cutF l a m).map (PV.int .u16)), .bool (thereF n a m)]) (by simp only [Try.f24, go_sem, ↓reduceIte] <;> rfl) ?_ (by simp only [PV.blw, PV.blws, blws_u16T, and_true, true_and]; exact fun t z e => (by cases e)) hwf (fun _ _ => rfl) ⟨rfl, rfl⟩
         simp only [PV.weak, PV.weaks, weaks_u16]
         unfold cutF
         rw [hn, htF]; rfl)
      | (refine Ret.pure (r' := .tuple [.sl .unk ((cutF l (x : Int) (y : Int)).map (PV.int .u16)), .bool (thereF n (x : Int) (y : Int))]) (by simp only [Try.f24, go_sem, ↓reduceIte] <;> rfl) ?_ (by simp only [PV.blw, PV.blws, blws_u16T, and_true, true_and]; exact fun t z e => (by cases e)) hwf (fun _ _ => rfl) ⟨rfl, rfl⟩
         simp only [PV.weak, PV.weaks, weaks_u16]
         unfold cutF
         rw [hn, htT, if_pos rfl]; rfl)
theorem store_get3 {s : St} {st b0 b1 v0 v1 n : Nat} (hst : s.blk st = some (.row 88 [.agg [.own b0 0 n, .own b1 0 n, .own v0 0 n, .own v1 0 n]])) {l : List Int} (hb : s.blk v1 = some (.row 24 (l.map (PV.int .u16)))) (hn : l.length = n) (hn2 : n ≤ 65536) {a m : Int} (ha : I64 a) (hm : 1 ≤ m) : ACalls Try.prog 24 [.ptr st 0 0, .int .i64 3, .int .i64 a, .int .i64 m] s (fun r s' => r = .tuple [.sl .unk ((cutF l a m).map (PV.int .u16)), .bool (thereF n a m)] ∧ s' = s) := by
  refine go Try.func24 (k := fun hwf H => ?_)
  have H := aj hst (aj hb H)
  refine rs (k := rg [0, 1, 2, 3] (k := rs (k := rr (k := ro (pre := [_, _]) (k := ?_)))))
  refine RunO.callw au au au (by kernel_rfl) ((store_fl3 hst).mono ?_)
  rintro r s1 ⟨rfl, hs⟩
  subst s1
  refine rh [0, 2, 3, 10] (k := rs (k := rs (k := rr (k := ro (pre := [_, _, _, _, _, _]) (k := rG (h := fun hb => store_there hst hn2 ha) (k := rh [2, 3, 10, 22] (k := rc (ht := fun hc0 => ?_) (hf := fun hc0 => ?_))))))))
  · refine rs (k := rg [8, 9] (k := rR (k := ?_)))
    first
      | (have htF : thereF n a m = false := by simpa using hc0
         refine Ret.pure (r' := .tuple [.sl .unk ((cutF l a m).map (PV.int .u16)), .bool (thereF n a m)]) (by simp only [Try.f24, go_sem, ↓reduceIte] <;> rfl) ?_ (by simp only [PV.blw, PV.blws, blws_u16T, and_true, true_and]; exact fun t z e => (by cases e)) hwf (fun _ _ => rfl) ⟨rfl, rfl⟩
         simp only [PV.weak, PV.weaks, weaks_u16]
         unfold cutF
         rw [hn, htF]; rfl)
      | (refine Ret.pure (r' := .tuple [.sl .unk ((cutF l (x : Int) (y : Int)).map (PV.int .u16)), .bool (thereF n (x : Int) (y : Int))]) (by simp only [Try.f24, go_sem, ↓reduceIte] <;> rfl) ?_ (by simp only [PV.blw, PV.blws, blws_u16T, and_true, true_and]; exact fun t z e => (by cases e)) hwf (fun _ _ => rfl) ⟨rfl, rfl⟩
         simp only [PV.weak, PV.weaks, weaks_u16]
         unfold cutF
         rw [hn, htT, if_pos rfl]; rfl)
  · refine rk (k := rs (k := ?_))
    have htT : thereF n a m = true := by simpa using hc0
    have htt := htT
    unfold thereF at htt
    have htt := of_decide_eq_true htt
    obtain ⟨x, rfl⟩ : ∃ x : Nat, a = x := ⟨a.toNat, (Int.toNat_of_nonneg htt.1).symm⟩
    obtain ⟨y, rfl⟩ : ∃ y : Nat, m = y := ⟨m.toNat, (Int.toNat_of_nonneg (by omega)).symm⟩
    have hw : IntKind.i64.wrap ((x : Int) + y) = ((x + y : Nat) : Int) := by rw [wrap_i64 (by omega)]; omega
    have hsl := aSlice_own (P := Try.prog) (t := 22) (id := v1) (off := 0) (len := n) (a := x) (m := y) Try.td22 (by rw [Try.cz24]; decide) rfl hb (by omega) (by omega)
    rw [Nat.zero_add] at hsl
    have H := aj hw H
    refine rr (k := ro (pre := [_, _, _, _, _]) (k := ?_))
    refine RunO.gdo au (v := .own v1 x y) (s' := s) (by
      simp (disch := omega) only [go_sem, H]
      rw [if_pos ⟨by decide, by omega, by omega⟩, if_neg (show ¬ ((x : Int) = n) by omega)]
      by_cases hx0 : (x : Int) = 0
      · rw [if_pos hx0]
        have : x = 0 := by omega
        subst this
        simp
      · rw [if_neg hx0]
        have : (((x + y : Nat) : Int) - (x : Int)).toNat = y := by omega
        rw [this]) ?_
    refine rC (h := clone_own_uint16 hb rfl (by omega) (by omega)) (k := rh [8, 9] (k := rR (k := ?_)))
    first
      | (have htF : thereF n a m = false := by simpa using hc0
         refine Ret.pure (r' := .tuple [.sl .unk ((cutF l a m).map (PV.int .u16)), .bool (thereF n a m)]) (by simp only [Try.f24, go_sem, ↓reduceIte] <;> rfl) ?_ (by simp only [PV.blw, PV.blws, blws_u16T, and_true, true_and]; exact fun t z e => (by cases e)) hwf (fun _ _ => rfl) ⟨rfl, rfl⟩
         simp only [PV.weak, PV.weaks, weaks_u16]
         unfold cutF
         rw [hn, htF]; rfl)
      | (refine Ret.pure (r' := .tuple [.sl .unk ((cutF l (x : Int) (y : Int)).map (PV.int .u16)), .bool (thereF n (x : Int) (y : Int))]) (by simp only [Try.f24, go_sem, ↓reduceIte] <;> rfl) ?_ (by simp only [PV.blw, PV.blws, blws_u16T, and_true, true_and]; exact fun t z e => (by cases e)) hwf (fun _ _ => rfl) ⟨rfl, rfl⟩
         simp only [PV.weak, PV.weaks, weaks_u16]
         unfold cutF
         rw [hn, htT, if_pos rfl]; rfl)
theorem store_put0 {s : St} {st b0 b1 v0 v1 n : Nat} (hst : s.blk st = some (.row 88 [.agg [.own b0 0 n, .own b1 0 n, .own v0 0 n, .own v1 0 n]])) {l x : List Bool} (hb : s.blk b0 = some (.row 4 (l.map PV.bool))) (hn : l.length = n) (hn2 : n ≤ 65536) {a : Int} (ha : I64 a) (hx : x ≠ []) (hst2 : b0 ≠ st) : ACalls Try.prog 82 [.ptr st 0 0, .int .i64 0, .int .i64 a, .sl .unk (x.map PV.bool)] s (fun r s' => r = .bool (thereF n a x.length) ∧ s' = (if thereF n a x.length = true then s.set b0 (some (.row 4 ((overF l a.toNat x).map PV.bool))) else s)) := by
  refine go Try.func82 (k := fun hwf H => ?_)
  have H := aj hst (aj hb H)
  refine rs (k := rg [0, 1, 2, 3] (k := rs (k := rr (k := ro (pre := [_, _]) (k := ?_)))))
  refine RunO.callw au au au (by kernel_rfl) ((store_fl0 hst).mono ?_)
  rintro r s1 ⟨rfl, hs⟩
  subst s1
  refine rh [0, 2, 3, 9] (k := rs (k := rs (k := rr (k := ro (pre := [_, _, _, _, _, _, _]) (k := rG (h := fun hb => store_there hst hn2 ha) (k := rh [2, 3, 9, 22] (k := rc (ht := fun hc0 => ?_) (hf := fun hc0 => ?_))))))))
  · refine rs (k := rg [8] (k := rR (k := ?_)))
    first
      | (have htF : thereF n a x.length = false := by simpa using hc0
         refine Ret.all (by simp only [Try.f82, go_sem, ↓reduceIte] <;> rfl) ⟨by rw [htF], by rw [htF]; rfl⟩)
      | (refine Ret.all (by simp only [Try.f82, go_sem, ↓reduceIte] <;> rfl) ⟨by rw [htT], by rw [htT, if_pos rfl]; rfl⟩)
  · refine rk (k := rs (k := ?_))
    have hxl : 1 ≤ x.length := List.length_pos_iff.2 hx
    have htT : thereF n a x.length = true := by simpa using hc0
    have htt := htT
    unfold thereF at htt
    have htt := of_decide_eq_true htt
    obtain ⟨p, hp⟩ : ∃ p : Nat, a = p := ⟨a.toNat, (Int.toNat_of_nonneg htt.1).symm⟩
    subst hp
    refine rr (k := ro (pre := [_, _]) (k := ?_))
    refine RunO.gdo au (v := .own b0 p (n - p)) (s' := s) (by
      simp (disch := omega) only [go_sem, H]
      rw [if_pos ⟨by decide, by omega⟩, if_neg (show ¬ ((p : Int) = n) by omega)]
      by_cases hx0 : (p : Int) = 0
      · rw [if_pos hx0]
        have : p = 0 := by omega
        subst this
        simp
      · rw [if_neg hx0]
        have : ((n : Int) - (p : Int)).toNat = n - p := by omega
        rw [this]) ?_
    refine ro (pre := [_]) (k := ?_)
    refine RunO.copy (el := 4) (id := b0) (off := p) (len := n - p) (ys := x.map PV.bool) (s' := s.set b0 (some (.row 4 ((overF l p x).map PV.bool)))) au au au Try.td23 (by rw [Try.zp4]; rfl) (isEls_map (P := Try.prog) (e := 4) (f := PV.bool) (fun a => ⟨rfl, by rw [Try.cz4]; rfl⟩) _) (by unfold aCopy; rw [hb]; simp only; rw [if_pos ⟨by rw [List.length_map]; omega, trivial, by rw [List.length_map]; omega⟩]; unfold overF; simp [List.map_take, List.map_drop]) ?_
    refine rl [] (k := rs (k := rg [8] (k := rR (k := ?_))))
    first
      | (have htF : thereF n a x.length = false := by simpa using hc0
         refine Ret.all (by simp only [Try.f82, go_sem, ↓reduceIte] <;> rfl) ⟨by rw [htF], by rw [htF]; rfl⟩)
      | (refine Ret.all (by simp only [Try.f82, go_sem, ↓reduceIte] <;> rfl) ⟨by rw [htT], by rw [htT, if_pos rfl]; rfl⟩)
theorem store_put3 {s : St} {st b0 b1 v0 v1 n : Nat} (hst : s.blk st = some (.row 88 [.agg [.own b0 0 n, .own b1 0 n, .own v0 0 n, .own v1 0 n]])) {l x : List Int} (hb : s.blk v1 = some (.row 24 (l.map (PV.int .u16)))) (hn : l.length = n) (hn2 : n ≤ 65536) {a : Int} (ha : I64 a) (hx : x ≠ []) (hst2 : v1 ≠ st) : ACalls Try.prog 83 [.ptr st 0 0, .int .i64 3, .int .i64 a, .sl .unk (x.map (PV.int .u16))] s (fun r s' => r = .bool (thereF n a x.length) ∧ s' = (if thereF n a x.length = true then s.set v1 (some (.row 24 ((overF l a.toNat x).map (PV.int .u16)))) else s)) := by
  refine go Try.func83 (k := fun hwf H => ?_)
  have H := aj hst (aj hb H)
  refine rs (k := rg [0, 1, 2, 3] (k := rs (k := rr (k := ro (pre := [_, _]) (k := ?_)))))
  refine RunO.callw au au au (by kernel_rfl) ((store_fl3 hst).mono ?_)
  rintro r s1 ⟨rfl, hs⟩
  subst s1
  refine rh [0, 2, 3, 9] (k := rs (k := rs (k := rr (k := ro (pre := [_, _, _, _, _, _, _]) (k := rG (h := fun hb => store_there hst hn2 ha) (k := rh [2, 3, 9, 22] (k := rc (ht := fun hc0 => ?_) (hf := fun hc0 => ?_))))))))
  · refine rs (k := rg [8] (k := rR (k := ?_)))
    first
      | (have htF : thereF n a x.length = false := by simpa using hc0
         refine Ret.all (by simp only [Try.f83, go_sem, ↓reduceIte] <;> rfl) ⟨by rw [htF], by rw [htF]; rfl⟩)
      | (refine Ret.all (by simp only [Try.f83, go_sem, ↓reduceIte] <;> rfl) ⟨by rw [htT], by rw [htT, if_pos rfl]; rfl⟩)
  · refine rk (k := rs (k := ?_))
    have hxl : 1 ≤ x.length := List.length_pos_iff.2 hx
    have htT : thereF n a x.length = true := by simpa using hc0
    have htt := htT
    unfold thereF at htt
    have htt := of_decide_eq_true htt
    obtain ⟨p, hp⟩ : ∃ p : Nat, a = p := ⟨a.toNat, (Int.toNat_of_nonneg htt.1).symm⟩
    subst hp
    refine rr (k := ro (pre := [_, _]) (k := ?_))
    refine RunO.gdo au (v := .own v1 p (n - p)) (s' := s) (by
      simp (disch := omega) only [go_sem, H]
      rw [if_pos ⟨by decide, by omega⟩, if_neg (show ¬ ((p : Int) = n) by omega)]
      by_cases hx0 : (p : Int) = 0
      · rw [if_pos hx0]
        have : p = 0 := by omega
        subst this
        simp
      · rw [if_neg hx0]
        have : ((n : Int) - (p : Int)).toNat = n - p := by omega
        rw [this]) ?_
    refine ro (pre := [_]) (k := ?_)
    refine RunO.copy (el := 24) (id := v1) (off := p) (len := n - p) (ys := x.map (PV.int .u16)) (s' := s.set v1 (some (.row 24 ((overF l p x).map (PV.int .u16))))) au au au Try.td22 (by rw [Try.zp24]; rfl) (isEls_map (P := Try.prog) (e := 24) (f := (PV.int .u16)) (fun a => ⟨rfl, by rw [Try.cz24]; rfl⟩) _) (by unfold aCopy; rw [hb]; simp only; rw [if_pos ⟨by rw [List.length_map]; omega, trivial, by rw [List.length_map]; omega⟩]; unfold overF; simp [List.map_take, List.map_drop]) ?_
    refine rl [] (k := rs (k := rg [8] (k := rR (k := ?_))))
    first
      | (have htF : thereF n a x.length = false := by simpa using hc0
         refine Ret.all (by simp only [Try.f83, go_sem, ↓reduceIte] <;> rfl) ⟨by rw [htF], by rw [htF]; rfl⟩)
      | (refine Ret.all (by simp only [Try.f83, go_sem, ↓reduceIte] <;> rfl) ⟨by rw [htT], by rw [htT, if_pos rfl]; rfl⟩)
end Go.Proofs

import Derived.Test.YteojfpncfoafoaaB3
import Derived.Test.YteojfpncfoafoaaB2
set_option linter.unusedVariables false
set_option linter.unusedSimpArgs false
namespace Go.Proofs
open Go.PM
set_option maxHeartbeats 2000000
set_option maxRecDepth 100000 in
theorem ref11_Read {bs : List Int} (hb : OkB bs) (hl : bs.length ≤ 281474976710656) {s : St} : ACalls Try.prog 26 [.sl .unk (bs.map (PV.int .u8))] s (fun r s' => r = .tuple [(rRead bs).1.pv, .int .i64 (rRead bs).2] ∧ s' = s) := by
  refine go Try.func26 (k := fun hwf H => ?_)
  refine rs (k := rg [0, 2] (k := rs (k := rs (k := rg [0, 2, 13] (k := rc (ht := fun hc0 => ?_) (hf := fun hc0 => ?_))))))
  · refine rs (k := rg [2, 3] (k := rR (k := ?_)))
    first
      | (have hL : 1000 < bs.length := by have := of_decide_eq_true hc0; omega
         have e : rRead bs = (tab0, 3) := by unfold rRead; rw [if_pos hL]
         refine Ret.pure (r' := .tuple [(rRead bs).1.pv, .int .i64 (rRead bs).2]) (by simp (disch := omega) only [Try.f26, go_sem, ↓reduceIte, H] <;> rfl) (by rw [e]; simp only [Tab.pv, tab0, PV.weak, PV.weaks, weaks_tens, List.map_nil]) (by simp only [PV.blw, PV.blws]; exact ⟨blw_tab _ _, trivial, trivial⟩) hwf (fun i hi => by simp (disch := omega) only [go_sem]; first | done | exact K1.fr.blk i hi) ⟨rfl, rfl⟩)
      | (have e : rRead bs = (tab0, 14) := by
           unfold rRead
           rw [if_neg (show ¬ 1000 < bs.length by omega), hop]
         refine Ret.pure (r' := .tuple [(rRead bs).1.pv, .int .i64 (rRead bs).2]) (by simp (disch := omega) only [Try.f26, go_sem, ↓reduceIte, H] <;> rfl) (by rw [e]; simp only [Tab.pv, tab0, PV.weak, PV.weaks, weaks_tens, List.map_nil]) (by simp only [PV.blw, PV.blws]; exact ⟨blw_tab _ _, trivial, trivial⟩) hwf (fun i hi => by simp (disch := omega) only [go_sem]; first | done | exact K1.fr.blk i hi) ⟨rfl, rfl⟩)
      | (have e : rRead bs = (tab0, 12) := by
           unfold rRead
           rw [if_neg (show ¬ 1000 < bs.length by omega), hop]
           simp only
           rw [if_pos (show x.length < 3 ∨ x.take 3 ≠ markB from hbadm)]
         refine Ret.pure (r' := .tuple [(rRead bs).1.pv, .int .i64 (rRead bs).2]) (by simp (disch := omega) only [Try.f26, go_sem, ↓reduceIte, H] <;> rfl) (by rw [e]; simp only [Tab.pv, tab0, PV.weak, PV.weaks, weaks_tens, List.map_nil]) (by simp only [PV.blw, PV.blws]; exact ⟨blw_tab _ _, trivial, trivial⟩) hwf (fun i hi => by simp (disch := omega) only [go_sem]; first | done | exact K1.fr.blk i hi) ⟨rfl, rfl⟩)
      | (have e : rRead bs = (tab0, 12) := by
           unfold rRead
           rw [if_neg (show ¬ 1000 < bs.length by omega), hop]
           simp only
           rw [if_neg (show ¬ (x.length < 3 ∨ x.take 3 ≠ markB) by rintro (h | h); omega; exact h hmark)]
           simp only [← hmany]
           rw [if_pos (show r1.fell = true ∨ 0 < r1.b.length from hbadr)]
         refine Ret.pure (r' := .tuple [(rRead bs).1.pv, .int .i64 (rRead bs).2]) (by simp (disch := omega) only [Try.f26, go_sem, ↓reduceIte, H] <;> rfl) (by rw [e]; simp only [Tab.pv, tab0, PV.weak, PV.weaks, weaks_tens, List.map_nil]) (by simp only [PV.blw, PV.blws]; exact ⟨blw_tab _ _, trivial, trivial⟩) hwf (fun i hi => by simp (disch := omega) only [go_sem]; first | done | exact K1.fr.blk i hi) ⟨rfl, rfl⟩)
      | (have e : rRead bs = (tab0, (tabWhere ⟨(⟨x.drop 3, false⟩ : Rr).num, l⟩).1) := by
           unfold rRead
           rw [if_neg (show ¬ 1000 < bs.length by omega), hop]
           simp only
           rw [if_neg (show ¬ (x.length < 3 ∨ x.take 3 ≠ markB) by rintro (h | h); omega; exact h hmark)]
           simp only [← hmany]
           rw [if_neg (show ¬ (r1.fell = true ∨ 0 < r1.b.length) from hbadr), if_pos hcode]
         refine Ret.pure (r' := .tuple [(rRead bs).1.pv, .int .i64 (rRead bs).2]) (by simp (disch := omega) only [Try.f26, go_sem, ↓reduceIte, H] <;> rfl) (by rw [e]; simp only [Tab.pv, tab0, PV.weak, PV.weaks, weaks_tens, List.map_nil]) (by simp only [PV.blw, PV.blws]; exact ⟨blw_tab _ _, trivial, trivial⟩) hwf (fun i hi => by simp (disch := omega) only [go_sem]; first | done | exact K1.fr.blk i hi) ⟨rfl, rfl⟩)
      | (have e : rRead bs = (⟨(⟨x.drop 3, false⟩ : Rr).num, l⟩, 0) := by
           unfold rRead
           rw [if_neg (show ¬ 1000 < bs.length by omega), hop]
           simp only
           rw [if_neg (show ¬ (x.length < 3 ∨ x.take 3 ≠ markB) by rintro (h | h); omega; exact h hmark)]
           simp only [← hmany]
           rw [if_neg (show ¬ (r1.fell = true ∨ 0 < r1.b.length) from hbadr), if_neg hcode]
         refine Ret.pure (r' := .tuple [(rRead bs).1.pv, .int .i64 (rRead bs).2]) (by simp (disch := omega) only [Try.f26, go_sem, ↓reduceIte, H] <;> rfl) (by rw [e]; simp only [Tab.pv, tab0, PV.weak, PV.weaks, weaks_tens, List.map_nil]) (by simp only [PV.blw, PV.blws]; exact ⟨blw_tab _ _, trivial, trivial⟩) hwf (fun i hi => by simp (disch := omega) only [go_sem]; first | done | exact K1.fr.blk i hi) ⟨rfl, rfl⟩)
  · refine rk (k := rs (k := ?_))
    have hL : ¬ 1000 < bs.length := by have := of_decide_eq_false hc0; omega
    refine rr (k := ro (pre := [_]) (k := rC (h := ref1_Unseal hb (by omega)) (k := rh [2, 4, 5] (k := rs (k := rs (k := ?_))))))
    obtain ⟨op, hop⟩ : ∃ o, openB bs = o := ⟨_, rfl⟩
    have H := aj hop H
    refine rg [2, 4, 21] (k := rc (ht := fun hc1 => ?_) (hf := fun hc1 => ?_))
    · refine rs (k := ?_)
      obtain rfl : op = none := by revert hc1; cases op <;> simp
      refine rg [2, 3] (k := rR (k := ?_))
      first
        | (have hL : 1000 < bs.length := by have := of_decide_eq_true hc0; omega
           have e : rRead bs = (tab0, 3) := by unfold rRead; rw [if_pos hL]
           refine Ret.pure (r' := .tuple [(rRead bs).1.pv, .int .i64 (rRead bs).2]) (by simp (disch := omega) only [Try.f26, go_sem, ↓reduceIte, H] <;> rfl) (by rw [e]; simp only [Tab.pv, tab0, PV.weak, PV.weaks, weaks_tens, List.map_nil]) (by simp only [PV.blw, PV.blws]; exact ⟨blw_tab _ _, trivial, trivial⟩) hwf (fun i hi => by simp (disch := omega) only [go_sem]; first | done | exact K1.fr.blk i hi) ⟨rfl, rfl⟩)
        | (have e : rRead bs = (tab0, 14) := by
             unfold rRead
             rw [if_neg (show ¬ 1000 < bs.length by omega), hop]
           refine Ret.pure (r' := .tuple [(rRead bs).1.pv, .int .i64 (rRead bs).2]) (by simp (disch := omega) only [Try.f26, go_sem, ↓reduceIte, H] <;> rfl) (by rw [e]; simp only [Tab.pv, tab0, PV.weak, PV.weaks, weaks_tens, List.map_nil]) (by simp only [PV.blw, PV.blws]; exact ⟨blw_tab _ _, trivial, trivial⟩) hwf (fun i hi => by simp (disch := omega) only [go_sem]; first | done | exact K1.fr.blk i hi) ⟨rfl, rfl⟩)
        | (have e : rRead bs = (tab0, 12) := by
             unfold rRead
             rw [if_neg (show ¬ 1000 < bs.length by omega), hop]
             simp only
             rw [if_pos (show x.length < 3 ∨ x.take 3 ≠ markB from hbadm)]
           refine Ret.pure (r' := .tuple [(rRead bs).1.pv, .int .i64 (rRead bs).2]) (by simp (disch := omega) only [Try.f26, go_sem, ↓reduceIte, H] <;> rfl) (by rw [e]; simp only [Tab.pv, tab0, PV.weak, PV.weaks, weaks_tens, List.map_nil]) (by simp only [PV.blw, PV.blws]; exact ⟨blw_tab _ _, trivial, trivial⟩) hwf (fun i hi => by simp (disch := omega) only [go_sem]; first | done | exact K1.fr.blk i hi) ⟨rfl, rfl⟩)
        | (have e : rRead bs = (tab0, 12) := by
             unfold rRead
             rw [if_neg (show ¬ 1000 < bs.length by omega), hop]
             simp only
             rw [if_neg (show ¬ (x.length < 3 ∨ x.take 3 ≠ markB) by rintro (h | h); omega; exact h hmark)]
             simp only [← hmany]
             rw [if_pos (show r1.fell = true ∨ 0 < r1.b.length from hbadr)]
           refine Ret.pure (r' := .tuple [(rRead bs).1.pv, .int .i64 (rRead bs).2]) (by simp (disch := omega) only [Try.f26, go_sem, ↓reduceIte, H] <;> rfl) (by rw [e]; simp only [Tab.pv, tab0, PV.weak, PV.weaks, weaks_tens, List.map_nil]) (by simp only [PV.blw, PV.blws]; exact ⟨blw_tab _ _, trivial, trivial⟩) hwf (fun i hi => by simp (disch := omega) only [go_sem]; first | done | exact K1.fr.blk i hi) ⟨rfl, rfl⟩)
        | (have e : rRead bs = (tab0, (tabWhere ⟨(⟨x.drop 3, false⟩ : Rr).num, l⟩).1) := by
             unfold rRead
             rw [if_neg (show ¬ 1000 < bs.length by omega), hop]
             simp only
             rw [if_neg (show ¬ (x.length < 3 ∨ x.take 3 ≠ markB) by rintro (h | h); omega; exact h hmark)]
             simp only [← hmany]
             rw [if_neg (show ¬ (r1.fell = true ∨ 0 < r1.b.length) from hbadr), if_pos hcode]
           refine Ret.pure (r' := .tuple [(rRead bs).1.pv, .int .i64 (rRead bs).2]) (by simp (disch := omega) only [Try.f26, go_sem, ↓reduceIte, H] <;> rfl) (by rw [e]; simp only [Tab.pv, tab0, PV.weak, PV.weaks, weaks_tens, List.map_nil]) (by simp only [PV.blw, PV.blws]; exact ⟨blw_tab _ _, trivial, trivial⟩) hwf (fun i hi => by simp (disch := omega) only [go_sem]; first | done | exact K1.fr.blk i hi) ⟨rfl, rfl⟩)
        | (have e : rRead bs = (⟨(⟨x.drop 3, false⟩ : Rr).num, l⟩, 0) := by
             unfold rRead
             rw [if_neg (show ¬ 1000 < bs.length by omega), hop]
             simp only
             rw [if_neg (show ¬ (x.length < 3 ∨ x.take 3 ≠ markB) by rintro (h | h); omega; exact h hmark)]
             simp only [← hmany]
             rw [if_neg (show ¬ (r1.fell = true ∨ 0 < r1.b.length) from hbadr), if_neg hcode]
           refine Ret.pure (r' := .tuple [(rRead bs).1.pv, .int .i64 (rRead bs).2]) (by simp (disch := omega) only [Try.f26, go_sem, ↓reduceIte, H] <;> rfl) (by rw [e]; simp only [Tab.pv, tab0, PV.weak, PV.weaks, weaks_tens, List.map_nil]) (by simp only [PV.blw, PV.blws]; exact ⟨blw_tab _ _, trivial, trivial⟩) hwf (fun i hi => by simp (disch := omega) only [go_sem]; first | done | exact K1.fr.blk i hi) ⟨rfl, rfl⟩)
    · refine rk (k := rs (k := rs (k := ?_)))
      obtain ⟨x, rfl⟩ : ∃ x, op = some x := by revert hc1; cases op <;> simp
      obtain ⟨hxb, hxl⟩ := openB_ok hb hop
      refine rr (k := ro (pre := [_, _, _, _]) (k := rQ 26 (ht := fun hg3 => ?_) (hf := fun hg3 => ?_)))
      · refine rg0 (k := rg0 (k := rg0 (k := rg0 (k := rh [2, 4, 31] (k := rc (ht := fun hc2 => ?_) (hf := fun hc2 => ?_))))))
        · refine rs (k := ?_)
          have hbadm : x.length < 3 ∨ x.take 3 ≠ markB := by first | (have := of_decide_eq_true hg3; left; omega) | (right; simpa using hc2)
          refine rg [2, 3] (k := rR (k := ?_))
          first
            | (have hL : 1000 < bs.length := by have := of_decide_eq_true hc0; omega
               have e : rRead bs = (tab0, 3) := by unfold rRead; rw [if_pos hL]
               refine Ret.pure (r' := .tuple [(rRead bs).1.pv, .int .i64 (rRead bs).2]) (by simp (disch := omega) only [Try.f26, go_sem, ↓reduceIte, H] <;> rfl) (by rw [e]; simp only [Tab.pv, tab0, PV.weak, PV.weaks, weaks_tens, List.map_nil]) (by simp only [PV.blw, PV.blws]; exact ⟨blw_tab _ _, trivial, trivial⟩) hwf (fun i hi => by simp (disch := omega) only [go_sem]; first | done | exact K1.fr.blk i hi) ⟨rfl, rfl⟩)
            | (have e : rRead bs = (tab0, 14) := by
                 unfold rRead
                 rw [if_neg (show ¬ 1000 < bs.length by omega), hop]
               refine Ret.pure (r' := .tuple [(rRead bs).1.pv, .int .i64 (rRead bs).2]) (by simp (disch := omega) only [Try.f26, go_sem, ↓reduceIte, H] <;> rfl) (by rw [e]; simp only [Tab.pv, tab0, PV.weak, PV.weaks, weaks_tens, List.map_nil]) (by simp only [PV.blw, PV.blws]; exact ⟨blw_tab _ _, trivial, trivial⟩) hwf (fun i hi => by simp (disch := omega) only [go_sem]; first | done | exact K1.fr.blk i hi) ⟨rfl, rfl⟩)
            | (have e : rRead bs = (tab0, 12) := by
                 unfold rRead
                 rw [if_neg (show ¬ 1000 < bs.length by omega), hop]
                 simp only
                 rw [if_pos (show x.length < 3 ∨ x.take 3 ≠ markB from hbadm)]
               refine Ret.pure (r' := .tuple [(rRead bs).1.pv, .int .i64 (rRead bs).2]) (by simp (disch := omega) only [Try.f26, go_sem, ↓reduceIte, H] <;> rfl) (by rw [e]; simp only [Tab.pv, tab0, PV.weak, PV.weaks, weaks_tens, List.map_nil]) (by simp only [PV.blw, PV.blws]; exact ⟨blw_tab _ _, trivial, trivial⟩) hwf (fun i hi => by simp (disch := omega) only [go_sem]; first | done | exact K1.fr.blk i hi) ⟨rfl, rfl⟩)
            | (have e : rRead bs = (tab0, 12) := by
                 unfold rRead
                 rw [if_neg (show ¬ 1000 < bs.length by omega), hop]
                 simp only
                 rw [if_neg (show ¬ (x.length < 3 ∨ x.take 3 ≠ markB) by rintro (h | h); omega; exact h hmark)]
                 simp only [← hmany]
                 rw [if_pos (show r1.fell = true ∨ 0 < r1.b.length from hbadr)]
               refine Ret.pure (r' := .tuple [(rRead bs).1.pv, .int .i64 (rRead bs).2]) (by simp (disch := omega) only [Try.f26, go_sem, ↓reduceIte, H] <;> rfl) (by rw [e]; simp only [Tab.pv, tab0, PV.weak, PV.weaks, weaks_tens, List.map_nil]) (by simp only [PV.blw, PV.blws]; exact ⟨blw_tab _ _, trivial, trivial⟩) hwf (fun i hi => by simp (disch := omega) only [go_sem]; first | done | exact K1.fr.blk i hi) ⟨rfl, rfl⟩)
            | (have e : rRead bs = (tab0, (tabWhere ⟨(⟨x.drop 3, false⟩ : Rr).num, l⟩).1) := by
                 unfold rRead
                 rw [if_neg (show ¬ 1000 < bs.length by omega), hop]
                 simp only
                 rw [if_neg (show ¬ (x.length < 3 ∨ x.take 3 ≠ markB) by rintro (h | h); omega; exact h hmark)]
                 simp only [← hmany]
                 rw [if_neg (show ¬ (r1.fell = true ∨ 0 < r1.b.length) from hbadr), if_pos hcode]
               refine Ret.pure (r' := .tuple [(rRead bs).1.pv, .int .i64 (rRead bs).2]) (by simp (disch := omega) only [Try.f26, go_sem, ↓reduceIte, H] <;> rfl) (by rw [e]; simp only [Tab.pv, tab0, PV.weak, PV.weaks, weaks_tens, List.map_nil]) (by simp only [PV.blw, PV.blws]; exact ⟨blw_tab _ _, trivial, trivial⟩) hwf (fun i hi => by simp (disch := omega) only [go_sem]; first | done | exact K1.fr.blk i hi) ⟨rfl, rfl⟩)
            | (have e : rRead bs = (⟨(⟨x.drop 3, false⟩ : Rr).num, l⟩, 0) := by
                 unfold rRead
                 rw [if_neg (show ¬ 1000 < bs.length by omega), hop]
                 simp only
                 rw [if_neg (show ¬ (x.length < 3 ∨ x.take 3 ≠ markB) by rintro (h | h); omega; exact h hmark)]
                 simp only [← hmany]
                 rw [if_neg (show ¬ (r1.fell = true ∨ 0 < r1.b.length) from hbadr), if_neg hcode]
               refine Ret.pure (r' := .tuple [(rRead bs).1.pv, .int .i64 (rRead bs).2]) (by simp (disch := omega) only [Try.f26, go_sem, ↓reduceIte, H] <;> rfl) (by rw [e]; simp only [Tab.pv, tab0, PV.weak, PV.weaks, weaks_tens, List.map_nil]) (by simp only [PV.blw, PV.blws]; exact ⟨blw_tab _ _, trivial, trivial⟩) hwf (fun i hi => by simp (disch := omega) only [go_sem]; first | done | exact K1.fr.blk i hi) ⟨rfl, rfl⟩)
        · cases hc2
      · have hmk : ((strB (x.take 3)).toList == (ByteArray.mk #[66, 71, 49]).toList) = decide (x.take 3 = markB) := strB_beq (hxb.take 3) (b := markB) (by intro y hy; simp only [markB, List.mem_cons, List.not_mem_nil, or_false] at hy; rcases hy with rfl | rfl | rfl <;> decide)
        have hle3 : 3 ≤ x.length := by have := of_decide_eq_false hg3; omega
        have hle3' : ((3 : Int) ≤ (x.length : Int)) = True := eq_true (by omega)
        have h03 : ((0 : Int) ≤ 3) = True := by decide
        have ht3 : Int.toNat 3 = 3 := rfl
        have htk3 : (x.map (PV.int .u8)).take 3 = (x.take 3).map (PV.int .u8) := List.map_take.symm
        have H := aj hmk (aj hle3 (aj hle3' (aj h03 (aj ht3 (aj htk3 H)))))
        refine rg1 (k := rg1 (k := rg1 (k := rg1 (k := rh [2, 4, 31] (k := rc (ht := fun hc2 => ?_) (hf := fun hc2 => ?_))))))
        · refine rs (k := ?_)
          have hbadm : x.length < 3 ∨ x.take 3 ≠ markB := by first | (have := of_decide_eq_true hg3; left; omega) | (right; simpa using hc2)
          refine rg [2, 3] (k := rR (k := ?_))
          first
            | (have hL : 1000 < bs.length := by have := of_decide_eq_true hc0; omega
               have e : rRead bs = (tab0, 3) := by unfold rRead; rw [if_pos hL]
               refine Ret.pure (r' := .tuple [(rRead bs).1.pv, .int .i64 (rRead bs).2]) (by simp (disch := omega) only [Try.f26, go_sem, ↓reduceIte, H] <;> rfl) (by rw [e]; simp only [Tab.pv, tab0, PV.weak, PV.weaks, weaks_tens, List.map_nil]) (by simp only [PV.blw, PV.blws]; exact ⟨blw_tab _ _, trivial, trivial⟩) hwf (fun i hi => by simp (disch := omega) only [go_sem]; first | done | exact K1.fr.blk i hi) ⟨rfl, rfl⟩)
            | (have e : rRead bs = (tab0, 14) := by
                 unfold rRead
                 rw [if_neg (show ¬ 1000 < bs.length by omega), hop]
               refine Ret.pure (r' := .tuple [(rRead bs).1.pv, .int .i64 (rRead bs).2]) (by simp (disch := omega) only [Try.f26, go_sem, ↓reduceIte, H] <;> rfl) (by rw [e]; simp only [Tab.pv, tab0, PV.weak, PV.weaks, weaks_tens, List.map_nil]) (by simp only [PV.blw, PV.blws]; exact ⟨blw_tab _ _, trivial, trivial⟩) hwf (fun i hi => by simp (disch := omega) only [go_sem]; first | done | exact K1.fr.blk i hi) ⟨rfl, rfl⟩)
            | (have e : rRead bs = (tab0, 12) := by
                 unfold rRead
                 rw [if_neg (show ¬ 1000 < bs.length by omega), hop]
                 simp only
                 rw [if_pos (show x.length < 3 ∨ x.take 3 ≠ markB from hbadm)]
               refine Ret.pure (r' := .tuple [(rRead bs).1.pv, .int .i64 (rRead bs).2]) (by simp (disch := omega) only [Try.f26, go_sem, ↓reduceIte, H] <;> rfl) (by rw [e]; simp only [Tab.pv, tab0, PV.weak, PV.weaks, weaks_tens, List.map_nil]) (by simp only [PV.blw, PV.blws]; exact ⟨blw_tab _ _, trivial, trivial⟩) hwf (fun i hi => by simp (disch := omega) only [go_sem]; first | done | exact K1.fr.blk i hi) ⟨rfl, rfl⟩)
            | (have e : rRead bs = (tab0, 12) := by
                 unfold rRead
                 rw [if_neg (show ¬ 1000 < bs.length by omega), hop]
                 simp only
                 rw [if_neg (show ¬ (x.length < 3 ∨ x.take 3 ≠ markB) by rintro (h | h); omega; exact h hmark)]
                 simp only [← hmany]
                 rw [if_pos (show r1.fell = true ∨ 0 < r1.b.length from hbadr)]
               refine Ret.pure (r' := .tuple [(rRead bs).1.pv, .int .i64 (rRead bs).2]) (by simp (disch := omega) only [Try.f26, go_sem, ↓reduceIte, H] <;> rfl) (by rw [e]; simp only [Tab.pv, tab0, PV.weak, PV.weaks, weaks_tens, List.map_nil]) (by simp only [PV.blw, PV.blws]; exact ⟨blw_tab _ _, trivial, trivial⟩) hwf (fun i hi => by simp (disch := omega) only [go_sem]; first | done | exact K1.fr.blk i hi) ⟨rfl, rfl⟩)
            | (have e : rRead bs = (tab0, (tabWhere ⟨(⟨x.drop 3, false⟩ : Rr).num, l⟩).1) := by
                 unfold rRead
                 rw [if_neg (show ¬ 1000 < bs.length by omega), hop]
                 simp only
                 rw [if_neg (show ¬ (x.length < 3 ∨ x.take 3 ≠ markB) by rintro (h | h); omega; exact h hmark)]
                 simp only [← hmany]
                 rw [if_neg (show ¬ (r1.fell = true ∨ 0 < r1.b.length) from hbadr), if_pos hcode]
               refine Ret.pure (r' := .tuple [(rRead bs).1.pv, .int .i64 (rRead bs).2]) (by simp (disch := omega) only [Try.f26, go_sem, ↓reduceIte, H] <;> rfl) (by rw [e]; simp only [Tab.pv, tab0, PV.weak, PV.weaks, weaks_tens, List.map_nil]) (by simp only [PV.blw, PV.blws]; exact ⟨blw_tab _ _, trivial, trivial⟩) hwf (fun i hi => by simp (disch := omega) only [go_sem]; first | done | exact K1.fr.blk i hi) ⟨rfl, rfl⟩)
            | (have e : rRead bs = (⟨(⟨x.drop 3, false⟩ : Rr).num, l⟩, 0) := by
                 unfold rRead
                 rw [if_neg (show ¬ 1000 < bs.length by omega), hop]
                 simp only
                 rw [if_neg (show ¬ (x.length < 3 ∨ x.take 3 ≠ markB) by rintro (h | h); omega; exact h hmark)]
                 simp only [← hmany]
                 rw [if_neg (show ¬ (r1.fell = true ∨ 0 < r1.b.length) from hbadr), if_neg hcode]
               refine Ret.pure (r' := .tuple [(rRead bs).1.pv, .int .i64 (rRead bs).2]) (by simp (disch := omega) only [Try.f26, go_sem, ↓reduceIte, H] <;> rfl) (by rw [e]; simp only [Tab.pv, tab0, PV.weak, PV.weaks, weaks_tens, List.map_nil]) (by simp only [PV.blw, PV.blws]; exact ⟨blw_tab _ _, trivial, trivial⟩) hwf (fun i hi => by simp (disch := omega) only [go_sem]; first | done | exact K1.fr.blk i hi) ⟨rfl, rfl⟩)
        · refine rk (k := rs (k := ?_))
          have hmark : x.take 3 = markB := by simpa using hc2
          have hdr : (x.map (PV.int .u8)).drop 3 = (x.drop 3).map (PV.int .u8) := List.map_drop.symm
          have htd : ((x.drop 3).map (PV.int .u8)).take ((x.length : Int) - 3).toNat = (x.drop 3).map (PV.int .u8) := List.take_of_length_le (by simp; omega)
          have hr0 : (⟨x.drop 3, false⟩ : Rr).ok := ⟨hxb.drop 3, by simp only [List.length_drop]; omega⟩
          have H := aj hdr (aj htd H)
          refine rg [2, 6] (k := rs (k := rr (k := ro (pre := [_]) (k := ?_))))
          refine RunO.callw au au au (by kernel_rfl) ((rr_num hr0 au).mono ?_)
          rintro v s9 ⟨rfl, hs⟩
          subst s9
          refine rh [2, 6, 7] (k := rs (k := rs (k := rr (k := ro (pre := [_]) (k := ?_)))))
          refine RunO.callw au au au (by kernel_rfl) ((rr_num hr0.nx au).mono ?_)
          rintro v s9 ⟨rfl, hs⟩
          subst s9
          refine rh [2, 6, 7, 8] (k := rb (k := ?_))
          refine Run.loop (fun e s' => ∃ (m : Nat) (r1 : Rr) (l : List Ten) (kk : SK), e = [(2, .ptr s.nxt 0 0), (6, .ptr (s.nxt + 1) 0 0), (7, .ptr (s.nxt + 2) 0 0), (8, .int .i64 (m : Int))] ∧ m + l.length ≤ 65535 ∧ r1.ok ∧ Kp s s' [(s.nxt + 2, .row 24 [.agg [.int .i64 (⟨x.drop 3, false⟩ : Rr).num, .sl kk (l.map Ten.pv)]]), (s.nxt + 1, .row 82 [(r1).pv]), (s.nxt, .row 24 [.agg [.int .i64 0, .sl .nil []]])] ∧ Grows s' kk l.length (Try.prog.cellsOf 53) ∧ (∀ t z, kk = .tok t z → s.nxt + 2 < t ∧ t < s'.nxt) ∧ l.length ≤ 65535 ∧ (∀ y ∈ l, y.ok) ∧ Rr.many Rr.ten m r1 l = (⟨x.drop 3, false⟩ : Rr).nx.tens) (fun e s' => ivar e 8) ?_ ?_
          · have hn := Rr.num_ok hr0.nx
            obtain ⟨m0, hm0⟩ : ∃ m0 : Nat, (⟨x.drop 3, false⟩ : Rr).nx.num = m0 := ⟨(⟨x.drop 3, false⟩ : Rr).nx.num.toNat, (Int.toNat_of_nonneg hn.1).symm⟩
            refine ⟨m0, (⟨x.drop 3, false⟩ : Rr).nx.nx, [], .nil, by rw [← hm0] <;> rfl, by simp only [List.length_nil]; have := hn.2; have : (⟨x.drop 3, false⟩ : Rr).nx.num ≤ 65535 := this; omega, hr0.nx.nx, ?_, .inl ⟨rfl, rfl⟩, fun t z e => (by cases e), by simp, by simp, by unfold Rr.tens; rw [hm0]; rfl⟩
            exact (((((Kp.nil (Fr.refl hwf)).push _).push _).setset (by simp [nxt_new]) (by simp only [nxt_new]; omega)).pushset (id := s.nxt + 2) _ _ rfl).swap.setset (by simp [nxt_new]) (by simp only [nxt_new]; omega) |>.swap
          rintro e s1 ⟨m, r1, l, kk, rfl, hml, hr1, K1, hgr, htk, hlen, hal, hmany⟩
          refine rs (k := rs (k := ?_))
          have hO := K1.hd'
          have hR := K1.tl.hd'
          have hZ := K1.tl.tl.hd'
          have hl2 := K1.lt'
          have hn1 := K1.nx
          have H := aj hO (aj hR (aj hZ H))
          refine rg [2, 6, 7, 8, 50] (k := rc (ht := fun hc3 => ?_) (hf := fun hc3 => ?_))
          · refine rk (k := rs (k := rb (k := ?_)))
            have hms : 0 < m ∧ r1.fell = false := by revert hc3; cases r1.fell <;> simp
            have hw : IntKind.i64.wrap ((m : Int) - 1) = ((m - 1 : Nat) : Int) := by rw [wrap_i64 (by omega)]; omega
            have H := aj hw H
            refine Run.drawM 5 [3] [s1, (s1.set (s.nxt + 1) (some (.row 82 [(r1.ten.2).pv])))] Try.mixed (by kernel_rfl) (by kernel_rfl) ?_
            refine DetBC.pre (pre := [_, _, _]) (by decide) List.mem_cons_self au ?_
            refine DetBC.callE (by decide) List.mem_cons_self au au au (by kernel_rfl) (rr_ten hr1 au) ?_
            refine DetBC.all (by decide) (List.mem_cons_of_mem _ List.mem_cons_self) au ?_
            refine RunO.abs (fun s2 => Kp s s2 [(s.nxt + 2, .row 24 [.agg [.int .i64 (⟨x.drop 3, false⟩ : Rr).num, .sl kk (l.map Ten.pv)]]), (s.nxt + 1, .row 82 [(r1.ten.2).pv]), (s.nxt, .row 24 [.agg [.int .i64 0, .sl .nil []]])] ∧ s2.nxt = s1.nxt ∧ Grows s2 kk l.length (Try.prog.cellsOf 53)) ⟨((K1.swap.setset (b' := .row 82 [(r1.ten.2).pv]) (by simp) (by omega)).swap), rfl, hgr.mono fun t ht => by have := htk t _ ht; simp (disch := omega) only [go_sem]⟩ ?_
            rintro s2 ⟨K2, hn2, hg2⟩
            have hO2 := K2.hd'
            have hlw := hlen
            have H := aj hO2 H
            refine RunO.grow au au au Try.td22 (by rw [Try.zp53]; rfl) (isEls_map (fun a => ⟨rfl, by rw [Try.cz53]; rfl⟩) _) (isEls_map (f := Ten.pv) (fun a => ⟨rfl, by rw [Try.cz53]; rfl⟩) [r1.ten.1]) (by rw [Try.by53]; decide) (by rw [Try.by53]; simp; omega) (by rw [List.length_map]; exact hg2) (by simp) ?_
            intro k' s3 hgr' htm
            have K3 := K2.tm htm (fun t z e => by have := htk t z e; omega) (fun p hp z e => by
              have := htk _ z e
              simp only [List.mem_cons, List.not_mem_nil, or_false] at hp
              rcases hp with rfl | rfl | rfl <;> simp only at this <;> omega)
            have hO3 := K3.hd'
            have htk3 : ∀ t z, k' = .tok t z → s.nxt + 2 < t ∧ t < s3.nxt := fun t z e => by
              have h9 := htm.nxt
              rcases htm.fresh t z e with ⟨z', h⟩ | ⟨h1, h2⟩
              · have := htk t z' h; omega
              · omega
            have H := aj hO3 H
            refine rh [2, 6, 7, 8] (k := rB (k := rg [2, 6, 7, 8] (k := ?_)))
            rw [List.length_map] at hgr'
            refine Run.lp ⟨⟨m - 1, r1.ten.2, l ++ [r1.ten.1], k', by simp (disch := omega) only [go_sem, hw] <;> rfl, by simp only [List.length_append, List.length_cons, List.length_nil]; omega, (Rr.ten_ok hr1).2, ?_, by rw [List.length_append]; exact hgr'.mono fun t ht => blk_set_ne (by have := htk3 t _ ht; omega), htk3, by simp only [List.length_append, List.length_cons, List.length_nil]; omega, fun y hy => (List.mem_append.1 hy).elim (hal y) (fun h => by rw [List.mem_singleton.1 h]; exact (Rr.ten_ok hr1).1), ?_⟩, ?_⟩
            · have := K3.setset (b' := .row 24 [.agg [.int .i64 (⟨x.drop 3, false⟩ : Rr).num, .sl k' (l.map Ten.pv ++ [r1.ten.1.pv])]]) (by simp) (by omega)
              rw [List.map_append]
              exact this
            · rw [← hmany, Rr.many_step hms.1 hms.2] <;> rfl
            · simp (disch := omega) only [ivar, go_sem, ↓reduceIte, Nat.reduceEqDiff, hw]
              omega
          · refine rX (k := rs (k := rs (k := ?_)))
            have hstop : m = 0 ∨ r1.fell = true := by revert hc3; cases r1.fell <;> simp
            rw [Rr.many_stop hstop] at hmany
            have hmany : (l, r1) = (⟨x.drop 3, false⟩ : Rr).nx.tens := hmany
            refine rg [2, 7, 71] (k := rc (ht := fun hc4 => ?_) (hf := fun hc4 => ?_))
            · refine rs (k := ?_)
              have hbadr : r1.fell = true ∨ 0 < r1.b.length := by revert hc4; cases r1.fell <;> simp
              refine rg [2, 3] (k := rR (k := ?_))
              first
                | (have hL : 1000 < bs.length := by have := of_decide_eq_true hc0; omega
                   have e : rRead bs = (tab0, 3) := by unfold rRead; rw [if_pos hL]
                   refine Ret.pure (r' := .tuple [(rRead bs).1.pv, .int .i64 (rRead bs).2]) (by simp (disch := omega) only [Try.f26, go_sem, ↓reduceIte, H] <;> rfl) (by rw [e]; simp only [Tab.pv, tab0, PV.weak, PV.weaks, weaks_tens, List.map_nil]) (by simp only [PV.blw, PV.blws]; exact ⟨blw_tab _ _, trivial, trivial⟩) hwf (fun i hi => by simp (disch := omega) only [go_sem]; first | done | exact K1.fr.blk i hi) ⟨rfl, rfl⟩)
                | (have e : rRead bs = (tab0, 14) := by
                     unfold rRead
                     rw [if_neg (show ¬ 1000 < bs.length by omega), hop]
                   refine Ret.pure (r' := .tuple [(rRead bs).1.pv, .int .i64 (rRead bs).2]) (by simp (disch := omega) only [Try.f26, go_sem, ↓reduceIte, H] <;> rfl) (by rw [e]; simp only [Tab.pv, tab0, PV.weak, PV.weaks, weaks_tens, List.map_nil]) (by simp only [PV.blw, PV.blws]; exact ⟨blw_tab _ _, trivial, trivial⟩) hwf (fun i hi => by simp (disch := omega) only [go_sem]; first | done | exact K1.fr.blk i hi) ⟨rfl, rfl⟩)
                | (have e : rRead bs = (tab0, 12) := by
                     unfold rRead
                     rw [if_neg (show ¬ 1000 < bs.length by omega), hop]
                     simp only
                     rw [if_pos (show x.length < 3 ∨ x.take 3 ≠ markB from hbadm)]
                   refine Ret.pure (r' := .tuple [(rRead bs).1.pv, .int .i64 (rRead bs).2]) (by simp (disch := omega) only [Try.f26, go_sem, ↓reduceIte, H] <;> rfl) (by rw [e]; simp only [Tab.pv, tab0, PV.weak, PV.weaks, weaks_tens, List.map_nil]) (by simp only [PV.blw, PV.blws]; exact ⟨blw_tab _ _, trivial, trivial⟩) hwf (fun i hi => by simp (disch := omega) only [go_sem]; first | done | exact K1.fr.blk i hi) ⟨rfl, rfl⟩)
                | (have e : rRead bs = (tab0, 12) := by
                     unfold rRead
                     rw [if_neg (show ¬ 1000 < bs.length by omega), hop]
                     simp only
                     rw [if_neg (show ¬ (x.length < 3 ∨ x.take 3 ≠ markB) by rintro (h | h); omega; exact h hmark)]
                     simp only [← hmany]
                     rw [if_pos (show r1.fell = true ∨ 0 < r1.b.length from hbadr)]
                   refine Ret.pure (r' := .tuple [(rRead bs).1.pv, .int .i64 (rRead bs).2]) (by simp (disch := omega) only [Try.f26, go_sem, ↓reduceIte, H] <;> rfl) (by rw [e]; simp only [Tab.pv, tab0, PV.weak, PV.weaks, weaks_tens, List.map_nil]) (by simp only [PV.blw, PV.blws]; exact ⟨blw_tab _ _, trivial, trivial⟩) hwf (fun i hi => by simp (disch := omega) only [go_sem]; first | done | exact K1.fr.blk i hi) ⟨rfl, rfl⟩)
                | (have e : rRead bs = (tab0, (tabWhere ⟨(⟨x.drop 3, false⟩ : Rr).num, l⟩).1) := by
                     unfold rRead
                     rw [if_neg (show ¬ 1000 < bs.length by omega), hop]
                     simp only
                     rw [if_neg (show ¬ (x.length < 3 ∨ x.take 3 ≠ markB) by rintro (h | h); omega; exact h hmark)]
                     simp only [← hmany]
                     rw [if_neg (show ¬ (r1.fell = true ∨ 0 < r1.b.length) from hbadr), if_pos hcode]
                   refine Ret.pure (r' := .tuple [(rRead bs).1.pv, .int .i64 (rRead bs).2]) (by simp (disch := omega) only [Try.f26, go_sem, ↓reduceIte, H] <;> rfl) (by rw [e]; simp only [Tab.pv, tab0, PV.weak, PV.weaks, weaks_tens, List.map_nil]) (by simp only [PV.blw, PV.blws]; exact ⟨blw_tab _ _, trivial, trivial⟩) hwf (fun i hi => by simp (disch := omega) only [go_sem]; first | done | exact K1.fr.blk i hi) ⟨rfl, rfl⟩)
                | (have e : rRead bs = (⟨(⟨x.drop 3, false⟩ : Rr).num, l⟩, 0) := by
                     unfold rRead
                     rw [if_neg (show ¬ 1000 < bs.length by omega), hop]
                     simp only
                     rw [if_neg (show ¬ (x.length < 3 ∨ x.take 3 ≠ markB) by rintro (h | h); omega; exact h hmark)]
                     simp only [← hmany]
                     rw [if_neg (show ¬ (r1.fell = true ∨ 0 < r1.b.length) from hbadr), if_neg hcode]
                   refine Ret.pure (r' := .tuple [(rRead bs).1.pv, .int .i64 (rRead bs).2]) (by simp (disch := omega) only [Try.f26, go_sem, ↓reduceIte, H] <;> rfl) (by rw [e]; simp only [Tab.pv, tab0, PV.weak, PV.weaks, weaks_tens, List.map_nil]) (by simp only [PV.blw, PV.blws]; exact ⟨blw_tab _ _, trivial, trivial⟩) hwf (fun i hi => by simp (disch := omega) only [go_sem]; first | done | exact K1.fr.blk i hi) ⟨rfl, rfl⟩)
            · refine rk (k := rs (k := rs (k := ?_)))
              have hbadr : ¬ (r1.fell = true ∨ 0 < r1.b.length) := by revert hc4; cases r1.fell <;> simp
              have htab : Tab.ok ⟨(⟨x.drop 3, false⟩ : Rr).num, l⟩ := ⟨I64_of_U16 (Rr.num_ok hr0), hal, by simp only; omega⟩
              refine rr (k := ro (pre := [_]) (k := rC (h := ref11_Where (t := ⟨(⟨x.drop 3, false⟩ : Rr).num, l⟩) htab) (k := rh [2, 7, 9] (k := rs (k := rg [2, 7, 9, 79] (k := rc (ht := fun hc5 => ?_) (hf := fun hc5 => ?_)))))))
              · refine rs (k := ?_)
                have hcode : (tabWhere ⟨(⟨x.drop 3, false⟩ : Rr).num, l⟩).1 ≠ 0 := by simpa using hc5
                refine rg [2, 3] (k := rR (k := ?_))
                first
                  | (have hL : 1000 < bs.length := by have := of_decide_eq_true hc0; omega
                     have e : rRead bs = (tab0, 3) := by unfold rRead; rw [if_pos hL]
                     refine Ret.pure (r' := .tuple [(rRead bs).1.pv, .int .i64 (rRead bs).2]) (by simp (disch := omega) only [Try.f26, go_sem, ↓reduceIte, H] <;> rfl) (by rw [e]; simp only [Tab.pv, tab0, PV.weak, PV.weaks, weaks_tens, List.map_nil]) (by simp only [PV.blw, PV.blws]; exact ⟨blw_tab _ _, trivial, trivial⟩) hwf (fun i hi => by simp (disch := omega) only [go_sem]; first | done | exact K1.fr.blk i hi) ⟨rfl, rfl⟩)
                  | (have e : rRead bs = (tab0, 14) := by
                       unfold rRead
                       rw [if_neg (show ¬ 1000 < bs.length by omega), hop]
                     refine Ret.pure (r' := .tuple [(rRead bs).1.pv, .int .i64 (rRead bs).2]) (by simp (disch := omega) only [Try.f26, go_sem, ↓reduceIte, H] <;> rfl) (by rw [e]; simp only [Tab.pv, tab0, PV.weak, PV.weaks, weaks_tens, List.map_nil]) (by simp only [PV.blw, PV.blws]; exact ⟨blw_tab _ _, trivial, trivial⟩) hwf (fun i hi => by simp (disch := omega) only [go_sem]; first | done | exact K1.fr.blk i hi) ⟨rfl, rfl⟩)
                  | (have e : rRead bs = (tab0, 12) := by
                       unfold rRead
                       rw [if_neg (show ¬ 1000 < bs.length by omega), hop]
                       simp only
                       rw [if_pos (show x.length < 3 ∨ x.take 3 ≠ markB from hbadm)]
                     refine Ret.pure (r' := .tuple [(rRead bs).1.pv, .int .i64 (rRead bs).2]) (by simp (disch := omega) only [Try.f26, go_sem, ↓reduceIte, H] <;> rfl) (by rw [e]; simp only [Tab.pv, tab0, PV.weak, PV.weaks, weaks_tens, List.map_nil]) (by simp only [PV.blw, PV.blws]; exact ⟨blw_tab _ _, trivial, trivial⟩) hwf (fun i hi => by simp (disch := omega) only [go_sem]; first | done | exact K1.fr.blk i hi) ⟨rfl, rfl⟩)
                  | (have e : rRead bs = (tab0, 12) := by
                       unfold rRead
                       rw [if_neg (show ¬ 1000 < bs.length by omega), hop]
                       simp only
                       rw [if_neg (show ¬ (x.length < 3 ∨ x.take 3 ≠ markB) by rintro (h | h); omega; exact h hmark)]
                       simp only [← hmany]
                       rw [if_pos (show r1.fell = true ∨ 0 < r1.b.length from hbadr)]
                     refine Ret.pure (r' := .tuple [(rRead bs).1.pv, .int .i64 (rRead bs).2]) (by simp (disch := omega) only [Try.f26, go_sem, ↓reduceIte, H] <;> rfl) (by rw [e]; simp only [Tab.pv, tab0, PV.weak, PV.weaks, weaks_tens, List.map_nil]) (by simp only [PV.blw, PV.blws]; exact ⟨blw_tab _ _, trivial, trivial⟩) hwf (fun i hi => by simp (disch := omega) only [go_sem]; first | done | exact K1.fr.blk i hi) ⟨rfl, rfl⟩)
                  | (have e : rRead bs = (tab0, (tabWhere ⟨(⟨x.drop 3, false⟩ : Rr).num, l⟩).1) := by
                       unfold rRead
                       rw [if_neg (show ¬ 1000 < bs.length by omega), hop]
                       simp only
                       rw [if_neg (show ¬ (x.length < 3 ∨ x.take 3 ≠ markB) by rintro (h | h); omega; exact h hmark)]
                       simp only [← hmany]
                       rw [if_neg (show ¬ (r1.fell = true ∨ 0 < r1.b.length) from hbadr), if_pos hcode]
                     refine Ret.pure (r' := .tuple [(rRead bs).1.pv, .int .i64 (rRead bs).2]) (by simp (disch := omega) only [Try.f26, go_sem, ↓reduceIte, H] <;> rfl) (by rw [e]; simp only [Tab.pv, tab0, PV.weak, PV.weaks, weaks_tens, List.map_nil]) (by simp only [PV.blw, PV.blws]; exact ⟨blw_tab _ _, trivial, trivial⟩) hwf (fun i hi => by simp (disch := omega) only [go_sem]; first | done | exact K1.fr.blk i hi) ⟨rfl, rfl⟩)
                  | (have e : rRead bs = (⟨(⟨x.drop 3, false⟩ : Rr).num, l⟩, 0) := by
                       unfold rRead
                       rw [if_neg (show ¬ 1000 < bs.length by omega), hop]
                       simp only
                       rw [if_neg (show ¬ (x.length < 3 ∨ x.take 3 ≠ markB) by rintro (h | h); omega; exact h hmark)]
                       simp only [← hmany]
                       rw [if_neg (show ¬ (r1.fell = true ∨ 0 < r1.b.length) from hbadr), if_neg hcode]
                     refine Ret.pure (r' := .tuple [(rRead bs).1.pv, .int .i64 (rRead bs).2]) (by simp (disch := omega) only [Try.f26, go_sem, ↓reduceIte, H] <;> rfl) (by rw [e]; simp only [Tab.pv, tab0, PV.weak, PV.weaks, weaks_tens, List.map_nil]) (by simp only [PV.blw, PV.blws]; exact ⟨blw_tab _ _, trivial, trivial⟩) hwf (fun i hi => by simp (disch := omega) only [go_sem]; first | done | exact K1.fr.blk i hi) ⟨rfl, rfl⟩)
              · refine rk (k := rs (k := ?_))
                have hcode : ¬ (tabWhere ⟨(⟨x.drop 3, false⟩ : Rr).num, l⟩).1 ≠ 0 := by simpa using hc5
                refine rg [2, 3] (k := rR (k := ?_))
                first
                  | (have hL : 1000 < bs.length := by have := of_decide_eq_true hc0; omega
                     have e : rRead bs = (tab0, 3) := by unfold rRead; rw [if_pos hL]
                     refine Ret.pure (r' := .tuple [(rRead bs).1.pv, .int .i64 (rRead bs).2]) (by simp (disch := omega) only [Try.f26, go_sem, ↓reduceIte, H] <;> rfl) (by rw [e]; simp only [Tab.pv, tab0, PV.weak, PV.weaks, weaks_tens, List.map_nil]) (by simp only [PV.blw, PV.blws]; exact ⟨blw_tab _ _, trivial, trivial⟩) hwf (fun i hi => by simp (disch := omega) only [go_sem]; first | done | exact K1.fr.blk i hi) ⟨rfl, rfl⟩)
                  | (have e : rRead bs = (tab0, 14) := by
                       unfold rRead
                       rw [if_neg (show ¬ 1000 < bs.length by omega), hop]
                     refine Ret.pure (r' := .tuple [(rRead bs).1.pv, .int .i64 (rRead bs).2]) (by simp (disch := omega) only [Try.f26, go_sem, ↓reduceIte, H] <;> rfl) (by rw [e]; simp only [Tab.pv, tab0, PV.weak, PV.weaks, weaks_tens, List.map_nil]) (by simp only [PV.blw, PV.blws]; exact ⟨blw_tab _ _, trivial, trivial⟩) hwf (fun i hi => by simp (disch := omega) only [go_sem]; first | done | exact K1.fr.blk i hi) ⟨rfl, rfl⟩)
                  | (have e : rRead bs = (tab0, 12) := by
                       unfold rRead
                       rw [if_neg (show ¬ 1000 < bs.length by omega), hop]
                       simp only
                       rw [if_pos (show x.length < 3 ∨ x.take 3 ≠ markB from hbadm)]
                     refine Ret.pure (r' := .tuple [(rRead bs).1.pv, .int .i64 (rRead bs).2]) (by simp (disch := omega) only [Try.f26, go_sem, ↓reduceIte, H] <;> rfl) (by rw [e]; simp only [Tab.pv, tab0, PV.weak, PV.weaks, weaks_tens, List.map_nil]) (by simp only [PV.blw, PV.blws]; exact ⟨blw_tab _ _, trivial, trivial⟩) hwf (fun i hi => by simp (disch := omega) only [go_sem]; first | done | exact K1.fr.blk i hi) ⟨rfl, rfl⟩)
                  | (have e : rRead bs = (tab0, 12) := by
                       unfold rRead
                       rw [if_neg (show ¬ 1000 < bs.length by omega), hop]
                       simp only
                       rw [if_neg (show ¬ (x.length < 3 ∨ x.take 3 ≠ markB) by rintro (h | h); omega; exact h hmark)]
                       simp only [← hmany]
                       rw [if_pos (show r1.fell = true ∨ 0 < r1.b.length from hbadr)]
                     refine Ret.pure (r' := .tuple [(rRead bs).1.pv, .int .i64 (rRead bs).2]) (by simp (disch := omega) only [Try.f26, go_sem, ↓reduceIte, H] <;> rfl) (by rw [e]; simp only [Tab.pv, tab0, PV.weak, PV.weaks, weaks_tens, List.map_nil]) (by simp only [PV.blw, PV.blws]; exact ⟨blw_tab _ _, trivial, trivial⟩) hwf (fun i hi => by simp (disch := omega) only [go_sem]; first | done | exact K1.fr.blk i hi) ⟨rfl, rfl⟩)
                  | (have e : rRead bs = (tab0, (tabWhere ⟨(⟨x.drop 3, false⟩ : Rr).num, l⟩).1) := by
                       unfold rRead
                       rw [if_neg (show ¬ 1000 < bs.length by omega), hop]
                       simp only
                       rw [if_neg (show ¬ (x.length < 3 ∨ x.take 3 ≠ markB) by rintro (h | h); omega; exact h hmark)]
                       simp only [← hmany]
                       rw [if_neg (show ¬ (r1.fell = true ∨ 0 < r1.b.length) from hbadr), if_pos hcode]
                     refine Ret.pure (r' := .tuple [(rRead bs).1.pv, .int .i64 (rRead bs).2]) (by simp (disch := omega) only [Try.f26, go_sem, ↓reduceIte, H] <;> rfl) (by rw [e]; simp only [Tab.pv, tab0, PV.weak, PV.weaks, weaks_tens, List.map_nil]) (by simp only [PV.blw, PV.blws]; exact ⟨blw_tab _ _, trivial, trivial⟩) hwf (fun i hi => by simp (disch := omega) only [go_sem]; first | done | exact K1.fr.blk i hi) ⟨rfl, rfl⟩)
                  | (have e : rRead bs = (⟨(⟨x.drop 3, false⟩ : Rr).num, l⟩, 0) := by
                       unfold rRead
                       rw [if_neg (show ¬ 1000 < bs.length by omega), hop]
                       simp only
                       rw [if_neg (show ¬ (x.length < 3 ∨ x.take 3 ≠ markB) by rintro (h | h); omega; exact h hmark)]
                       simp only [← hmany]
                       rw [if_neg (show ¬ (r1.fell = true ∨ 0 < r1.b.length) from hbadr), if_neg hcode]
                     refine Ret.pure (r' := .tuple [(rRead bs).1.pv, .int .i64 (rRead bs).2]) (by simp (disch := omega) only [Try.f26, go_sem, ↓reduceIte, H] <;> rfl) (by rw [e]; simp only [Tab.pv, tab0, PV.weak, PV.weaks, weaks_tens, List.map_nil]) (by simp only [PV.blw, PV.blws]; exact ⟨blw_tab _ _, trivial, trivial⟩) hwf (fun i hi => by simp (disch := omega) only [go_sem]; first | done | exact K1.fr.blk i hi) ⟨rfl, rfl⟩)
set_option maxRecDepth 100000 in
theorem deed_Read {bs : List Int} (hb : OkB bs) (hl : bs.length ≤ 281474976710656) {s : St} : ACalls Try.prog 20 [.sl .unk (bs.map (PV.int .u8))] s (fun r s' => r = .tuple [(dRead bs).1.pv, .int .i64 (dRead bs).2] ∧ s' = s) := by
  refine go Try.func20 (k := fun hwf H => ?_)
  refine rs (k := rg [0, 2] (k := rs (k := rs (k := rg [0, 2, 12] (k := rc (ht := fun hc0 => ?_) (hf := fun hc0 => ?_))))))
  · refine rs (k := rg [2, 3] (k := rR (k := ?_)))
    first
      | (have hL : 1000 < bs.length := by have := of_decide_eq_true hc0; omega
         have e : dRead bs = (tab0, 3) := by unfold dRead; rw [if_pos hL]
         refine Ret.pure (r' := .tuple [(dRead bs).1.pv, .int .i64 (dRead bs).2]) (by simp (disch := omega) only [Try.f20, go_sem, ↓reduceIte, H] <;> rfl) (by rw [e]; simp only [Tab.pv, tab0, PV.weak, PV.weaks, weaks_tens, List.map_nil]) (by simp only [PV.blw, PV.blws]; exact ⟨blw_tab _ _, trivial, trivial⟩) hwf (fun i hi => by simp (disch := omega) only [go_sem]; first | done | exact K1.fr.blk i hi) ⟨rfl, rfl⟩)
      | (have e : dRead bs = (tab0, 14) := by
           unfold dRead
           rw [if_neg (show ¬ 1000 < bs.length by omega), hop]
         refine Ret.pure (r' := .tuple [(dRead bs).1.pv, .int .i64 (dRead bs).2]) (by simp (disch := omega) only [Try.f20, go_sem, ↓reduceIte, H] <;> rfl) (by rw [e]; simp only [Tab.pv, tab0, PV.weak, PV.weaks, weaks_tens, List.map_nil]) (by simp only [PV.blw, PV.blws]; exact ⟨blw_tab _ _, trivial, trivial⟩) hwf (fun i hi => by simp (disch := omega) only [go_sem]; first | done | exact K1.fr.blk i hi) ⟨rfl, rfl⟩)
      | (have e : dRead bs = (tab0, 12) := by
           unfold dRead
           rw [if_neg (show ¬ 1000 < bs.length by omega), hop]
           simp only
           rw [if_pos (show x.length < 3 ∨ x.take 3 ≠ markB from hbadm)]
         refine Ret.pure (r' := .tuple [(dRead bs).1.pv, .int .i64 (dRead bs).2]) (by simp (disch := omega) only [Try.f20, go_sem, ↓reduceIte, H] <;> rfl) (by rw [e]; simp only [Tab.pv, tab0, PV.weak, PV.weaks, weaks_tens, List.map_nil]) (by simp only [PV.blw, PV.blws]; exact ⟨blw_tab _ _, trivial, trivial⟩) hwf (fun i hi => by simp (disch := omega) only [go_sem]; first | done | exact K1.fr.blk i hi) ⟨rfl, rfl⟩)
      | (have e : dRead bs = (tab0, 12) := by
           unfold dRead
           rw [if_neg (show ¬ 1000 < bs.length by omega), hop]
           simp only
           rw [if_neg (show ¬ (x.length < 3 ∨ x.take 3 ≠ markB) by rintro (h | h); omega; exact h hmark)]
           simp only [← hmany]
           rw [if_pos (show r1.bad = true ∨ r1.pos ≠ x.length from hbadr)]
         refine Ret.pure (r' := .tuple [(dRead bs).1.pv, .int .i64 (dRead bs).2]) (by simp (disch := omega) only [Try.f20, go_sem, ↓reduceIte, H] <;> rfl) (by rw [e]; simp only [Tab.pv, tab0, PV.weak, PV.weaks, weaks_tens, List.map_nil]) (by simp only [PV.blw, PV.blws]; exact ⟨blw_tab _ _, trivial, trivial⟩) hwf (fun i hi => by simp (disch := omega) only [go_sem]; first | done | exact K1.fr.blk i hi) ⟨rfl, rfl⟩)
      | (have e : dRead bs = (tab0, (tabWhere ⟨(⟨x, 3, false⟩ : Dr).num, l⟩).1) := by
           unfold dRead
           rw [if_neg (show ¬ 1000 < bs.length by omega), hop]
           simp only
           rw [if_neg (show ¬ (x.length < 3 ∨ x.take 3 ≠ markB) by rintro (h | h); omega; exact h hmark)]
           simp only [← hmany]
           rw [if_neg (show ¬ (r1.bad = true ∨ r1.pos ≠ x.length) from hbadr), if_pos hcode]
         refine Ret.pure (r' := .tuple [(dRead bs).1.pv, .int .i64 (dRead bs).2]) (by simp (disch := omega) only [Try.f20, go_sem, ↓reduceIte, H] <;> rfl) (by rw [e]; simp only [Tab.pv, tab0, PV.weak, PV.weaks, weaks_tens, List.map_nil]) (by simp only [PV.blw, PV.blws]; exact ⟨blw_tab _ _, trivial, trivial⟩) hwf (fun i hi => by simp (disch := omega) only [go_sem]; first | done | exact K1.fr.blk i hi) ⟨rfl, rfl⟩)
      | (have e : dRead bs = (⟨(⟨x, 3, false⟩ : Dr).num, l⟩, 0) := by
           unfold dRead
           rw [if_neg (show ¬ 1000 < bs.length by omega), hop]
           simp only
           rw [if_neg (show ¬ (x.length < 3 ∨ x.take 3 ≠ markB) by rintro (h | h); omega; exact h hmark)]
           simp only [← hmany]
           rw [if_neg (show ¬ (r1.bad = true ∨ r1.pos ≠ x.length) from hbadr), if_neg hcode]
         refine Ret.pure (r' := .tuple [(dRead bs).1.pv, .int .i64 (dRead bs).2]) (by simp (disch := omega) only [Try.f20, go_sem, ↓reduceIte, H] <;> rfl) (by rw [e]; simp only [Tab.pv, tab0, PV.weak, PV.weaks, weaks_tens, List.map_nil]) (by simp only [PV.blw, PV.blws]; exact ⟨blw_tab _ _, trivial, trivial⟩) hwf (fun i hi => by simp (disch := omega) only [go_sem]; first | done | exact K1.fr.blk i hi) ⟨rfl, rfl⟩)
  · refine rk (k := rs (k := ?_))
    have hL : ¬ 1000 < bs.length := by have := of_decide_eq_false hc0; omega
    refine rr (k := ro (pre := [_]) (k := rC (h := crc_Open hb (by omega)) (k := rh [2, 4, 5] (k := rs (k := rb (k := rs (k := ?_)))))))
    obtain ⟨op, hop⟩ : ∃ o, openB bs = o := ⟨_, rfl⟩
    have H := aj hop H
    refine rg [2, 4, 19] (k := rc (ht := fun hc1 => ?_) (hf := fun hc1 => ?_))
    · refine rs (k := ?_)
      obtain rfl : op = none := by revert hc1; cases op <;> simp
      refine rg [2, 3] (k := rR (k := ?_))
      first
        | (have hL : 1000 < bs.length := by have := of_decide_eq_true hc0; omega
           have e : dRead bs = (tab0, 3) := by unfold dRead; rw [if_pos hL]
           refine Ret.pure (r' := .tuple [(dRead bs).1.pv, .int .i64 (dRead bs).2]) (by simp (disch := omega) only [Try.f20, go_sem, ↓reduceIte, H] <;> rfl) (by rw [e]; simp only [Tab.pv, tab0, PV.weak, PV.weaks, weaks_tens, List.map_nil]) (by simp only [PV.blw, PV.blws]; exact ⟨blw_tab _ _, trivial, trivial⟩) hwf (fun i hi => by simp (disch := omega) only [go_sem]; first | done | exact K1.fr.blk i hi) ⟨rfl, rfl⟩)
        | (have e : dRead bs = (tab0, 14) := by
             unfold dRead
             rw [if_neg (show ¬ 1000 < bs.length by omega), hop]
           refine Ret.pure (r' := .tuple [(dRead bs).1.pv, .int .i64 (dRead bs).2]) (by simp (disch := omega) only [Try.f20, go_sem, ↓reduceIte, H] <;> rfl) (by rw [e]; simp only [Tab.pv, tab0, PV.weak, PV.weaks, weaks_tens, List.map_nil]) (by simp only [PV.blw, PV.blws]; exact ⟨blw_tab _ _, trivial, trivial⟩) hwf (fun i hi => by simp (disch := omega) only [go_sem]; first | done | exact K1.fr.blk i hi) ⟨rfl, rfl⟩)
        | (have e : dRead bs = (tab0, 12) := by
             unfold dRead
             rw [if_neg (show ¬ 1000 < bs.length by omega), hop]
             simp only
             rw [if_pos (show x.length < 3 ∨ x.take 3 ≠ markB from hbadm)]
           refine Ret.pure (r' := .tuple [(dRead bs).1.pv, .int .i64 (dRead bs).2]) (by simp (disch := omega) only [Try.f20, go_sem, ↓reduceIte, H] <;> rfl) (by rw [e]; simp only [Tab.pv, tab0, PV.weak, PV.weaks, weaks_tens, List.map_nil]) (by simp only [PV.blw, PV.blws]; exact ⟨blw_tab _ _, trivial, trivial⟩) hwf (fun i hi => by simp (disch := omega) only [go_sem]; first | done | exact K1.fr.blk i hi) ⟨rfl, rfl⟩)
        | (have e : dRead bs = (tab0, 12) := by
             unfold dRead
             rw [if_neg (show ¬ 1000 < bs.length by omega), hop]
             simp only
             rw [if_neg (show ¬ (x.length < 3 ∨ x.take 3 ≠ markB) by rintro (h | h); omega; exact h hmark)]
             simp only [← hmany]
             rw [if_pos (show r1.bad = true ∨ r1.pos ≠ x.length from hbadr)]
           refine Ret.pure (r' := .tuple [(dRead bs).1.pv, .int .i64 (dRead bs).2]) (by simp (disch := omega) only [Try.f20, go_sem, ↓reduceIte, H] <;> rfl) (by rw [e]; simp only [Tab.pv, tab0, PV.weak, PV.weaks, weaks_tens, List.map_nil]) (by simp only [PV.blw, PV.blws]; exact ⟨blw_tab _ _, trivial, trivial⟩) hwf (fun i hi => by simp (disch := omega) only [go_sem]; first | done | exact K1.fr.blk i hi) ⟨rfl, rfl⟩)
        | (have e : dRead bs = (tab0, (tabWhere ⟨(⟨x, 3, false⟩ : Dr).num, l⟩).1) := by
             unfold dRead
             rw [if_neg (show ¬ 1000 < bs.length by omega), hop]
             simp only
             rw [if_neg (show ¬ (x.length < 3 ∨ x.take 3 ≠ markB) by rintro (h | h); omega; exact h hmark)]
             simp only [← hmany]
             rw [if_neg (show ¬ (r1.bad = true ∨ r1.pos ≠ x.length) from hbadr), if_pos hcode]
           refine Ret.pure (r' := .tuple [(dRead bs).1.pv, .int .i64 (dRead bs).2]) (by simp (disch := omega) only [Try.f20, go_sem, ↓reduceIte, H] <;> rfl) (by rw [e]; simp only [Tab.pv, tab0, PV.weak, PV.weaks, weaks_tens, List.map_nil]) (by simp only [PV.blw, PV.blws]; exact ⟨blw_tab _ _, trivial, trivial⟩) hwf (fun i hi => by simp (disch := omega) only [go_sem]; first | done | exact K1.fr.blk i hi) ⟨rfl, rfl⟩)
        | (have e : dRead bs = (⟨(⟨x, 3, false⟩ : Dr).num, l⟩, 0) := by
             unfold dRead
             rw [if_neg (show ¬ 1000 < bs.length by omega), hop]
             simp only
             rw [if_neg (show ¬ (x.length < 3 ∨ x.take 3 ≠ markB) by rintro (h | h); omega; exact h hmark)]
             simp only [← hmany]
             rw [if_neg (show ¬ (r1.bad = true ∨ r1.pos ≠ x.length) from hbadr), if_neg hcode]
           refine Ret.pure (r' := .tuple [(dRead bs).1.pv, .int .i64 (dRead bs).2]) (by simp (disch := omega) only [Try.f20, go_sem, ↓reduceIte, H] <;> rfl) (by rw [e]; simp only [Tab.pv, tab0, PV.weak, PV.weaks, weaks_tens, List.map_nil]) (by simp only [PV.blw, PV.blws]; exact ⟨blw_tab _ _, trivial, trivial⟩) hwf (fun i hi => by simp (disch := omega) only [go_sem]; first | done | exact K1.fr.blk i hi) ⟨rfl, rfl⟩)
    · refine rs (k := ?_)
      obtain ⟨x, rfl⟩ : ∃ x, op = some x := by revert hc1; cases op <;> simp
      obtain ⟨hxb, hxl⟩ := openB_ok hb hop
      refine rr (k := ro (pre := [_, _, _, _]) (k := rQ 27 (ht := fun hg3 => ?_) (hf := fun hg3 => ?_)))
      · refine rg0 (k := rg0 (k := rg0 (k := rg0 (k := rh [2, 4, 23] (k := rc (ht := fun hc2 => ?_) (hf := fun hc2 => ?_))))))
        · refine rs (k := ?_)
          have hbadm : x.length < 3 ∨ x.take 3 ≠ markB := by first | (have := of_decide_eq_true hg3; left; omega) | (right; simpa using hc2)
          refine rg [2, 3] (k := rR (k := ?_))
          first
            | (have hL : 1000 < bs.length := by have := of_decide_eq_true hc0; omega
               have e : dRead bs = (tab0, 3) := by unfold dRead; rw [if_pos hL]
               refine Ret.pure (r' := .tuple [(dRead bs).1.pv, .int .i64 (dRead bs).2]) (by simp (disch := omega) only [Try.f20, go_sem, ↓reduceIte, H] <;> rfl) (by rw [e]; simp only [Tab.pv, tab0, PV.weak, PV.weaks, weaks_tens, List.map_nil]) (by simp only [PV.blw, PV.blws]; exact ⟨blw_tab _ _, trivial, trivial⟩) hwf (fun i hi => by simp (disch := omega) only [go_sem]; first | done | exact K1.fr.blk i hi) ⟨rfl, rfl⟩)
            | (have e : dRead bs = (tab0, 14) := by
                 unfold dRead
                 rw [if_neg (show ¬ 1000 < bs.length by omega), hop]
               refine Ret.pure (r' := .tuple [(dRead bs).1.pv, .int .i64 (dRead bs).2]) (by simp (disch := omega) only [Try.f20, go_sem, ↓reduceIte, H] <;> rfl) (by rw [e]; simp only [Tab.pv, tab0, PV.weak, PV.weaks, weaks_tens, List.map_nil]) (by simp only [PV.blw, PV.blws]; exact ⟨blw_tab _ _, trivial, trivial⟩) hwf (fun i hi => by simp (disch := omega) only [go_sem]; first | done | exact K1.fr.blk i hi) ⟨rfl, rfl⟩)
            | (have e : dRead bs = (tab0, 12) := by
                 unfold dRead
                 rw [if_neg (show ¬ 1000 < bs.length by omega), hop]
                 simp only
                 rw [if_pos (show x.length < 3 ∨ x.take 3 ≠ markB from hbadm)]
               refine Ret.pure (r' := .tuple [(dRead bs).1.pv, .int .i64 (dRead bs).2]) (by simp (disch := omega) only [Try.f20, go_sem, ↓reduceIte, H] <;> rfl) (by rw [e]; simp only [Tab.pv, tab0, PV.weak, PV.weaks, weaks_tens, List.map_nil]) (by simp only [PV.blw, PV.blws]; exact ⟨blw_tab _ _, trivial, trivial⟩) hwf (fun i hi => by simp (disch := omega) only [go_sem]; first | done | exact K1.fr.blk i hi) ⟨rfl, rfl⟩)
            | (have e : dRead bs = (tab0, 12) := by
                 unfold dRead
                 rw [if_neg (show ¬ 1000 < bs.length by omega), hop]
                 simp only
                 rw [if_neg (show ¬ (x.length < 3 ∨ x.take 3 ≠ markB) by rintro (h | h); omega; exact h hmark)]
                 simp only [← hmany]
                 rw [if_pos (show r1.bad = true ∨ r1.pos ≠ x.length from hbadr)]
               refine Ret.pure (r' := .tuple [(dRead bs).1.pv, .int .i64 (dRead bs).2]) (by simp (disch := omega) only [Try.f20, go_sem, ↓reduceIte, H] <;> rfl) (by rw [e]; simp only [Tab.pv, tab0, PV.weak, PV.weaks, weaks_tens, List.map_nil]) (by simp only [PV.blw, PV.blws]; exact ⟨blw_tab _ _, trivial, trivial⟩) hwf (fun i hi => by simp (disch := omega) only [go_sem]; first | done | exact K1.fr.blk i hi) ⟨rfl, rfl⟩)
            | (have e : dRead bs = (tab0, (tabWhere ⟨(⟨x, 3, false⟩ : Dr).num, l⟩).1) := by
                 unfold dRead
                 rw [if_neg (show ¬ 1000 < bs.length by omega), hop]
                 simp only
                 rw [if_neg (show ¬ (x.length < 3 ∨ x.take 3 ≠ markB) by rintro (h | h); omega; exact h hmark)]
                 simp only [← hmany]
                 rw [if_neg (show ¬ (r1.bad = true ∨ r1.pos ≠ x.length) from hbadr), if_pos hcode]
               refine Ret.pure (r' := .tuple [(dRead bs).1.pv, .int .i64 (dRead bs).2]) (by simp (disch := omega) only [Try.f20, go_sem, ↓reduceIte, H] <;> rfl) (by rw [e]; simp only [Tab.pv, tab0, PV.weak, PV.weaks, weaks_tens, List.map_nil]) (by simp only [PV.blw, PV.blws]; exact ⟨blw_tab _ _, trivial, trivial⟩) hwf (fun i hi => by simp (disch := omega) only [go_sem]; first | done | exact K1.fr.blk i hi) ⟨rfl, rfl⟩)
            | (have e : dRead bs = (⟨(⟨x, 3, false⟩ : Dr).num, l⟩, 0) := by
                 unfold dRead
                 rw [if_neg (show ¬ 1000 < bs.length by omega), hop]
                 simp only
                 rw [if_neg (show ¬ (x.length < 3 ∨ x.take 3 ≠ markB) by rintro (h | h); omega; exact h hmark)]
                 simp only [← hmany]
                 rw [if_neg (show ¬ (r1.bad = true ∨ r1.pos ≠ x.length) from hbadr), if_neg hcode]
               refine Ret.pure (r' := .tuple [(dRead bs).1.pv, .int .i64 (dRead bs).2]) (by simp (disch := omega) only [Try.f20, go_sem, ↓reduceIte, H] <;> rfl) (by rw [e]; simp only [Tab.pv, tab0, PV.weak, PV.weaks, weaks_tens, List.map_nil]) (by simp only [PV.blw, PV.blws]; exact ⟨blw_tab _ _, trivial, trivial⟩) hwf (fun i hi => by simp (disch := omega) only [go_sem]; first | done | exact K1.fr.blk i hi) ⟨rfl, rfl⟩)
        · cases hc2
      · have hmk : ((strB (x.take 3)).toList == (ByteArray.mk #[66, 71, 49]).toList) = decide (x.take 3 = markB) := strB_beq (hxb.take 3) (b := markB) (by intro y hy; simp only [markB, List.mem_cons, List.not_mem_nil, or_false] at hy; rcases hy with rfl | rfl | rfl <;> decide)
        have hle3 : 3 ≤ x.length := by have := of_decide_eq_false hg3; omega
        have hle3' : ((3 : Int) ≤ (x.length : Int)) = True := eq_true (by omega)
        have h03 : ((0 : Int) ≤ 3) = True := by decide
        have ht3 : Int.toNat 3 = 3 := rfl
        have htk3 : (x.map (PV.int .u8)).take 3 = (x.take 3).map (PV.int .u8) := List.map_take.symm
        have H := aj hmk (aj hle3 (aj hle3' (aj h03 (aj ht3 (aj htk3 H)))))
        refine rg1 (k := rg1 (k := rg1 (k := rg1 (k := rh [2, 4, 23] (k := rc (ht := fun hc2 => ?_) (hf := fun hc2 => ?_))))))
        · refine rs (k := ?_)
          have hbadm : x.length < 3 ∨ x.take 3 ≠ markB := by first | (have := of_decide_eq_true hg3; left; omega) | (right; simpa using hc2)
          refine rg [2, 3] (k := rR (k := ?_))
          first
            | (have hL : 1000 < bs.length := by have := of_decide_eq_true hc0; omega
               have e : dRead bs = (tab0, 3) := by unfold dRead; rw [if_pos hL]
               refine Ret.pure (r' := .tuple [(dRead bs).1.pv, .int .i64 (dRead bs).2]) (by simp (disch := omega) only [Try.f20, go_sem, ↓reduceIte, H] <;> rfl) (by rw [e]; simp only [Tab.pv, tab0, PV.weak, PV.weaks, weaks_tens, List.map_nil]) (by simp only [PV.blw, PV.blws]; exact ⟨blw_tab _ _, trivial, trivial⟩) hwf (fun i hi => by simp (disch := omega) only [go_sem]; first | done | exact K1.fr.blk i hi) ⟨rfl, rfl⟩)
            | (have e : dRead bs = (tab0, 14) := by
                 unfold dRead
                 rw [if_neg (show ¬ 1000 < bs.length by omega), hop]
               refine Ret.pure (r' := .tuple [(dRead bs).1.pv, .int .i64 (dRead bs).2]) (by simp (disch := omega) only [Try.f20, go_sem, ↓reduceIte, H] <;> rfl) (by rw [e]; simp only [Tab.pv, tab0, PV.weak, PV.weaks, weaks_tens, List.map_nil]) (by simp only [PV.blw, PV.blws]; exact ⟨blw_tab _ _, trivial, trivial⟩) hwf (fun i hi => by simp (disch := omega) only [go_sem]; first | done | exact K1.fr.blk i hi) ⟨rfl, rfl⟩)
            | (have e : dRead bs = (tab0, 12) := by
                 unfold dRead
                 rw [if_neg (show ¬ 1000 < bs.length by omega), hop]
                 simp only
                 rw [if_pos (show x.length < 3 ∨ x.take 3 ≠ markB from hbadm)]
               refine Ret.pure (r' := .tuple [(dRead bs).1.pv, .int .i64 (dRead bs).2]) (by simp (disch := omega) only [Try.f20, go_sem, ↓reduceIte, H] <;> rfl) (by rw [e]; simp only [Tab.pv, tab0, PV.weak, PV.weaks, weaks_tens, List.map_nil]) (by simp only [PV.blw, PV.blws]; exact ⟨blw_tab _ _, trivial, trivial⟩) hwf (fun i hi => by simp (disch := omega) only [go_sem]; first | done | exact K1.fr.blk i hi) ⟨rfl, rfl⟩)
            | (have e : dRead bs = (tab0, 12) := by
                 unfold dRead
                 rw [if_neg (show ¬ 1000 < bs.length by omega), hop]
                 simp only
                 rw [if_neg (show ¬ (x.length < 3 ∨ x.take 3 ≠ markB) by rintro (h | h); omega; exact h hmark)]
                 simp only [← hmany]
                 rw [if_pos (show r1.bad = true ∨ r1.pos ≠ x.length from hbadr)]
               refine Ret.pure (r' := .tuple [(dRead bs).1.pv, .int .i64 (dRead bs).2]) (by simp (disch := omega) only [Try.f20, go_sem, ↓reduceIte, H] <;> rfl) (by rw [e]; simp only [Tab.pv, tab0, PV.weak, PV.weaks, weaks_tens, List.map_nil]) (by simp only [PV.blw, PV.blws]; exact ⟨blw_tab _ _, trivial, trivial⟩) hwf (fun i hi => by simp (disch := omega) only [go_sem]; first | done | exact K1.fr.blk i hi) ⟨rfl, rfl⟩)
            | (have e : dRead bs = (tab0, (tabWhere ⟨(⟨x, 3, false⟩ : Dr).num, l⟩).1) := by
                 unfold dRead
                 rw [if_neg (show ¬ 1000 < bs.length by omega), hop]
                 simp only
                 rw [if_neg (show ¬ (x.length < 3 ∨ x.take 3 ≠ markB) by rintro (h | h); omega; exact h hmark)]
                 simp only [← hmany]
                 rw [if_neg (show ¬ (r1.bad = true ∨ r1.pos ≠ x.length) from hbadr), if_pos hcode]
               refine Ret.pure (r' := .tuple [(dRead bs).1.pv, .int .i64 (dRead bs).2]) (by simp (disch := omega) only [Try.f20, go_sem, ↓reduceIte, H] <;> rfl) (by rw [e]; simp only [Tab.pv, tab0, PV.weak, PV.weaks, weaks_tens, List.map_nil]) (by simp only [PV.blw, PV.blws]; exact ⟨blw_tab _ _, trivial, trivial⟩) hwf (fun i hi => by simp (disch := omega) only [go_sem]; first | done | exact K1.fr.blk i hi) ⟨rfl, rfl⟩)
            | (have e : dRead bs = (⟨(⟨x, 3, false⟩ : Dr).num, l⟩, 0) := by
                 unfold dRead
                 rw [if_neg (show ¬ 1000 < bs.length by omega), hop]
                 simp only
                 rw [if_neg (show ¬ (x.length < 3 ∨ x.take 3 ≠ markB) by rintro (h | h); omega; exact h hmark)]
                 simp only [← hmany]
                 rw [if_neg (show ¬ (r1.bad = true ∨ r1.pos ≠ x.length) from hbadr), if_neg hcode]
               refine Ret.pure (r' := .tuple [(dRead bs).1.pv, .int .i64 (dRead bs).2]) (by simp (disch := omega) only [Try.f20, go_sem, ↓reduceIte, H] <;> rfl) (by rw [e]; simp only [Tab.pv, tab0, PV.weak, PV.weaks, weaks_tens, List.map_nil]) (by simp only [PV.blw, PV.blws]; exact ⟨blw_tab _ _, trivial, trivial⟩) hwf (fun i hi => by simp (disch := omega) only [go_sem]; first | done | exact K1.fr.blk i hi) ⟨rfl, rfl⟩)
        · refine rk (k := rB (k := rs (k := ?_)))
          have hmark : x.take 3 = markB := by simpa using hc2
          have hr0 : (⟨x, 3, false⟩ : Dr).ok := ⟨hxb, by simp only; omega, by simp only; omega⟩
          refine rg [2, 4, 6] (k := rs (k := rr (k := ro (pre := [_]) (k := ?_))))
          refine RunO.callw au au au (by kernel_rfl) ((dr_num hr0 au).mono ?_)
          rintro v s9 ⟨rfl, hs⟩
          subst s9
          refine rh [2, 4, 6, 7] (k := rs (k := rs (k := rr (k := ro (pre := [_]) (k := ?_)))))
          refine RunO.callw au au au (by kernel_rfl) ((dr_count hr0.nx au).mono ?_)
          rintro v s9 ⟨rfl, hs⟩
          subst s9
          refine rh [2, 4, 6, 7, 41, 42] (k := rb (k := ?_))
          refine Run.loop (fun e s' => ∃ (n i : Nat) (r1 : Dr) (l : List Ten) (kk : SK), e = [(2, .ptr s.nxt 0 0), (4, .sl .unk (x.map (PV.int .u8))), (6, .ptr (s.nxt + 1) 0 0), (7, .ptr (s.nxt + 2) 0 0), (41, .int .i64 (n : Int)), (42, .int .i64 (i : Int))] ∧ i ≤ n ∧ n ≤ 65535 ∧ r1.ok ∧ Kp s s' [(s.nxt + 2, .row 24 [.agg [.int .i64 (⟨x, 3, false⟩ : Dr).num, .sl kk (l.map Ten.pv)]]), (s.nxt + 1, .row 74 [(r1).pv]), (s.nxt, .row 24 [.agg [.int .i64 0, .sl .nil []]])] ∧ Grows s' kk l.length (Try.prog.cellsOf 53) ∧ (∀ t z, kk = .tok t z → s.nxt + 2 < t ∧ t < s'.nxt) ∧ l.length ≤ i ∧ (∀ y ∈ l, y.ok) ∧ Dr.many Dr.ten (n - i) r1 l = (⟨x, 3, false⟩ : Dr).nx.tens) (fun e s' => ivar e 41 - ivar e 42) ?_ ?_
          · have hn := Dr.cnt_ok hr0.nx
            obtain ⟨m0, hm0⟩ : ∃ m0 : Nat, (⟨x, 3, false⟩ : Dr).nx.cnt = m0 := ⟨(⟨x, 3, false⟩ : Dr).nx.cnt.toNat, (Int.toNat_of_nonneg hn.1).symm⟩
            refine ⟨m0, 0, (⟨x, 3, false⟩ : Dr).nx.cx, [], .nil, by rw [← hm0] <;> rfl, Nat.zero_le _, by have := hn.2; have : (⟨x, 3, false⟩ : Dr).nx.cnt ≤ 65535 := this; omega, hr0.nx.cx, ?_, .inl ⟨rfl, rfl⟩, fun t z e => (by cases e), by simp, by simp, by unfold Dr.tens; rw [hm0]; rfl⟩
            exact (((((Kp.nil (Fr.refl hwf)).push _).push _).setset (by simp [nxt_new]) (by simp only [nxt_new]; omega)).pushset (id := s.nxt + 2) _ _ rfl).swap.setset (by simp [nxt_new]) (by simp only [nxt_new]; omega) |>.swap
          rintro e s1 ⟨n, i, r1, l, kk, rfl, hin, hnn, hr1, K1, hgr, htk, hlen, hal, hmany⟩
          refine rs (k := ?_)
          have hO := K1.hd'
          have hR := K1.tl.hd'
          have hZ := K1.tl.tl.hd'
          have hl2 := K1.lt'
          have hn1 := K1.nx
          have H := aj hO (aj hR (aj hZ H))
          refine rg [2, 4, 6, 7, 41, 42, 43] (k := rs (k := rc (ht := fun hc3 => ?_) (hf := fun hc3 => ?_)))
          · refine rk (k := rs (k := rb (k := ?_)))
            have hil : i < n := by have := of_decide_eq_true hc3; omega
            have hw : IntKind.i64.wrap ((i : Int) + 1) = ((i + 1 : Nat) : Int) := by rw [wrap_i64 (by omega)]; omega
            have H := aj hw H
            refine Run.drawM 5 [3] [s1, (s1.set (s.nxt + 1) (some (.row 74 [(r1.ten.2).pv])))] Try.mixed (by kernel_rfl) (by kernel_rfl) ?_
            refine DetBC.pre (pre := [_, _, _]) (by decide) List.mem_cons_self au ?_
            refine DetBC.callE (by decide) List.mem_cons_self au au au (by kernel_rfl) (dr_ten hr1 au) ?_
            refine DetBC.all (by decide) (List.mem_cons_of_mem _ List.mem_cons_self) au ?_
            refine RunO.abs (fun s2 => Kp s s2 [(s.nxt + 2, .row 24 [.agg [.int .i64 (⟨x, 3, false⟩ : Dr).num, .sl kk (l.map Ten.pv)]]), (s.nxt + 1, .row 74 [(r1.ten.2).pv]), (s.nxt, .row 24 [.agg [.int .i64 0, .sl .nil []]])] ∧ s2.nxt = s1.nxt ∧ Grows s2 kk l.length (Try.prog.cellsOf 53)) ⟨((K1.swap.setset (b' := .row 74 [(r1.ten.2).pv]) (by simp) (by omega)).swap), rfl, hgr.mono fun t ht => by have := htk t _ ht; simp (disch := omega) only [go_sem]⟩ ?_
            rintro s2 ⟨K2, hn2, hg2⟩
            have hO2 := K2.hd'
            have hlw := hlen
            have H := aj hO2 H
            refine RunO.grow au au au Try.td22 (by rw [Try.zp53]; rfl) (isEls_map (fun a => ⟨rfl, by rw [Try.cz53]; rfl⟩) _) (isEls_map (f := Ten.pv) (fun a => ⟨rfl, by rw [Try.cz53]; rfl⟩) [r1.ten.1]) (by rw [Try.by53]; decide) (by rw [Try.by53]; simp; omega) (by rw [List.length_map]; exact hg2) (by simp) ?_
            intro k' s3 hgr' htm
            have K3 := K2.tm htm (fun t z e => by have := htk t z e; omega) (fun p hp z e => by
              have := htk _ z e
              simp only [List.mem_cons, List.not_mem_nil, or_false] at hp
              rcases hp with rfl | rfl | rfl <;> simp only at this <;> omega)
            have hO3 := K3.hd'
            have htk3 : ∀ t z, k' = .tok t z → s.nxt + 2 < t ∧ t < s3.nxt := fun t z e => by
              have h9 := htm.nxt
              rcases htm.fresh t z e with ⟨z', h⟩ | ⟨h1, h2⟩
              · have := htk t z' h; omega
              · omega
            have H := aj hO3 H
            refine rh [2, 4, 6, 7, 41, 42] (k := rB (k := rg [2, 4, 6, 7, 41, 42] (k := ?_)))
            rw [List.length_map] at hgr'
            refine Run.lp ⟨⟨n, i + 1, r1.ten.2, l ++ [r1.ten.1], k', rfl, by omega, by omega, (Dr.ten_ok hr1).2, ?_, by rw [List.length_append]; exact hgr'.mono fun t ht => blk_set_ne (by have := htk3 t _ ht; omega), htk3, by simp only [List.length_append, List.length_cons, List.length_nil]; omega, fun y hy => (List.mem_append.1 hy).elim (hal y) (fun h => by rw [List.mem_singleton.1 h]; exact (Dr.ten_ok hr1).1), ?_⟩, ?_⟩
            · have := K3.setset (b' := .row 24 [.agg [.int .i64 (⟨x, 3, false⟩ : Dr).num, .sl k' (l.map Ten.pv ++ [r1.ten.1.pv])]]) (by simp) (by omega)
              rw [List.map_append]
              exact this
            · rw [← hmany, Dr.many_step (m := n - i) (by omega)] <;> rfl
            · simp (disch := omega) only [ivar, go_sem, ↓reduceIte, Nat.reduceEqDiff]
              omega
          · refine rX (k := rs (k := rs (k := ?_)))
            have hstop : n - i = 0 := by have := of_decide_eq_false hc3; omega
            rw [hstop] at hmany
            have hmany : (l, r1) = (⟨x, 3, false⟩ : Dr).nx.tens := hmany
            refine rg [2, 7, 64] (k := rc (ht := fun hc4 => ?_) (hf := fun hc4 => ?_))
            · refine rs (k := ?_)
              have hbadr : r1.bad = true ∨ r1.pos ≠ x.length := by revert hc4; cases r1.bad <;> simp; try omega
              refine rg [2, 3] (k := rR (k := ?_))
              first
                | (have hL : 1000 < bs.length := by have := of_decide_eq_true hc0; omega
                   have e : dRead bs = (tab0, 3) := by unfold dRead; rw [if_pos hL]
                   refine Ret.pure (r' := .tuple [(dRead bs).1.pv, .int .i64 (dRead bs).2]) (by simp (disch := omega) only [Try.f20, go_sem, ↓reduceIte, H] <;> rfl) (by rw [e]; simp only [Tab.pv, tab0, PV.weak, PV.weaks, weaks_tens, List.map_nil]) (by simp only [PV.blw, PV.blws]; exact ⟨blw_tab _ _, trivial, trivial⟩) hwf (fun i hi => by simp (disch := omega) only [go_sem]; first | done | exact K1.fr.blk i hi) ⟨rfl, rfl⟩)
                | (have e : dRead bs = (tab0, 14) := by
                     unfold dRead
                     rw [if_neg (show ¬ 1000 < bs.length by omega), hop]
                   refine Ret.pure (r' := .tuple [(dRead bs).1.pv, .int .i64 (dRead bs).2]) (by simp (disch := omega) only [Try.f20, go_sem, ↓reduceIte, H] <;> rfl) (by rw [e]; simp only [Tab.pv, tab0, PV.weak, PV.weaks, weaks_tens, List.map_nil]) (by simp only [PV.blw, PV.blws]; exact ⟨blw_tab _ _, trivial, trivial⟩) hwf (fun i hi => by simp (disch := omega) only [go_sem]; first | done | exact K1.fr.blk i hi) ⟨rfl, rfl⟩)
                | (have e : dRead bs = (tab0, 12) := by
                     unfold dRead
                     rw [if_neg (show ¬ 1000 < bs.length by omega), hop]
                     simp only
                     rw [if_pos (show x.length < 3 ∨ x.take 3 ≠ markB from hbadm)]
                   refine Ret.pure (r' := .tuple [(dRead bs).1.pv, .int .i64 (dRead bs).2]) (by simp (disch := omega) only [Try.f20, go_sem, ↓reduceIte, H] <;> rfl) (by rw [e]; simp only [Tab.pv, tab0, PV.weak, PV.weaks, weaks_tens, List.map_nil]) (by simp only [PV.blw, PV.blws]; exact ⟨blw_tab _ _, trivial, trivial⟩) hwf (fun i hi => by simp (disch := omega) only [go_sem]; first | done | exact K1.fr.blk i hi) ⟨rfl, rfl⟩)
                | (have e : dRead bs = (tab0, 12) := by
                     unfold dRead
                     rw [if_neg (show ¬ 1000 < bs.length by omega), hop]
                     simp only
                     rw [if_neg (show ¬ (x.length < 3 ∨ x.take 3 ≠ markB) by rintro (h | h); omega; exact h hmark)]
                     simp only [← hmany]
                     rw [if_pos (show r1.bad = true ∨ r1.pos ≠ x.length from hbadr)]
                   refine Ret.pure (r' := .tuple [(dRead bs).1.pv, .int .i64 (dRead bs).2]) (by simp (disch := omega) only [Try.f20, go_sem, ↓reduceIte, H] <;> rfl) (by rw [e]; simp only [Tab.pv, tab0, PV.weak, PV.weaks, weaks_tens, List.map_nil]) (by simp only [PV.blw, PV.blws]; exact ⟨blw_tab _ _, trivial, trivial⟩) hwf (fun i hi => by simp (disch := omega) only [go_sem]; first | done | exact K1.fr.blk i hi) ⟨rfl, rfl⟩)
                | (have e : dRead bs = (tab0, (tabWhere ⟨(⟨x, 3, false⟩ : Dr).num, l⟩).1) := by
                     unfold dRead
                     rw [if_neg (show ¬ 1000 < bs.length by omega), hop]
                     simp only
                     rw [if_neg (show ¬ (x.length < 3 ∨ x.take 3 ≠ markB) by rintro (h | h); omega; exact h hmark)]
                     simp only [← hmany]
                     rw [if_neg (show ¬ (r1.bad = true ∨ r1.pos ≠ x.length) from hbadr), if_pos hcode]
                   refine Ret.pure (r' := .tuple [(dRead bs).1.pv, .int .i64 (dRead bs).2]) (by simp (disch := omega) only [Try.f20, go_sem, ↓reduceIte, H] <;> rfl) (by rw [e]; simp only [Tab.pv, tab0, PV.weak, PV.weaks, weaks_tens, List.map_nil]) (by simp only [PV.blw, PV.blws]; exact ⟨blw_tab _ _, trivial, trivial⟩) hwf (fun i hi => by simp (disch := omega) only [go_sem]; first | done | exact K1.fr.blk i hi) ⟨rfl, rfl⟩)
                | (have e : dRead bs = (⟨(⟨x, 3, false⟩ : Dr).num, l⟩, 0) := by
                     unfold dRead
                     rw [if_neg (show ¬ 1000 < bs.length by omega), hop]
                     simp only
                     rw [if_neg (show ¬ (x.length < 3 ∨ x.take 3 ≠ markB) by rintro (h | h); omega; exact h hmark)]
                     simp only [← hmany]
                     rw [if_neg (show ¬ (r1.bad = true ∨ r1.pos ≠ x.length) from hbadr), if_neg hcode]
                   refine Ret.pure (r' := .tuple [(dRead bs).1.pv, .int .i64 (dRead bs).2]) (by simp (disch := omega) only [Try.f20, go_sem, ↓reduceIte, H] <;> rfl) (by rw [e]; simp only [Tab.pv, tab0, PV.weak, PV.weaks, weaks_tens, List.map_nil]) (by simp only [PV.blw, PV.blws]; exact ⟨blw_tab _ _, trivial, trivial⟩) hwf (fun i hi => by simp (disch := omega) only [go_sem]; first | done | exact K1.fr.blk i hi) ⟨rfl, rfl⟩)
            · refine rk (k := rs (k := rs (k := ?_)))
              have hbadr : ¬ (r1.bad = true ∨ r1.pos ≠ x.length) := by revert hc4; cases r1.bad <;> simp; try omega
              have htab : Tab.ok ⟨(⟨x, 3, false⟩ : Dr).num, l⟩ := ⟨I64_of_U16 (Dr.num_ok hr0), hal, by simp only; omega⟩
              refine rr (k := ro (pre := [_]) (k := rC (h := table_Where (t := ⟨(⟨x, 3, false⟩ : Dr).num, l⟩) htab) (k := rh [2, 7, 8] (k := rs (k := rg [2, 7, 8, 72] (k := rc (ht := fun hc5 => ?_) (hf := fun hc5 => ?_)))))))
              · refine rs (k := ?_)
                have hcode : (tabWhere ⟨(⟨x, 3, false⟩ : Dr).num, l⟩).1 ≠ 0 := by simpa using hc5
                refine rg [2, 3] (k := rR (k := ?_))
                first
                  | (have hL : 1000 < bs.length := by have := of_decide_eq_true hc0; omega
                     have e : dRead bs = (tab0, 3) := by unfold dRead; rw [if_pos hL]
                     refine Ret.pure (r' := .tuple [(dRead bs).1.pv, .int .i64 (dRead bs).2]) (by simp (disch := omega) only [Try.f20, go_sem, ↓reduceIte, H] <;> rfl) (by rw [e]; simp only [Tab.pv, tab0, PV.weak, PV.weaks, weaks_tens, List.map_nil]) (by simp only [PV.blw, PV.blws]; exact ⟨blw_tab _ _, trivial, trivial⟩) hwf (fun i hi => by simp (disch := omega) only [go_sem]; first | done | exact K1.fr.blk i hi) ⟨rfl, rfl⟩)
                  | (have e : dRead bs = (tab0, 14) := by
                       unfold dRead
                       rw [if_neg (show ¬ 1000 < bs.length by omega), hop]
                     refine Ret.pure (r' := .tuple [(dRead bs).1.pv, .int .i64 (dRead bs).2]) (by simp (disch := omega) only [Try.f20, go_sem, ↓reduceIte, H] <;> rfl) (by rw [e]; simp only [Tab.pv, tab0, PV.weak, PV.weaks, weaks_tens, List.map_nil]) (by simp only [PV.blw, PV.blws]; exact ⟨blw_tab _ _, trivial, trivial⟩) hwf (fun i hi => by simp (disch := omega) only [go_sem]; first | done | exact K1.fr.blk i hi) ⟨rfl, rfl⟩)
                  | (have e : dRead bs = (tab0, 12) := by
                       unfold dRead
                       rw [if_neg (show ¬ 1000 < bs.length by omega), hop]
                       simp only
                       rw [if_pos (show x.length < 3 ∨ x.take 3 ≠ markB from hbadm)]
                     refine Ret.pure (r' := .tuple [(dRead bs).1.pv, .int .i64 (dRead bs).2]) (by simp (disch := omega) only [Try.f20, go_sem, ↓reduceIte, H] <;> rfl) (by rw [e]; simp only [Tab.pv, tab0, PV.weak, PV.weaks, weaks_tens, List.map_nil]) (by simp only [PV.blw, PV.blws]; exact ⟨blw_tab _ _, trivial, trivial⟩) hwf (fun i hi => by simp (disch := omega) only [go_sem]; first | done | exact K1.fr.blk i hi) ⟨rfl, rfl⟩)
                  | (have e : dRead bs = (tab0, 12) := by
                       unfold dRead
                       rw [if_neg (show ¬ 1000 < bs.length by omega), hop]
                       simp only
                       rw [if_neg (show ¬ (x.length < 3 ∨ x.take 3 ≠ markB) by rintro (h | h); omega; exact h hmark)]
                       simp only [← hmany]
                       rw [if_pos (show r1.bad = true ∨ r1.pos ≠ x.length from hbadr)]
                     refine Ret.pure (r' := .tuple [(dRead bs).1.pv, .int .i64 (dRead bs).2]) (by simp (disch := omega) only [Try.f20, go_sem, ↓reduceIte, H] <;> rfl) (by rw [e]; simp only [Tab.pv, tab0, PV.weak, PV.weaks, weaks_tens, List.map_nil]) (by simp only [PV.blw, PV.blws]; exact ⟨blw_tab _ _, trivial, trivial⟩) hwf (fun i hi => by simp (disch := omega) only [go_sem]; first | done | exact K1.fr.blk i hi) ⟨rfl, rfl⟩)
                  | (have e : dRead bs = (tab0, (tabWhere ⟨(⟨x, 3, false⟩ : Dr).num, l⟩).1) := by
                       unfold dRead
                       rw [if_neg (show ¬ 1000 < bs.length by omega), hop]
                       simp only
                       rw [if_neg (show ¬ (x.length < 3 ∨ x.take 3 ≠ markB) by rintro (h | h); omega; exact h hmark)]
                       simp only [← hmany]
                       rw [if_neg (show ¬ (r1.bad = true ∨ r1.pos ≠ x.length) from hbadr), if_pos hcode]
                     refine Ret.pure (r' := .tuple [(dRead bs).1.pv, .int .i64 (dRead bs).2]) (by simp (disch := omega) only [Try.f20, go_sem, ↓reduceIte, H] <;> rfl) (by rw [e]; simp only [Tab.pv, tab0, PV.weak, PV.weaks, weaks_tens, List.map_nil]) (by simp only [PV.blw, PV.blws]; exact ⟨blw_tab _ _, trivial, trivial⟩) hwf (fun i hi => by simp (disch := omega) only [go_sem]; first | done | exact K1.fr.blk i hi) ⟨rfl, rfl⟩)
                  | (have e : dRead bs = (⟨(⟨x, 3, false⟩ : Dr).num, l⟩, 0) := by
                       unfold dRead
                       rw [if_neg (show ¬ 1000 < bs.length by omega), hop]
                       simp only
                       rw [if_neg (show ¬ (x.length < 3 ∨ x.take 3 ≠ markB) by rintro (h | h); omega; exact h hmark)]
                       simp only [← hmany]
                       rw [if_neg (show ¬ (r1.bad = true ∨ r1.pos ≠ x.length) from hbadr), if_neg hcode]
                     refine Ret.pure (r' := .tuple [(dRead bs).1.pv, .int .i64 (dRead bs).2]) (by simp (disch := omega) only [Try.f20, go_sem, ↓reduceIte, H] <;> rfl) (by rw [e]; simp only [Tab.pv, tab0, PV.weak, PV.weaks, weaks_tens, List.map_nil]) (by simp only [PV.blw, PV.blws]; exact ⟨blw_tab _ _, trivial, trivial⟩) hwf (fun i hi => by simp (disch := omega) only [go_sem]; first | done | exact K1.fr.blk i hi) ⟨rfl, rfl⟩)
              · refine rk (k := rs (k := ?_))
                have hcode : ¬ (tabWhere ⟨(⟨x, 3, false⟩ : Dr).num, l⟩).1 ≠ 0 := by simpa using hc5
                refine rr (k := ro (pre := [_]) (k := rC (h := table_Copy (t := ⟨(⟨x, 3, false⟩ : Dr).num, l⟩) htab) (k := rh [2, 3] (k := rR (k := ?_)))))
                first
                  | (have hL : 1000 < bs.length := by have := of_decide_eq_true hc0; omega
                     have e : dRead bs = (tab0, 3) := by unfold dRead; rw [if_pos hL]
                     refine Ret.pure (r' := .tuple [(dRead bs).1.pv, .int .i64 (dRead bs).2]) (by simp (disch := omega) only [Try.f20, go_sem, ↓reduceIte, H] <;> rfl) (by rw [e]; simp only [Tab.pv, tab0, PV.weak, PV.weaks, weaks_tens, List.map_nil]) (by simp only [PV.blw, PV.blws]; exact ⟨blw_tab _ _, trivial, trivial⟩) hwf (fun i hi => by simp (disch := omega) only [go_sem]; first | done | exact K1.fr.blk i hi) ⟨rfl, rfl⟩)
                  | (have e : dRead bs = (tab0, 14) := by
                       unfold dRead
                       rw [if_neg (show ¬ 1000 < bs.length by omega), hop]
                     refine Ret.pure (r' := .tuple [(dRead bs).1.pv, .int .i64 (dRead bs).2]) (by simp (disch := omega) only [Try.f20, go_sem, ↓reduceIte, H] <;> rfl) (by rw [e]; simp only [Tab.pv, tab0, PV.weak, PV.weaks, weaks_tens, List.map_nil]) (by simp only [PV.blw, PV.blws]; exact ⟨blw_tab _ _, trivial, trivial⟩) hwf (fun i hi => by simp (disch := omega) only [go_sem]; first | done | exact K1.fr.blk i hi) ⟨rfl, rfl⟩)
                  | (have e : dRead bs = (tab0, 12) := by
                       unfold dRead
                       rw [if_neg (show ¬ 1000 < bs.length by omega), hop]
                       simp only
                       rw [if_pos (show x.length < 3 ∨ x.take 3 ≠ markB from hbadm)]
                     refine Ret.pure (r' := .tuple [(dRead bs).1.pv, .int .i64 (dRead bs).2]) (by simp (disch := omega) only [Try.f20, go_sem, ↓reduceIte, H] <;> rfl) (by rw [e]; simp only [Tab.pv, tab0, PV.weak, PV.weaks, weaks_tens, List.map_nil]) (by simp only [PV.blw, PV.blws]; exact ⟨blw_tab _ _, trivial, trivial⟩) hwf (fun i hi => by simp (disch := omega) only [go_sem]; first | done | exact K1.fr.blk i hi) ⟨rfl, rfl⟩)
                  | (have e : dRead bs = (tab0, 12) := by
                       unfold dRead
                       rw [if_neg (show ¬ 1000 < bs.length by omega), hop]
                       simp only
                       rw [if_neg (show ¬ (x.length < 3 ∨ x.take 3 ≠ markB) by rintro (h | h); omega; exact h hmark)]
                       simp only [← hmany]
                       rw [if_pos (show r1.bad = true ∨ r1.pos ≠ x.length from hbadr)]
                     refine Ret.pure (r' := .tuple [(dRead bs).1.pv, .int .i64 (dRead bs).2]) (by simp (disch := omega) only [Try.f20, go_sem, ↓reduceIte, H] <;> rfl) (by rw [e]; simp only [Tab.pv, tab0, PV.weak, PV.weaks, weaks_tens, List.map_nil]) (by simp only [PV.blw, PV.blws]; exact ⟨blw_tab _ _, trivial, trivial⟩) hwf (fun i hi => by simp (disch := omega) only [go_sem]; first | done | exact K1.fr.blk i hi) ⟨rfl, rfl⟩)
                  | (have e : dRead bs = (tab0, (tabWhere ⟨(⟨x, 3, false⟩ : Dr).num, l⟩).1) := by
                       unfold dRead
                       rw [if_neg (show ¬ 1000 < bs.length by omega), hop]
                       simp only
                       rw [if_neg (show ¬ (x.length < 3 ∨ x.take 3 ≠ markB) by rintro (h | h); omega; exact h hmark)]
                       simp only [← hmany]
                       rw [if_neg (show ¬ (r1.bad = true ∨ r1.pos ≠ x.length) from hbadr), if_pos hcode]
                     refine Ret.pure (r' := .tuple [(dRead bs).1.pv, .int .i64 (dRead bs).2]) (by simp (disch := omega) only [Try.f20, go_sem, ↓reduceIte, H] <;> rfl) (by rw [e]; simp only [Tab.pv, tab0, PV.weak, PV.weaks, weaks_tens, List.map_nil]) (by simp only [PV.blw, PV.blws]; exact ⟨blw_tab _ _, trivial, trivial⟩) hwf (fun i hi => by simp (disch := omega) only [go_sem]; first | done | exact K1.fr.blk i hi) ⟨rfl, rfl⟩)
                  | (have e : dRead bs = (⟨(⟨x, 3, false⟩ : Dr).num, l⟩, 0) := by
                       unfold dRead
                       rw [if_neg (show ¬ 1000 < bs.length by omega), hop]
                       simp only
                       rw [if_neg (show ¬ (x.length < 3 ∨ x.take 3 ≠ markB) by rintro (h | h); omega; exact h hmark)]
                       simp only [← hmany]
                       rw [if_neg (show ¬ (r1.bad = true ∨ r1.pos ≠ x.length) from hbadr), if_neg hcode]
                     refine Ret.pure (r' := .tuple [(dRead bs).1.pv, .int .i64 (dRead bs).2]) (by simp (disch := omega) only [Try.f20, go_sem, ↓reduceIte, H] <;> rfl) (by rw [e]; simp only [Tab.pv, tab0, PV.weak, PV.weaks, weaks_tens, List.map_nil]) (by simp only [PV.blw, PV.blws]; exact ⟨blw_tab _ _, trivial, trivial⟩) hwf (fun i hi => by simp (disch := omega) only [go_sem]; first | done | exact K1.fr.blk i hi) ⟨rfl, rfl⟩)
end Go.Proofs
namespace Go.Proofs
open Go.PM
set_option maxHeartbeats 2000000
set_option maxRecDepth 100000 in
theorem deed_Bytes {t : Tab} (ht : t.ok) {s : St} : ACalls Try.prog 19 [t.pv] s (fun r s' => r = .tuple [.sl .unk ((if (tabWhere t).1 = 0 then bytesB t else []).map (PV.int .u8)), .int .i64 (tabWhere t).1] ∧ s' = s) := by
  refine go Try.func19 (k := fun hwf H => ?_)
  
  refine rs (k := rg [1] (k := rs (k := rs (k := rr (k := ro (pre := [_]) (k := rC (h := table_Where ht) (k := rh [1, 4] (k := rs (k := ?_)))))))))
  obtain ⟨wc, hwc⟩ : ∃ c, (tabWhere t).1 = c := ⟨_, rfl⟩
  have H := aj hwc H
  refine rg [1, 4, 19] (k := rc (ht := fun hc0 => ?_) (hf := fun hc0 => ?_))
  · refine rs (k := rg [2, 3] (k := rR (k := ?_)))
    refine Ret.pure (by simp only [Try.f19, go_sem] <;> rfl) rfl (by simp only [go_sem, reduceCtorEq, false_implies, implies_true]) hwf (by first | exact (Fr.refl hwf).blk | exact ((Fr.refl hwf).new _).blk | exact (F1).blk) ⟨?_, rfl⟩
    · rw [hwc]
      first
        | (rw [if_neg (show ¬ wc = 0 by simpa using hc0)]; rfl)
        | (rw [if_pos hwc0, hwc0, hBb]; simp only [PV.weak, PV.weaks, weaks_u8]; rfl)
  · refine rk (k := rs (k := ?_))
    have hw0 : (tabWhere t).1 = 0 := by rw [hwc]; simpa using hc0
    have hwc0 : wc = 0 := by rw [← hwc, hw0]
    obtain ⟨hf, hn, hal⟩ := tabWhere_few hw0
    have hal2 : ∀ x ∈ t.tens, x.wins.length ≤ 6 ∧ x.slts.length ≤ 3 := fun x hx => by have := tenWhy_few (hal x hx); exact ⟨this.1, this.2.1⟩
    refine rr (k := ?_)
    refine RunO.litTok au au Try.td33 ?_
    refine RunO.convTok au Try.td33 Try.td5 au (fun _ => by simp (disch := omega) only [go_sem, Try.cz5] <;> rfl) ?_
    refine ro (pre := [_, _, _, _, _]) (k := rO (k := rC (h := deed_put (l := markB) (ns := [t.frame, t.tens.length]) (by simp [markB])) (k := rh [1, 6] (k := rs (k := rs (k := rg [6, 31, 32, 33] (k := rb (k := ?_))))))))
    refine Run.loop (fun e s' => Fr s s' ∧ ∃ (i : Nat) (B : List Int), e = [(6, .sl .unk ((B).map (PV.int .u8))), (31, .sl .unk (t.tens.map Ten.pv)), (32, .int .i64 t.tens.length), (33, .int .i64 (i : Int))] ∧ i ≤ t.tens.length ∧ B.length ≤ 7 + 72 * i ∧ B = (markB ++ num2 t.frame ++ num2 t.tens.length) ++ (t.tens.take i).flatMap tenB) (fun e s' => t.tens.length - ivar e 33) ?_ ?_
    · refine ⟨by first | exact (Fr.refl hwf).new _ | exact ((Fr.refl hwf).new _).new _, 0, _, rfl, Nat.zero_le _, by simp [num2_len, markB], by simp [markB]⟩
    rintro e s1 ⟨F1, i, B, rfl, hi, hBl, hB⟩
    refine rs (k := rg [6, 31, 32, 33, 34] (k := rs (k := rc (ht := fun hc1 => ?_) (hf := fun hc1 => ?_))))
    · refine rk (k := rs (k := rb (k := rs (k := ?_))))
      have hxl : i < (t.tens).length := by have := of_decide_eq_true hc1; omega
      obtain ⟨x, hxe⟩ : ∃ z_, (t.tens)[i]'hxl = z_ := ⟨_, rfl⟩
      have hxx : ((t.tens).map Ten.pv)[i]? = some (.agg [.int .i64 (x).unit, .int .u32 (x).fns, .int .i64 (x).queue, .sl .unk ((x).wins.map Win.pv), .sl .unk ((x).slts.map Slt.pv)]) := by rw [map_get hxl, hxe]; rfl
      have hwx : IntKind.i64.wrap ((i : Int) + 1) = ((i + 1 : Nat) : Int) := by rw [wrap_i64 (by omega)]; omega
      have hxm : x ∈ t.tens := by rw [← hxe]; exact List.getElem_mem _
      obtain ⟨hx6, hx3⟩ := hal2 x hxm
      have hxo := ht.tens x hxm
      have hxf := hxo.fns
      have hfd : x.fns.fdiv 65536 = x.fns / 65536 := Int.fdiv_eq_ediv_of_nonneg _ (by decide)
      unfold U32 at hxf
      have hwf1 : IntKind.i64.wrap (x.fns / 65536) = x.fns / 65536 := wrap_i64 (by omega)
      have hwf2 : IntKind.i64.wrap x.fns = x.fns := wrap_i64 (by omega)
      have H := aj hxx (aj hwx (aj hfd (aj hwf1 (aj hwf2 H))))
      refine rg [6, 8, 31, 32, 33] (k := rs (k := ?_))
      have hn1 := F1.nxt
      refine rr (k := ro (pre := [_, _, _, _, _, _, _, _, _, _, _, _, _, _, _]) (k := rO (k := rC (h := deed_put (l := B) (ns := [x.unit, x.fns / 65536, x.fns, x.queue, x.wins.length]) (by simp; omega)) (k := rh [6, 8, 31, 32, 33] (k := rs (k := rs (k := rg [6, 8, 31, 32, 33, 55, 56, 57] (k := rb (k := ?_)))))))))
      refine Run.loop (fun e s' => Fr s s' ∧ s1.nxt < s'.nxt ∧ s'.blk s1.nxt = some (.row 53 [.agg [.int .i64 (x).unit, .int .u32 (x).fns, .int .i64 (x).queue, .sl .unk ((x).wins.map Win.pv), .sl .unk ((x).slts.map Slt.pv)]]) ∧ ∃ (j : Nat) (B : List Int), e = [(6, .sl .unk ((B).map (PV.int .u8))), (8, .ptr s1.nxt 0 0), (31, .sl .unk (t.tens.map Ten.pv)), (32, .int .i64 t.tens.length), (33, .int .i64 (i : Int)), (55, .sl .unk (x.wins.map Win.pv)), (56, .int .i64 x.wins.length), (57, .int .i64 (j : Int))] ∧ j ≤ x.wins.length ∧ B.length ≤ 17 + 72 * i + 8 * j ∧ B = (markB ++ num2 t.frame ++ num2 t.tens.length) ++ (t.tens.take i).flatMap tenB ++ (num2 x.unit ++ num2 (x.fns / 65536) ++ num2 x.fns ++ num2 x.queue ++ num2 x.wins.length) ++ (x.wins.take j).flatMap winB) (fun e s' => x.wins.length - ivar e 57) ?_ ?_
      · refine ⟨F1.new _, by simp only [nxt_new]; omega, by simp (disch := omega) only [go_sem], 0, _, rfl, Nat.zero_le _, by simp only [List.flatMap_append, List.flatMap_cons, List.flatMap_nil, List.append_nil, List.append_assoc, List.length_append, num2_len, List.length_nil]; omega, by rw [hB]; simp only [List.take_zero, List.flatMap_append, List.flatMap_cons, List.flatMap_nil, List.append_nil, List.append_assoc]⟩
      rintro e s2 ⟨F2, hX1, hX, j, B, rfl, hj, hBl, hB⟩
      refine rs (k := rg [6, 8, 31, 32, 33, 55, 56, 57, 58] (k := rs (k := rc (ht := fun hc2 => ?_) (hf := fun hc2 => ?_))))
      · refine rk (k := rs (k := rb (k := rs (k := ?_))))
        have hwl : j < (x.wins).length := by have := of_decide_eq_true hc2; omega
        obtain ⟨w, hwe⟩ : ∃ z_, (x.wins)[j]'hwl = z_ := ⟨_, rfl⟩
        have hxw : ((x.wins).map Win.pv)[j]? = some (.agg [.int .i64 (w).space, .int .i64 (w).virt, .int .i64 (w).phys, .int .i64 (w).cnt]) := by rw [map_get hwl, hwe]; rfl
        have hww : IntKind.i64.wrap ((j : Int) + 1) = ((j + 1 : Nat) : Int) := by rw [wrap_i64 (by omega)]; omega
        have hwo : w.ok := hxo.wins w (by rw [← hwe]; exact List.getElem_mem _)
        have H := aj hxw (aj hww H)
        refine rg [6, 8, 10, 31, 32, 33, 55, 56, 57] (k := rr (k := ro (pre := [_, _, _, _, _, _, _, _, _]) (k := rO (k := rC (h := deed_put (l := B) (ns := [w.space, w.virt, w.phys, w.cnt]) (by simp; omega)) (k := rh [6, 8, 31, 32, 33, 55, 56, 57] (k := rB (k := rg [6, 8, 31, 32, 33, 55, 56, 57] (k := ?_))))))))
        refine Run.lp ⟨⟨F2.new _, by simp only [nxt_new]; omega, by simp (disch := omega) only [go_sem, hX], j + 1, _, rfl, by omega, ?_, ?_⟩, ?_⟩
        · simp only [List.flatMap_append, List.flatMap_cons, List.flatMap_nil, List.append_nil, List.append_assoc, List.length_append, num2_len, List.length_nil]; omega
        · rw [hB, take_get hwl, hwe]; simp only [List.flatMap_append, List.flatMap_cons, List.flatMap_nil, List.append_nil, List.append_assoc, winB]
        · simp (disch := omega) only [ivar, go_sem, ↓reduceIte, Nat.reduceEqDiff]; omega
      · refine rX (k := rs (k := ?_))
        have hjw : j = x.wins.length := by have := of_decide_eq_false hc2; omega
        rw [hjw, List.take_length] at hB
        rw [hjw] at hBl
        have H := aj hX H
        refine rr (k := ro (pre := [_, _, _, _]) (k := rO (k := rC (h := deed_put (l := B) (ns := [x.slts.length]) (by simp; omega)) (k := rh [6, 8, 31, 32, 33] (k := rs (k := rg [6, 31, 32, 33, 80, 81, 82] (k := rb (k := ?_))))))))
        refine Run.loop (fun e s' => Fr s s' ∧ s1.nxt < s'.nxt ∧ s'.blk s1.nxt = some (.row 53 [.agg [.int .i64 (x).unit, .int .u32 (x).fns, .int .i64 (x).queue, .sl .unk ((x).wins.map Win.pv), .sl .unk ((x).slts.map Slt.pv)]]) ∧ ∃ (j : Nat) (B : List Int), e = [(6, .sl .unk ((B).map (PV.int .u8))), (31, .sl .unk (t.tens.map Ten.pv)), (32, .int .i64 t.tens.length), (33, .int .i64 (i : Int)), (80, .sl .unk (x.slts.map Slt.pv)), (81, .int .i64 x.slts.length), (82, .int .i64 (j : Int))] ∧ j ≤ x.slts.length ∧ B.length ≤ 19 + 72 * i + 8 * x.wins.length + 4 * j ∧ B = (markB ++ num2 t.frame ++ num2 t.tens.length) ++ (t.tens.take i).flatMap tenB ++ (num2 x.unit ++ num2 (x.fns / 65536) ++ num2 x.fns ++ num2 x.queue ++ num2 x.wins.length) ++ x.wins.flatMap winB ++ num2 x.slts.length ++ (x.slts.take j).flatMap sltB) (fun e s' => x.slts.length - ivar e 82) ?_ ?_
        · refine ⟨F2, hX1, hX, 0, _, rfl, Nat.zero_le _, by simp only [List.flatMap_append, List.flatMap_cons, List.flatMap_nil, List.append_nil, List.append_assoc, List.length_append, num2_len, List.length_nil]; omega, by rw [hB]; simp only [List.take_zero, List.flatMap_append, List.flatMap_cons, List.flatMap_nil, List.append_nil, List.append_assoc]⟩
        rintro e s2 ⟨F2, hX1, hX, j, B, rfl, hj, hBl, hB⟩
        refine rs (k := rg [6, 31, 32, 33, 80, 81, 82, 83] (k := rs (k := rc (ht := fun hc3 => ?_) (hf := fun hc3 => ?_))))
        · refine rk (k := rs (k := rb (k := rs (k := ?_))))
          have hal : j < (x.slts).length := by have := of_decide_eq_true hc3; omega
          obtain ⟨a, hae⟩ : ∃ z_, (x.slts)[j]'hal = z_ := ⟨_, rfl⟩
          have hxa : ((x.slts).map Slt.pv)[j]? = some (.agg [.int .i64 (a).pos, .int .i64 (a).len]) := by rw [map_get hal, hae]; rfl
          have hwa : IntKind.i64.wrap ((j : Int) + 1) = ((j + 1 : Nat) : Int) := by rw [wrap_i64 (by omega)]; omega
          have hao : a.ok := hxo.slts a (by rw [← hae]; exact List.getElem_mem _)
          have H := aj hxa (aj hwa H)
          refine rg [6, 12, 31, 32, 33, 80, 81, 82] (k := rr (k := ro (pre := [_, _, _, _, _]) (k := rO (k := rC (h := deed_put (l := B) (ns := [a.pos, a.len]) (by simp; omega)) (k := rh [6, 31, 32, 33, 80, 81, 82] (k := rB (k := rg [6, 31, 32, 33, 80, 81, 82] (k := ?_))))))))
          refine Run.lp ⟨⟨F2.new _, by simp only [nxt_new]; omega, by simp (disch := omega) only [go_sem, hX], j + 1, _, rfl, by omega, ?_, ?_⟩, ?_⟩
          · simp only [List.flatMap_append, List.flatMap_cons, List.flatMap_nil, List.append_nil, List.append_assoc, List.length_append, num2_len, List.length_nil]; omega
          · rw [hB, take_get hal, hae]; simp only [List.flatMap_append, List.flatMap_cons, List.flatMap_nil, List.append_nil, List.append_assoc, sltB]
          · simp (disch := omega) only [ivar, go_sem, ↓reduceIte, Nat.reduceEqDiff]; omega
        · refine rX (k := rB (k := rg [6, 31, 32, 33] (k := ?_)))
          have hja : j = x.slts.length := by have := of_decide_eq_false hc3; omega
          rw [hja, List.take_length] at hB
          rw [hja] at hBl
          refine Run.lp ⟨⟨F2, i + 1, B, rfl, by omega, by omega, ?_⟩, ?_⟩
          · rw [hB, take_get hxl, hxe]; simp only [List.flatMap_append, List.flatMap_cons, List.flatMap_nil, List.append_nil, List.append_assoc, tenB]
          · simp (disch := omega) only [ivar, go_sem, ↓reduceIte, Nat.reduceEqDiff]; omega
    · refine rX (k := rs (k := ?_))
      have hie : i = t.tens.length := by have := of_decide_eq_false hc1; omega
      rw [hie, List.take_length] at hB
      have hBb : B = bodyB t := hB
      have hBo : OkB B := by rw [hBb]; exact bodyB_ok t
      refine rr (k := ro (pre := [_]) (k := rC (h := crc_Seal hBo (by omega)) (k := rC (h := clip_u8 (xs := sealB B)) (k := rh [2, 3] (k := rR (k := ?_))))))
      refine Ret.pure (by simp only [Try.f19, go_sem] <;> rfl) rfl (by simp only [go_sem, reduceCtorEq, false_implies, implies_true]) hwf (by first | exact (Fr.refl hwf).blk | exact ((Fr.refl hwf).new _).blk | exact (F1).blk) ⟨?_, rfl⟩
      · rw [hwc]
        first
          | (rw [if_neg (show ¬ wc = 0 by simpa using hc0)]; rfl)
          | (rw [if_pos hwc0, hwc0, hBb]; simp only [PV.weak, PV.weaks, weaks_u8]; rfl)
set_option maxRecDepth 100000 in
theorem ref11_Bytes {t : Tab} (ht : t.ok) (hw0 : (tabWhere t).1 = 0) {s : St} : ACalls Try.prog 13 [t.pv] s (fun r s' => r = .sl .unk ((bytesB t).map (PV.int .u8)) ∧ s' = s) := by
  refine go Try.func13 (k := fun hwf H => ?_)
  obtain ⟨hf, hn, hal⟩ := tabWhere_few hw0
  have hal2 : ∀ x ∈ t.tens, x.wins.length ≤ 6 ∧ x.slts.length ≤ 3 := fun x hx => by have := tenWhy_few (hal x hx); exact ⟨this.1, this.2.1⟩
  refine rs (k := rg [1] (k := rs (k := ?_)))
  refine Run.drawM 9 [0] [(s.new (.row 24 [.agg [.int .i64 (t).frame, .sl .unk ((t).tens.map Ten.pv)]])), ((s.new (.row 24 [.agg [.int .i64 (t).frame, .sl .unk ((t).tens.map Ten.pv)]])).new (.tok 3))] Try.mixed (by kernel_rfl) (by kernel_rfl) ?_
  refine DetBC.litTok (by decide) List.mem_cons_self au au Try.td33 ?_
  refine DetBC.convTok (by decide) (List.mem_cons_of_mem _ List.mem_cons_self) au Try.td33 Try.td5 au (by simp only [List.forall_mem_cons]; exact ⟨fun h => absurd h (Nat.lt_irrefl _), fun _ => by simp (disch := omega) only [go_sem, Try.cz5] <;> rfl, by simp⟩) ?_
  refine DetBC.pre (pre := [_, _]) (by decide) (List.mem_cons_of_mem _ List.mem_cons_self) au ?_
  refine DetBC.call (by decide) au au au (by kernel_rfl) (List.mem_cons_of_mem _ List.mem_cons_self) (fun s _ => ref1_Put (l := markB) (n := t.frame) (by unfold I64; omega) (by simp [markB])) ?_
  refine DetBC.pre (pre := [_, _, _]) (by decide) (List.mem_cons_of_mem _ List.mem_cons_self) au ?_
  refine DetBC.call (by decide) au au au (by kernel_rfl) (List.mem_cons_of_mem _ List.mem_cons_self) (fun s _ => ref1_Put (l := markB ++ num2 t.frame) (n := t.tens.length) (by unfold I64; omega) (by simp [markB, num2_len])) ?_
  refine DetBC.nil (List.mem_cons_of_mem _ List.mem_cons_self) ?_
  refine rh [1, 3] (k := rs (k := rs (k := rg [3, 20, 21, 22] (k := rb (k := ?_)))))
  refine Run.loop (fun e s' => Fr s s' ∧ ∃ (i : Nat) (B : List Int), e = [(3, .sl .unk ((B).map (PV.int .u8))), (20, .sl .unk (t.tens.map Ten.pv)), (21, .int .i64 t.tens.length), (22, .int .i64 (i : Int))] ∧ i ≤ t.tens.length ∧ B.length ≤ 7 + 72 * i ∧ B = (markB ++ num2 t.frame ++ num2 t.tens.length) ++ (t.tens.take i).flatMap tenB) (fun e s' => t.tens.length - ivar e 22) ?_ ?_
  · refine ⟨by first | exact (Fr.refl hwf).new _ | exact ((Fr.refl hwf).new _).new _, 0, _, rfl, Nat.zero_le _, by simp [num2_len, markB], by simp [markB]⟩
  rintro e s1 ⟨F1, i, B, rfl, hi, hBl, hB⟩
  refine rs (k := rg [3, 20, 21, 22, 23] (k := rs (k := rc (ht := fun hc0 => ?_) (hf := fun hc0 => ?_))))
  · refine rk (k := rs (k := rb (k := rs (k := ?_))))
    have hxl : i < (t.tens).length := by have := of_decide_eq_true hc0; omega
    obtain ⟨x, hxe⟩ : ∃ z_, (t.tens)[i]'hxl = z_ := ⟨_, rfl⟩
    have hxx : ((t.tens).map Ten.pv)[i]? = some (.agg [.int .i64 (x).unit, .int .u32 (x).fns, .int .i64 (x).queue, .sl .unk ((x).wins.map Win.pv), .sl .unk ((x).slts.map Slt.pv)]) := by rw [map_get hxl, hxe]; rfl
    have hwx : IntKind.i64.wrap ((i : Int) + 1) = ((i + 1 : Nat) : Int) := by rw [wrap_i64 (by omega)]; omega
    have hxm : x ∈ t.tens := by rw [← hxe]; exact List.getElem_mem _
    obtain ⟨hx6, hx3⟩ := hal2 x hxm
    have hxo := ht.tens x hxm
    have hxf := hxo.fns
    have hfd : x.fns.fdiv 65536 = x.fns / 65536 := Int.fdiv_eq_ediv_of_nonneg _ (by decide)
    unfold U32 at hxf
    have hwf1 : IntKind.i64.wrap (x.fns / 65536) = x.fns / 65536 := wrap_i64 (by omega)
    have hwf2 : IntKind.i64.wrap x.fns = x.fns := wrap_i64 (by omega)
    obtain ⟨lw, hlw⟩ : ∃ z, ibits .and .u32 x.fns 65535 = z := ⟨_, rfl⟩
    have hlwb := ibits_u32_bound .and x.fns 65535
    have hln := num2_and hxo.fns
    rw [hlw] at hlwb hln
    have hwf3 : IntKind.i64.wrap lw = lw := wrap_i64 (by omega)
    have H := aj hxx (aj hwx (aj hfd (aj hwf1 (aj hwf2 (aj hlw (aj hwf3 H))))))
    refine rg [3, 5, 20, 21, 22] (k := rs (k := ?_))
    have hn1 := F1.nxt
    refine rr (k := ro (pre := [_, _, _]) (k := rC (h := ref1_Put (l := B) (n := x.unit) hxo.unit (by simp (failIfUnchanged := false) only [List.length_append, num2_len, List.length_cons, List.length_nil]; omega)) (k := rh [3, 5, 20, 21, 22] (k := rs (k := ?_)))))
    refine Run.drawC [] [3, 5, 20, 21, 22] Try.mixed (by kernel_rfl) ?_
    refine DetC.pre (pre := [_, _, _, _, _]) au ?_
    refine DetC.call au au au (by kernel_rfl) (ref1_Put (l := B ++ num2 x.unit) (n := x.fns / 65536) (by unfold I64; omega) (by simp (failIfUnchanged := false) only [List.length_append, num2_len, List.length_cons, List.length_nil]; omega)) ?_
    refine DetC.pre (pre := [_, _, _, _]) au ?_
    refine DetC.call au au au (by kernel_rfl) (ref1_Put (l := B ++ num2 x.unit ++ num2 (x.fns / 65536)) (n := lw) (by unfold I64; omega) (by simp (failIfUnchanged := false) only [List.length_append, num2_len, List.length_cons, List.length_nil]; omega)) ?_
    refine DetC.all au ?_
    refine re (k := rs (k := ?_))
    refine Run.drawC [] [3, 5, 20, 21, 22] Try.mixed (by kernel_rfl) ?_
    refine DetC.pre (pre := [_, _, _]) au ?_
    refine DetC.call au au au (by kernel_rfl) (ref1_Put (l := B ++ num2 x.unit ++ num2 (x.fns / 65536) ++ num2 lw) (n := x.queue) hxo.queue (by simp (failIfUnchanged := false) only [List.length_append, num2_len, List.length_cons, List.length_nil]; omega)) ?_
    refine DetC.pre (pre := [_, _, _]) au ?_
    refine DetC.call au au au (by kernel_rfl) (ref1_Put (l := B ++ num2 x.unit ++ num2 (x.fns / 65536) ++ num2 lw ++ num2 x.queue) (n := x.wins.length) (by unfold I64; omega) (by simp (failIfUnchanged := false) only [List.length_append, num2_len, List.length_cons, List.length_nil]; omega)) ?_
    refine DetC.all au ?_
    refine re (k := rs (k := rs (k := rg [3, 5, 20, 21, 22, 50, 51, 52] (k := rb (k := ?_)))))
    refine Run.loop (fun e s' => Fr s s' ∧ s1.nxt < s'.nxt ∧ s'.blk s1.nxt = some (.row 53 [.agg [.int .i64 (x).unit, .int .u32 (x).fns, .int .i64 (x).queue, .sl .unk ((x).wins.map Win.pv), .sl .unk ((x).slts.map Slt.pv)]]) ∧ ∃ (j : Nat) (B : List Int), e = [(3, .sl .unk ((B).map (PV.int .u8))), (5, .ptr s1.nxt 0 0), (20, .sl .unk (t.tens.map Ten.pv)), (21, .int .i64 t.tens.length), (22, .int .i64 (i : Int)), (50, .sl .unk (x.wins.map Win.pv)), (51, .int .i64 x.wins.length), (52, .int .i64 (j : Int))] ∧ j ≤ x.wins.length ∧ B.length ≤ 17 + 72 * i + 8 * j ∧ B = (markB ++ num2 t.frame ++ num2 t.tens.length) ++ (t.tens.take i).flatMap tenB ++ (num2 x.unit ++ num2 (x.fns / 65536) ++ num2 x.fns ++ num2 x.queue ++ num2 x.wins.length) ++ (x.wins.take j).flatMap winB) (fun e s' => x.wins.length - ivar e 52) ?_ ?_
    · refine ⟨F1.new _, by simp only [nxt_new]; omega, by simp (disch := omega) only [go_sem], 0, _, rfl, Nat.zero_le _, by simp only [List.flatMap_append, List.flatMap_cons, List.flatMap_nil, List.append_nil, List.append_assoc, List.length_append, num2_len, List.length_nil]; omega, by rw [hB]; simp only [List.take_zero, List.flatMap_append, List.flatMap_cons, List.flatMap_nil, List.append_nil, List.append_assoc, hln]⟩
    rintro e s2 ⟨F2, hX1, hX, j, B, rfl, hj, hBl, hB⟩
    refine rs (k := rg [3, 5, 20, 21, 22, 50, 51, 52, 53] (k := rs (k := rc (ht := fun hc1 => ?_) (hf := fun hc1 => ?_))))
    · refine rk (k := rs (k := rb (k := rs (k := ?_))))
      have hwl : j < (x.wins).length := by have := of_decide_eq_true hc1; omega
      obtain ⟨w, hwe⟩ : ∃ z_, (x.wins)[j]'hwl = z_ := ⟨_, rfl⟩
      have hxw : ((x.wins).map Win.pv)[j]? = some (.agg [.int .i64 (w).space, .int .i64 (w).virt, .int .i64 (w).phys, .int .i64 (w).cnt]) := by rw [map_get hwl, hwe]; rfl
      have hww : IntKind.i64.wrap ((j : Int) + 1) = ((j + 1 : Nat) : Int) := by rw [wrap_i64 (by omega)]; omega
      have hwo : w.ok := hxo.wins w (by rw [← hwe]; exact List.getElem_mem _)
      have H := aj hxw (aj hww H)
      refine rg [3, 5, 7, 20, 21, 22, 50, 51, 52] (k := ?_)
      refine Run.drawC [] [3, 5, 20, 21, 22, 50, 51, 52] Try.mixed (by kernel_rfl) ?_
      refine DetC.pre (pre := [_, _, _]) au ?_
      refine DetC.call au au au (by kernel_rfl) (ref1_Put (l := B) (n := w.space) hwo.space (by simp (failIfUnchanged := false) only [List.length_append, num2_len, List.length_cons, List.length_nil]; omega)) ?_
      refine DetC.pre (pre := [_, _]) au ?_
      refine DetC.call au au au (by kernel_rfl) (ref1_Put (l := B ++ num2 w.space) (n := w.virt) hwo.virt (by simp (failIfUnchanged := false) only [List.length_append, num2_len, List.length_cons, List.length_nil]; omega)) ?_
      refine DetC.pre (pre := [_, _]) au ?_
      refine DetC.call au au au (by kernel_rfl) (ref1_Put (l := B ++ num2 w.space ++ num2 w.virt) (n := w.phys) hwo.phys (by simp (failIfUnchanged := false) only [List.length_append, num2_len, List.length_cons, List.length_nil]; omega)) ?_
      refine DetC.pre (pre := [_, _]) au ?_
      refine DetC.call au au au (by kernel_rfl) (ref1_Put (l := B ++ num2 w.space ++ num2 w.virt ++ num2 w.phys) (n := w.cnt) hwo.cnt (by simp (failIfUnchanged := false) only [List.length_append, num2_len, List.length_cons, List.length_nil]; omega)) ?_
      refine DetC.all au ?_
      refine re (k := rB (k := rg [3, 5, 20, 21, 22, 50, 51, 52] (k := ?_)))
      refine Run.lp ⟨⟨F2.new _, by simp only [nxt_new]; omega, by simp (disch := omega) only [go_sem, hX], j + 1, _, rfl, by omega, ?_, ?_⟩, ?_⟩
      · simp only [List.flatMap_append, List.flatMap_cons, List.flatMap_nil, List.append_nil, List.append_assoc, List.length_append, num2_len, List.length_nil]; omega
      · rw [hB, take_get hwl, hwe]; simp only [List.flatMap_append, List.flatMap_cons, List.flatMap_nil, List.append_nil, List.append_assoc, winB]
      · simp (disch := omega) only [ivar, go_sem, ↓reduceIte, Nat.reduceEqDiff]; omega
    · refine rX (k := rs (k := ?_))
      have hjw : j = x.wins.length := by have := of_decide_eq_false hc1; omega
      rw [hjw, List.take_length] at hB
      rw [hjw] at hBl
      have H := aj hX H
      refine rr (k := ro (pre := [_, _, _, _]) (k := rC (h := ref1_Put (l := B) (n := x.slts.length) (by unfold I64; omega) (by simp (failIfUnchanged := false) only [List.length_append, num2_len, List.length_cons, List.length_nil]; omega)) (k := rh [3, 5, 20, 21, 22] (k := rs (k := rg [3, 20, 21, 22, 76, 77, 78] (k := rb (k := ?_)))))))
      refine Run.loop (fun e s' => Fr s s' ∧ s1.nxt < s'.nxt ∧ s'.blk s1.nxt = some (.row 53 [.agg [.int .i64 (x).unit, .int .u32 (x).fns, .int .i64 (x).queue, .sl .unk ((x).wins.map Win.pv), .sl .unk ((x).slts.map Slt.pv)]]) ∧ ∃ (j : Nat) (B : List Int), e = [(3, .sl .unk ((B).map (PV.int .u8))), (20, .sl .unk (t.tens.map Ten.pv)), (21, .int .i64 t.tens.length), (22, .int .i64 (i : Int)), (76, .sl .unk (x.slts.map Slt.pv)), (77, .int .i64 x.slts.length), (78, .int .i64 (j : Int))] ∧ j ≤ x.slts.length ∧ B.length ≤ 19 + 72 * i + 8 * x.wins.length + 4 * j ∧ B = (markB ++ num2 t.frame ++ num2 t.tens.length) ++ (t.tens.take i).flatMap tenB ++ (num2 x.unit ++ num2 (x.fns / 65536) ++ num2 x.fns ++ num2 x.queue ++ num2 x.wins.length) ++ x.wins.flatMap winB ++ num2 x.slts.length ++ (x.slts.take j).flatMap sltB) (fun e s' => x.slts.length - ivar e 78) ?_ ?_
      · refine ⟨F2, hX1, hX, 0, _, rfl, Nat.zero_le _, by simp only [List.flatMap_append, List.flatMap_cons, List.flatMap_nil, List.append_nil, List.append_assoc, List.length_append, num2_len, List.length_nil]; omega, by rw [hB]; simp only [List.take_zero, List.flatMap_append, List.flatMap_cons, List.flatMap_nil, List.append_nil, List.append_assoc]⟩
      rintro e s2 ⟨F2, hX1, hX, j, B, rfl, hj, hBl, hB⟩
      refine rs (k := rg [3, 20, 21, 22, 76, 77, 78, 79] (k := rs (k := rc (ht := fun hc2 => ?_) (hf := fun hc2 => ?_))))
      · refine rk (k := rs (k := rb (k := rs (k := ?_))))
        have hal : j < (x.slts).length := by have := of_decide_eq_true hc2; omega
        obtain ⟨a, hae⟩ : ∃ z_, (x.slts)[j]'hal = z_ := ⟨_, rfl⟩
        have hxa : ((x.slts).map Slt.pv)[j]? = some (.agg [.int .i64 (a).pos, .int .i64 (a).len]) := by rw [map_get hal, hae]; rfl
        have hwa : IntKind.i64.wrap ((j : Int) + 1) = ((j + 1 : Nat) : Int) := by rw [wrap_i64 (by omega)]; omega
        have hao : a.ok := hxo.slts a (by rw [← hae]; exact List.getElem_mem _)
        have H := aj hxa (aj hwa H)
        refine rg [3, 9, 20, 21, 22, 76, 77, 78] (k := ?_)
        refine Run.drawC [] [3, 20, 21, 22, 76, 77, 78] Try.mixed (by kernel_rfl) ?_
        refine DetC.pre (pre := [_, _, _]) au ?_
        refine DetC.call au au au (by kernel_rfl) (ref1_Put (l := B) (n := a.pos) hao.pos (by simp (failIfUnchanged := false) only [List.length_append, num2_len, List.length_cons, List.length_nil]; omega)) ?_
        refine DetC.pre (pre := [_, _]) au ?_
        refine DetC.call au au au (by kernel_rfl) (ref1_Put (l := B ++ num2 a.pos) (n := a.len) hao.len (by simp (failIfUnchanged := false) only [List.length_append, num2_len, List.length_cons, List.length_nil]; omega)) ?_
        refine DetC.all au ?_
        refine re (k := rB (k := rg [3, 20, 21, 22, 76, 77, 78] (k := ?_)))
        refine Run.lp ⟨⟨F2.new _, by simp only [nxt_new]; omega, by simp (disch := omega) only [go_sem, hX], j + 1, _, rfl, by omega, ?_, ?_⟩, ?_⟩
        · simp only [List.flatMap_append, List.flatMap_cons, List.flatMap_nil, List.append_nil, List.append_assoc, List.length_append, num2_len, List.length_nil]; omega
        · rw [hB, take_get hal, hae]; simp only [List.flatMap_append, List.flatMap_cons, List.flatMap_nil, List.append_nil, List.append_assoc, sltB]
        · simp (disch := omega) only [ivar, go_sem, ↓reduceIte, Nat.reduceEqDiff]; omega
      · refine rX (k := rB (k := rg [3, 20, 21, 22] (k := ?_)))
        have hja : j = x.slts.length := by have := of_decide_eq_false hc2; omega
        rw [hja, List.take_length] at hB
        rw [hja] at hBl
        refine Run.lp ⟨⟨F2, i + 1, B, rfl, by omega, by omega, ?_⟩, ?_⟩
        · rw [hB, take_get hxl, hxe]; simp only [List.flatMap_append, List.flatMap_cons, List.flatMap_nil, List.append_nil, List.append_assoc, tenB]
        · simp (disch := omega) only [ivar, go_sem, ↓reduceIte, Nat.reduceEqDiff]; omega
  · refine rX (k := rs (k := ?_))
    have hie : i = t.tens.length := by have := of_decide_eq_false hc0; omega
    rw [hie, List.take_length] at hB
    have hBb : B = bodyB t := hB
    have hBo : OkB B := by rw [hBb]; exact bodyB_ok t
    refine rr (k := ro (pre := [_]) (k := rC (h := ref1_Seal hBo (by omega)) (k := rh [2] (k := rR (k := ?_)))))
    refine Ret.pure (by simp only [Try.f13, go_sem] <;> rfl) rfl (by simp only [go_sem, reduceCtorEq, false_implies, implies_true]) hwf (by first | exact (F1).blk) ⟨?_, rfl⟩
    · rw [hBb]; simp only [PV.weak, weaks_u8]; rfl
end Go.Proofs
namespace Go.Proofs
open Go.PM
set_option maxHeartbeats 2000000
theorem within_ {n lo hi : Int} (h0 : 0 ≤ lo) (h1 : lo ≤ hi) (h2 : hi ≤ 1152921504606846976) {s : St} : ACalls Try.prog 17 [.int .i64 n, .int .i64 lo, .int .i64 hi] s (fun r s' => r = .int .i64 (withinI n lo hi) ∧ s' = s) := by
  refine go Try.func17 (k := fun hwf H => ?_)
  have hb := tmod_bound n (m := hi - lo + 1) (by omega)
  have hw1 : IntKind.i64.wrap (hi - lo) = hi - lo := wrap_i64 (by omega)
  have hw2 : IntKind.i64.wrap (hi - lo + 1) = hi - lo + 1 := wrap_i64 (by omega)
  have hw3 : IntKind.i64.wrap (n.tmod (hi - lo + 1) + hi) = n.tmod (hi - lo + 1) + hi := wrap_i64 (by omega)
  have hw4 : IntKind.i64.wrap (n.tmod (hi - lo + 1) + hi - lo) = n.tmod (hi - lo + 1) + hi - lo := wrap_i64 (by omega)
  have hw5 : IntKind.i64.wrap (n.tmod (hi - lo + 1) + hi - lo + 1) = n.tmod (hi - lo + 1) + hi - lo + 1 := wrap_i64 (by omega)
  have hne : (hi - lo + 1 = 0) = False := eq_false (by omega)
  have H := aj hw1 (aj hw2 (aj hw3 (aj hw4 (aj hw5 (aj hne H)))))
  refine rs (k := rg [0, 1, 2] (k := rs (k := rs (k := rg [0, 1, 2, 14] (k := rc (ht := fun hc0 => ?_) (hf := fun hc0 => ?_))))))
  · refine rs (k := rg [6] (k := rR (k := rP (by simp only [Try.f17, go_sem]; rfl) hwf ⟨?_, rfl⟩)))
    unfold withinI
    first
      | (have h : lo ≤ n ∧ n ≤ hi := by simpa using hc0
         rw [if_pos h]; rfl)
      | (have h : ¬ (lo ≤ n ∧ n ≤ hi) := by simpa using hc0
         have hm := of_decide_eq_true hc1
         rw [if_neg h, if_pos hm, wrap_i64 (by omega)]; rfl)
      | (have h : ¬ (lo ≤ n ∧ n ≤ hi) := by simpa using hc0
         have hm := of_decide_eq_false hc1
         rw [if_neg h, if_neg hm, wrap_i64 (by omega)]; rfl)
  · refine rk (k := rs (k := rg [0, 1, 2] (k := rs (k := rs (k := rg [0, 1, 2, 23] (k := rc (ht := fun hc1 => ?_) (hf := fun hc1 => ?_)))))))
    · refine rg [0, 1] (k := rs (k := rg [6] (k := rR (k := rP (by simp only [Try.f17, go_sem]; rfl) hwf ⟨?_, rfl⟩))))
      unfold withinI
      first
        | (have h : lo ≤ n ∧ n ≤ hi := by simpa using hc0
           rw [if_pos h]; rfl)
        | (have h : ¬ (lo ≤ n ∧ n ≤ hi) := by simpa using hc0
           have hm := of_decide_eq_true hc1
           rw [if_neg h, if_pos hm, wrap_i64 (by omega)]; rfl)
        | (have h : ¬ (lo ≤ n ∧ n ≤ hi) := by simpa using hc0
           have hm := of_decide_eq_false hc1
           rw [if_neg h, if_neg hm, wrap_i64 (by omega)]; rfl)
    · refine rk (k := rs (k := rg [6] (k := rR (k := rP (by simp only [Try.f17, go_sem]; rfl) hwf ⟨?_, rfl⟩))))
      unfold withinI
      first
        | (have h : lo ≤ n ∧ n ≤ hi := by simpa using hc0
           rw [if_pos h]; rfl)
        | (have h : ¬ (lo ≤ n ∧ n ≤ hi) := by simpa using hc0
           have hm := of_decide_eq_true hc1
           rw [if_neg h, if_pos hm, wrap_i64 (by omega)]; rfl)
        | (have h : ¬ (lo ≤ n ∧ n ≤ hi) := by simpa using hc0
           have hm := of_decide_eq_false hc1
           rw [if_neg h, if_neg hm, wrap_i64 (by omega)]; rfl)
theorem tape_Next {t : Tp} (ht : t.ok) {n : Int} {s : St} {tp : Nat} (hb : s.blk tp = some (.row 29 [t.pv])) : ACalls Try.prog 22 [.ptr tp 0 0, .int .i64 n] s (fun r s' => r = .int .i64 (t.val n) ∧ s' = s.set tp (some (.row 29 [(t.nx n).pv]))) := by
  refine go Try.func22 (k := fun hwf H => ?_)
  rw [Tp.pv] at hb
  have hlen := ht.len
  have hpos := ht.pos
  have H := aj hb H
  refine rs (k := rg [0, 1] (k := rs (k := rs (k := ?_))))
  refine Run.drawC [] [0, 1, 18] Try.mixed (by kernel_rfl) ?_
  refine DetC.all au ?_
  refine re (k := rc (ht := fun hc0 => ?_) (hf := fun hc0 => ?_))
  · refine rs (k := rg [4] (k := rR (k := ?_)))
    first
      | (have h0 : t.l.length ≤ t.pos ∨ n < 1 := by simp only [Bool.or_eq_true, decide_eq_true_eq] at hc0; omega
         refine Ret.all (by simp only [Try.f22, go_sem] <;> rfl) ⟨?_, ?_⟩
         · rw [Tp.val, if_pos h0]
         · rw [Tp.nx, if_pos h0, Tp.pv]; exact (St.set_self hb).symm)
      | (refine Ret.all (by simp only [Try.f22, go_sem] <;> rfl) ⟨?_, ?_⟩
         · rw [Tp.val, if_neg hc1]
         · rw [Tp.nx, if_neg hc1]; rfl)
  · refine rk (k := rs (k := ?_))
    have hc1 : ¬ (t.l.length ≤ t.pos ∨ n < 1) := by simp only [Bool.or_eq_false_iff, decide_eq_false_iff_not] at hc0; omega
    have hw : IntKind.i64.wrap ((t.pos : Int) + 1) = ((t.pos + 1 : Nat) : Int) := by rw [wrap_i64 (by omega)]; omega
    have hw1 : IntKind.i64.wrap (((t.pos + 1 : Nat) : Int) - 1) = ((t.pos : Nat) : Int) := by rw [wrap_i64 (by omega)]; omega
    have hx : (t.l.map (PV.int .i64))[t.pos]? = some (.int .i64 (t.l[t.pos]?.getD 0)) := by rw [List.getElem?_map, List.getElem?_eq_getElem (by omega)]; rfl
    have hn0 : (n = 0) = False := eq_false (by omega)
    have hlt : ((t.pos : Int) < (t.l.length : Int)) = True := eq_true (by omega)
    have H := aj hw (aj hw1 (aj hx (aj hn0 (aj hlt H))))
    refine rg [0, 1] (k := rs (k := ?_))
    refine Run.drawC [] [4] Try.mixed (by kernel_rfl) ?_
    refine DetC.pre (pre := [_, _, _, _, _, _, _, _, _, _, _]) au ?_
    refine DetC.call au au au (by kernel_rfl) (within_ (lo := 0) (hi := 1073741824) (by decide) (by decide) (by decide)) ?_
    refine DetC.all au ?_
    refine re (k := rR (k := ?_))
    first
      | (have h0 : t.l.length ≤ t.pos ∨ n < 1 := by simp only [Bool.or_eq_true, decide_eq_true_eq] at hc0; omega
         refine Ret.all (by simp only [Try.f22, go_sem] <;> rfl) ⟨?_, ?_⟩
         · rw [Tp.val, if_pos h0]
         · rw [Tp.nx, if_pos h0, Tp.pv]; exact (St.set_self hb).symm)
      | (refine Ret.all (by simp only [Try.f22, go_sem] <;> rfl) ⟨?_, ?_⟩
         · rw [Tp.val, if_neg hc1]
         · rw [Tp.nx, if_neg hc1]; rfl)
end Go.Proofs
namespace Go.Proofs
open Go.PM
set_option maxHeartbeats 2000000
attribute [local go_sem] gD_set_map
set_option maxRecDepth 100000 in
theorem tape_windows {T : Tp} (hT : T.ok) {i : Nat} (hi : i ≤ 3) {s : St} {tp : Nat} (hb : s.blk tp = some (.row 29 [T.pv])) : ACalls Try.prog 23 [.ptr tp 0 0, .int .i64 i] s (fun r s' => ∃ (ws : List Win) (T' : Tp), r = .sl .unk (ws.map Win.pv) ∧ s' = s.set tp (some (.row 29 [T'.pv])) ∧ T'.ok ∧ WGood i ws) := by
  refine go Try.func23 (k := fun hwf H => ?_)
  have hlt : tp < s.nxt := lt_blk hwf hb
  have hs0 : s.set tp (some (.row 29 [T.pv])) = s := St.set_self hb
  have hw128 : IntKind.i64.wrap (128 * (i : Int)) = 128 * (i : Int) := wrap_i64 (by omega)
  have hFt : (s.nxt = tp) = False := eq_false (by omega)
  have hVt : (s.nxt + 1 = tp) = False := eq_false (by omega)
  have htF : (tp = s.nxt) = False := eq_false (by omega)
  have htV : (tp = s.nxt + 1) = False := eq_false (by omega)
  have H := aj hw128 (aj hFt (aj hVt (aj htF (aj htV H))))
  refine rs (k := rg [0, 1] (k := rs (k := rg [0, 1, 5] (k := rs (k := rg [0, 5, 6] (k := rs (k := rg [0, 5, 6, 7] (k := rs (k := rs (k := rr (k := ro (pre := [_]) (k := ?_))))))))))))
  refine RunO.callw au au au (by kernel_rfl) ((tape_Next hT (n := 6) (by simp only [go_sem, htF, htV, ↓reduceIte]; exact hb)).mono ?_)
  rintro r s2 ⟨rfl, hs⟩
  subst s2
  refine rh [0, 5, 6, 7, 8] (k := rb (k := ?_))
  refine Run.loop (fun e s' => ∃ (T1 : Tp) (c : Nat) (m : Int) (ws : List Win) (fr vi : List Int) (kk : SK), e = [(0, .ptr tp 0 0), (5, .sl kk (ws.map Win.pv)), (6, .ptr s.nxt 0 0), (7, .ptr (s.nxt + 1) 0 0), (8, .int .i64 m)] ∧ T1.ok ∧ Kp (s.set tp (some (.row 29 [T1.pv]))) s' [(s.nxt + 1, .row 78 [.agg ((vi).map (PV.int .i64))]), (s.nxt, .row 78 [.agg ((fr).map (PV.int .i64))])] ∧ WInv i c ws fr vi ∧ Grows s' kk ws.length 4 ∧ (∀ t z, kk = .tok t z → s.nxt + 1 < t ∧ t < s'.nxt) ∧ -1 ≤ m ∧ c + m ≤ 5) (fun e s' => ivar1 e 8) ?_ ?_
  · have K0 : Kp (s.set tp (some (.row 29 [(T.nx 6).pv]))) ((((s.new (.row 78 [.agg [.int .i64 (128 * (i : Int)), .int .i64 (128 * (i : Int)), .int .i64 (128 * (i : Int)), .int .i64 (128 * (i : Int))]])).new (.row 78 [.agg [.int .i64 0, .int .i64 0, .int .i64 0, .int .i64 0]])).set (s.nxt + 1) (some (.row 78 [.agg [.int .i64 0, .int .i64 0, .int .i64 0, .int .i64 0]]))).set tp (some (.row 29 [(T.nx 6).pv]))) [(s.nxt + 1, .row 78 [.agg [.int .i64 0, .int .i64 0, .int .i64 0, .int .i64 0]]), (s.nxt, .row 78 [.agg [.int .i64 (128 * (i : Int)), .int .i64 (128 * (i : Int)), .int .i64 (128 * (i : Int)), .int .i64 (128 * (i : Int))]])] := by
      have h0 : Kp (s.set tp (some (.row 29 [T.pv]))) (((s.new (.row 78 [.agg [.int .i64 (128 * (i : Int)), .int .i64 (128 * (i : Int)), .int .i64 (128 * (i : Int)), .int .i64 (128 * (i : Int))]])).new (.row 78 [.agg [.int .i64 0, .int .i64 0, .int .i64 0, .int .i64 0]])).set (s.nxt + 1) (some (.row 78 [.agg [.int .i64 0, .int .i64 0, .int .i64 0, .int .i64 0]]))) [(s.nxt + 1, .row 78 [.agg [.int .i64 0, .int .i64 0, .int .i64 0, .int .i64 0]]), (s.nxt, .row 78 [.agg [.int .i64 (128 * (i : Int)), .int .i64 (128 * (i : Int)), .int .i64 (128 * (i : Int)), .int .i64 (128 * (i : Int))]])] := by
        rw [hs0]
        exact ((Kp.nil (Fr.refl hwf)).push _).pushset _ _ rfl
      exact h0.setbase hlt (by simp only [List.forall_mem_cons]; exact ⟨by omega, by omega, by simp⟩) _
    have hv6 := T.val_bound (n := 6) (by decide)
    have hgr0 : Grows s .nil 0 4 := .inl ⟨rfl, rfl⟩
    refine ⟨T.nx 6, 0, T.val 6, [], [128 * (i : Int), 128 * i, 128 * i, 128 * i], [0, 0, 0, 0], .nil, rfl, hT.nx 6, K0, WInv.first i, .inl ⟨rfl, rfl⟩, fun t z e => (by cases e), (by omega), (by omega)⟩
  rintro e s1 ⟨T1, c, m, ws, fr, vi, kk, rfl, hT1, K1, WI, hgr, htk, hm1, hcm⟩
  refine rs (k := rs (k := rg [0, 5, 6, 7, 8, 24] (k := rc (ht := fun hc0 => ?_) (hf := fun hc0 => ?_))))
  · refine rk (k := rs (k := rb (k := rs (k := ?_))))
    have hT1b : s1.blk tp = some (.row 29 [T1.pv]) := by rw [K1.fr.blk tp hlt, blk_set, if_pos rfl]
    have hm0 : 0 ≤ m := of_decide_eq_true hc0
    obtain ⟨u, hu, hue⟩ := T1.val_nat (n := 6) (by decide)
    have hue : T1.val 6 = (u : Int) := hue
    obtain ⟨hsp, hk4⟩ := spL_get (v := u) (by omega)
    obtain ⟨k, hke⟩ : ∃ k, spL u = k := ⟨_, rfl⟩
    rw [hke] at hsp hk4
    have H := aj hue (aj hsp H)
    refine rr (k := rO (k := ro (pre := [_]) (k := ?_)))
    refine RunO.callw au au au (by kernel_rfl) ((tape_Next hT1 (n := 6) hT1b).mono ?_)
    rintro r s2 ⟨rfl, hs⟩
    subst s2
    refine rh [0, 5, 6, 7, 8, 9] (k := rs (k := ?_))
    obtain ⟨x, hx, hxe⟩ := (T1.nx 6).val_nat (n := 4) (by decide)
    have hxe : (T1.nx 6).val 4 = (x : Int) := hxe
    obtain ⟨hg4, hg0, hg5⟩ := g4_get (u := x) (by omega)
    obtain ⟨n3, hn3e⟩ : ∃ y, ((T1.nx 6).nx 4).val 3 = y := ⟨_, rfl⟩
    have hn3 := ((T1.nx 6).nx 4).val_bound (n := 3) (by decide)
    rw [hn3e] at hn3
    obtain ⟨n18, hn18e⟩ : ∃ y, (((T1.nx 6).nx 4).nx 3).val 18 = y := ⟨_, rfl⟩
    have hn18 := (((T1.nx 6).nx 4).nx 3).val_bound (n := 18) (by decide)
    rw [hn18e] at hn18
    have hfb := WI.fb k hk4
    have hvb := WI.vb k hk4
    have hfl := WI.fl
    have hvl := WI.vl
    have hd : ∀ p ∈ ([(s.nxt + 1, .row 78 [.agg ((vi).map (PV.int .i64))]), (s.nxt, .row 78 [.agg ((fr).map (PV.int .i64))])] : List (Nat × Blk)), p.1 ≠ tp := by
      intro p hp
      simp only [List.mem_cons, List.not_mem_nil, or_false] at hp
      rcases hp with rfl | rfl <;> simp only <;> omega
    have hdV : ((vi.map (PV.int .i64)).drop k).head? = some (.int .i64 (gD vi k)) := gD_drop (by omega)
    have hdF : ((fr.map (PV.int .i64)).drop k).head? = some (.int .i64 (gD fr k)) := gD_drop (by omega)
    have hw1 : IntKind.i64.wrap (gD vi k + g4 x) = gD vi k + g4 x := wrap_i64 (by omega)
    have hw2 : IntKind.i64.wrap (gD fr k + n3) = gD fr k + n3 := wrap_i64 (by omega)
    have hw3 : IntKind.i64.wrap (1 + n18) = 1 + n18 := wrap_i64 (by omega)
    have hk40 : ((k : Int) < 4) = True := eq_true (by omega)
    have hV : s1.blk (s.nxt + 1) = some (.row 78 [.agg ((vi).map (PV.int .i64))]) := K1.hd
    have hF : s1.blk s.nxt = some (.row 78 [.agg ((fr).map (PV.int .i64))]) := K1.tl.hd
    have htN' : tp ≠ s1.nxt := by have := K1.tl.lt; simp only at this; omega
    have htN : (tp = s1.nxt) = False := eq_false htN'
    have hFs : (s.nxt = s1.nxt) = False := eq_false (by have := K1.tl.lt; omega)
    have hVs : (s.nxt + 1 = s1.nxt) = False := K1.ne 0
    have H := aj hxe (aj hg4 (aj hn3e (aj hn18e (aj hfl (aj hvl (aj hdV (aj hdF (aj hw1 (aj hw2 (aj hw3 (aj hk40 (aj hk4 (aj hV (aj hF (aj hFs (aj hVs (aj htN H)))))))))))))))))
    refine Run.drawG 21 [6, 14, 17] 20 (fun s => s.new (.row 65 [.agg [.int .i64 0, .int .i64 0, .int .i64 0, .int .i64 0]])) [(s1.set tp (some (.row 29 [(T1.nx 6).pv]))), ((s1.set tp (some (.row 29 [(T1.nx 6).pv]))).set tp (some (.row 29 [((T1.nx 6).nx 4).pv]))), (((s1.set tp (some (.row 29 [(T1.nx 6).pv]))).set tp (some (.row 29 [((T1.nx 6).nx 4).pv]))).set tp (some (.row 29 [(((T1.nx 6).nx 4).nx 3).pv]))), ((((s1.set tp (some (.row 29 [(T1.nx 6).pv]))).set tp (some (.row 29 [((T1.nx 6).nx 4).pv]))).set tp (some (.row 29 [(((T1.nx 6).nx 4).nx 3).pv]))).set tp (some (.row 29 [((((T1.nx 6).nx 4).nx 3).nx 18).pv])))] Try.mixed (by kernel_rfl) (by kernel_rfl) (by decide) (by decide) ?_
    refine DetGC.pre (pre := [_, _, _, _, _, _]) (by decide) List.mem_cons_self au ?_
    refine DetGC.callE (by decide) List.mem_cons_self au au au (by kernel_rfl) (tape_Next (hT1.nx 6) (n := 4) (by simp only [go_sem, ↓reduceIte])) ((tape_Next (hT1.nx 6) (n := 4) (by simp only [go_sem, ↓reduceIte, htN])).new_set (by simp only [go_sem]; exact htN')) ?_
    refine DetGC.pre (pre := [_, _, _, _, _, _, _]) (by decide) (List.mem_cons_of_mem _ List.mem_cons_self) au ?_
    refine DetGC.callE (by decide) (List.mem_cons_of_mem _ List.mem_cons_self) au au au (by kernel_rfl) (tape_Next ((hT1.nx 6).nx 4) (n := 3) (by simp only [go_sem, ↓reduceIte])) ((tape_Next ((hT1.nx 6).nx 4) (n := 3) (by simp only [go_sem, ↓reduceIte, htN])).new_set (by simp only [go_sem]; exact htN')) ?_
    refine DetGC.pre (pre := [_, _]) (by decide) (List.mem_cons_of_mem _ (List.mem_cons_of_mem _ List.mem_cons_self)) au ?_
    refine DetGC.callE (by decide) (List.mem_cons_of_mem _ (List.mem_cons_of_mem _ List.mem_cons_self)) au au au (by kernel_rfl) (tape_Next (((hT1.nx 6).nx 4).nx 3) (n := 18) (by simp only [go_sem, ↓reduceIte])) ((tape_Next (((hT1.nx 6).nx 4).nx 3) (n := 18) (by simp only [go_sem, ↓reduceIte, htN])).new_set (by simp only [go_sem]; exact htN')) ?_
    refine DetGC.pre (pre := [_, _]) (by decide) (List.mem_cons_of_mem _ (List.mem_cons_of_mem _ (List.mem_cons_of_mem _ List.mem_cons_self))) au ?_
    refine DetGC.alloc (v := .ptr s1.nxt 0 0) (by decide) (List.mem_cons_of_mem _ (List.mem_cons_of_mem _ (List.mem_cons_of_mem _ List.mem_cons_self))) au au ?_
    refine DetGC.nil (List.mem_cons_of_mem _ (List.mem_cons_of_mem _ (List.mem_cons_of_mem _ List.mem_cons_self))) ?_
    refine rh [0, 5, 6, 7, 8, 9, 10] (k := rs (k := ?_))
    obtain ⟨sB, hsB⟩ : ∃ y, ((((((s1.set tp (some (.row 29 [(T1.nx 6).pv]))).set tp (some (.row 29 [((T1.nx 6).nx 4).pv]))).set tp (some (.row 29 [(((T1.nx 6).nx 4).nx 3).pv]))).set tp (some (.row 29 [((((T1.nx 6).nx 4).nx 3).nx 18).pv]))).new (.row 65 [.agg [.int .i64 0, .int .i64 0, .int .i64 0, .int .i64 0]])).set s1.nxt (some (.row 65 [.agg [.int .i64 (k : Int), .int .i64 (gD vi k + g4 x), .int .i64 (gD fr k + n3), .int .i64 (1 + n18)]]))) = y := ⟨_, rfl⟩
    have KA := (((K1.setbase (b' := (some (.row 29 [(T1.nx 6).pv]))) hlt hd).setbase (b' := (some (.row 29 [((T1.nx 6).nx 4).pv]))) hlt hd).setbase (b' := (some (.row 29 [(((T1.nx 6).nx 4).nx 3).pv]))) hlt hd).setbase (b' := (some (.row 29 [((((T1.nx 6).nx 4).nx 3).nx 18).pv]))) hlt hd
    have KB : Kp (s.set tp (some (.row 29 [((((T1.nx 6).nx 4).nx 3).nx 18).pv]))) sB [(s1.nxt, .row 65 [.agg [.int .i64 (k : Int), .int .i64 (gD vi k + g4 x), .int .i64 (gD fr k + n3), .int .i64 (1 + n18)]]), (s.nxt + 1, .row 78 [.agg ((vi).map (PV.int .i64))]), (s.nxt, .row 78 [.agg ((fr).map (PV.int .i64))])] := by
      rw [← hsB]
      exact KA.pushset _ _ rfl
    rw [hsB]
    have hBV : sB.blk (s.nxt + 1) = some (.row 78 [.agg ((vi).map (PV.int .i64))]) := KB.tl.hd
    have hBF : sB.blk s.nxt = some (.row 78 [.agg ((fr).map (PV.int .i64))]) := KB.tl.tl.hd
    have hBW : sB.blk s1.nxt = some (.row 65 [.agg [.int .i64 (k : Int), .int .i64 (gD vi k + g4 x), .int .i64 (gD fr k + n3), .int .i64 (1 + n18)]]) := KB.hd
    have hWV : (s1.nxt = s.nxt + 1) = False := eq_false (by have := K1.lt; omega)
    have hWF : (s1.nxt = s.nxt) = False := eq_false (by have := K1.lt; omega)
    have hw4 : IntKind.i64.wrap (gD vi k + g4 x + (1 + n18)) = gD vi k + g4 x + (1 + n18) := wrap_i64 (by omega)
    have hw5 : IntKind.i64.wrap (gD fr k + n3 + (1 + n18)) = gD fr k + n3 + (1 + n18) := wrap_i64 (by omega)
    have hk1 : (k + 1 ≤ 4) = True := eq_true (by omega)
    have H := aj hBV (aj hBF (aj hBW (aj hWV (aj hWF (aj hw4 (aj hw5 (aj hk1 H)))))))
    refine Run.drawM 16 [13, 15] [sB, (sB.set (s.nxt + 1) (some (.row 78 [.agg ((vi.set k (gD vi k + g4 x + (1 + n18))).map (PV.int .i64))]))), ((sB.set (s.nxt + 1) (some (.row 78 [.agg ((vi.set k (gD vi k + g4 x + (1 + n18))).map (PV.int .i64))]))).set s.nxt (some (.row 78 [.agg ((fr.set k (gD fr k + n3 + (1 + n18))).map (PV.int .i64))])))] Try.mixed (by kernel_rfl) (by kernel_rfl) ?_
    refine DetBC.pre (pre := [_, _, _, _, _, _, _, _, _, _, _, _, _]) (by decide) List.mem_cons_self au ?_
    refine DetBC.eff (by decide) List.mem_cons_self au au ?_
    refine DetBC.pre (pre := [_]) (by decide) (List.mem_cons_of_mem _ List.mem_cons_self) au ?_
    refine DetBC.eff (by decide) (List.mem_cons_of_mem _ List.mem_cons_self) au au ?_
    refine DetBC.nil (List.mem_cons_of_mem _ (List.mem_cons_of_mem _ List.mem_cons_self)) ?_
    refine rl [0, 5, 6, 7, 8, 10] (k := ?_)
    have hwl := WI.len
    have hc5 : c ≤ 5 := by omega
    have hlt1 : s.nxt + 1 < s1.nxt := K1.lt
    have hnB : sB.nxt = s1.nxt + 1 := by rw [← hsB]; rfl
    have KC : Kp (s.set tp (some (.row 29 [((((T1.nx 6).nx 4).nx 3).nx 18).pv]))) ((sB.set (s.nxt + 1) (some (.row 78 [.agg ((vi.set k (gD vi k + g4 x + (1 + n18))).map (PV.int .i64))]))).set s.nxt (some (.row 78 [.agg ((fr.set k (gD fr k + n3 + (1 + n18))).map (PV.int .i64))]))) [(s.nxt + 1, .row 78 [.agg ((vi.set k (gD vi k + g4 x + (1 + n18))).map (PV.int .i64))]), (s.nxt, .row 78 [.agg ((fr.set k (gD fr k + n3 + (1 + n18))).map (PV.int .i64))])] := ((KB.tl.setset (b' := .row 78 [.agg ((vi.set k (gD vi k + g4 x + (1 + n18))).map (PV.int .i64))]) (by simp) (by rw [nxt_set]; omega)).swap.setset (b' := .row 78 [.agg ((fr.set k (gD fr k + n3 + (1 + n18))).map (PV.int .i64))]) (by simp) (by rw [nxt_set]; omega)).swap
    obtain ⟨sC, hsC⟩ : ∃ y, ((sB.set (s.nxt + 1) (some (.row 78 [.agg ((vi.set k (gD vi k + g4 x + (1 + n18))).map (PV.int .i64))]))).set s.nxt (some (.row 78 [.agg ((fr.set k (gD fr k + n3 + (1 + n18))).map (PV.int .i64))]))) = y := ⟨_, rfl⟩
    have hnC : sC.nxt = s1.nxt + 1 := by rw [← hsC]; exact hnB
    have hgr2 : Grows sC kk ws.length 4 := by
      refine hgr.mono fun t ht => ?_
      have ht := htk t 4 ht
      have a1 : (t = s.nxt) = False := eq_false (by omega)
      have a2 : (t = s.nxt + 1) = False := eq_false (by omega)
      have a3 : (t = tp) = False := eq_false (by omega)
      have a4 : (t = s1.nxt) = False := eq_false (by omega)
      rw [← hsC, ← hsB]
      simp only [go_sem, a1, a2, a3, a4, ↓reduceIte]
    have hCW : sC.blk s1.nxt = some (.row 65 [.agg [.int .i64 (k : Int), .int .i64 (gD vi k + g4 x), .int .i64 (gD fr k + n3), .int .i64 (1 + n18)]]) := by rw [← hsC]; simp only [go_sem, hWV, hWF, ↓reduceIte]; exact hBW
    rw [hsC] at KC
    rw [hsC]
    have hwm : IntKind.i64.wrap (m - 1) = m - 1 := wrap_i64 (by omega)
    have H := aj hCW (aj hwm H)
    refine rr (k := ro (pre := [_, _]) (k := rO (k := ?_)))
    refine RunO.grow au au au Try.td50 (by rw [Try.zp65]; rfl) (isEls_map (fun a => ⟨rfl, by rw [Try.cz65]; rfl⟩) _) (isEls_map (f := Win.pv) (fun a => ⟨rfl, by rw [Try.cz65]; rfl⟩) [⟨(k : Int), gD vi k + g4 x, gD fr k + n3, 1 + n18⟩]) (by rw [Try.by65]; decide) (by rw [Try.by65]; simp; omega) (by rw [Try.cz65, List.length_map]; exact hgr2) (by simp) ?_
    intro k' s2 hgr' htm
    refine rh [0, 5, 6, 7, 8] (k := rB (k := rg [0, 5, 6, 7, 8] (k := ?_)))
    rw [List.length_map, Try.cz65] at hgr'
    refine Run.lp ⟨⟨_, c + 1, m - 1, ws ++ [⟨(k : Int), gD vi k + g4 x, gD fr k + n3, 1 + n18⟩], fr.set k (gD fr k + n3 + (1 + n18)), vi.set k (gD vi k + g4 x + (1 + n18)), k', by rw [List.map_append]; rfl, (((hT1.nx 6).nx 4).nx 3).nx 18, KC.tm htm (fun t z e => ?_) (fun p hp z e => ?_), WI.step hk4 ⟨hg0, hg5⟩ ⟨hn3.1, by omega⟩ ⟨hn18.1, by omega⟩, by rw [List.length_append]; exact hgr', fun t z e => ?_, by omega, by omega⟩, ?_⟩
    · have := htk t z e
      rw [nxt_set]; omega
    · have := htk _ z e
      simp only [List.mem_cons, List.not_mem_nil, or_false] at hp
      rcases hp with rfl | rfl <;> simp only at this <;> omega
    · have h9 := htm.nxt
      rcases htm.fresh t z e with ⟨z', h⟩ | ⟨h1, h2⟩
      · have := htk t z' h; omega
      · omega
    · simp only [ivar1, go_sem, ↓reduceIte, Nat.reduceEqDiff]
      omega
  · refine rX (k := rs (k := rg [4] (k := rR (k := ?_))))
    refine Ret.baseK (r' := .sl .unk (ws.map Win.pv)) tp (.row 29 [T1.pv]) hlt (by simp only [Try.f23, go_sem, ↓reduceIte] <;> rfl) (by simp only [PV.weak, weaks_wins]) (blw_wins _ _) (by simp only [Blk.blw, PV.blws]; exact ⟨blw_tape _ _, trivial⟩) hwf K1.fr.blk ⟨ws, T1, rfl, rfl, hT1, WI.good hi (by omega)⟩
end Go.Proofs
namespace Go.Proofs
open Go.PM
set_option maxHeartbeats 2000000
set_option maxRecDepth 100000 in
theorem tape_Table {T : Tp} (hT : T.ok) {s : St} {tp : Nat} (hb : s.blk tp = some (.row 29 [T.pv])) : ACalls Try.prog 10 [.ptr tp 0 0] s (fun r s' => ∃ (t : Tab) (T' : Tp), r = t.pv ∧ s' = s.set tp (some (.row 29 [T'.pv])) ∧ T'.ok ∧ tabRight t = true ∧ t.few 6) := by
  refine go Try.func10 (k := fun hwf H => ?_)
  have hlt : tp < s.nxt := lt_blk hwf hb
  have hs0 : s.set tp (some (.row 29 [T.pv])) = s := St.set_self hb
  have hFt : (s.nxt = tp) = False := eq_false (by omega)
  have hVt : (s.nxt + 1 = tp) = False := eq_false (by omega)
  have htF : (tp = s.nxt) = False := eq_false (by omega)
  have htV : (tp = s.nxt + 1) = False := eq_false (by omega)
  have hv4 := T.val_bound (n := 4) (by decide)
  obtain ⟨n, hne⟩ : ∃ y, 1 + T.val 4 = y := ⟨_, rfl⟩
  have hwn : IntKind.i64.wrap (1 + T.val 4) = n := by rw [wrap_i64 (by omega), hne]
  have H := aj hFt (aj hVt (aj htF (aj htV H)))
  refine rs (k := rg [0, 2] (k := rs (k := rr (k := ro (pre := [_]) (k := ?_)))))
  refine RunO.callw au au au (by kernel_rfl) ((tape_Next hT (n := 4) (by simp only [go_sem, htF, ↓reduceIte]; exact hb)).mono ?_)
  rintro r s9 ⟨rfl, hs⟩
  subst s9
  have H := aj hwn H
  refine rh [0, 2, 3] (k := rs (k := rg [0, 2, 3, 4] (k := rs (k := rr (k := ro (pre := [_]) (k := ?_))))))
  refine RunO.callw au au au (by kernel_rfl) ((tape_Next (hT.nx 4) (n := 5) (by simp only [go_sem, htV, ↓reduceIte])).mono ?_)
  rintro r s9 ⟨rfl, hs⟩
  subst s9
  refine rh [0, 2, 3, 4, 5] (k := rs (k := rs (k := rg [0, 2, 3, 4, 5, 6] (k := rb (k := ?_)))))
  refine Run.loop (fun e s' => ∃ (T1 : Tp) (i : Nat) (lo : Int) (tens : List Ten) (kk : SK), e = [(0, .ptr tp 0 0), (2, .ptr s.nxt 0 0), (3, .int .i64 n), (4, .ptr (s.nxt + 1) 0 0), (5, .int .i64 lo), (6, .int .i64 (i : Int))] ∧ T1.ok ∧ Kp (s.set tp (some (.row 29 [(T1).pv]))) s' [(s.nxt + 1, .row 24 [.agg [.int .i64 0, .sl kk (tens.map Ten.pv)]]), (s.nxt, .row 24 [.agg [.int .i64 0, .sl .nil []]])] ∧ TInv i lo tens ∧ Grows s' kk tens.length (Try.prog.cellsOf 53) ∧ (∀ t z, kk = .tok t z → s.nxt + 1 < t ∧ t < s'.nxt) ∧ (i : Int) ≤ n) (fun e s' => n.toNat - ivar e 6) ?_ ?_
  · have K0 : Kp (s.set tp (some (.row 29 [(T.nx 4).pv]))) ((s.new (.row 24 [.agg [.int .i64 0, .sl .nil []]])).set tp (some (.row 29 [(T.nx 4).pv]))) [(s.nxt, .row 24 [.agg [.int .i64 0, .sl .nil []]])] := by
      have h0 : Kp (s.set tp (some (.row 29 [(T).pv]))) (s.new (.row 24 [.agg [.int .i64 0, .sl .nil []]])) [(s.nxt, .row 24 [.agg [.int .i64 0, .sl .nil []]])] := by rw [hs0]; exact (Kp.nil (Fr.refl hwf)).push _
      exact h0.setbase hlt (by simp only [List.forall_mem_cons]; exact ⟨by omega, by simp⟩) _
    have K00 := (K0.push (.row 24 [.agg [.int .i64 0, .sl .nil []]])).setbase (b' := (some (.row 29 [((T.nx 4).nx 5).pv]))) hlt (by simp only [List.forall_mem_cons]; exact ⟨by simp only [go_sem]; omega, by omega, by simp⟩)
    have hv5 := (T.nx 4).val_bound (n := 5) (by decide)
    refine ⟨(T.nx 4).nx 5, 0, (T.nx 4).val 5, [], .nil, rfl, (hT.nx 4).nx 5, K00, TInv.first (by omega), .inl ⟨rfl, rfl⟩, fun t z e => (by cases e), (by omega)⟩
  rintro e s1 ⟨T1, i, lo, tens, kk, rfl, hT1, K1, TI, hgr, htk, hin⟩
  refine rs (k := rs (k := rg [0, 2, 3, 4, 5, 6, 17] (k := rc (ht := fun hc0 => ?_) (hf := fun hc0 => ?_))))
  · refine rk (k := rs (k := rb (k := rs (k := ?_))))
    have hin : (i : Int) < n := of_decide_eq_true hc0
    have hi3 : i ≤ 3 := by omega
    have hT1b : s1.blk tp = some (.row 29 [T1.pv]) := by rw [K1.fr.blk tp hlt, blk_set, if_pos rfl]
    have hv3 := T1.val_bound (n := 3) (by decide)
    have hv2 := (T1.nx 3).val_bound (n := 2) (by decide)
    have hq4 := ((T1.nx 3).nx 2).val_bound (n := 4) (by decide)
    obtain ⟨u, hu⟩ : ∃ y, 1 + T1.val 3 + (i : Int) = y := ⟨_, rfl⟩
    have hwu1 : IntKind.i64.wrap (1 + T1.val 3) = 1 + T1.val 3 := wrap_i64 (by omega)
    have hwu : IntKind.i64.wrap (1 + T1.val 3 + (i : Int)) = u := by rw [wrap_i64 (by omega), hu]
    obtain ⟨q4, hq⟩ : ∃ y, 1 + ((T1.nx 3).nx 2).val 4 = y := ⟨_, rfl⟩
    have hwq : IntKind.i64.wrap (1 + ((T1.nx 3).nx 2).val 4) = q4 := by rw [wrap_i64 (by omega), hq]
    have hlt1 : s.nxt + 1 < s1.nxt := K1.lt
    have htN : (tp = s1.nxt) = False := eq_false (by omega)
    have hNt : (s1.nxt = tp) = False := eq_false (by omega)
    have htl1 : tp < s1.nxt := by omega
    have hs1 : s1.set tp (some (.row 29 [T1.pv])) = s1 := St.set_self hT1b
    have H := aj hwu1 (aj hwu (aj hwq (aj htN (aj hNt H))))
    refine rr (k := ro (pre := [_]) (k := ?_))
    refine RunO.callw au au au (by kernel_rfl) ((tape_Next hT1 (n := 3) hT1b).mono ?_)
    rintro r s9 ⟨rfl, hs⟩
    subst s9
    refine ro (pre := [_, _, _, _]) (k := ?_)
    refine RunO.callw au au au (by kernel_rfl) ((tape_Next (hT1.nx 3) (n := 2) (by simp only [go_sem, ↓reduceIte])).mono ?_)
    rintro r s9 ⟨rfl, hs⟩
    subst s9
    rw [set_set]
    refine ro (pre := [_, _, _, _]) (k := ?_)
    refine RunO.callw au au au (by kernel_rfl) ((tape_Next ((hT1.nx 3).nx 2) (n := 4) (by simp only [go_sem, ↓reduceIte])).mono ?_)
    rintro r s9 ⟨rfl, hs⟩
    subst s9
    rw [set_set]
    refine ro (pre := [_, _, _]) (k := ?_)
    refine RunO.callw au au au (by kernel_rfl) ((tape_windows (((hT1.nx 3).nx 2).nx 4) (i := i) (by omega) (by simp only [go_sem, ↓reduceIte])).mono ?_)
    rintro r s9 ⟨wins, T2, rfl, hs, hT2, WG⟩
    subst s9
    rw [set_set]
    refine rh [0, 2, 3, 4, 5, 6, 7] (k := rs (k := rs (k := ?_)))
    obtain ⟨F0, hF0⟩ : ∃ y, ibits BinOp.or IntKind.u32 12812798 (IntKind.u32.wrap (IntKind.u32.wrap ((T1.nx 3).val 2) * 2 ^ min (Int.toNat 9) 32)) = y := ⟨_, rfl⟩
    have hU0 : U32 F0 := by rw [← hF0]; exact U32_ibits _ _ _
    rw [hF0]
    have K8 : Kp (s1.set tp (some (.row 29 [(T2).pv]))) (((s1.set tp (some (.row 29 [(T2).pv]))).new (.row 53 [.agg [.int .i64 0, .int .u32 0, .int .i64 0, .sl .nil [], .sl .nil []]])).set s1.nxt (some (.row 53 [.agg [.int .i64 u, .int .u32 F0, .int .i64 q4, .sl .unk (wins.map Win.pv), .sl .nil []]]))) [(s1.nxt, .row 53 [.agg [.int .i64 u, .int .u32 F0, .int .i64 q4, .sl .unk (wins.map Win.pv), .sl .nil []]])] :=
      (Kp.nil (show Fr (s1.set tp (some (.row 29 [(T2).pv]))) (s1.set tp (some (.row 29 [(T2).pv]))) from Fr.refl (K1.setbase hlt (by simp only [List.forall_mem_cons]; exact ⟨by omega, by omega, by simp⟩) _).fr.wf)).pushset _ _ rfl
    refine rr (k := ro (pre := [_]) (k := ?_))
    refine RunO.callw au au au (by kernel_rfl) ((tape_Next hT2 (n := 5) (by simp only [go_sem, htN, ↓reduceIte])).mono ?_)
    rintro r s9 ⟨rfl, hs⟩
    subst s9
    refine rh [0, 2, 3, 4, 5, 6, 7, 39] (k := ?_)
    refine Run.join (fun e s' => ∃ (T2 : Tp) (F : Int), e = [(0, .ptr tp 0 0), (2, .ptr s.nxt 0 0), (3, .int .i64 n), (4, .ptr (s.nxt + 1) 0 0), (5, .int .i64 lo), (6, .int .i64 (i : Int)), (7, .ptr s1.nxt 0 0)] ∧ T2.ok ∧ U32 F ∧ Kp (s1.set tp (some (.row 29 [(T2).pv]))) s' [(s1.nxt, .row 53 [.agg [.int .i64 u, .int .u32 F, .int .i64 q4, .sl .unk (wins.map Win.pv), .sl .nil []]])]) ?_ ?_
    · rintro e s2 ⟨T3, F, rfl, hT3, hF, K2⟩
      refine rs (k := rs (k := ?_))
      have hT3b : s2.blk tp = some (.row 29 [T3.pv]) := by rw [K2.fr.blk tp (by rw [nxt_set]; omega), blk_set, if_pos rfl]
      have hv2' := T3.val_bound (n := 2) (by decide)
      refine rr (k := ro (pre := [_]) (k := ?_))
      refine RunO.callw au au au (by kernel_rfl) ((tape_Next hT3 (n := 2) hT3b).mono ?_)
      rintro r s9 ⟨rfl, hs⟩
      subst s9
      refine rh [0, 2, 3, 4, 5, 6, 7, 8] (k := rb (k := ?_))
      refine Run.loop (fun e s' => ∃ (T4 : Tp) (c : Nat) (m q : Int) (slts : List Slt) (k : SK), e = [(0, .ptr tp 0 0), (2, .ptr s.nxt 0 0), (3, .int .i64 n), (4, .ptr (s.nxt + 1) 0 0), (5, .int .i64 q), (6, .int .i64 (i : Int)), (7, .ptr s1.nxt 0 0), (8, .int .i64 m)] ∧ T4.ok ∧ Kp (s1.set tp (some (.row 29 [(T4).pv]))) s' [(s1.nxt, .row 53 [.agg [.int .i64 u, .int .u32 F, .int .i64 q4, .sl .unk (wins.map Win.pv), .sl k (slts.map Slt.pv)]])] ∧ SInv lo q slts ∧ Grows s' k slts.length (Try.prog.cellsOf 60) ∧ (∀ t z, k = .tok t z → s1.nxt < t ∧ t < s'.nxt) ∧ slts.length = c ∧ -1 ≤ m ∧ c + m ≤ 1 ∧ 0 ≤ c + m) (fun e s' => ivar1 e 8) ?_ ?_
      · refine ⟨T3.nx 2, 0, T3.val 2, lo, [], .nil, rfl, hT3.nx 2, K2.setbase htl1 (by simp only [List.forall_mem_cons]; exact ⟨by omega, by simp⟩) _, SInv.first lo, .inl ⟨rfl, rfl⟩, fun t z e => (by cases e), rfl, (by omega), (by omega), (by omega)⟩
      rintro e s2 ⟨T4, c, m, q, slts, k, rfl, hT4, K2, SI, hgr2, htk2, hsl, hm1, hcm, hcm0⟩
      refine rs (k := rs (k := rg [0, 2, 3, 4, 5, 6, 7, 8, 49] (k := rc (ht := fun hc2 => ?_) (hf := fun hc2 => ?_))))
      · refine rk (k := rs (k := rb (k := rs (k := ?_))))
        have hT4b : s2.blk tp = some (.row 29 [T4.pv]) := by rw [K2.fr.blk tp (by rw [nxt_set]; omega), blk_set, if_pos rfl]
        have hlt2 : s1.nxt < s2.nxt := K2.lt
        have hm0 : 0 ≤ m := of_decide_eq_true hc2
        have hv9 := T4.val_bound (n := 9) (by decide)
        have hv7 := (T4.nx 9).val_bound (n := 7) (by decide)
        obtain ⟨n9, hn9⟩ : ∃ y, T4.val 9 = y := ⟨_, rfl⟩
        obtain ⟨n7, hn7⟩ : ∃ y, (T4.nx 9).val 7 = y := ⟨_, rfl⟩
        rw [hn9] at hv9
        rw [hn7] at hv7
        have hq1 := SI.lb
        have hq2 := SI.ub
        have hq3 := TI.lo
        have hq5 := TI.hi
        have hw9 : IntKind.i64.wrap (72 + n9) = 72 + n9 := wrap_i64 (by omega)
        have hwq1 : IntKind.i64.wrap (q + (72 + n9)) = q + (72 + n9) := wrap_i64 (by omega)
        have hwq2 : IntKind.i64.wrap (q + (72 + n9) + n7) = q + (72 + n9) + n7 := wrap_i64 (by omega)
        have hwm : IntKind.i64.wrap (m - 1) = m - 1 := wrap_i64 (by omega)
        have htM : (tp = s2.nxt) = False := eq_false (by omega)
        have hMt : (s2.nxt = tp) = False := eq_false (by omega)
        have H := aj hn9 (aj hn7 (aj hw9 (aj hwq1 (aj hwq2 (aj hwm (aj htM (aj hMt H)))))))
        refine rr (k := ro (pre := [_, _]) (k := ?_))
        refine RunO.callw au au au (by kernel_rfl) ((tape_Next hT4 (n := 9) hT4b).mono ?_)
        rintro r s9 ⟨rfl, hs⟩
        subst s9
        refine rh [0, 2, 3, 4, 6, 7, 8, 9] (k := rs (k := ?_))
        refine Run.drawM 9 [6] [(((s2.set tp (some (.row 29 [(T4.nx 9).pv]))).new (.row 60 [.agg [.int .i64 0, .int .i64 0]])).set s2.nxt (some (.row 60 [.agg [.int .i64 q, .int .i64 (72 + n9)]]))), ((((s2.set tp (some (.row 29 [(T4.nx 9).pv]))).new (.row 60 [.agg [.int .i64 0, .int .i64 0]])).set s2.nxt (some (.row 60 [.agg [.int .i64 q, .int .i64 (72 + n9)]]))).set tp (some (.row 29 [((T4.nx 9).nx 7).pv])))] Try.mixed (by kernel_rfl) (by kernel_rfl) ?_
        refine DetBC.pre (pre := [_, _, _, _, _, _]) (by decide) List.mem_cons_self au ?_
        refine DetBC.callE (by decide) List.mem_cons_self au au au (by kernel_rfl) (tape_Next (hT4.nx 9) (n := 7) (by simp only [go_sem, htM, ↓reduceIte])) ?_
        refine DetBC.all (by decide) (List.mem_cons_of_mem _ List.mem_cons_self) au ?_
        refine rl [0, 2, 3, 4, 5, 6, 7, 8, 9] (k := ?_)
        obtain ⟨sB, hsB⟩ : ∃ y, ((((s2.set tp (some (.row 29 [(T4.nx 9).pv]))).new (.row 60 [.agg [.int .i64 0, .int .i64 0]])).set s2.nxt (some (.row 60 [.agg [.int .i64 q, .int .i64 (72 + n9)]]))).set tp (some (.row 29 [((T4.nx 9).nx 7).pv]))) = y := ⟨_, rfl⟩
        have KB : Kp (s1.set tp (some (.row 29 [((T4.nx 9).nx 7).pv]))) sB [(s2.nxt, .row 60 [.agg [.int .i64 q, .int .i64 (72 + n9)]]), (s1.nxt, .row 53 [.agg [.int .i64 u, .int .u32 F, .int .i64 q4, .sl .unk (wins.map Win.pv), .sl k (slts.map Slt.pv)]])] := by
          rw [← hsB]
          exact ((K2.setbase (b' := (some (.row 29 [(T4.nx 9).pv]))) htl1 (by simp only [List.forall_mem_cons]; exact ⟨by omega, by simp⟩)).pushset _ _ rfl).setbase htl1 (by simp only [List.forall_mem_cons]; exact ⟨by first | omega | (simp only [go_sem]; omega), by omega, by simp⟩) _
        rw [hsB]
        have hBR : sB.blk s1.nxt = some (.row 53 [.agg [.int .i64 u, .int .u32 F, .int .i64 q4, .sl .unk (wins.map Win.pv), .sl k (slts.map Slt.pv)]]) := KB.tl.hd
        have hBS : sB.blk s2.nxt = some (.row 60 [.agg [.int .i64 q, .int .i64 (72 + n9)]]) := KB.hd
        have hnB : sB.nxt = s2.nxt + 1 := by rw [← hsB]; rfl
        have hgr3 : Grows sB k slts.length (Try.prog.cellsOf 60) := by
          refine hgr2.mono fun t ht => ?_
          have ht := htk2 t _ ht
          have a1 : (t = tp) = False := eq_false (by omega)
          have a2 : (t = s2.nxt) = False := eq_false (by omega)
          rw [← hsB]
          simp only [go_sem, a1, a2, ↓reduceIte]
        have H := aj hBR (aj hBS H)
        refine rr (k := ro (pre := [_, _, _]) (k := rO (k := ?_)))
        refine RunO.grow au au au Try.td51 (by rw [Try.zp60]; rfl) (isEls_map (fun a => ⟨rfl, by rw [Try.cz60]; rfl⟩) _) (isEls_map (f := Slt.pv) (fun a => ⟨rfl, by rw [Try.cz60]; rfl⟩) [⟨q, 72 + n9⟩]) (by rw [Try.by60]; decide) (by rw [Try.by60]; simp; omega) (by rw [List.length_map]; exact hgr3) (by simp) ?_
        intro k' s4 hgr' htm
        have KD := KB.tm htm (fun t z e => by have := htk2 t z e; rw [nxt_set]; omega) (fun p hp z e => by have := htk2 _ z e; simp only [List.mem_cons, List.not_mem_nil, or_false] at hp; rcases hp with rfl | rfl <;> simp only at this <;> omega)
        have hR4 : s4.blk s1.nxt = some (.row 53 [.agg [.int .i64 u, .int .u32 F, .int .i64 q4, .sl .unk (wins.map Win.pv), .sl k (slts.map Slt.pv)]]) := KD.tl.hd
        have H := aj hR4 H
        refine rh [0, 2, 3, 4, 5, 6, 7, 8] (k := rB (k := rg [0, 2, 3, 4, 5, 6, 7, 8] (k := ?_)))
        rw [List.length_map] at hgr'
        refine Run.lp ⟨⟨_, c + 1, m - 1, q + (72 + n9) + n7, slts ++ [⟨q, 72 + n9⟩], k', rfl, (hT4.nx 9).nx 7, ?_, SI.step ⟨by omega, by omega⟩ ⟨by omega, by omega⟩, ?_, fun t z e => ?_, by rw [List.length_append, hsl]; rfl, by omega, by omega, by omega⟩, ?_⟩
        · rw [List.map_append]
          exact KD.tl.setset (by simp) (by rw [nxt_set]; omega)
        · rw [List.length_append]
          refine (show Grows s4 k' _ _ from hgr').mono fun t ht => ?_
          rw [blk_set, if_neg (hgr'.ne ht _ hR4 (by simp))]
        · rw [nxt_set]
          have h9 := htm.nxt
          rcases htm.fresh t z e with ⟨z', h⟩ | ⟨h1, h2⟩
          · have := htk2 t z' h; omega
          · omega
        · simp only [ivar1, go_sem, ↓reduceIte, Nat.reduceEqDiff]
          omega
      · refine rX (k := ?_)
        have hcc2 : ¬ 0 ≤ m := of_decide_eq_false hc2
        have hb2 : ∀ j, j < s1.nxt → j ≠ tp → s2.blk j = s1.blk j := fun j hj hne => by rw [K2.fr.blk j (by rw [nxt_set]; omega), blk_set, if_neg hne]
        have hn2 : s1.nxt < s2.nxt := K2.lt
        have KE : Kp (s.set tp (some (.row 29 [(T4).pv]))) s2 [(s1.nxt, .row 53 [.agg [.int .i64 u, .int .u32 F, .int .i64 q4, .sl .unk (wins.map Win.pv), .sl k (slts.map Slt.pv)]]), (s.nxt + 1, .row 24 [.agg [.int .i64 0, .sl kk (tens.map Ten.pv)]]), (s.nxt, .row 24 [.agg [.int .i64 0, .sl .nil []]])] := (K1.setbase hlt (by simp only [List.forall_mem_cons]; exact ⟨by omega, by omega, by simp⟩) _).trans K2
        have hE1 : s2.blk (s.nxt + 1) = some (.row 24 [.agg [.int .i64 0, .sl kk (tens.map Ten.pv)]]) := KE.tl.hd
        have hE2 : s2.blk s1.nxt = some (.row 53 [.agg [.int .i64 u, .int .u32 F, .int .i64 q4, .sl .unk (wins.map Win.pv), .sl k (slts.map Slt.pv)]]) := KE.hd
        have hgr4 : Grows s2 kk tens.length (Try.prog.cellsOf 53) := hgr.mono fun t ht => by
          have := htk t _ ht
          exact hb2 t this.2 (by omega)
        have hTl := TI.len
        have hwi : IntKind.i64.wrap ((i : Int) + 1) = ((i + 1 : Nat) : Int) := by rw [wrap_i64 (by omega)]; omega
        have H := aj hE1 (aj hE2 (aj hwi H))
        refine rr (k := ro (pre := [_, _, _]) (k := ?_))
        refine RunO.wkE 73 (v := .agg [.int .i64 ((⟨u, F, q4, wins, slts⟩ : Ten)).unit, .int .u32 ((⟨u, F, q4, wins, slts⟩ : Ten)).fns, .int .i64 ((⟨u, F, q4, wins, slts⟩ : Ten)).queue, .sl .unk (((⟨u, F, q4, wins, slts⟩ : Ten)).wins.map Win.pv), .sl .unk (((⟨u, F, q4, wins, slts⟩ : Ten)).slts.map Slt.pv)]) (by simp only [go_sem, ↓reduceIte, Nat.reduceEqDiff, PV.weak, PV.weaks, weaks_wins, weaks_slts]) ?_
        refine rO (k := ?_)
        refine RunO.grow au au au Try.td22 (by rw [Try.zp53]; rfl) (isEls_map (fun a => ⟨rfl, by rw [Try.cz53]; rfl⟩) _) (isEls_map (f := Ten.pv) (fun a => ⟨rfl, by rw [Try.cz53]; rfl⟩) [⟨u, F, q4, wins, slts⟩]) (by rw [Try.by53]; decide) (by rw [Try.by53]; simp; omega) (by rw [List.length_map]; exact hgr4) (by simp) ?_
        intro k' s4 hgr' htm
        have KD := KE.tm htm (fun t z e => by have := htk t z e; rw [nxt_set]; omega) (fun p hp z e => by have := htk _ z e; simp only [List.mem_cons, List.not_mem_nil, or_false] at hp; rcases hp with rfl | rfl | rfl <;> simp only at this <;> omega)
        have hR4 : s4.blk (s.nxt + 1) = some (.row 24 [.agg [.int .i64 0, .sl kk (tens.map Ten.pv)]]) := KD.tl.hd
        have H := aj hR4 H
        refine rh [0, 2, 3, 4, 5, 6] (k := rB (k := rg [0, 2, 3, 4, 5, 6] (k := ?_)))
        rw [List.length_map] at hgr'
        have hs1' := SI.lb
        have hs2' := TI.lo
        have hXG : XGood i q ⟨u, F, q4, wins, slts⟩ := ⟨⟨by simp only; omega, by simp only; omega⟩, hF, ⟨by simp only; omega, by simp only; omega⟩, WG, fun a ha => by have := SI.all a ha; omega, ⟨by simp only; omega, by simp only; omega⟩⟩
        refine Run.lp ⟨⟨T4, i + 1, q, tens ++ [⟨u, F, q4, wins, slts⟩], k', rfl, hT4, ?_, TI.step hXG SI, ?_, fun t z e => ?_, by omega⟩, ?_⟩
        · rw [List.map_append]
          exact KD.tl.setset (by simp only [List.forall_mem_cons]; exact ⟨by omega, by simp⟩) (by rw [nxt_set]; omega)
        · rw [List.length_append]
          refine (show Grows s4 k' _ _ from hgr').mono fun t ht => ?_
          rw [blk_set, if_neg (hgr'.ne ht _ hR4 (by simp))]
        · rw [nxt_set]
          have h9 := htm.nxt
          rcases htm.fresh t z e with ⟨z', h⟩ | ⟨h1, h2⟩
          · have := htk t z' h; omega
          · omega
        · simp only [ivar, go_sem, ↓reduceIte, Nat.reduceEqDiff]
          omega
    intro hJc1
    refine rc (ht := fun hc1 => ?_) (hf := fun hc1 => ?_)
    · refine rr (k := ro (pre := [_]) (k := ?_))
      refine RunO.callw au au au (by kernel_rfl) ((tape_Next (hT2.nx 5) (n := 24) (by simp only [go_sem, ↓reduceIte])).mono ?_)
      rintro r s9 ⟨rfl, hs⟩
      subst s9
      refine rh [0, 2, 3, 4, 5, 6, 7] (k := ?_)
      obtain ⟨F1, hF1⟩ : ∃ y, ibits BinOp.or IntKind.u32 65608 (IntKind.u32.wrap (1 * 2 ^ min (IntKind.u64.wrap ((T2.nx 5).val 24)).toNat 32)) = y := ⟨_, rfl⟩
      rw [hF1]
      have hU1 : U32 F1 := by rw [← hF1]; exact U32_ibits _ _ _
      exact hJc1 _ _ ⟨_, F1, rfl, (hT2.nx 5).nx 24, hU1, ((K8.setbase (b' := (some (.row 29 [(T2.nx 5).pv]))) htl1 (by simp only [List.forall_mem_cons]; exact ⟨by omega, by simp⟩)).setbase (b' := (some (.row 29 [((T2.nx 5).nx 24).pv]))) htl1 (by simp only [List.forall_mem_cons]; exact ⟨by omega, by simp⟩)).setset (by simp) (by rw [nxt_set]; omega)⟩
    · refine rk (k := rp [0, 2, 3, 4, 5, 6, 7] (k := ?_))
      exact hJc1 _ _ ⟨_, _, rfl, hT2.nx 5, hU0, K8.setbase htl1 (by simp only [List.forall_mem_cons]; exact ⟨by omega, by simp⟩) _⟩
  · refine rX (k := rs (k := ?_))
    have hT1b : s1.blk tp = some (.row 29 [T1.pv]) := by rw [K1.fr.blk tp hlt, blk_set, if_pos rfl]
    have hin' : ¬ (i : Int) < n := of_decide_eq_false hc0
    have hlt1 : s.nxt + 1 < s1.nxt := K1.lt
    have hv20 := T1.val_bound (n := 20) (by decide)
    obtain ⟨n20, hn20⟩ : ∃ y, T1.val 20 = y := ⟨_, rfl⟩
    rw [hn20] at hv20
    have hq3 := TI.lo
    have hq5 := TI.hi
    have hw20 : IntKind.i64.wrap (lo + n20) = lo + n20 := wrap_i64 (by omega)
    have hE1 : s1.blk (s.nxt + 1) = some (.row 24 [.agg [.int .i64 0, .sl kk (tens.map Ten.pv)]]) := K1.hd
    have hE0 : s1.blk s.nxt = some (.row 24 [.agg [.int .i64 0, .sl .nil []]]) := K1.tl.hd
    have H := aj hn20 (aj hw20 (aj hE1 (aj hE0 H)))
    refine rr (k := ro (pre := [_, _]) (k := ?_))
    refine RunO.callw au au au (by kernel_rfl) ((tape_Next hT1 (n := 20) hT1b).mono ?_)
    rintro r s9 ⟨rfl, hs⟩
    subst s9
    refine rh [2, 4] (k := rs (k := rg [2] (k := rR (k := ?_))))
    have KF := (((K1.setbase (b' := (some (.row 29 [(T1.nx 20).pv]))) hlt (by simp only [List.forall_mem_cons]; exact ⟨by omega, by omega, by simp⟩)).setset (b' := .row 24 [.agg [.int .i64 (lo + n20), .sl kk (tens.map Ten.pv)]]) (by simp) (by rw [nxt_set]; omega)).swap.setset (b' := .row 24 [.agg [.int .i64 (lo + n20), .sl kk (tens.map Ten.pv)]]) (by simp) (by rw [nxt_set]; omega))
    have hpos := TI.pos (by omega)
    refine Ret.baseK (r' := Tab.pv ⟨lo + n20, tens⟩) tp (.row 29 [(T1.nx 20).pv]) hlt (by simp only [Try.f10, go_sem, ↓reduceIte] <;> rfl) (by simp only [Tab.pv, PV.weak, PV.weaks, weaks_tens]) (blw_tab _ _) (by simp only [Blk.blw, PV.blws]; exact ⟨blw_tape _ _, trivial⟩) hwf KF.fr.blk
      ⟨⟨lo + n20, tens⟩, T1.nx 20, rfl, rfl, hT1.nx 20, (TI.right (by omega) (by omega) (by omega)).1, TI.few (by omega) (by omega) (by omega)⟩
end Go.Proofs
namespace Go.Proofs
open Go.PM
set_option maxHeartbeats 2000000
theorem law_tape {k : Int} {s : St} : ACalls Try.prog 9 [.int .i64 k] s (fun r s' => ∃ l : List Int, r = .sl .unk (l.map (PV.int .i64)) ∧ l.length ≤ 900 ∧ s' = s) := by
  refine go Try.func9 (k := fun hwf H => ?_)
  refine rs (k := rg [0] (k := rs (k := rg [0, 3] (k := rs (k := rs (k := rg [0, 3, 4] (k := rb (k := ?_))))))))
  refine Run.loop (fun e s' => Fr s s' ∧ ∃ (i : Nat) (l : List Int) (kk : SK), e = [(0, .int .i64 k), (3, .sl kk (l.map (PV.int .i64))), (4, .int .i64 (i : Int))] ∧ l.length = i ∧ i ≤ 900 ∧ Grows s' kk l.length (Try.prog.cellsOf 3) ∧ (∀ t z, kk = .tok t z → s.nxt ≤ t ∧ t < s'.nxt)) (fun e s' => 900 - ivar e 4) ?_ ?_
  · exact ⟨Fr.refl hwf, 0, [], .nil, rfl, rfl, by omega, .inl ⟨rfl, rfl⟩, fun t z e => (by cases e)⟩
  rintro e s1 ⟨F1, i, l, kk, rfl, hl, hi, hgr, htk⟩
  refine rs (k := rs (k := rg [0, 3, 4, 6] (k := rc (ht := fun hc0 => ?_) (hf := fun hc0 => ?_))))
  · refine rk (k := rs (k := rb (k := ?_)))
    have hil : (i : Int) < 900 := of_decide_eq_true hc0
    have hw : IntKind.i64.wrap ((i : Int) + 1) = ((i + 1 : Nat) : Int) := by rw [wrap_i64 (by omega)]; omega
    have H := aj hw H
    refine rr (k := ro (pre := [_, _, _, _, _, _, _, _, _, _, _, _, _]) (k := rO (k := ?_)))
    refine RunO.grow au au au Try.td26 (by rw [Try.zp3]; rfl) (isEls_map (fun a => ⟨rfl, by rw [Try.cz3]; rfl⟩) _) (isEls_map (f := PV.int .i64) (fun a => ⟨rfl, by rw [Try.cz3]; rfl⟩) [_]) (by rw [Try.by3]; decide) (by rw [Try.by3]; simp; omega) (by rw [List.length_map]; exact hgr) (by simp) ?_
    intro k' s2 hgr' htm
    refine rh [0, 3, 4] (k := rB (k := rg [0, 3, 4] (k := ?_)))
    rw [List.length_map] at hgr'
    refine Run.lp ⟨⟨F1.tm htm (fun t z e => (htk t z e).1), i + 1, l ++ [_], k', by rw [List.map_append]; rfl, by rw [List.length_append, hl]; rfl, by omega, by rw [List.length_append]; exact hgr', fun t z e => ?_⟩, ?_⟩
    · have h9 := htm.nxt
      have h8 := F1.nxt
      rcases htm.fresh t z e with ⟨z', h⟩ | ⟨h1, h2⟩
      · have := htk t z' h; omega
      · omega
    · simp only [ivar, go_sem, ↓reduceIte, Nat.reduceEqDiff]
      omega
  · refine rX (k := rs (k := rg [2] (k := rR (k := ?_))))
    refine Ret.pure (r' := .sl .unk (l.map (PV.int .i64))) (by simp only [Try.f9, go_sem, ↓reduceIte] <;> rfl) (by rw [PV.weak, weaks_map_id (PV.int .i64) (fun _ => rfl)]) (by simp only [PV.blw]; exact ⟨fun t z e => (by cases e), blws_map (PV.int .i64) _ (fun a => by simp only [PV.blw]) _⟩) hwf F1.blk ⟨l, rfl, by omega, rfl⟩
theorem tabSame_self (t : Tab) : tabSame t t = true := by simp [tabSame]
instance decI64 (n : Int) : Decidable (I64 n) := by unfold I64; exact inferInstance
end Go.Proofs
namespace Go.Proofs
open Go.PM
set_option maxHeartbeats 2000000
theorem take_ok {t : Tab} (ht : t.ok) {x : Ten} (hx : x ∈ t.tens) : Ten.ok ⟨x.unit, x.fns, x.queue, x.wins.take 8, x.slts.take 4⟩ :=
  ⟨(ht.tens x hx).unit, (ht.tens x hx).fns, (ht.tens x hx).queue, fun w hw => (ht.tens x hx).wins w (List.mem_of_mem_take hw), fun w hw => (ht.tens x hx).slts w (List.mem_of_mem_take hw), by have := List.length_take_le 8 x.wins; simp only; omega, by have := List.length_take_le 4 x.slts; simp only; omega⟩
theorem law_few {t : Tab} (ht : t.ok) {s : St} : ACalls Try.prog 18 [t.pv] s (fun r s' => ∃ t' : Tab, r = t'.pv ∧ t'.few 8 ∧ s' = s) := by
  refine go Try.func18 (k := fun hwf H => ?_)
  refine rs (k := rg [1, 2] (k := rs (k := rg [1, 2, 3] (k := rs (k := rs (k := rg [1, 2, 3, 4] (k := rb (k := ?_))))))))
  refine Run.loop (fun e s' => ∃ (i : Nat) (l : List Ten) (kk : SK), e = [(1, .ptr s.nxt 0 0), (2, .ptr (s.nxt + 1) 0 0), (3, .sl kk (l.map Ten.pv)), (4, .int .i64 (i : Int))] ∧ Kp s s' [(s.nxt + 1, .row 24 [.agg [.int .i64 0, .sl .nil []]]), (s.nxt, .row 24 [.agg [.int .i64 (t).frame, .sl .unk ((t).tens.map Ten.pv)]])] ∧ l.length = i ∧ i ≤ 5 ∧ (∀ x ∈ l, x.ok ∧ x.wins.length ≤ 8 ∧ x.slts.length ≤ 8) ∧ Grows s' kk l.length (Try.prog.cellsOf 53) ∧ (∀ t z, kk = .tok t z → s.nxt + 1 < t ∧ t < s'.nxt)) (fun e s' => 5 - ivar e 4) ?_ ?_
  · exact ⟨0, [], .nil, rfl, ((Kp.nil (Fr.refl hwf)).push _).push _, rfl, by omega, by simp, .inl ⟨rfl, rfl⟩, fun t z e => (by cases e)⟩
  rintro e s1 ⟨i, l, kk, rfl, K1, hl, hi, hal, hgr, htk⟩
  refine rs (k := rs (k := ?_))
  have hR : s1.blk s.nxt = some (.row 24 [.agg [.int .i64 (t).frame, .sl .unk ((t).tens.map Ten.pv)]]) := K1.tl.hd
  have hZ : s1.blk (s.nxt + 1) = some (.row 24 [.agg [.int .i64 0, .sl .nil []]]) := K1.hd
  have H := aj hR (aj hZ H)
  refine rg [1, 2, 3, 4, 14] (k := rc (ht := fun hc0 => ?_) (hf := fun hc0 => ?_))
  · refine rk (k := rs (k := rb (k := rs (k := ?_))))
    have hcc : i < t.tens.length ∧ (i : Int) < 5 := by simpa using hc0
    obtain ⟨hil, hi5⟩ := hcc
    obtain ⟨x, hxe⟩ : ∃ z_, t.tens[i]'hil = z_ := ⟨_, rfl⟩
    have hxx : (t.tens.map Ten.pv)[i]? = some (.agg [.int .i64 (x).unit, .int .u32 (x).fns, .int .i64 (x).queue, .sl .unk ((x).wins.map Win.pv), .sl .unk ((x).slts.map Slt.pv)]) := by rw [map_get hil, hxe]; rfl
    have hxm : x ∈ t.tens := by rw [← hxe]; exact List.getElem_mem _
    have hw : IntKind.i64.wrap ((i : Int) + 1) = ((i + 1 : Nat) : Int) := by rw [wrap_i64 (by omega)]; omega
    have hlt1 : s.nxt + 1 < s1.nxt := K1.lt
    have hXn : (s.nxt = s1.nxt) = False := eq_false (by omega)
    have hXn1 : (s.nxt + 1 = s1.nxt) = False := eq_false (by omega)
    have H := aj hxx (aj hw H)
    refine rg [1, 2, 3, 4, 5] (k := rs (k := ?_))
    obtain ⟨w8, hw8⟩ : ∃ w : Nat, w = min 8 x.wins.length := ⟨_, rfl⟩
    have hm8 : (if (8 : Int) < (x.wins.length : Int) then (8 : Int) else (x.wins.length : Int)) = (w8 : Int) := by split <;> omega
    have hl8 : ((w8 : Int) ≤ (x.wins.length : Int)) = True := eq_true (by omega)
    have ht8 : (x.wins.map Win.pv).take w8 = (x.wins.take 8).map Win.pv := by
      rw [← List.map_take, hw8]
      congr 1
      by_cases h : 8 ≤ x.wins.length
      · rw [Nat.min_eq_left h]
      · rw [Nat.min_eq_right (by omega), List.take_length, List.take_of_length_le (by omega)]
    obtain ⟨w4, hw4⟩ : ∃ w : Nat, w = min 4 x.slts.length := ⟨_, rfl⟩
    have hm4 : (if (4 : Int) < (x.slts.length : Int) then (4 : Int) else (x.slts.length : Int)) = (w4 : Int) := by split <;> omega
    have hl4 : ((w4 : Int) ≤ (x.slts.length : Int)) = True := eq_true (by omega)
    have ht4 : (x.slts.map Slt.pv).take w4 = (x.slts.take 4).map Slt.pv := by
      rw [← List.map_take, hw4]
      congr 1
      by_cases h : 4 ≤ x.slts.length
      · rw [Nat.min_eq_left h]
      · rw [Nat.min_eq_right (by omega), List.take_length, List.take_of_length_le (by omega)]
    have H := aj hm8 (aj hl8 (aj ht8 (aj hm4 (aj hl4 (aj ht4 (aj hXn (aj hXn1 H)))))))
    refine Run.drawF 18 [15, 17] [1, 3, 8, 10] [(s1.new (.row 53 [.agg [.int .i64 (x).unit, .int .u32 (x).fns, .int .i64 (x).queue, .sl .unk (x.wins.map Win.pv), .sl .unk (x.slts.map Slt.pv)]])), (s1.new (.row 53 [.agg [.int .i64 (x).unit, .int .u32 (x).fns, .int .i64 (x).queue, .sl .unk ((x.wins.take 8).map Win.pv), .sl .unk (x.slts.map Slt.pv)]])), (s1.new (.row 53 [.agg [.int .i64 (x).unit, .int .u32 (x).fns, .int .i64 (x).queue, .sl .unk ((x.wins.take 8).map Win.pv), .sl .unk ((x.slts.take 4).map Slt.pv)]]))] Try.mixed (by kernel_rfl) (by kernel_rfl) ?_
    refine DetFC.pre (pre := [_]) (by decide) List.mem_cons_self au ?_
    refine DetFC.loc (pre := [_]) (by decide) (by decide) List.mem_cons_self au ?_
    refine DetFC.pre (pre := [_]) (by decide) List.mem_cons_self au ?_
    refine DetFC.loc (pre := [_]) (by decide) (by decide) List.mem_cons_self au ?_
    refine DetFC.pre (pre := [_, _, _, _]) (by decide) List.mem_cons_self au ?_
    refine DetFC.loc (pre := [_]) (by decide) (by decide) List.mem_cons_self au ?_
    refine DetFC.pre (pre := [_]) (by decide) List.mem_cons_self au ?_
    refine DetFC.loc (pre := [_]) (by decide) (by decide) List.mem_cons_self au ?_
    refine DetFC.pre (pre := [_, _, _, _]) (by decide) List.mem_cons_self au ?_
    refine DetFC.eff (by decide) List.mem_cons_self au au ?_
    refine DetFC.pre (pre := [_]) (by decide) (List.mem_cons_of_mem _ List.mem_cons_self) au ?_
    refine DetFC.eff (by decide) (List.mem_cons_of_mem _ List.mem_cons_self) au au ?_
    refine DetFC.nil (List.mem_cons_of_mem _ (List.mem_cons_of_mem _ List.mem_cons_self)) ?_
    refine rl [1, 2, 3, 4, 5] (k := rr (k := ro (pre := [_, _]) (k := rO (k := ?_))))
    refine RunO.grow au au au Try.td22 (by rw [Try.zp53]; rfl) (isEls_map (fun a => ⟨rfl, by rw [Try.cz53]; rfl⟩) _) (isEls_map (f := Ten.pv) (fun a => ⟨rfl, by rw [Try.cz53]; rfl⟩) [(⟨x.unit, x.fns, x.queue, x.wins.take 8, x.slts.take 4⟩ : Ten)]) (by rw [Try.by53]; decide) (by rw [Try.by53]; simp; omega) (by rw [List.length_map]; exact hgr.mono fun t' ht => by rw [blk_new, if_neg (by have := (htk t' _ ht).2; omega)]) (by simp) ?_
    intro k' s2 hgr' htm
    refine rh [1, 2, 3, 4] (k := rB (k := rg [1, 2, 3, 4] (k := ?_)))
    rw [List.length_map] at hgr'
    have hok := take_ok ht hxm
    refine Run.lp ⟨⟨i + 1, l ++ [(⟨x.unit, x.fns, x.queue, x.wins.take 8, x.slts.take 4⟩ : Ten)], k', by rw [List.map_append]; rfl, (K1.new _).tm htm (fun t z e => ?_) (fun p hp z e => ?_), by rw [List.length_append, hl]; rfl, by omega, fun y hy => ?_, by rw [List.length_append]; exact hgr', fun t z e => ?_⟩, ?_⟩
    · have := htk t z e; omega
    · have := htk _ z e
      simp only [List.mem_cons, List.not_mem_nil, or_false] at hp
      rcases hp with rfl | rfl <;> simp only at this <;> omega
    · rcases List.mem_append.1 hy with hy | hy
      · exact hal y hy
      · rw [List.mem_singleton.1 hy]
        exact ⟨hok, by have := List.length_take_le 8 x.wins; simp only; omega, by have := List.length_take_le 4 x.slts; simp only; omega⟩
    · have h9 := htm.nxt
      rw [nxt_new] at h9
      rcases htm.fresh t z e with ⟨z', h⟩ | ⟨h1, h2⟩
      · have := htk t z' h; omega
      · rw [nxt_new] at h1; omega
    · simp only [ivar, go_sem, ↓reduceIte, Nat.reduceEqDiff]
      omega
  · refine rX (k := rs (k := rg [1, 2] (k := rs (k := rg [2] (k := rR (k := ?_))))))
    have KF := (K1.swap.setset (b' := .row 24 [.agg [.int .i64 t.frame, .sl kk (l.map Ten.pv)]]) (by simp) (by omega)).swap.setset (b' := .row 24 [.agg [.int .i64 t.frame, .sl kk (l.map Ten.pv)]]) (by simp) (by omega)
    refine Ret.pure (r' := Tab.pv ⟨t.frame, l⟩) (by simp only [Try.f18, go_sem, ↓reduceIte] <;> rfl) (by simp only [Tab.pv, PV.weak, PV.weaks, weaks_tens]) (blw_tab _ _) hwf KF.fr.blk ⟨⟨t.frame, l⟩, rfl, ⟨⟨ht.frame, fun x hx => (hal x hx).1, by simp only; omega⟩, by simp only; omega, fun x hx => (hal x hx).2.1, fun x hx => (hal x hx).2.2⟩, rfl⟩
end Go.Proofs

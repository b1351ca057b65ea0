import Derived.Test.YtaojhcbodijpbaaB4
import Derived.Test.YtaojhcbodijpbaaB2
set_option linter.unusedVariables false
set_option linter.unusedSimpArgs false
namespace Go.Proofs
open Go.PM
set_option maxHeartbeats 2000000
theorem store_New0 {s : St} : ACalls Try.prog 18 [.int .i64 0] s (fun r s' => r = .nilp ∧ s' = s) := by
  refine go Try.func18 (k := fun hwf H => ?_)
  have f0 : (decide ((0 : Int) < 1)) = true := by decide
  have H := aj f0 H
  refine rs (k := rg [0] (k := rs (k := rs (k := rg [0, 10] (k := rc (ht := fun hc0 => ?_) (hf := fun hc0 => ?_))))))
  · refine rs (k := rg [2] (k := rR (k := rP (by simp only [Try.f18, go_sem]; rfl) hwf ⟨?_, rfl⟩)))
    simp [PV.weak, go_sem]
  · cases hc0
theorem device_New0 {s : St} : ACalls Try.prog 7 [.int .i64 0] s (fun r s' => r = .nilp ∧ s' = s) := by
  refine go Try.func7 (k := fun hwf H => ?_)
  refine rs (k := rg [0] (k := rs (k := rr (k := ro (pre := [_]) (k := rC (h := store_New0) (k := rh [3] (k := rs (k := rs (k := rg [3, 7] (k := rc (ht := fun hc0 => ?_) (hf := fun hc0 => ?_)))))))))))
  · refine rs (k := rg [2] (k := rR (k := rP (by simp only [Try.f7, go_sem]; rfl) hwf ⟨?_, rfl⟩)))
    simp [PV.weak, go_sem]
  · cases hc0
theorem book_same16 {xs ys : List Int} (nx : xs.length < 140737488355328) {s : St} : ACalls Try.prog 10 [.sl .unk (xs.map (PV.int .u16)), .sl .unk (ys.map (PV.int .u16))] s (fun r s' => r = .bool (decide (xs = ys)) ∧ s' = s) := by
  refine go Try.func10 (k := fun hwf H => ?_)
  refine rs (k := rg [0, 1] (k := rs (k := rs (k := rg [0, 1, 10] (k := rc (ht := fun hc0 => ?_) (hf := fun hc0 => ?_))))))
  · refine rs (k := rg [4] (k := rR (k := rP (by simp only [Try.f10, go_sem]; rfl) hwf ⟨?_, rfl⟩)))
    first
      | (have hne : xs ≠ ys := by rintro rfl; simp at hc0
         rw [decide_eq_false hne]; rfl)
      | (have hne : xs ≠ ys := by
           rintro rfl
           rw [hxe] at hye
           subst hye
           simp at hc2
         rw [decide_eq_false hne]; rfl)
      | (have hlen : xs.length = ys.length := by simp at hc0; omega
         have : i = xs.length := by have := of_decide_eq_false hc1; omega
         rw [this, List.take_length, hlen, List.take_length] at hbe
         rw [decide_eq_true hbe]; rfl)
  · refine rk (k := rs (k := rs (k := ?_)))
    have hlen : xs.length = ys.length := by simp at hc0; omega
    refine rg [0, 1, 5] (k := rb (k := ?_))
    refine Run.loop (fun e s' => s' = s ∧ ∃ i : Nat, e = [(0, .sl .unk (xs.map (PV.int .u16))), (1, .sl .unk (ys.map (PV.int .u16))), (5, .int .i64 (i : Int))] ∧ i ≤ xs.length ∧ xs.take i = ys.take i) (fun e s' => xs.length - ivar e 5) ?_ ?_
    · exact ⟨rfl, 0, rfl, by omega, rfl⟩
    rintro e s' ⟨hs, i, rfl, hi, hbe⟩
    subst s'
    refine rs (k := rs (k := rg [0, 1, 5, 14] (k := rc (ht := fun hc1 => ?_) (hf := fun hc1 => ?_))))
    · refine rk (k := rs (k := rb (k := rs (k := ?_))))
      have hil : i < xs.length := by have := of_decide_eq_true hc1; omega
      have hjl : i < ys.length := by omega
      obtain ⟨x, hxe⟩ : ∃ z_, xs[i]'hil = z_ := ⟨_, rfl⟩
      have hxx : (xs.map (PV.int .u16))[i]? = some (.int .u16 x) := by rw [map_get hil, hxe]
      obtain ⟨y, hye⟩ : ∃ z_, ys[i]'hjl = z_ := ⟨_, rfl⟩
      have hxy : (ys.map (PV.int .u16))[i]? = some (.int .u16 y) := by rw [map_get hjl, hye]
      have hw : IntKind.i64.wrap ((i : Int) + 1) = ((i + 1 : Nat) : Int) := by rw [wrap_i64 (by omega)]; omega
      have H := aj hxx (aj hxy (aj hw H))
      refine Run.drawC [] [0, 1, 5, 25] Try.mixed (by kernel_rfl) ?_
      refine DetC.all au ?_
      refine re (k := rc (ht := fun hc2 => ?_) (hf := fun hc2 => ?_))
      · refine rs (k := rg [4] (k := rR (k := rP (by simp only [Try.f10, go_sem]; rfl) hwf ⟨?_, rfl⟩)))
        first
          | (have hne : xs ≠ ys := by rintro rfl; simp at hc0
             rw [decide_eq_false hne]; rfl)
          | (have hne : xs ≠ ys := by
               rintro rfl
               rw [hxe] at hye
               subst hye
               simp at hc2
             rw [decide_eq_false hne]; rfl)
          | (have hlen : xs.length = ys.length := by simp at hc0; omega
             have : i = xs.length := by have := of_decide_eq_false hc1; omega
             rw [this, List.take_length, hlen, List.take_length] at hbe
             rw [decide_eq_true hbe]; rfl)
      · refine rk (k := rB (k := rg [0, 1, 5] (k := ?_)))
        have hxy : x = y := by simpa using hc2
        refine Run.lp ⟨⟨rfl, i + 1, rfl, by omega, ?_⟩, ?_⟩
        · rw [take_get hil, take_get hjl, hbe, hxe, hye, hxy]
        · simp only [ivar, go_sem, ↓reduceIte, Nat.reduceEqDiff]
          omega
    · refine rX (k := rs (k := rg [4] (k := rR (k := rP (by simp only [Try.f10, go_sem]; rfl) hwf ⟨?_, rfl⟩))))
      first
        | (have hne : xs ≠ ys := by rintro rfl; simp at hc0
           rw [decide_eq_false hne]; rfl)
        | (have hne : xs ≠ ys := by
             rintro rfl
             rw [hxe] at hye
             subst hye
             simp at hc2
           rw [decide_eq_false hne]; rfl)
        | (have hlen : xs.length = ys.length := by simp at hc0; omega
           have : i = xs.length := by have := of_decide_eq_false hc1; omega
           rw [this, List.take_length, hlen, List.take_length] at hbe
           rw [decide_eq_true hbe]; rfl)
def StoAt (b n : Nat) (s : St) : Prop := s.blk b = some (stoRow b n)
theorem DevAt.put' {b : Nat} {D : Dev} {s : St} (h : StoAt b D.c0.length s) : DevAt b D (putDev b D s) := by
  refine ⟨?_, ?_, ?_, ?_, ?_, ?_⟩ <;> rw [putDev_blk]
  · rw [if_neg (by omega), if_neg (by omega), if_neg (by omega), if_neg (by omega), if_neg (by omega)]; exact h
  · rw [if_neg (by omega), if_neg (by omega), if_neg (by omega), if_neg (by omega), if_pos rfl]
  · rw [if_neg (by omega), if_neg (by omega), if_neg (by omega), if_pos rfl]
  · rw [if_neg (by omega), if_neg (by omega), if_pos rfl]
  · rw [if_neg (by omega), if_pos rfl]
  · rw [if_pos rfl]
theorem StoAt.put {b n : Nat} {D : Dev} {s : St} (h : StoAt b n s) : StoAt b n (putDev b D s) := by
  unfold StoAt
  rw [putDev_lo (by omega)]; exact h
theorem StoAt.nw {b n : Nat} {s : St} (h : StoAt b n s) (hl : b + 5 < s.nxt) (x : Blk) : StoAt b n (s.new x) := by
  unfold StoAt
  rw [blk_new_ne (by omega)]; exact h
theorem StoAt.sv {b n : Nat} {s : St} (h : StoAt b n s) {i : Nat} (hi : b + 5 < i) (x : Option Blk) : StoAt b n (s.set i x) := by
  unfold StoAt
  rw [blk_set_ne (by omega)]; exact h
theorem device_DoL {b : Nat} {D D' : Dev} {s : St} {q : Req} {R : Rep} (h : doF D q = (R, D')) (hA : DevAt b D s) (hD : D.ok) (hq : q.ok) : ACalls Try.prog 9 [.ptr (b + 5) 0 0, q.pv] s (fun r s' => r = R.pv ∧ s' = putDev b D' s) := by
  have := device_Do hA hD hq
  rw [h] at this
  exact this
theorem device_PduL {b : Nat} {D D' : Dev} {s : St} {l m : List Int} (h : pduF D l = (m, D')) (hA : DevAt b D s) (hD : D.ok) (hb : OkB l) (hl : l.length ≤ 10000000) : ACalls Try.prog 16 [.ptr (b + 5) 0 0, .sl .unk (l.map (PV.int .u8))] s (fun r s' => r = .sl .unk (m.map (PV.int .u8)) ∧ s' = putDev b D' s) := by
  have := device_Pdu hA hD hb hl
  rw [h] at this
  exact this
theorem req_ok (fn at_ count wat sub : Int) (bits : List Bool) (vals : List Int) (a o : Int) (h : (decide (0 ≤ fn ∧ fn ≤ 65535 ∧ 0 ≤ at_ ∧ at_ ≤ 65535 ∧ 0 ≤ count ∧ count ≤ 65535 ∧ 0 ≤ wat ∧ wat ≤ 65535 ∧ 0 ≤ sub ∧ sub ≤ 65535 ∧ 0 ≤ a ∧ a ≤ 65535 ∧ 0 ≤ o ∧ o ≤ 65535 ∧ bits.length ≤ 100000 ∧ vals.length ≤ 100000) && vals.all (fun x => decide (0 ≤ x ∧ x ≤ 65535))) = true) : (⟨fn, at_, count, wat, sub, bits, vals, a, o⟩ : Req).ok := by
  simp only [Bool.and_eq_true, decide_eq_true_eq, List.all_eq_true] at h
  obtain ⟨h1, h2⟩ := h
  exact ⟨⟨by show _ ≤ fn; omega, by show fn ≤ _; omega⟩, ⟨by show _ ≤ at_; omega, by show at_ ≤ _; omega⟩, ⟨by show _ ≤ count; omega, by show count ≤ _; omega⟩, ⟨by show _ ≤ wat; omega, by show wat ≤ _; omega⟩, ⟨by show _ ≤ sub; omega, by show sub ≤ _; omega⟩, fun x hx => h2 x hx, ⟨by show _ ≤ a; omega, by show a ≤ _; omega⟩, ⟨by show _ ≤ o; omega, by show o ≤ _; omega⟩, by show bits.length ≤ _; omega, by show vals.length * 2 ≤ _; omega⟩
attribute [local go_sem] set_set putDev_hi putDev_nxt Rep.pv
set_option maxRecDepth 100000 in
theorem law9_known {s : St} : ACalls Try.prog 12 [] s (fun r s' => r = .bool true ∧ s' = s) := by
  refine go Try.func12 (k := fun hwf H => ?_)
  obtain ⟨b, hb⟩ : ∃ b, b = s.nxt := ⟨_, rfl⟩
  have o0 : (⟨[false, false, false, false], [false, false, false, false], [0, 0, 0, 0], [0, 0, 0, 0], 0, 0, 0⟩ : Dev).ok := Dev.zero_ok (n := 4) (by decide) (by decide)
  have q1 : (⟨1, 4, 1, 0, 0, [], [], 0, 0⟩ : Req).ok := req_ok _ _ _ _ _ _ _ _ _ (by decide)
  have e1 : doF (⟨[false, false, false, false], [false, false, false, false], [0, 0, 0, 0], [0, 0, 0, 0], 0, 0, 0⟩ : Dev) (⟨1, 4, 1, 0, 0, [], [], 0, 0⟩ : Req) = ((⟨1, 2, 0, 0, 0, [], [], 0, 0, []⟩ : Rep), (⟨[false, false, false, false], [false, false, false, false], [0, 0, 0, 0], [0, 0, 0, 0], 0, 1, 1⟩ : Dev)) := by kernel_rfl
  have o1 : (⟨[false, false, false, false], [false, false, false, false], [0, 0, 0, 0], [0, 0, 0, 0], 0, 1, 1⟩ : Dev).ok := by have := (doF_ok o0 q1).1; rw [e1] at this; exact this
  have q2 : (⟨16, 1, 2, 0, 0, [], [5, 6], 0, 0⟩ : Req).ok := req_ok _ _ _ _ _ _ _ _ _ (by decide)
  have e2 : doF (⟨[false, false, false, false], [false, false, false, false], [0, 0, 0, 0], [0, 0, 0, 0], 0, 1, 1⟩ : Dev) (⟨16, 1, 2, 0, 0, [], [5, 6], 0, 0⟩ : Req) = ((⟨16, 0, 1, 2, 0, [], [], 0, 0, []⟩ : Rep), (⟨[false, false, false, false], [false, false, false, false], [0, 0, 0, 0], [0, 5, 6, 0], 0, 2, 1⟩ : Dev)) := by kernel_rfl
  have o2 : (⟨[false, false, false, false], [false, false, false, false], [0, 0, 0, 0], [0, 5, 6, 0], 0, 2, 1⟩ : Dev).ok := by have := (doF_ok o1 q2).1; rw [e2] at this; exact this
  have q3 : (⟨23, 0, 3, 0, 0, [], [9], 0, 0⟩ : Req).ok := req_ok _ _ _ _ _ _ _ _ _ (by decide)
  have e3 : doF (⟨[false, false, false, false], [false, false, false, false], [0, 0, 0, 0], [0, 5, 6, 0], 0, 2, 1⟩ : Dev) (⟨23, 0, 3, 0, 0, [], [9], 0, 0⟩ : Req) = ((⟨23, 0, 0, 0, 0, [], [9, 5, 6], 0, 0, []⟩ : Rep), (⟨[false, false, false, false], [false, false, false, false], [0, 0, 0, 0], [9, 5, 6, 0], 0, 3, 1⟩ : Dev)) := by kernel_rfl
  have o3 : (⟨[false, false, false, false], [false, false, false, false], [0, 0, 0, 0], [9, 5, 6, 0], 0, 3, 1⟩ : Dev).ok := by have := (doF_ok o2 q3).1; rw [e3] at this; exact this
  have q4 : (⟨22, 1, 0, 0, 0, [], [], 65534, 2⟩ : Req).ok := req_ok _ _ _ _ _ _ _ _ _ (by decide)
  have e4 : doF (⟨[false, false, false, false], [false, false, false, false], [0, 0, 0, 0], [9, 5, 6, 0], 0, 3, 1⟩ : Dev) (⟨22, 1, 0, 0, 0, [], [], 65534, 2⟩ : Req) = ((⟨22, 0, 1, 0, 0, [], [], 65534, 2, []⟩ : Rep), (⟨[false, false, false, false], [false, false, false, false], [0, 0, 0, 0], [9, 4, 6, 0], 0, 4, 1⟩ : Dev)) := by kernel_rfl
  have o4 : (⟨[false, false, false, false], [false, false, false, false], [0, 0, 0, 0], [9, 4, 6, 0], 0, 4, 1⟩ : Dev).ok := by have := (doF_ok o3 q4).1; rw [e4] at this; exact this
  have q5 : (⟨8, 0, 0, 0, 11, [], [0], 0, 0⟩ : Req).ok := req_ok _ _ _ _ _ _ _ _ _ (by decide)
  have e5 : doF (⟨[false, false, false, false], [false, false, false, false], [0, 0, 0, 0], [9, 4, 6, 0], 0, 4, 1⟩ : Dev) (⟨8, 0, 0, 0, 11, [], [0], 0, 0⟩ : Req) = ((⟨8, 0, 0, 0, 11, [], [5], 0, 0, []⟩ : Rep), (⟨[false, false, false, false], [false, false, false, false], [0, 0, 0, 0], [9, 4, 6, 0], 0, 5, 1⟩ : Dev)) := by kernel_rfl
  have o5 : (⟨[false, false, false, false], [false, false, false, false], [0, 0, 0, 0], [9, 4, 6, 0], 0, 5, 1⟩ : Dev).ok := by have := (doF_ok o4 q5).1; rw [e5] at this; exact this
  have q6 : (⟨8, 0, 0, 0, 13, [], [0], 0, 0⟩ : Req).ok := req_ok _ _ _ _ _ _ _ _ _ (by decide)
  have e6 : doF (⟨[false, false, false, false], [false, false, false, false], [0, 0, 0, 0], [9, 4, 6, 0], 0, 5, 1⟩ : Dev) (⟨8, 0, 0, 0, 13, [], [0], 0, 0⟩ : Req) = ((⟨8, 0, 0, 0, 13, [], [1], 0, 0, []⟩ : Rep), (⟨[false, false, false, false], [false, false, false, false], [0, 0, 0, 0], [9, 4, 6, 0], 0, 6, 1⟩ : Dev)) := by kernel_rfl
  have o6 : (⟨[false, false, false, false], [false, false, false, false], [0, 0, 0, 0], [9, 4, 6, 0], 0, 6, 1⟩ : Dev).ok := by have := (doF_ok o5 q6).1; rw [e6] at this; exact this
  have q7 : (⟨8, 0, 0, 0, 10, [], [3], 0, 0⟩ : Req).ok := req_ok _ _ _ _ _ _ _ _ _ (by decide)
  have e7 : doF (⟨[false, false, false, false], [false, false, false, false], [0, 0, 0, 0], [9, 4, 6, 0], 0, 6, 1⟩ : Dev) (⟨8, 0, 0, 0, 10, [], [3], 0, 0⟩ : Req) = ((⟨8, 0, 0, 0, 10, [], [3], 0, 0, []⟩ : Rep), (⟨[false, false, false, false], [false, false, false, false], [0, 0, 0, 0], [9, 4, 6, 0], 0, 0, 0⟩ : Dev)) := by kernel_rfl
  have o7 : (⟨[false, false, false, false], [false, false, false, false], [0, 0, 0, 0], [9, 4, 6, 0], 0, 0, 0⟩ : Dev).ok := by have := (doF_ok o6 q7).1; rw [e7] at this; exact this
  have o7u : (⟨[false, false, false, false], [false, false, false, false], [0, 0, 0, 0], [9, 4, 6, 0], 44, 0, 0⟩ : Dev).ok := ⟨o7.h1, o7.h2, o7.c1, o7.v0, o7.v1, o7.w0, o7.w1, by constructor <;> decide, o7.msgs, o7.exc⟩
  have q8 : (⟨17, 0, 0, 0, 0, [], [], 0, 0⟩ : Req).ok := req_ok _ _ _ _ _ _ _ _ _ (by decide)
  have e8 : doF (⟨[false, false, false, false], [false, false, false, false], [0, 0, 0, 0], [9, 4, 6, 0], 44, 0, 0⟩ : Dev) (⟨17, 0, 0, 0, 0, [], [], 0, 0⟩ : Req) = ((⟨17, 0, 0, 0, 0, [], [], 0, 0, [44, 255]⟩ : Rep), (⟨[false, false, false, false], [false, false, false, false], [0, 0, 0, 0], [9, 4, 6, 0], 44, 1, 0⟩ : Dev)) := by kernel_rfl
  have o8 : (⟨[false, false, false, false], [false, false, false, false], [0, 0, 0, 0], [9, 4, 6, 0], 44, 1, 0⟩ : Dev).ok := by have := (doF_ok o7u q8).1; rw [e8] at this; exact this
  have e9 : pduF (⟨[false, false, false, false], [false, false, false, false], [0, 0, 0, 0], [9, 4, 6, 0], 44, 1, 0⟩ : Dev) [7] = ([135, 1], (⟨[false, false, false, false], [false, false, false, false], [0, 0, 0, 0], [9, 4, 6, 0], 44, 2, 1⟩ : Dev)) := by kernel_rfl
  have e10 : pduF (⟨[false, false, false, false], [false, false, false, false], [0, 0, 0, 0], [9, 4, 6, 0], 44, 2, 1⟩ : Dev) [] = ([], (⟨[false, false, false, false], [false, false, false, false], [0, 0, 0, 0], [9, 4, 6, 0], 44, 2, 1⟩ : Dev)) := by kernel_rfl
  have o9 : (⟨[false, false, false, false], [false, false, false, false], [0, 0, 0, 0], [9, 4, 6, 0], 44, 2, 1⟩ : Dev).ok := ⟨o8.h1, o8.h2, o8.c1, o8.v0, o8.v1, o8.w0, o8.w1, o8.unit, by constructor <;> decide, by constructor <;> decide⟩
  have hg4 : ∀ S, DevAt b (⟨[false, false, false, false], [false, false, false, false], [0, 0, 0, 0], [9, 4, 6, 0], 0, 4, 1⟩ : Dev) S → ACalls Try.prog 24 [.ptr b 0 0, .int .i64 3, .int .i64 1, .int .i64 1] S (fun r s' => r = .tuple [.sl .unk [.int .u16 4], .bool true] ∧ s' = S) := fun S g => store_get3 g.st g.v1 rfl (by decide) (a := 1) (m := 1) (by constructor <;> decide) (by decide)
  have hr2 : (⟨16, 0, 1, 2, 0, [], [], 0, 0, []⟩ : Rep).ok := rep_ok (by constructor <;> decide) (by constructor <;> decide) (by constructor <;> decide) zI zW zU zU OkB.nil (by decide) (by decide) (by decide)
  have hal : ∀ S, ACalls Try.prog 26 [(⟨16, 0, 1, 2, 0, [], [], 0, 0, []⟩ : Rep).pv, (⟨16, 0, 1, 2, 0, [], [], 0, 0, []⟩ : Rep).pv] S (fun r s' => r = .bool true ∧ s' = S) := fun S => by simpa using ref3_Alike (s := S) hr2 hr2
  have hsm : ∀ S, ACalls Try.prog 10 [.sl .unk (([9, 5, 6] : List Int).map (PV.int .u16)), .sl .unk (([9, 5, 6] : List Int).map (PV.int .u16))] S (fun r s' => r = .bool true ∧ s' = S) := fun S => by simpa using book_same16 (s := S) (xs := [9, 5, 6]) (ys := [9, 5, 6]) (by decide)
  refine rs (k := rg [] (k := rs (k := rr (k := ?_))))
  refine RunO.callw au au au (by kernel_rfl) ((device_New (n := 4) (by decide) (by decide)).mono ?_)
  rintro r s1 ⟨rfl, gA0, gf0, gn0⟩
  rw [← hb] at gA0 gn0
  rw [← hb]
  refine rh [1] (k := rs (k := rs (k := rr (k := ro (pre := [_, _, _]) (k := rC (h := device_New0) (k := rg1 (k := ro (pre := [_, _]) (k := rg1 (k := ?_)))))))))
  refine RunO.callw au au au (by kernel_rfl) ((device_Store gA0).mono ?_)
  rintro r s2 ⟨rfl, hs2⟩
  subst s2
  refine rg1 (k := rh [1, 25] (k := rc (ht := fun hc0 => ?_) (hf := fun hc0 => ?_)))
  · cases hc0
  · refine rk (k := rs (k := rr (k := ro (pre := [_, _]) (k := ?_))))
    refine RunO.callw au au au (by kernel_rfl) ((device_DoL e1 (by repeat' first | exact gA0 | exact gA0.st | refine DevAt.put' ?_ | refine StoAt.put ?_ | refine StoAt.sv ?_ ?_ _ | refine StoAt.nw ?_ ?_ _ | refine DevAt.sv ?_ ?_ _ | refine DevAt.nw ?_ ?_ _ | (simp only [putDev_nxt, nxt_new, nxt_set]; omega) | omega) o0 q1).mono ?_)
    rintro r s1 ⟨rfl, rfl⟩
    refine rh [1, 2] (k := rs (k := rr (k := ro (pre := [_]) (k := rO (k := ro (pre := [_]) (k := ?_))))))
    refine RunO.callw au au au (by kernel_rfl) ((device_DoL e2 (by repeat' first | exact gA0 | exact gA0.st | refine DevAt.put' ?_ | refine StoAt.put ?_ | refine StoAt.sv ?_ ?_ _ | refine StoAt.nw ?_ ?_ _ | refine DevAt.sv ?_ ?_ _ | refine DevAt.nw ?_ ?_ _ | (simp only [putDev_nxt, nxt_new, nxt_set]; omega) | omega) o1 q2).mono ?_)
    rintro r s1 ⟨rfl, rfl⟩
    refine rh [1, 2, 3] (k := rs (k := rr (k := ro (pre := [_]) (k := rO (k := ro (pre := [_]) (k := ?_))))))
    refine RunO.callw au au au (by kernel_rfl) ((device_DoL e3 (by repeat' first | exact gA0 | exact gA0.st | refine DevAt.put' ?_ | refine StoAt.put ?_ | refine StoAt.sv ?_ ?_ _ | refine StoAt.nw ?_ ?_ _ | refine DevAt.sv ?_ ?_ _ | refine DevAt.nw ?_ ?_ _ | (simp only [putDev_nxt, nxt_new, nxt_set]; omega) | omega) o2 q3).mono ?_)
    rintro r s1 ⟨rfl, rfl⟩
    refine rh [1, 2, 3, 4] (k := rs (k := rr (k := ro (pre := [_, _]) (k := ?_))))
    refine RunO.callw au au au (by kernel_rfl) ((device_DoL e4 (by repeat' first | exact gA0 | exact gA0.st | refine DevAt.put' ?_ | refine StoAt.put ?_ | refine StoAt.sv ?_ ?_ _ | refine StoAt.nw ?_ ?_ _ | refine DevAt.sv ?_ ?_ _ | refine DevAt.nw ?_ ?_ _ | (simp only [putDev_nxt, nxt_new, nxt_set]; omega) | omega) o3 q4).mono ?_)
    rintro r s1 ⟨rfl, rfl⟩
    refine rh [1, 2, 3, 4, 5] (k := rs (k := rr (k := ro (pre := [_]) (k := ?_))))
    refine RunO.callw au au au (by kernel_rfl) ((device_Store (D := (⟨[false, false, false, false], [false, false, false, false], [0, 0, 0, 0], [9, 4, 6, 0], 0, 4, 1⟩ : Dev)) (by repeat' first | exact gA0 | exact gA0.st | refine DevAt.put' ?_ | refine StoAt.put ?_ | refine StoAt.sv ?_ ?_ _ | refine StoAt.nw ?_ ?_ _ | refine DevAt.sv ?_ ?_ _ | refine DevAt.nw ?_ ?_ _ | (simp only [putDev_nxt, nxt_new, nxt_set]; omega) | omega)).mono ?_)
    rintro r s2 ⟨rfl, hs2⟩
    subst s2
    refine RunO.callw au au au (by kernel_rfl) ((hg4 _ (by repeat' first | exact gA0 | exact gA0.st | refine DevAt.put' ?_ | refine StoAt.put ?_ | refine StoAt.sv ?_ ?_ _ | refine StoAt.nw ?_ ?_ _ | refine DevAt.sv ?_ ?_ _ | refine DevAt.nw ?_ ?_ _ | (simp only [putDev_nxt, nxt_new, nxt_set]; omega) | omega)).mono ?_)
    rintro r s2 ⟨rfl, hs2⟩
    subst s2
    refine rh [1, 2, 3, 4, 5, 6] (k := rs (k := rr (k := ro (pre := [_]) (k := rO (k := ro (pre := [_]) (k := ?_))))))
    refine RunO.callw au au au (by kernel_rfl) ((device_DoL e5 (by repeat' first | exact gA0 | exact gA0.st | refine DevAt.put' ?_ | refine StoAt.put ?_ | refine StoAt.sv ?_ ?_ _ | refine StoAt.nw ?_ ?_ _ | refine DevAt.sv ?_ ?_ _ | refine DevAt.nw ?_ ?_ _ | (simp only [putDev_nxt, nxt_new, nxt_set]; omega) | omega) o4 q5).mono ?_)
    rintro r s1 ⟨rfl, rfl⟩
    refine rh [1, 2, 3, 4, 5, 6, 8] (k := rs (k := rr (k := ro (pre := [_]) (k := rO (k := ro (pre := [_]) (k := ?_))))))
    refine RunO.callw au au au (by kernel_rfl) ((device_DoL e6 (by repeat' first | exact gA0 | exact gA0.st | refine DevAt.put' ?_ | refine StoAt.put ?_ | refine StoAt.sv ?_ ?_ _ | refine StoAt.nw ?_ ?_ _ | refine DevAt.sv ?_ ?_ _ | refine DevAt.nw ?_ ?_ _ | (simp only [putDev_nxt, nxt_new, nxt_set]; omega) | omega) o5 q6).mono ?_)
    rintro r s1 ⟨rfl, rfl⟩
    refine rh [1, 2, 3, 4, 5, 6, 8, 9] (k := rs (k := rr (k := ro (pre := [_]) (k := rO (k := ro (pre := [_]) (k := ?_))))))
    refine RunO.callw au au au (by kernel_rfl) ((device_DoL e7 (by repeat' first | exact gA0 | exact gA0.st | refine DevAt.put' ?_ | refine StoAt.put ?_ | refine StoAt.sv ?_ ?_ _ | refine StoAt.nw ?_ ?_ _ | refine DevAt.sv ?_ ?_ _ | refine DevAt.nw ?_ ?_ _ | (simp only [putDev_nxt, nxt_new, nxt_set]; omega) | omega) o6 q7).mono ?_)
    rintro r s1 ⟨rfl, rfl⟩
    refine rh [1, 2, 3, 4, 5, 6, 8, 9, 10] (k := rs (k := rr (k := ro (pre := [_]) (k := ?_))))
    refine RunO.callw au au au (by kernel_rfl) ((device_Counts (D := (⟨[false, false, false, false], [false, false, false, false], [0, 0, 0, 0], [9, 4, 6, 0], 0, 0, 0⟩ : Dev)) (by repeat' first | exact gA0 | exact gA0.st | refine DevAt.put' ?_ | refine StoAt.put ?_ | refine StoAt.sv ?_ ?_ _ | refine StoAt.nw ?_ ?_ _ | refine DevAt.sv ?_ ?_ _ | refine DevAt.nw ?_ ?_ _ | (simp only [putDev_nxt, nxt_new, nxt_set]; omega) | omega)).mono ?_)
    rintro r s2 ⟨rfl, hs2⟩
    subst s2
    refine rh [1, 2, 3, 4, 5, 6, 8, 9, 10, 11, 12] (k := rs (k := rr (k := ro (pre := [_]) (k := ?_))))
    refine RunO.callw au au au (by kernel_rfl) ((device_Unit (D := (⟨[false, false, false, false], [false, false, false, false], [0, 0, 0, 0], [9, 4, 6, 0], 0, 0, 0⟩ : Dev)) (by repeat' first | exact gA0 | exact gA0.st | refine DevAt.put' ?_ | refine StoAt.put ?_ | refine StoAt.sv ?_ ?_ _ | refine StoAt.nw ?_ ?_ _ | refine DevAt.sv ?_ ?_ _ | refine DevAt.nw ?_ ?_ _ | (simp only [putDev_nxt, nxt_new, nxt_set]; omega) | omega)).mono ?_)
    rintro r s1 ⟨rfl, rfl⟩
    refine rl [1, 2, 3, 4, 5, 6, 8, 9, 10, 11, 12] (k := rs (k := rr (k := ro (pre := [_, _]) (k := ?_))))
    refine RunO.callw au au au (by kernel_rfl) ((device_DoL e8 (by repeat' first | exact gA0 | exact gA0.st | refine DevAt.put' ?_ | refine StoAt.put ?_ | refine StoAt.sv ?_ ?_ _ | refine StoAt.nw ?_ ?_ _ | refine DevAt.sv ?_ ?_ _ | refine DevAt.nw ?_ ?_ _ | (simp only [putDev_nxt, nxt_new, nxt_set]; omega) | omega) o7u q8).mono ?_)
    rintro r s1 ⟨rfl, rfl⟩
    refine rh [1, 2, 3, 4, 5, 6, 8, 9, 10, 11, 12, 13] (k := rs (k := ?_))
    have hst1 : ((ByteArray.mk [UInt8.ofNat (Int.toNat 255), UInt8.ofNat (Int.toNat 44)].reverse.toArray).toList == (ByteArray.mk #[44, 255]).toList) = true := by decide +kernel
    have hst2 : ((ByteArray.mk [UInt8.ofNat (Int.toNat 1), UInt8.ofNat (Int.toNat 135)].reverse.toArray).toList == (ByteArray.mk #[135, 1]).toList) = true := by decide +kernel
    have hd1 : (decide (((1 : Nat) : Int) = 1)) = true := by decide
    have H := aj hst1 (aj hst2 (aj hd1 H))
    refine rrA [some 68, some 69, some 70, some 71, some 72, some 73, some 74, some 75, some 76, some 77, some 78, some 79, some 80, some 81, some 82, some 83, some 84, some 85, some 86, some 87, some 88, some 89, some 90, some 91, some 92, some 93, some 94, some 95, some 96, some 97, some 98, some 99, some 100, some 101, some 102, some 103, some 104, some 105, some 106, some 107, some 108, some 109, some 110, some 111, some 112, some 113, some 114, some 115, some 116, some 117, some 118, some 119, some 120, some 121, some 122, some 123, some 124, some 125, some 126, some 127, some 128, some 129, some 130, some 131, some 132, some 133, some 134, some 135, some 136, some 137, some 138, some 139, some 140, some 141, some 142, some 143, some 144, some 145, some 146, some 147, some 148, some 149, some 150, some 151, some 152, some 153, some 154, some 155, some 156, some 157, some 158, some 159, some 160, some 161, some 162, some 163, some 0] (k := fun ops hops => ?_)
    have H := aj hops H
    refine ro (pre := [_, _, _, _]) (k := rg1 (k := rg1 (k := ?_)))
    refine RunO.callw au au au (by kernel_rfl) ((hal _).mono ?_)
    rintro r s2 ⟨rfl, hs2⟩
    subst s2
    refine ro (pre := [_, _]) (k := rg1 (k := rg1 (k := rO (k := ?_))))
    refine RunO.callw au au au (by kernel_rfl) ((hsm _).mono ?_)
    rintro r s2 ⟨rfl, hs2⟩
    subst s2
    refine ro (pre := [_, _]) (k := rg1 (k := rg1 (k := rg1 (k := ro (pre := [_, _]) (k := rg1 (k := rg1 (k := rg1 (k := ro (pre := [_, _]) (k := rg1 (k := rg1 (k := rg1 (k := rg1 (k := ro (pre := [_, _]) (k := rg1 (k := rg1 (k := rg1 (k := rg1 (k := ro (pre := [_, _]) (k := rg1 (k := rg1 (k := rg1 (k := rg1 (k := rg1 (k := ro (pre := [_, _]) (k := rg1 (k := rg1 (k := rg1 (k := ?_))))))))))))))))))))))))))))
    refine rg1 (k := ro (pre := [_, _]) (k := rg1 (k := rg1 (k := rg1 (k := rg1 (k := rg1 (k := ro (pre := [_, _]) (k := rg1 (k := rg1 (k := rg1 (k := rg1 (k := ro (pre := [_, _]) (k := rg1 (k := rg1 (k := rg1 (k := rg1 (k := rg1 (k := ro (pre := [_, _]) (k := rg1 (k := rg1 (k := ro (pre := [_, _]) (k := rg1 (k := rg1 (k := ro (pre := [_, _]) (k := rg1 (k := rg1 (k := rg1 (k := ?_))))))))))))))))))))))))))))
    refine rg1 (k := ro (pre := [_, _]) (k := rg1 (k := rO (k := ?_))))
    refine RunO.callw au au au (by kernel_rfl) ((device_PduL e9 (by repeat' first | exact gA0 | exact gA0.st | refine DevAt.put' ?_ | refine StoAt.put ?_ | refine StoAt.sv ?_ ?_ _ | refine StoAt.nw ?_ ?_ _ | refine DevAt.sv ?_ ?_ _ | refine DevAt.nw ?_ ?_ _ | (simp only [putDev_nxt, nxt_new, nxt_set]; omega) | omega) o8 (l := [7]) (by intro x hx; rw [List.mem_singleton.1 hx]; constructor <;> decide) (by decide)).mono ?_)
    rintro r s1 ⟨rfl, rfl⟩
    refine rg1 (k := rg1 (k := ro (pre := [_, _]) (k := rg1 (k := ?_))))
    refine RunO.callw au au au (by kernel_rfl) ((device_PduL e10 (by repeat' first | exact gA0 | exact gA0.st | refine DevAt.put' ?_ | refine StoAt.put ?_ | refine StoAt.sv ?_ ?_ _ | refine StoAt.nw ?_ ?_ _ | refine DevAt.sv ?_ ?_ _ | refine DevAt.nw ?_ ?_ _ | (simp only [putDev_nxt, nxt_new, nxt_set]; omega) | omega) o9 (l := []) OkB.nil (by decide)).mono ?_)
    rintro r s1 ⟨rfl, rfl⟩
    refine rg1 (k := rg1 (k := rh [0] (k := rR (k := ?_))))
    exact Ret.pure (r' := .bool true) (by simp only [Try.f12, go_sem, ↓reduceIte] <;> rfl) rfl (by simp only [PV.blw]) hwf (fun i hi => by
      have hi2 : i < b := by omega
      simp (disch := first | omega | (simp only [putDev_nxt, nxt_set, nxt_new] <;> omega) | fail) only [putDev_lo, blk_set_ne, blk_new_ne]
      exact gf0 i hi) ⟨rfl, rfl⟩
end Go.Proofs
namespace Go.Proofs
open Go.PM
set_option maxHeartbeats 2000000
attribute [local go_sem] set_set putDev_hi putDev_nxt Rep.pv
set_option maxRecDepth 100000 in
theorem law9_Masks {v a o : Int} (hv : U16 v) (ha : U16 a) (ho : U16 o) {s : St} : ACalls Try.prog 5 [.int .u16 v, .int .u16 a, .int .u16 o] s (fun r s' => r = .bool true ∧ s' = s) := by
  refine go Try.func5 (k := fun hwf H => ?_)
  obtain ⟨b, hb⟩ : ∃ b, b = s.nxt := ⟨_, rfl⟩
  have o0 : (⟨[false, false, false], [false, false, false], [0, 0, 0], [0, 0, 0], 0, 0, 0⟩ : Dev).ok := Dev.zero_ok (n := 3) (by decide) (by decide)
  have lt : ∀ {z : Int}, U16 z → I64 z := fun h => by unfold U16 at h; constructor <;> omega
  have c16 : ∀ z : Int, 0 ≤ z ∧ z ≤ 65535 → I64 z := fun z h => by constructor <;> omega
  have q1 : (⟨6, 2, 0, 0, 0, [], [v], 0, 0⟩ : Req).ok := ⟨c16 6 (by decide), c16 2 (by decide), zI, zI, zI, OkW.one hv, zU, zU, by show 0 ≤ _; decide, by show 1 * 2 ≤ _; decide⟩
  have q2 : (⟨22, 2, 0, 0, 0, [], [], a, o⟩ : Req).ok := ⟨c16 22 (by decide), c16 2 (by decide), zI, zI, zI, zW, ha, ho, by show 0 ≤ _; decide, by show 0 * 2 ≤ _; decide⟩
  have q3 : (⟨3, 2, 1, 0, 0, [], [], 0, 0⟩ : Req).ok := ⟨c16 3 (by decide), c16 2 (by decide), c16 1 (by decide), zI, zI, zW, zU, zU, by show 0 ≤ _; decide, by show 0 * 2 ≤ _; decide⟩
  obtain ⟨x, hx⟩ : ∃ x, x = maskF v (⟨22, 2, 0, 0, 0, [], [], a, o⟩ : Req) := ⟨_, rfl⟩
  have e1 : doF (⟨[false, false, false], [false, false, false], [0, 0, 0], [0, 0, 0], 0, 0, 0⟩ : Dev) (⟨6, 2, 0, 0, 0, [], [v], 0, 0⟩ : Req) = ((⟨6, 0, 2, 0, 0, [], [v], 0, 0, []⟩ : Rep), (⟨[false, false, false], [false, false, false], [0, 0, 0], [0, 0, v], 0, 1, 0⟩ : Dev)) := by kernel_rfl
  have e2 : doF (⟨[false, false, false], [false, false, false], [0, 0, 0], [0, 0, v], 0, 1, 0⟩ : Dev) (⟨22, 2, 0, 0, 0, [], [], a, o⟩ : Req) = ((⟨22, 0, 2, 0, 0, [], [], a, o, []⟩ : Rep), (⟨[false, false, false], [false, false, false], [0, 0, 0], [0, 0, x], 0, 2, 0⟩ : Dev)) := by rw [hx]; kernel_rfl
  have e3 : doF (⟨[false, false, false], [false, false, false], [0, 0, 0], [0, 0, x], 0, 2, 0⟩ : Dev) (⟨3, 2, 1, 0, 0, [], [], 0, 0⟩ : Req) = ((⟨3, 0, 0, 0, 0, [], [x], 0, 0, []⟩ : Rep), (⟨[false, false, false], [false, false, false], [0, 0, 0], [0, 0, x], 0, 3, 0⟩ : Dev)) := by kernel_rfl
  have o1 : (⟨[false, false, false], [false, false, false], [0, 0, 0], [0, 0, v], 0, 1, 0⟩ : Dev).ok := by have := (doF_ok o0 q1).1; rw [e1] at this; exact this
  have o2 : (⟨[false, false, false], [false, false, false], [0, 0, 0], [0, 0, x], 0, 2, 0⟩ : Dev).ok := by have := (doF_ok o1 q2).1; rw [e2] at this; exact this
  have hx16 : U16 x := by rw [hx]; exact u16_ibits _ _ _
  refine rs (k := rg [0, 1, 2] (k := rs (k := rr (k := ?_))))
  refine RunO.callw au au au (by kernel_rfl) ((device_New (n := 3) (by decide) (by decide)).mono ?_)
  rintro r s1 ⟨rfl, gA0, gf0, gn0⟩
  rw [← hb] at gA0 gn0
  rw [← hb]
  refine rh [0, 1, 2, 7] (k := rs (k := rs (k := rg [0, 1, 2, 7, 14] (k := rc (ht := fun hc0 => ?_) (hf := fun hc0 => ?_)))))
  · cases hc0
  · refine rk (k := rs (k := rr (k := ro (pre := [_, _]) (k := rO (k := ro (pre := [_]) (k := ?_))))))
    refine RunO.callw au au au (by kernel_rfl) ((device_DoL e1 (by repeat' first | exact gA0 | exact gA0.st | refine DevAt.put' ?_ | refine StoAt.put ?_ | refine StoAt.sv ?_ ?_ _ | refine StoAt.nw ?_ ?_ _ | refine DevAt.sv ?_ ?_ _ | refine DevAt.nw ?_ ?_ _ | (simp only [putDev_nxt, nxt_new, nxt_set]; omega) | omega) o0 q1).mono ?_)
    rintro r s1 ⟨rfl, rfl⟩
    refine rl [0, 1, 2, 7] (k := rs (k := rr (k := ro (pre := [_, _, _, _]) (k := ?_))))
    refine RunO.callw au au au (by kernel_rfl) ((device_DoL e2 (by repeat' first | exact gA0 | exact gA0.st | refine DevAt.put' ?_ | refine StoAt.put ?_ | refine StoAt.sv ?_ ?_ _ | refine StoAt.nw ?_ ?_ _ | refine DevAt.sv ?_ ?_ _ | refine DevAt.nw ?_ ?_ _ | (simp only [putDev_nxt, nxt_new, nxt_set]; omega) | omega) o1 q2).mono ?_)
    rintro r s1 ⟨rfl, rfl⟩
    refine rh [0, 1, 2, 7, 8] (k := rs (k := rr (k := ro (pre := [_, _]) (k := ?_))))
    refine RunO.callw au au au (by kernel_rfl) ((device_DoL e3 (by repeat' first | exact gA0 | exact gA0.st | refine DevAt.put' ?_ | refine StoAt.put ?_ | refine StoAt.sv ?_ ?_ _ | refine StoAt.nw ?_ ?_ _ | refine DevAt.sv ?_ ?_ _ | refine DevAt.nw ?_ ?_ _ | (simp only [putDev_nxt, nxt_new, nxt_set]; omega) | omega) o2 q3).mono ?_)
    rintro r s1 ⟨rfl, rfl⟩
    refine rh [0, 1, 2, 8, 9] (k := rs (k := rs (k := ?_)))
    have hd1 : (decide (((1 : Nat) : Int) = 1)) = true := by decide
    have H := aj hd1 H
    refine rg [0, 1, 2, 9, 53] (k := rc (ht := fun hc1 => ?_) (hf := fun hc1 => ?_))
    · cases hc1
    · refine rk (k := rs (k := rs (k := ?_)))
      refine Run.genS fun S hS => ?_
      have g9 : S.blk (s1.nxt + 1) = some (.row 30 [(⟨3, 0, 0, 0, 0, [], [x], 0, 0, []⟩ : Rep).pv]) := by rw [hS]; simp (disch := first | omega | (simp only [putDev_nxt, nxt_set, nxt_new] <;> omega) | fail) only [go_sem] <;> rfl
      have gfk : ∀ i, i < s.nxt → S.blk i = s.blk i := by rw [hS]; exact (fun i hi => by
        have hi2 : i < b := by omega
        simp (disch := first | omega | (simp only [putDev_nxt, nxt_set, nxt_new] <;> omega) | fail) only [putDev_lo, blk_set_ne, blk_new_ne]
        exact gf0 i hi)
      clear hS
      have H := aj g9 H
      refine rg [0, 1, 2, 9, 10] (k := rb (k := ?_))
      refine Run.loop (fun e s' => s' = S ∧ ∃ i : Nat, e = [(0, .int .u16 v), (1, .int .u16 a), (2, .int .u16 o), (9, .ptr (s1.nxt + 1) 0 0), (10, .int .u64 (i : Int))] ∧ i ≤ 16) (fun e s' => 16 - ivar e 10) ?_ ?_
      · exact ⟨rfl, 0, rfl, by decide⟩
      rintro e s9 ⟨hs9, i, rfl, hi⟩
      subst s9
      refine rs (k := rs (k := rg [0, 1, 2, 9, 10, 55] (k := rc (ht := fun hc2 => ?_) (hf := fun hc2 => ?_))))
      · refine rk (k := rs (k := rb (k := rs (k := rg [0, 1, 2, 9, 10, 11] (k := rs (k := rs (k := rg [0, 1, 2, 9, 10, 11, 66] (k := rc (ht := fun hc3 => ?_) (hf := fun hc3 => ?_)))))))))
        · refine rg [0, 1, 2, 9, 10, 11] (k := rs (k := rg [0, 1, 2, 9, 10, 79] (k := rc (ht := fun hc4 => ?_) (hf := fun hc4 => ?_))))
          · refine rs (k := rg [6] (k := rR (k := ?_)))
            have hil : i < 16 ∨ i = 16 := by omega
            first
              | (exfalso
                 have hlt : i < 16 := by have := of_decide_eq_true hc2; omega
                 have hm := mask_bit hv ha ho (q := (⟨22, 2, 0, 0, 0, [], [], a, o⟩ : Req)) rfl rfl hlt
                 rw [← hx] at hm
                 simp only [decide_eq_true_eq, decide_eq_false_iff_not, Bool.not_eq_true'] at hc3 hc4
                 first
                 | (rw [if_pos hc3] at hm; exact hc4 hm)
                 | (rw [if_neg hc3] at hm; exact hc4 hm))
              | exact Ret.pure (r' := .bool true) (by simp only [Try.f5, go_sem, ↓reduceIte] <;> rfl) rfl (by simp only [PV.blw]) hwf gfk ⟨rfl, rfl⟩
          · refine rk (k := rB (k := rg [0, 1, 2, 9, 10] (k := ?_)))
            have hil : i < 16 := by have := of_decide_eq_true hc2; omega
            have hw : IntKind.u64.wrap ((i : Int) + 1) = ((i + 1 : Nat) : Int) := by rw [u64_wrap]; omega
            refine Run.lp ⟨⟨rfl, i + 1, by rw [hw], by omega⟩, ?_⟩
            simp only [ivar, go_sem, ↓reduceIte, Nat.reduceEqDiff, hw]
            omega
        · refine rk (k := rs (k := rg [0, 1, 2, 9, 10, 79] (k := rc (ht := fun hc4 => ?_) (hf := fun hc4 => ?_))))
          · refine rs (k := rg [6] (k := rR (k := ?_)))
            have hil : i < 16 ∨ i = 16 := by omega
            first
              | (exfalso
                 have hlt : i < 16 := by have := of_decide_eq_true hc2; omega
                 have hm := mask_bit hv ha ho (q := (⟨22, 2, 0, 0, 0, [], [], a, o⟩ : Req)) rfl rfl hlt
                 rw [← hx] at hm
                 simp only [decide_eq_true_eq, decide_eq_false_iff_not, Bool.not_eq_true'] at hc3 hc4
                 first
                 | (rw [if_pos hc3] at hm; exact hc4 hm)
                 | (rw [if_neg hc3] at hm; exact hc4 hm))
              | exact Ret.pure (r' := .bool true) (by simp only [Try.f5, go_sem, ↓reduceIte] <;> rfl) rfl (by simp only [PV.blw]) hwf gfk ⟨rfl, rfl⟩
          · refine rk (k := rB (k := rg [0, 1, 2, 9, 10] (k := ?_)))
            have hil : i < 16 := by have := of_decide_eq_true hc2; omega
            have hw : IntKind.u64.wrap ((i : Int) + 1) = ((i + 1 : Nat) : Int) := by rw [u64_wrap]; omega
            refine Run.lp ⟨⟨rfl, i + 1, by rw [hw], by omega⟩, ?_⟩
            simp only [ivar, go_sem, ↓reduceIte, Nat.reduceEqDiff, hw]
            omega
      · refine rX (k := rs (k := rr (k := rC (h := law9_known) (k := rh [6] (k := rR (k := ?_))))))
        have hil : i < 16 ∨ i = 16 := by omega
        first
          | (exfalso
             have hlt : i < 16 := by have := of_decide_eq_true hc2; omega
             have hm := mask_bit hv ha ho (q := (⟨22, 2, 0, 0, 0, [], [], a, o⟩ : Req)) rfl rfl hlt
             rw [← hx] at hm
             simp only [decide_eq_true_eq, decide_eq_false_iff_not, Bool.not_eq_true'] at hc3 hc4
             first
             | (rw [if_pos hc3] at hm; exact hc4 hm)
             | (rw [if_neg hc3] at hm; exact hc4 hm))
          | exact Ret.pure (r' := .bool true) (by simp only [Try.f5, go_sem, ↓reduceIte] <;> rfl) rfl (by simp only [PV.blw]) hwf gfk ⟨rfl, rfl⟩
end Go.Proofs

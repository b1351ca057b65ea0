import Derived.Test.YtaojhcbodijpbaaB2
import Derived.Test.YtaojhcbodijpbaaB1
import Derived.Test.YtaojhcbodijpbaaB3
set_option linter.unusedVariables false
set_option linter.unusedSimpArgs false
namespace Go.Proofs
open Go.PM
set_option maxHeartbeats 2000000
theorem within_ {n lo hi : Int} (h0 : 0 ≤ lo) (h1 : lo ≤ hi) (h2 : hi ≤ 1152921504606846976) {s : St} : ACalls Try.prog 8 [.int .i64 n, .int .i64 lo, .int .i64 hi] s (fun r s' => r = .int .i64 (withinI n lo hi) ∧ s' = s) := by
  refine go Try.func8 (k := fun hwf H => ?_)
  have hb := tmod_bound n (m := hi - lo + 1) (by omega)
  have hw1 : IntKind.i64.wrap (hi - lo) = hi - lo := wrap_i64 (by omega)
  have hw2 : IntKind.i64.wrap (hi - lo + 1) = hi - lo + 1 := wrap_i64 (by omega)
  have hw3 : IntKind.i64.wrap (n.tmod (hi - lo + 1) + hi) = n.tmod (hi - lo + 1) + hi := wrap_i64 (by omega)
  have hw4 : IntKind.i64.wrap (n.tmod (hi - lo + 1) + hi - lo) = n.tmod (hi - lo + 1) + hi - lo := wrap_i64 (by omega)
  have hw5 : IntKind.i64.wrap (n.tmod (hi - lo + 1) + hi - lo + 1) = n.tmod (hi - lo + 1) + hi - lo + 1 := wrap_i64 (by omega)
  have hne : (hi - lo + 1 = 0) = False := eq_false (by omega)
  have H := aj hw1 (aj hw2 (aj hw3 (aj hw4 (aj hw5 (aj hne H)))))
  refine rs (k := rg [0, 1, 2] (k := rs (k := rs (k := rg [0, 1, 2, 14] (k := rc (ht := fun hc0 => ?_) (hf := fun hc0 => ?_))))))
  refine rs (k := rg [6] (k := rR (k := rP (by simp only [Try.f8, go_sem]; rfl) hwf ⟨?_, rfl⟩)))
  refine jO 1 ?_; rotate_left
  refine rk (k := rs (k := rg [0, 1, 2] (k := rs (k := rs (k := rg [0, 1, 2, 23] (k := rc (ht := fun hc1 => ?_) (hf := fun hc1 => ?_)))))))
  refine rg [0, 1] (k := rs (k := rg [6] (k := rR (k := rP (by simp only [Try.f8, go_sem]; rfl) hwf ⟨?_, rfl⟩))))
  refine jO 1 ?_; rotate_left
  refine rk (k := rs (k := rg [6] (k := rR (k := rP (by simp only [Try.f8, go_sem]; rfl) hwf ⟨?_, rfl⟩))))
  refine jO 1 ?_; rotate_left
  any_goals
    refine jI 1 ?_
    unfold withinI
    refine jO 2 ?_; rotate_left
  any_goals
    refine jI 2 ?_
    first
      | (have h : lo ≤ n ∧ n ≤ hi := by simpa using hc0
         rw [if_pos h]; rfl)
      | (have h : ¬ (lo ≤ n ∧ n ≤ hi) := by simpa using hc0
         have hm := of_decide_eq_true hc1
         rw [if_neg h, if_pos hm, wrap_i64 (by omega)]; rfl)
      | (have h : ¬ (lo ≤ n ∧ n ≤ hi) := by simpa using hc0
         have hm := of_decide_eq_false hc1
         rw [if_neg h, if_neg hm, wrap_i64 (by omega)]; rfl)
theorem tape_Next {t : Tp} (ht : t.ok) {n : Int} {s : St} {tp : Nat} (hb : s.blk tp = some (.row 42 [t.pv])) : ACalls Try.prog 28 [.ptr tp 0 0, .int .i64 n] s (fun r s' => r = .int .i64 (t.val n) ∧ s' = s.set tp (some (.row 42 [(t.nx n).pv]))) := by
  refine go Try.func28 (k := fun hwf H => ?_)
  rw [Tp.pv] at hb
  have hlen := ht.len
  have hpos := ht.pos
  have H := aj hb H
  refine rs (k := rg [0, 1] (k := rs (k := rs (k := ?_))))
  refine Run.drawC [] [0, 1, 18] Try.mixed (by kernel_rfl) ?_
  refine DetC.all au ?_
  refine re (k := rc (ht := fun hc0 => ?_) (hf := fun hc0 => ?_))
  refine rs (k := rg [4] (k := rR (k := ?_)))
  refine jO 1 ?_; rotate_left
  refine rk (k := rs (k := ?_))
  have hc1 : ¬ (t.l.length ≤ t.pos ∨ n < 1) := by simp only [Bool.or_eq_false_iff, decide_eq_false_iff_not] at hc0; omega
  have hw : IntKind.i64.wrap ((t.pos : Int) + 1) = ((t.pos + 1 : Nat) : Int) := by rw [wrap_i64 (by omega)]; omega
  have hw1 : IntKind.i64.wrap (((t.pos + 1 : Nat) : Int) - 1) = ((t.pos : Nat) : Int) := by rw [wrap_i64 (by omega)]; omega
  have hx : (t.l.map (PV.int .i64))[t.pos]? = some (.int .i64 (t.l[t.pos]?.getD 0)) := by rw [List.getElem?_map, List.getElem?_eq_getElem (by omega)]; rfl
  have hn0 : (n = 0) = False := eq_false (by omega)
  have hlt : ((t.pos : Int) < (t.l.length : Int)) = True := eq_true (by omega)
  have H := aj hw (aj hw1 (aj hx (aj hn0 (aj hlt H))))
  refine rg [0, 1] (k := rs (k := ?_))
  refine Run.drawC [] [4] Try.mixed (by kernel_rfl) ?_
  refine DetC.pre (pre := [_, _, _, _, _, _, _, _, _, _, _]) au ?_
  refine DetC.call au au au (by kernel_rfl) (within_ (lo := 0) (hi := 1073741824) (by decide) (by decide) (by decide)) ?_
  refine DetC.all au ?_
  refine re (k := rR (k := ?_))
  refine jO 1 ?_; rotate_left
  any_goals
    refine jI 1 ?_
    first
      | (have h0 : t.l.length ≤ t.pos ∨ n < 1 := by simp only [Bool.or_eq_true, decide_eq_true_eq] at hc0; omega
         refine Ret.all (by simp only [Try.f28, go_sem] <;> rfl) ⟨?_, ?_⟩
         · rw [Tp.val, if_pos h0]
         · rw [Tp.nx, if_pos h0, Tp.pv]; exact (St.set_self hb).symm)
      | (refine Ret.all (by simp only [Try.f28, go_sem] <;> rfl) ⟨?_, ?_⟩
         · rw [Tp.val, if_neg hc1]
         · rw [Tp.nx, if_neg hc1]; rfl)
end Go.Proofs
namespace Go.Proofs
open Go.PM
set_option maxHeartbeats 2000000
theorem store_fl0 {s : St} {st b0 b1 v0 v1 n : Nat} (hst : s.blk st = some (.row 88 [.agg [.own b0 0 n, .own b1 0 n, .own v0 0 n, .own v1 0 n]])) : ACalls Try.prog 94 [.ptr st 0 0, .int .i64 0] s (fun r s' => r = .own b0 0 n ∧ s' = s) := by
  refine go Try.func94 (k := fun hwf H => ?_)
  have f0 : ((0 : Int) < ((2 : Nat) : Int)) = True := by decide
  have f1 : ((1 : Int) < ((2 : Nat) : Int)) = True := by decide
  have ft : Int.toNat 1 = 1 := rfl
  have f2 : ((0 : Int) ≤ 1) = True := by decide
  have H := aj f0 (aj f1 (aj ft (aj f2 H)))
  have hw : IntKind.i64.wrap (0 - 2) = -2 := by decide
  have H := aj hw H
  have H := aj hst H
  refine rs (k := rg [0, 1] (k := rs (k := rs (k := rg [0, 1, 10] (k := rc (ht := fun hc0 => ?_) (hf := fun hc0 => ?_))))))
  · cases hc0
  · refine rk (k := rs (k := rg [4] (k := rR (k := ?_))))
    exact Ret.all (by simp only [Try.f94, go_sem, ↓reduceIte] <;> rfl) ⟨rfl, rfl⟩
theorem store_fl1 {s : St} {st b0 b1 v0 v1 n : Nat} (hst : s.blk st = some (.row 88 [.agg [.own b0 0 n, .own b1 0 n, .own v0 0 n, .own v1 0 n]])) : ACalls Try.prog 94 [.ptr st 0 0, .int .i64 1] s (fun r s' => r = .own b1 0 n ∧ s' = s) := by
  refine go Try.func94 (k := fun hwf H => ?_)
  have f0 : ((0 : Int) < ((2 : Nat) : Int)) = True := by decide
  have f1 : ((1 : Int) < ((2 : Nat) : Int)) = True := by decide
  have ft : Int.toNat 1 = 1 := rfl
  have f2 : ((0 : Int) ≤ 1) = True := by decide
  have H := aj f0 (aj f1 (aj ft (aj f2 H)))
  have hw : IntKind.i64.wrap (1 - 2) = -1 := by decide
  have H := aj hw H
  have H := aj hst H
  refine rs (k := rg [0, 1] (k := rs (k := rs (k := rg [0, 1, 10] (k := rc (ht := fun hc0 => ?_) (hf := fun hc0 => ?_))))))
  · cases hc0
  · refine rk (k := rs (k := rg [4] (k := rR (k := ?_))))
    exact Ret.all (by simp only [Try.f94, go_sem, ↓reduceIte] <;> rfl) ⟨rfl, rfl⟩
theorem store_fl2 {s : St} {st b0 b1 v0 v1 n : Nat} (hst : s.blk st = some (.row 88 [.agg [.own b0 0 n, .own b1 0 n, .own v0 0 n, .own v1 0 n]])) : ACalls Try.prog 55 [.ptr st 0 0, .int .i64 2] s (fun r s' => r = .own v0 0 n ∧ s' = s) := by
  refine go Try.func55 (k := fun hwf H => ?_)
  have f0 : ((0 : Int) < ((2 : Nat) : Int)) = True := by decide
  have f1 : ((1 : Int) < ((2 : Nat) : Int)) = True := by decide
  have ft : Int.toNat 1 = 1 := rfl
  have f2 : ((0 : Int) ≤ 1) = True := by decide
  have H := aj f0 (aj f1 (aj ft (aj f2 H)))
  have hw : IntKind.i64.wrap (2 - 2) = 0 := by decide
  have H := aj hw H
  have H := aj hst H
  refine rs (k := rg [0, 1] (k := rs (k := rs (k := rg [0, 1, 10] (k := rc (ht := fun hc0 => ?_) (hf := fun hc0 => ?_))))))
  · cases hc0
  · refine rk (k := rs (k := rg [4] (k := rR (k := ?_))))
    exact Ret.all (by simp only [Try.f55, go_sem, ↓reduceIte] <;> rfl) ⟨rfl, rfl⟩
theorem store_fl3 {s : St} {st b0 b1 v0 v1 n : Nat} (hst : s.blk st = some (.row 88 [.agg [.own b0 0 n, .own b1 0 n, .own v0 0 n, .own v1 0 n]])) : ACalls Try.prog 55 [.ptr st 0 0, .int .i64 3] s (fun r s' => r = .own v1 0 n ∧ s' = s) := by
  refine go Try.func55 (k := fun hwf H => ?_)
  have f0 : ((0 : Int) < ((2 : Nat) : Int)) = True := by decide
  have f1 : ((1 : Int) < ((2 : Nat) : Int)) = True := by decide
  have ft : Int.toNat 1 = 1 := rfl
  have f2 : ((0 : Int) ≤ 1) = True := by decide
  have H := aj f0 (aj f1 (aj ft (aj f2 H)))
  have hw : IntKind.i64.wrap (3 - 2) = 1 := by decide
  have H := aj hw H
  have H := aj hst H
  refine rs (k := rg [0, 1] (k := rs (k := rs (k := rg [0, 1, 10] (k := rc (ht := fun hc0 => ?_) (hf := fun hc0 => ?_))))))
  · cases hc0
  · refine rk (k := rs (k := rg [4] (k := rR (k := ?_))))
    exact Ret.all (by simp only [Try.f55, go_sem, ↓reduceIte] <;> rfl) ⟨rfl, rfl⟩
theorem store_Len {s : St} {st b0 b1 v0 v1 n : Nat} (hst : s.blk st = some (.row 88 [.agg [.own b0 0 n, .own b1 0 n, .own v0 0 n, .own v1 0 n]])) : ACalls Try.prog 85 [.ptr st 0 0] s (fun r s' => r = .int .i64 n ∧ s' = s) := by
  refine go Try.func85 (k := fun hwf H => ?_)
  have f0 : ((0 : Int) < ((2 : Nat) : Int)) = True := by decide
  have f1 : ((1 : Int) < ((2 : Nat) : Int)) = True := by decide
  have ft : Int.toNat 1 = 1 := rfl
  have f2 : ((0 : Int) ≤ 1) = True := by decide
  have H := aj f0 (aj f1 (aj ft (aj f2 H)))
  have H := aj hst H
  refine rs (k := rg [0] (k := rs (k := rg [2] (k := rR (k := ?_)))))
  exact Ret.all (by simp only [Try.f85, go_sem, ↓reduceIte] <;> rfl) ⟨rfl, rfl⟩
theorem store_there {s : St} {st b0 b1 v0 v1 n : Nat} (hst : s.blk st = some (.row 88 [.agg [.own b0 0 n, .own b1 0 n, .own v0 0 n, .own v1 0 n]])) (hn : n ≤ 65536) {a m : Int} (ha : I64 a) : ACalls Try.prog 56 [.ptr st 0 0, .int .i64 a, .int .i64 m] s (fun r s' => r = .bool (thereF n a m) ∧ s' = s) := by
  refine go Try.func56 (k := fun hwf H => ?_)
  have H := aj hst H
  refine rs (k := rg [0, 1, 2] (k := rs (k := rr (k := ro (pre := [_, _, _, _, _, _, _, _, _]) (k := rG (h := fun hb => store_Len hst) (k := ro (pre := [_, _, _, _, _]) (k := rG (h := fun hb => store_Len hst) (k := rh [6] (k := rR (k := ?_))))))))))
  refine Ret.all (by simp only [Try.f56, go_sem, ↓reduceIte] <;> rfl) ⟨?_, rfl⟩
  refine congrArg PV.bool ?_
  unfold thereF
  by_cases h0 : 0 ≤ a
  · by_cases h3 : a ≤ n
    · have hw : IntKind.i64.wrap ((n : Int) - a) = n - a := wrap_i64 (by omega)
      rw [hw, Bool.eq_iff_iff]
      simp only [Bool.and_eq_true, decide_eq_true_eq]
      omega
    · simp [h3]
  · simp [h0]
theorem clone_own_bool {l ys : List Bool} {id off m : Nat} {s : St} (hb : s.blk id = some (.row 4 (l.map PV.bool))) (hys : (l.drop off).take m = ys) (hle : off + m ≤ l.length) (hl : l.length ≤ 65536) : ACalls Try.prog 95 [.own id off m] s (fun r s' => r = .sl .unk (ys.map PV.bool) ∧ s' = s) := by
  refine go Try.func95 (k := fun hwf H => ?_)
  have hyl : ys.length ≤ 65536 := by rw [← hys, List.length_take, List.length_drop]; omega
  refine rs (k := rg [0] (k := rs (k := rs (k := rg [0, 4] (k := rc (ht := fun hc0 => ?_) (hf := fun hc0 => ?_))))))
  · cases hc0
  · refine rk (k := rs (k := rr (k := rO (k := ro (pre := [_]) (k := ?_)))))
    refine RunO.appendFrom (els := l.map PV.bool) (ys := ys.map PV.bool) au au au hb (by rw [← hys, List.map_take, List.map_drop]) (by rw [List.length_map]; exact hle) Try.td23 (by rw [Try.zp4]; rfl) (isEls_map (P := Try.prog) (e := 4) (f := PV.bool) (fun a => ⟨rfl, by rw [Try.cz4]; rfl⟩) _) (by rw [Try.by4]; decide) (by rw [Try.by4, List.length_map]; omega) (.inr rfl) ?_
    intro k1 s1 hm1
    refine rh [2] (k := rR (k := ?_))
    refine Ret.pure (r' := .sl .unk (ys.map PV.bool)) (by simp only [Try.f95, go_sem, ↓reduceIte] <;> rfl) (by simp only [PV.weak, weaks_bools]) (by simp only [PV.blw]; exact ⟨fun t z e => (by cases e), (by rw [blws_boolsT]; trivial)⟩) hwf (hm1.fr hwf).blk ⟨rfl, rfl⟩
theorem clone_own_uint16 {l ys : List Int} {id off m : Nat} {s : St} (hb : s.blk id = some (.row 24 (l.map (PV.int .u16)))) (hys : (l.drop off).take m = ys) (hle : off + m ≤ l.length) (hl : l.length ≤ 65536) : ACalls Try.prog 57 [.own id off m] s (fun r s' => r = .sl .unk (ys.map (PV.int .u16)) ∧ s' = s) := by
  refine go Try.func57 (k := fun hwf H => ?_)
  have hyl : ys.length ≤ 65536 := by rw [← hys, List.length_take, List.length_drop]; omega
  refine rs (k := rg [0] (k := rs (k := rs (k := rg [0, 4] (k := rc (ht := fun hc0 => ?_) (hf := fun hc0 => ?_))))))
  · cases hc0
  · refine rk (k := rs (k := rr (k := rO (k := ro (pre := [_]) (k := ?_)))))
    refine RunO.appendFrom (els := l.map (PV.int .u16)) (ys := ys.map (PV.int .u16)) au au au hb (by rw [← hys, List.map_take, List.map_drop]) (by rw [List.length_map]; exact hle) Try.td22 (by rw [Try.zp24]; rfl) (isEls_map (P := Try.prog) (e := 24) (f := (PV.int .u16)) (fun a => ⟨rfl, by rw [Try.cz24]; rfl⟩) _) (by rw [Try.by24]; decide) (by rw [Try.by24, List.length_map]; omega) (.inr rfl) ?_
    intro k1 s1 hm1
    refine rh [2] (k := rR (k := ?_))
    refine Ret.pure (r' := .sl .unk (ys.map (PV.int .u16))) (by simp only [Try.f57, go_sem, ↓reduceIte] <;> rfl) (by simp only [PV.weak, weaks_u16]) (by simp only [PV.blw]; exact ⟨fun t z e => (by cases e), blws_u16 _ _⟩) hwf (hm1.fr hwf).blk ⟨rfl, rfl⟩
theorem store_get0 {s : St} {st b0 b1 v0 v1 n : Nat} (hst : s.blk st = some (.row 88 [.agg [.own b0 0 n, .own b1 0 n, .own v0 0 n, .own v1 0 n]])) {l : List Bool} (hb : s.blk b0 = some (.row 4 (l.map PV.bool))) (hn : l.length = n) (hn2 : n ≤ 65536) {a m : Int} (ha : I64 a) (hm : 1 ≤ m) : ACalls Try.prog 79 [.ptr st 0 0, .int .i64 0, .int .i64 a, .int .i64 m] s (fun r s' => r = .tuple [.sl .unk ((cutF l a m).map PV.bool), .bool (thereF n a m)] ∧ s' = s) := by
  refine go Try.func79 (k := fun hwf H => ?_)
  have H := aj hst (aj hb H)
  refine rs (k := rg [0, 1, 2, 3] (k := rs (k := rr (k := ro (pre := [_, _]) (k := ?_)))))
  refine RunO.callw au au au (by kernel_rfl) ((store_fl0 hst).mono ?_)
  rintro r s1 ⟨rfl, hs⟩
  subst s1
  refine rh [0, 2, 3, 10] (k := rs (k := rs (k := rr (k := ro (pre := [_, _, _, _, _, _]) (k := rG (h := fun hb => store_there hst hn2 ha) (k := rh [2, 3, 10, 22] (k := rc (ht := fun hc0 => ?_) (hf := fun hc0 => ?_))))))))
  refine rs (k := rg [8, 9] (k := rR (k := ?_)))
  refine jO 1 ?_; rotate_left
  refine rk (k := rs (k := ?_))
  have htT : thereF n a m = true := by simpa using hc0
  have htt := htT
  unfold thereF at htt
  have htt := of_decide_eq_true htt
  obtain ⟨x, rfl⟩ : ∃ x : Nat, a = x := ⟨a.toNat, (Int.toNat_of_nonneg htt.1).symm⟩
  obtain ⟨y, rfl⟩ : ∃ y : Nat, m = y := ⟨m.toNat, (Int.toNat_of_nonneg (by omega)).symm⟩
  have hw : IntKind.i64.wrap ((x : Int) + y) = ((x + y : Nat) : Int) := by rw [wrap_i64 (by omega)]; omega
  have hsl := aSlice_own (P := Try.prog) (t := 23) (id := b0) (off := 0) (len := n) (a := x) (m := y) Try.td23 (by rw [Try.cz4]; decide) rfl hb (by omega) (by omega)
  rw [Nat.zero_add] at hsl
  have H := aj hw H
  refine rr (k := ro (pre := [_, _, _, _, _]) (k := ?_))
  refine RunO.gdo au (v := .own b0 x y) (s' := s) (by
    simp (disch := omega) only [go_sem, H]
    rw [if_pos ⟨by decide, by omega, by omega⟩, if_neg (show ¬ ((x : Int) = n) by omega)]
    by_cases hx0 : (x : Int) = 0
    · rw [if_pos hx0]
      have : x = 0 := by omega
      subst this
      simp
    · rw [if_neg hx0]
      have : (((x + y : Nat) : Int) - (x : Int)).toNat = y := by omega
      rw [this]) ?_
  refine rC (h := clone_own_bool hb rfl (by omega) (by omega)) (k := rh [8, 9] (k := rR (k := ?_)))
  refine jO 1 ?_; rotate_left
  any_goals
    refine jI 1 ?_
    first
      | (have htF : thereF n a m = false := by simpa using hc0
         refine Ret.pure (r' := .tuple [.sl .unk ((cutF l a m).map PV.bool), .bool (thereF n a m)]) (by simp only [Try.f79, go_sem, ↓reduceIte] <;> rfl) ?_ (by simp only [PV.blw, PV.blws, blws_boolsT, and_true, true_and]; exact fun t z e => (by cases e)) hwf (fun _ _ => rfl) ⟨rfl, rfl⟩
         simp only [PV.weak, PV.weaks, weaks_bools]
         unfold cutF
         rw [hn, htF]; rfl)
      | (refine Ret.pure (r' := .tuple [.sl .unk ((cutF l (x : Int) (y : Int)).map PV.bool), .bool (thereF n (x : Int) (y : Int))]) (by simp only [Try.f79, go_sem, ↓reduceIte] <;> rfl) ?_ (by simp only [PV.blw, PV.blws, blws_boolsT, and_true, true_and]; exact fun t z e => (by cases e)) hwf (fun _ _ => rfl) ⟨rfl, rfl⟩
         simp only [PV.weak, PV.weaks, weaks_bools]
         unfold cutF
         rw [hn, htT, if_pos rfl]; rfl)
theorem store_get1 {s : St} {st b0 b1 v0 v1 n : Nat} (hst : s.blk st = some (.row 88 [.agg [.own b0 0 n, .own b1 0 n, .own v0 0 n, .own v1 0 n]])) {l : List Bool} (hb : s.blk b1 = some (.row 4 (l.map PV.bool))) (hn : l.length = n) (hn2 : n ≤ 65536) {a m : Int} (ha : I64 a) (hm : 1 ≤ m) : ACalls Try.prog 79 [.ptr st 0 0, .int .i64 1, .int .i64 a, .int .i64 m] s (fun r s' => r = .tuple [.sl .unk ((cutF l a m).map PV.bool), .bool (thereF n a m)] ∧ s' = s) := by
  refine go Try.func79 (k := fun hwf H => ?_)
  have H := aj hst (aj hb H)
  refine rs (k := rg [0, 1, 2, 3] (k := rs (k := rr (k := ro (pre := [_, _]) (k := ?_)))))
  refine RunO.callw au au au (by kernel_rfl) ((store_fl1 hst).mono ?_)
  rintro r s1 ⟨rfl, hs⟩
  subst s1
  refine rh [0, 2, 3, 10] (k := rs (k := rs (k := rr (k := ro (pre := [_, _, _, _, _, _]) (k := rG (h := fun hb => store_there hst hn2 ha) (k := rh [2, 3, 10, 22] (k := rc (ht := fun hc0 => ?_) (hf := fun hc0 => ?_))))))))
  refine rs (k := rg [8, 9] (k := rR (k := ?_)))
  refine jO 1 ?_; rotate_left
  refine rk (k := rs (k := ?_))
  have htT : thereF n a m = true := by simpa using hc0
  have htt := htT
  unfold thereF at htt
  have htt := of_decide_eq_true htt
  obtain ⟨x, rfl⟩ : ∃ x : Nat, a = x := ⟨a.toNat, (Int.toNat_of_nonneg htt.1).symm⟩
  obtain ⟨y, rfl⟩ : ∃ y : Nat, m = y := ⟨m.toNat, (Int.toNat_of_nonneg (by omega)).symm⟩
  have hw : IntKind.i64.wrap ((x : Int) + y) = ((x + y : Nat) : Int) := by rw [wrap_i64 (by omega)]; omega
  have hsl := aSlice_own (P := Try.prog) (t := 23) (id := b1) (off := 0) (len := n) (a := x) (m := y) Try.td23 (by rw [Try.cz4]; decide) rfl hb (by omega) (by omega)
  rw [Nat.zero_add] at hsl
  have H := aj hw H
  refine rr (k := ro (pre := [_, _, _, _, _]) (k := ?_))
  refine RunO.gdo au (v := .own b1 x y) (s' := s) (by
    simp (disch := omega) only [go_sem, H]
    rw [if_pos ⟨by decide, by omega, by omega⟩, if_neg (show ¬ ((x : Int) = n) by omega)]
    by_cases hx0 : (x : Int) = 0
    · rw [if_pos hx0]
      have : x = 0 := by omega
      subst this
      simp
    · rw [if_neg hx0]
      have : (((x + y : Nat) : Int) - (x : Int)).toNat = y := by omega
      rw [this]) ?_
  refine rC (h := clone_own_bool hb rfl (by omega) (by omega)) (k := rh [8, 9] (k := rR (k := ?_)))
  refine jO 1 ?_; rotate_left
  any_goals
    refine jI 1 ?_
    first
      | (have htF : thereF n a m = false := by simpa using hc0
         refine Ret.pure (r' := .tuple [.sl .unk ((cutF l a m).map PV.bool), .bool (thereF n a m)]) (by simp only [Try.f79, go_sem, ↓reduceIte] <;> rfl) ?_ (by simp only [PV.blw, PV.blws, blws_boolsT, and_true, true_and]; exact fun t z e => (by cases e)) hwf (fun _ _ => rfl) ⟨rfl, rfl⟩
         simp only [PV.weak, PV.weaks, weaks_bools]
         unfold cutF
         rw [hn, htF]; rfl)
      | (refine Ret.pure (r' := .tuple [.sl .unk ((cutF l (x : Int) (y : Int)).map PV.bool), .bool (thereF n (x : Int) (y : Int))]) (by simp only [Try.f79, go_sem, ↓reduceIte] <;> rfl) ?_ (by simp only [PV.blw, PV.blws, blws_boolsT, and_true, true_and]; exact fun t z e => (by cases e)) hwf (fun _ _ => rfl) ⟨rfl, rfl⟩
         simp only [PV.weak, PV.weaks, weaks_bools]
         unfold cutF
         rw [hn, htT, if_pos rfl]; rfl)
theorem store_get2 {s : St} {st b0 b1 v0 v1 n : Nat} (hst : s.blk st = some (.row 88 [.agg [.own b0 0 n, .own b1 0 n, .own v0 0 n, .own v1 0 n]])) {l : List Int} (hb : s.blk v0 = some (.row 24 (l.map (PV.int .u16)))) (hn : l.length = n) (hn2 : n ≤ 65536) {a m : Int} (ha : I64 a) (hm : 1 ≤ m) : ACalls Try.prog 24 [.ptr st 0 0, .int .i64 2, .int .i64 a, .int .i64 m] s (fun r s' => r = .tuple [.sl .unk ((cutF l a m).map (PV.int .u16)), .bool (thereF n a m)] ∧ s' = s) := by
  refine go Try.func24 (k := fun hwf H => ?_)
  have H := aj hst (aj hb H)
  refine rs (k := rg [0, 1, 2, 3] (k := rs (k := rr (k := ro (pre := [_, _]) (k := ?_)))))
  refine RunO.callw au au au (by kernel_rfl) ((store_fl2 hst).mono ?_)
  rintro r s1 ⟨rfl, hs⟩
  subst s1
  refine rh [0, 2, 3, 10] (k := rs (k := rs (k := rr (k := ro (pre := [_, _, _, _, _, _]) (k := rG (h := fun hb => store_there hst hn2 ha) (k := rh [2, 3, 10, 22] (k := rc (ht := fun hc0 => ?_) (hf := fun hc0 => ?_))))))))
  refine rs (k := rg [8, 9] (k := rR (k := ?_)))
  refine jO 1 ?_; rotate_left
  refine rk (k := rs (k := ?_))
  have htT : thereF n a m = true := by simpa using hc0
  have htt := htT
  unfold thereF at htt
  have htt := of_decide_eq_true htt
  obtain ⟨x, rfl⟩ : ∃ x : Nat, a = x := ⟨a.toNat, (Int.toNat_of_nonneg htt.1).symm⟩
  obtain ⟨y, rfl⟩ : ∃ y : Nat, m = y := ⟨m.toNat, (Int.toNat_of_nonneg (by omega)).symm⟩
  have hw : IntKind.i64.wrap ((x : Int) + y) = ((x + y : Nat) : Int) := by rw [wrap_i64 (by omega)]; omega
  have hsl := aSlice_own (P := Try.prog) (t := 22) (id := v0) (off := 0) (len := n) (a := x) (m := y) Try.td22 (by rw [Try.cz24]; decide) rfl hb (by omega) (by omega)
  rw [Nat.zero_add] at hsl
  have H := aj hw H
  refine rr (k := ro (pre := [_, _, _, _, _]) (k := ?_))
  refine RunO.gdo au (v := .own v0 x y) (s' := s) (by
    simp (disch := omega) only [go_sem, H]
    rw [if_pos ⟨by decide, by omega, by omega⟩, if_neg (show ¬ ((x : Int) = n) by omega)]
    by_cases hx0 : (x : Int) = 0
    · rw [if_pos hx0]
      have : x = 0 := by omega
      subst this
      simp
    · rw [if_neg hx0]
      have : (((x + y : Nat) : Int) - (x : Int)).toNat = y := by omega
      rw [this]) ?_
  refine rC (h := clone_own_uint16 hb rfl (by omega) (by omega)) (k := rh [8, 9] (k := rR (k := ?_)))
  refine jO 1 ?_; rotate_left
  any_goals
    refine jI 1 ?_
    first
      | (have htF : thereF n a m = false := by simpa using hc0
         refine Ret.pure (r' := .tuple [.sl .unk ((cutF l a m).map (PV.int .u16)), .bool (thereF n a m)]) (by simp only [Try.f24, go_sem, ↓reduceIte] <;> rfl) ?_ (by simp only [PV.blw, PV.blws, blws_u16T, and_true, true_and]; exact fun t z e => (by cases e)) hwf (fun _ _ => rfl) ⟨rfl, rfl⟩
         simp only [PV.weak, PV.weaks, weaks_u16]
         unfold cutF
         rw [hn, htF]; rfl)
      | (refine Ret.pure (r' := .tuple [.sl .unk ((cutF l (x : Int) (y : Int)).map (PV.int .u16)), .bool (thereF n (x : Int) (y : Int))]) (by simp only [Try.f24, go_sem, ↓reduceIte] <;> rfl) ?_ (by simp only [PV.blw, PV.blws, blws_u16T, and_true, true_and]; exact fun t z e => (by cases e)) hwf (fun _ _ => rfl) ⟨rfl, rfl⟩
         simp only [PV.weak, PV.weaks, weaks_u16]
         unfold cutF
         rw [hn, htT, if_pos rfl]; rfl)
theorem store_get3 {s : St} {st b0 b1 v0 v1 n : Nat} (hst : s.blk st = some (.row 88 [.agg [.own b0 0 n, .own b1 0 n, .own v0 0 n, .own v1 0 n]])) {l : List Int} (hb : s.blk v1 = some (.row 24 (l.map (PV.int .u16)))) (hn : l.length = n) (hn2 : n ≤ 65536) {a m : Int} (ha : I64 a) (hm : 1 ≤ m) : ACalls Try.prog 24 [.ptr st 0 0, .int .i64 3, .int .i64 a, .int .i64 m] s (fun r s' => r = .tuple [.sl .unk ((cutF l a m).map (PV.int .u16)), .bool (thereF n a m)] ∧ s' = s) := by
  refine go Try.func24 (k := fun hwf H => ?_)
  have H := aj hst (aj hb H)
  refine rs (k := rg [0, 1, 2, 3] (k := rs (k := rr (k := ro (pre := [_, _]) (k := ?_)))))
  refine RunO.callw au au au (by kernel_rfl) ((store_fl3 hst).mono ?_)
  rintro r s1 ⟨rfl, hs⟩
  subst s1
  refine rh [0, 2, 3, 10] (k := rs (k := rs (k := rr (k := ro (pre := [_, _, _, _, _, _]) (k := rG (h := fun hb => store_there hst hn2 ha) (k := rh [2, 3, 10, 22] (k := rc (ht := fun hc0 => ?_) (hf := fun hc0 => ?_))))))))
  refine rs (k := rg [8, 9] (k := rR (k := ?_)))
  refine jO 1 ?_; rotate_left
  refine rk (k := rs (k := ?_))
  have htT : thereF n a m = true := by simpa using hc0
  have htt := htT
  unfold thereF at htt
  have htt := of_decide_eq_true htt
  obtain ⟨x, rfl⟩ : ∃ x : Nat, a = x := ⟨a.toNat, (Int.toNat_of_nonneg htt.1).symm⟩
  obtain ⟨y, rfl⟩ : ∃ y : Nat, m = y := ⟨m.toNat, (Int.toNat_of_nonneg (by omega)).symm⟩
  have hw : IntKind.i64.wrap ((x : Int) + y) = ((x + y : Nat) : Int) := by rw [wrap_i64 (by omega)]; omega
  have hsl := aSlice_own (P := Try.prog) (t := 22) (id := v1) (off := 0) (len := n) (a := x) (m := y) Try.td22 (by rw [Try.cz24]; decide) rfl hb (by omega) (by omega)
  rw [Nat.zero_add] at hsl
  have H := aj hw H
  refine rr (k := ro (pre := [_, _, _, _, _]) (k := ?_))
  refine RunO.gdo au (v := .own v1 x y) (s' := s) (by
    simp (disch := omega) only [go_sem, H]
    rw [if_pos ⟨by decide, by omega, by omega⟩, if_neg (show ¬ ((x : Int) = n) by omega)]
    by_cases hx0 : (x : Int) = 0
    · rw [if_pos hx0]
      have : x = 0 := by omega
      subst this
      simp
    · rw [if_neg hx0]
      have : (((x + y : Nat) : Int) - (x : Int)).toNat = y := by omega
      rw [this]) ?_
  refine rC (h := clone_own_uint16 hb rfl (by omega) (by omega)) (k := rh [8, 9] (k := rR (k := ?_)))
  refine jO 1 ?_; rotate_left
  any_goals
    refine jI 1 ?_
    first
      | (have htF : thereF n a m = false := by simpa using hc0
         refine Ret.pure (r' := .tuple [.sl .unk ((cutF l a m).map (PV.int .u16)), .bool (thereF n a m)]) (by simp only [Try.f24, go_sem, ↓reduceIte] <;> rfl) ?_ (by simp only [PV.blw, PV.blws, blws_u16T, and_true, true_and]; exact fun t z e => (by cases e)) hwf (fun _ _ => rfl) ⟨rfl, rfl⟩
         simp only [PV.weak, PV.weaks, weaks_u16]
         unfold cutF
         rw [hn, htF]; rfl)
      | (refine Ret.pure (r' := .tuple [.sl .unk ((cutF l (x : Int) (y : Int)).map (PV.int .u16)), .bool (thereF n (x : Int) (y : Int))]) (by simp only [Try.f24, go_sem, ↓reduceIte] <;> rfl) ?_ (by simp only [PV.blw, PV.blws, blws_u16T, and_true, true_and]; exact fun t z e => (by cases e)) hwf (fun _ _ => rfl) ⟨rfl, rfl⟩
         simp only [PV.weak, PV.weaks, weaks_u16]
         unfold cutF
         rw [hn, htT, if_pos rfl]; rfl)
theorem store_put0 {s : St} {st b0 b1 v0 v1 n : Nat} (hst : s.blk st = some (.row 88 [.agg [.own b0 0 n, .own b1 0 n, .own v0 0 n, .own v1 0 n]])) {l x : List Bool} (hb : s.blk b0 = some (.row 4 (l.map PV.bool))) (hn : l.length = n) (hn2 : n ≤ 65536) {a : Int} (ha : I64 a) (hx : x ≠ []) (hst2 : b0 ≠ st) : ACalls Try.prog 82 [.ptr st 0 0, .int .i64 0, .int .i64 a, .sl .unk (x.map PV.bool)] s (fun r s' => r = .bool (thereF n a x.length) ∧ s' = (if thereF n a x.length = true then s.set b0 (some (.row 4 ((overF l a.toNat x).map PV.bool))) else s)) := by
  refine go Try.func82 (k := fun hwf H => ?_)
  have H := aj hst (aj hb H)
  refine rs (k := rg [0, 1, 2, 3] (k := rs (k := rr (k := ro (pre := [_, _]) (k := ?_)))))
  refine RunO.callw au au au (by kernel_rfl) ((store_fl0 hst).mono ?_)
  rintro r s1 ⟨rfl, hs⟩
  subst s1
  refine rh [0, 2, 3, 9] (k := rs (k := rs (k := rr (k := ro (pre := [_, _, _, _, _, _, _]) (k := rG (h := fun hb => store_there hst hn2 ha) (k := rh [2, 3, 9, 22] (k := rc (ht := fun hc0 => ?_) (hf := fun hc0 => ?_))))))))
  refine rs (k := rg [8] (k := rR (k := ?_)))
  refine jO 1 ?_; rotate_left
  refine rk (k := rs (k := ?_))
  have hxl : 1 ≤ x.length := List.length_pos_iff.2 hx
  have htT : thereF n a x.length = true := by simpa using hc0
  have htt := htT
  unfold thereF at htt
  have htt := of_decide_eq_true htt
  obtain ⟨p, hp⟩ : ∃ p : Nat, a = p := ⟨a.toNat, (Int.toNat_of_nonneg htt.1).symm⟩
  subst hp
  refine rr (k := ro (pre := [_, _]) (k := ?_))
  refine RunO.gdo au (v := .own b0 p (n - p)) (s' := s) (by
    simp (disch := omega) only [go_sem, H]
    rw [if_pos ⟨by decide, by omega⟩, if_neg (show ¬ ((p : Int) = n) by omega)]
    by_cases hx0 : (p : Int) = 0
    · rw [if_pos hx0]
      have : p = 0 := by omega
      subst this
      simp
    · rw [if_neg hx0]
      have : ((n : Int) - (p : Int)).toNat = n - p := by omega
      rw [this]) ?_
  refine ro (pre := [_]) (k := ?_)
  refine RunO.copy (el := 4) (id := b0) (off := p) (len := n - p) (ys := x.map PV.bool) (s' := s.set b0 (some (.row 4 ((overF l p x).map PV.bool)))) au au au Try.td23 (by rw [Try.zp4]; rfl) (isEls_map (P := Try.prog) (e := 4) (f := PV.bool) (fun a => ⟨rfl, by rw [Try.cz4]; rfl⟩) _) (by unfold aCopy; rw [hb]; simp only; rw [if_pos ⟨by rw [List.length_map]; omega, trivial, by rw [List.length_map]; omega⟩]; unfold overF; simp [List.map_take, List.map_drop]) ?_
  refine rl [] (k := rs (k := rg [8] (k := rR (k := ?_))))
  refine jO 1 ?_; rotate_left
  any_goals
    refine jI 1 ?_
    first
      | (have htF : thereF n a x.length = false := by simpa using hc0
         refine Ret.all (by simp only [Try.f82, go_sem, ↓reduceIte] <;> rfl) ⟨by rw [htF], by rw [htF]; rfl⟩)
      | (refine Ret.all (by simp only [Try.f82, go_sem, ↓reduceIte] <;> rfl) ⟨by rw [htT], by rw [htT, if_pos rfl]; rfl⟩)
theorem store_put3 {s : St} {st b0 b1 v0 v1 n : Nat} (hst : s.blk st = some (.row 88 [.agg [.own b0 0 n, .own b1 0 n, .own v0 0 n, .own v1 0 n]])) {l x : List Int} (hb : s.blk v1 = some (.row 24 (l.map (PV.int .u16)))) (hn : l.length = n) (hn2 : n ≤ 65536) {a : Int} (ha : I64 a) (hx : x ≠ []) (hst2 : v1 ≠ st) : ACalls Try.prog 83 [.ptr st 0 0, .int .i64 3, .int .i64 a, .sl .unk (x.map (PV.int .u16))] s (fun r s' => r = .bool (thereF n a x.length) ∧ s' = (if thereF n a x.length = true then s.set v1 (some (.row 24 ((overF l a.toNat x).map (PV.int .u16)))) else s)) := by
  refine go Try.func83 (k := fun hwf H => ?_)
  have H := aj hst (aj hb H)
  refine rs (k := rg [0, 1, 2, 3] (k := rs (k := rr (k := ro (pre := [_, _]) (k := ?_)))))
  refine RunO.callw au au au (by kernel_rfl) ((store_fl3 hst).mono ?_)
  rintro r s1 ⟨rfl, hs⟩
  subst s1
  refine rh [0, 2, 3, 9] (k := rs (k := rs (k := rr (k := ro (pre := [_, _, _, _, _, _, _]) (k := rG (h := fun hb => store_there hst hn2 ha) (k := rh [2, 3, 9, 22] (k := rc (ht := fun hc0 => ?_) (hf := fun hc0 => ?_))))))))
  refine rs (k := rg [8] (k := rR (k := ?_)))
  refine jO 1 ?_; rotate_left
  refine rk (k := rs (k := ?_))
  have hxl : 1 ≤ x.length := List.length_pos_iff.2 hx
  have htT : thereF n a x.length = true := by simpa using hc0
  have htt := htT
  unfold thereF at htt
  have htt := of_decide_eq_true htt
  obtain ⟨p, hp⟩ : ∃ p : Nat, a = p := ⟨a.toNat, (Int.toNat_of_nonneg htt.1).symm⟩
  subst hp
  refine rr (k := ro (pre := [_, _]) (k := ?_))
  refine RunO.gdo au (v := .own v1 p (n - p)) (s' := s) (by
    simp (disch := omega) only [go_sem, H]
    rw [if_pos ⟨by decide, by omega⟩, if_neg (show ¬ ((p : Int) = n) by omega)]
    by_cases hx0 : (p : Int) = 0
    · rw [if_pos hx0]
      have : p = 0 := by omega
      subst this
      simp
    · rw [if_neg hx0]
      have : ((n : Int) - (p : Int)).toNat = n - p := by omega
      rw [this]) ?_
  refine ro (pre := [_]) (k := ?_)
  refine RunO.copy (el := 24) (id := v1) (off := p) (len := n - p) (ys := x.map (PV.int .u16)) (s' := s.set v1 (some (.row 24 ((overF l p x).map (PV.int .u16))))) au au au Try.td22 (by rw [Try.zp24]; rfl) (isEls_map (P := Try.prog) (e := 24) (f := (PV.int .u16)) (fun a => ⟨rfl, by rw [Try.cz24]; rfl⟩) _) (by unfold aCopy; rw [hb]; simp only; rw [if_pos ⟨by rw [List.length_map]; omega, trivial, by rw [List.length_map]; omega⟩]; unfold overF; simp [List.map_take, List.map_drop]) ?_
  refine rl [] (k := rs (k := rg [8] (k := rR (k := ?_))))
  refine jO 1 ?_; rotate_left
  any_goals
    refine jI 1 ?_
    first
      | (have htF : thereF n a x.length = false := by simpa using hc0
         refine Ret.all (by simp only [Try.f83, go_sem, ↓reduceIte] <;> rfl) ⟨by rw [htF], by rw [htF]; rfl⟩)
      | (refine Ret.all (by simp only [Try.f83, go_sem, ↓reduceIte] <;> rfl) ⟨by rw [htT], by rw [htT, if_pos rfl]; rfl⟩)
end Go.Proofs
namespace Go.Proofs
open Go.PM
set_option maxHeartbeats 2000000
def devRow (b : Nat) (D : Dev) : Blk := .row 59 [.agg [.ptr b 0 0, .int .u8 D.unit, .int .i64 D.msgs, .int .i64 D.exc]]
def stoRow (b n : Nat) : Blk := .row 88 [.agg [.own (b + 1) 0 n, .own (b + 3) 0 n, .own (b + 2) 0 n, .own (b + 4) 0 n]]
structure DevAt (b : Nat) (D : Dev) (s : St) : Prop where
  st : s.blk b = some (stoRow b D.c0.length)
  c0 : s.blk (b + 1) = some (.row 4 (D.c0.map PV.bool))
  c1 : s.blk (b + 3) = some (.row 4 (D.c1.map PV.bool))
  v0 : s.blk (b + 2) = some (.row 24 (D.v0.map (PV.int .u16)))
  v1 : s.blk (b + 4) = some (.row 24 (D.v1.map (PV.int .u16)))
  dv : s.blk (b + 5) = some (devRow b D)
def putDev (b : Nat) (D : Dev) (s : St) : St := ((((s.set (b + 1) (some (.row 4 (D.c0.map PV.bool)))).set (b + 3) (some (.row 4 (D.c1.map PV.bool)))).set (b + 2) (some (.row 24 (D.v0.map (PV.int .u16))))).set (b + 4) (some (.row 24 (D.v1.map (PV.int .u16))))).set (b + 5) (some (devRow b D))
theorem putDev_blk (b : Nat) (D : Dev) (s : St) (i : Nat) : (putDev b D s).blk i = if i = b + 5 then some (devRow b D) else if i = b + 4 then some (.row 24 (D.v1.map (PV.int .u16))) else if i = b + 2 then some (.row 24 (D.v0.map (PV.int .u16))) else if i = b + 3 then some (.row 4 (D.c1.map PV.bool)) else if i = b + 1 then some (.row 4 (D.c0.map PV.bool)) else s.blk i := rfl
theorem putDev_nxt (b : Nat) (D : Dev) (s : St) : (putDev b D s).nxt = s.nxt := rfl
theorem DevAt.of {b : Nat} {D : Dev} {s : St} (h : DevAt b D s) {D' : Dev} {s' : St} (h0 : s'.blk b = s.blk b) (hl : D'.c0.length = D.c0.length) (h1 : s'.blk (b + 1) = some (.row 4 (D'.c0.map PV.bool))) (h3 : s'.blk (b + 3) = some (.row 4 (D'.c1.map PV.bool)))
    (h2 : s'.blk (b + 2) = some (.row 24 (D'.v0.map (PV.int .u16)))) (h4 : s'.blk (b + 4) = some (.row 24 (D'.v1.map (PV.int .u16)))) (h5 : s'.blk (b + 5) = some (devRow b D')) : DevAt b D' s' := ⟨by rw [h0, hl]; exact h.st, h1, h3, h2, h4, h5⟩
theorem DevAt.put {b : Nat} {D : Dev} {s : St} (h : DevAt b D s) {D' : Dev} (hl : D'.c0.length = D.c0.length) : DevAt b D' (putDev b D' s) := by
  refine ⟨?_, ?_, ?_, ?_, ?_, ?_⟩ <;> rw [putDev_blk]
  · rw [if_neg (by omega), if_neg (by omega), if_neg (by omega), if_neg (by omega), if_neg (by omega), hl]; exact h.st
  · rw [if_neg (by omega), if_neg (by omega), if_neg (by omega), if_neg (by omega), if_pos rfl]
  · rw [if_neg (by omega), if_neg (by omega), if_neg (by omega), if_pos rfl]
  · rw [if_neg (by omega), if_neg (by omega), if_pos rfl]
  · rw [if_neg (by omega), if_pos rfl]
  · rw [if_pos rfl]
theorem eq_putDev {b : Nat} {D : Dev} {s s' : St} (hn : s'.nxt = s.nxt) (h : DevAt b D s') (hk : ∀ i, i < b + 1 ∨ b + 5 < i → s'.blk i = s.blk i) : s' = putDev b D s := by
  refine St.eq_of hn fun i => ?_
  rw [putDev_blk]
  by_cases e5 : i = b + 5
  · rw [if_pos e5, e5]; exact h.dv
  rw [if_neg e5]
  by_cases e4 : i = b + 4
  · rw [if_pos e4, e4]; exact h.v1
  rw [if_neg e4]
  by_cases e2 : i = b + 2
  · rw [if_pos e2, e2]; exact h.v0
  rw [if_neg e2]
  by_cases e3 : i = b + 3
  · rw [if_pos e3, e3]; exact h.c1
  rw [if_neg e3]
  by_cases e1 : i = b + 1
  · rw [if_pos e1, e1]; exact h.c0
  rw [if_neg e1]
  exact hk i (by omega)
theorem putDev_self {b : Nat} {D : Dev} {s : St} (h : DevAt b D s) : putDev b D s = s := (eq_putDev rfl h fun _ _ => rfl).symm
theorem putDev_put {b : Nat} {D D' : Dev} {s : St} : putDev b D' (putDev b D s) = putDev b D' s := by
  refine St.eq_of rfl fun i => ?_
  simp only [putDev_blk]
  (repeat' split) <;> first | rfl | (exfalso; omega)
theorem putDev_wf {b : Nat} {D D' : Dev} {s : St} (hA : DevAt b D s) (hwf : s.wf) : (putDev b D' s).wf := by
  intro i hi
  rw [putDev_nxt] at hi
  have h5 := lt_blk hwf hA.dv
  rw [putDev_blk, if_neg (by omega), if_neg (by omega), if_neg (by omega), if_neg (by omega), if_neg (by omega)]
  exact hwf i hi
theorem putDev_blw {b : Nat} {D D' : Dev} {s : St} (hA : DevAt b D s) (hwf : s.wf) (i : Nat) (bl : Blk) (h : (putDev b D' s).blk i = some bl) : s.blk i = some bl ∨ bl.blw s.nxt := by
  have h0 := lt_blk hwf hA.st
  rw [putDev_blk] at h
  repeat' split at h
  · cases h; right; simp only [devRow, Blk.blw, PV.blw, PV.blws, and_true]; exact h0
  · cases h; right; exact blws_u16 _ _
  · cases h; right; exact blws_u16 _ _
  · cases h; right; simp only [Blk.blw]; rw [blws_boolsT]; trivial
  · cases h; right; simp only [Blk.blw]; rw [blws_boolsT]; trivial
  · exact .inl h
theorem Ret.dev {fn : Func} {args : List PV} {s0 s : St} {Q : PV → St → Prop} {e : Env} {r r' : PV} {b : Nat} {D : Dev} (D' : Dev) (hA : DevAt b D s0) (hr : retv Try.prog fn.results.toList e s = some r) (hr' : r' = r.weak) (hb : r'.blw s0.nxt) (hwf : s0.wf)
    (hk : ∀ i, i < s0.nxt → s.blk i = (putDev b D' s0).blk i) (h : Q r' (putDev b D' s0)) : Ret Try.prog fn args s0 Q e s :=
  Ret.put (putDev b D' s0) hr hr' hb (putDev_wf hA hwf) rfl hk (putDev_blw hA hwf) h
theorem DevAt.lt {b : Nat} {D : Dev} {s : St} (h : DevAt b D s) (hwf : s.wf) : b + 5 < s.nxt := lt_blk hwf h.dv
theorem device_space {fn : Int} {s : St} : ACalls Try.prog 80 [.int .i64 fn] s (fun r s' => r = .int .i64 (if fn = 1 ∨ fn = 5 ∨ fn = 15 then 0 else if fn = 2 then 1 else if fn = 4 then 2 else 3) ∧ s' = s) := by
  refine go Try.func80 (k := fun hwf H => ?_)
  refine rs (k := rg [0] (k := rs (k := rs (k := rg [3] (k := rb (k := rs (k := rs (k := rg [3, 4] (k := rc (ht := fun hc0 => ?_) (hf := fun hc0 => ?_))))))))))
  refine rk (k := rc (ht := fun hc2 => ?_) (hf := fun hc2 => ?_))
  refine jO 1 ?_; rotate_left
  · exact Bool.noConfusion (hc0.symm.trans hc2)
  refine rs (k := rg [3, 4] (k := rc (ht := fun hc1 => ?_) (hf := fun hc1 => ?_)))
  refine rk (k := rc (ht := fun hc2 => ?_) (hf := fun hc2 => ?_))
  refine jO 1 ?_; rotate_left
  · exact Bool.noConfusion (hc1.symm.trans hc2)
  refine rg [3, 4] (k := rc (ht := fun hc2 => ?_) (hf := fun hc2 => ?_))
  refine jO 1 ?_; rotate_left
  refine rs (k := rg [3, 8] (k := rc (ht := fun hc3 => ?_) (hf := fun hc3 => ?_)))
  refine jO 1 ?_; rotate_left
  refine rs (k := rg [10] (k := rc (ht := fun hc4 => ?_) (hf := fun hc4 => ?_)))
  refine jO 1 ?_; rotate_left
  refine rk (k := rB (k := rs (k := rg [2] (k := rR (k := rP (by simp only [Try.f80, go_sem]; rfl) hwf ⟨?_, rfl⟩)))))
  refine jO 2 ?_; rotate_left
  any_goals
    refine jI 1 ?_
    refine rs (k := rg [2] (k := rR (k := rP (by simp only [Try.f80, go_sem]; rfl) hwf ⟨?_, rfl⟩)))
    refine jO 2 ?_; rotate_left
  any_goals
    refine jI 2 ?_
    simp only [decide_eq_true_eq, decide_eq_false_iff_not] at *
    refine jO 3 ?_; rotate_left
  any_goals
    refine jI 3 ?_
    refine congrArg (PV.int .i64) ?_
    refine jO 4 ?_; rotate_left
  any_goals
    refine jI 4 ?_
    first
      | (rw [if_pos (by omega)]; done)
      | (rw [if_neg (by omega), if_pos (by omega)]; done)
      | (rw [if_neg (by omega), if_neg (by omega), if_pos (by omega)]; done)
      | (rw [if_neg (by omega), if_neg (by omega), if_neg (by omega)]; done)
attribute [local go_sem] weaks_bools Req.pv Rep.pv
theorem device_where {q : Req} (hq : q.ok) {s : St} : ACalls Try.prog 81 [q.pv] s (fun r s' => r = (whereF q).pv ∧ s' = s) := by
  refine go Try.func81 (k := fun hwf H => ?_)
  refine rs (k := rg [1, 2] (k := rs (k := rr (k := ro (pre := [_, _]) (k := rC (h := reply_Refuse (fn := q.fn) (code := 2) hq.fn (by constructor <;> decide)) (k := rh [2] (k := rR (k := ?_))))))))
  exact Ret.pure (r' := (whereF q).pv) (by simp only [Try.f81, go_sem, ↓reduceIte] <;> rfl) (by rfl) (blw_rep _ _) hwf (fun i hi => by first | rfl | (have h0 := ltn hi; have h1 := lte hi; simp only [go_sem, Nat.add_assoc, Nat.reduceAdd, ↓reduceIte, h0, h1])) ⟨rfl, rfl⟩
theorem device_Store {b : Nat} {D : Dev} {s : St} (hA : DevAt b D s) : ACalls Try.prog 23 [.ptr (b + 5) 0 0] s (fun r s' => r = .ptr b 0 0 ∧ s' = s) := by
  refine go Try.func23 (k := fun hwf H => ?_)
  have hdv := hA.dv
  unfold devRow at hdv
  have H := aj hdv H
  refine rs (k := rg [0] (k := rs (k := rg [2] (k := rR (k := ?_)))))
  exact Ret.all (by simp only [Try.f23, go_sem, ↓reduceIte] <;> rfl) ⟨rfl, rfl⟩
theorem device_Counts {b : Nat} {D : Dev} {s : St} (hA : DevAt b D s) : ACalls Try.prog 17 [.ptr (b + 5) 0 0] s (fun r s' => r = .tuple [.int .i64 D.msgs, .int .i64 D.exc] ∧ s' = s) := by
  refine go Try.func17 (k := fun hwf H => ?_)
  have hdv := hA.dv
  unfold devRow at hdv
  have H := aj hdv H
  refine rs (k := rg [0] (k := rs (k := ?_)))
  refine Run.drawC [] [2, 3] Try.mixed (by kernel_rfl) ?_
  refine DetC.all au ?_
  refine re (k := rR (k := ?_))
  exact Ret.all (by simp only [Try.f17, go_sem, ↓reduceIte] <;> rfl) ⟨rfl, rfl⟩
theorem device_Unit {b : Nat} {D : Dev} {s : St} (hA : DevAt b D s) {n : Int} : ACalls Try.prog 25 [.ptr (b + 5) 0 0, .int .i64 n] s (fun r s' => r = .tuple [] ∧ s' = putDev b { D with unit := n % 256 } s) := by
  refine go Try.func25 (k := fun hwf H => ?_)
  have hdv := hA.dv
  unfold devRow at hdv
  have ha : ibits .and .i64 n 255 = n % 256 := ibits_and255 n
  have hu : IntKind.u8.wrap (n % 256) = n % 256 := by rw [u8_wrap]; omega
  have H := aj ha (aj hu H)
  have H := aj hdv H
  refine rg [] (k := rN (k := ?_))
  exact Ret.dev { D with unit := n % 256 } hA (r' := .tuple []) (by simp only [Try.f25, go_sem, ↓reduceIte] <;> rfl) rfl (by simp only [PV.blw, PV.blws]) hwf (fun i hi => by
    have h0 := ltn hi; have h1 := lte hi
    rw [putDev_blk]
    simp only [go_sem, Nat.add_assoc, Nat.reduceAdd, ↓reduceIte, h0, h1]
    by_cases e5 : i = b + 5
    · rw [if_pos e5, if_pos e5]; rfl
    rw [if_neg e5, if_neg e5]
    by_cases e4 : i = b + 4
    · rw [if_pos e4, e4]; exact hA.v1
    rw [if_neg e4]
    by_cases e2 : i = b + 2
    · rw [if_pos e2, e2]; exact hA.v0
    rw [if_neg e2]
    by_cases e3 : i = b + 3
    · rw [if_pos e3, e3]; exact hA.c1
    rw [if_neg e3]
    by_cases e1 : i = b + 1
    · rw [if_pos e1, e1]; exact hA.c0
    rw [if_neg e1]) ⟨rfl, rfl⟩
attribute [local go_sem] weaks_bools Rep.pv
theorem device_refuse {b : Nat} {D : Dev} {s : St} (hA : DevAt b D s) {fn code : Int} (hf : I64 fn) (hc : I64 code) : ACalls Try.prog 20 [.ptr (b + 5) 0 0, .int .i64 fn, .int .i64 code] s (fun r s' => r = (refD D fn code).1.pv ∧ s' = putDev b (refD D fn code).2 s) := by
  refine go Try.func20 (k := fun hwf H => ?_)
  have hdv := hA.dv
  unfold devRow at hdv
  have hlt := hA.lt hwf
  have hinc : IntKind.i64.wrap (D.exc + 1) = inc D.exc := rfl
  have H := aj hinc H
  have H := aj hdv H
  refine rs (k := rg [0, 1, 2, 6] (k := rs (k := rg [1, 2, 6] (k := rs (k := rr (k := ro (pre := [_, _]) (k := rC (h := reply_Refuse (fn := fn) (code := code) hf hc) (k := rh [6] (k := rR (k := ?_))))))))))
  exact Ret.dev (refD D fn code).2 hA (r' := (refD D fn code).1.pv) (by simp only [Try.f20, go_sem, ↓reduceIte] <;> rfl) (by rfl) (blw_rep _ _) hwf (fun i hi => by
    have h0 := ltn hi; have h1 := lte hi
    rw [putDev_blk]
    simp only [go_sem, Nat.add_assoc, Nat.reduceAdd, ↓reduceIte, h0, h1]
    by_cases e5 : i = b + 5
    · rw [if_pos e5, if_pos e5]; rfl
    rw [if_neg e5, if_neg e5]
    by_cases e4 : i = b + 4
    · rw [if_pos e4, e4]; exact hA.v1
    rw [if_neg e4]
    by_cases e2 : i = b + 2
    · rw [if_pos e2, e2]; exact hA.v0
    rw [if_neg e2]
    by_cases e3 : i = b + 3
    · rw [if_pos e3, e3]; exact hA.c1
    rw [if_neg e3]
    by_cases e1 : i = b + 1
    · rw [if_pos e1, e1]; exact hA.c0
    rw [if_neg e1]) ⟨rfl, rfl⟩
set_option maxRecDepth 100000 in
theorem device_New {n : Nat} {s : St} (h1 : 1 ≤ n) (h2 : n ≤ 65536) : ACalls Try.prog 7 [.int .i64 (n : Int)] s (fun r s' => r = .ptr (s.nxt + 5) 0 0 ∧ DevAt s.nxt (Dev.zero n) s' ∧ (∀ i, i < s.nxt → s'.blk i = s.blk i) ∧ s'.nxt = s.nxt + 6) := by
  refine go Try.func7 (k := fun hwf H => ?_)
  refine rs (k := rg [0] (k := rs (k := rr (k := ro (pre := [_]) (k := ?_)))))
  refine RunO.callw au au au (by kernel_rfl) ((store_New h1 h2).mono ?_)
  rintro r s1 ⟨rfl, rfl⟩
  refine rh [3] (k := rs (k := rs (k := rg [3, 7] (k := rc (ht := fun hc0 => ?_) (hf := fun hc0 => ?_)))))
  · cases hc0
  refine rk (k := rs (k := rg [2] (k := rR (k := ?_))))
  have L : ∀ {p : Prop}, p → p := fun h => h
  refine Ret.all (by simp only [Try.f7, go_sem, ↓reduceIte] <;> rfl) ⟨rfl, ⟨?_, ?_, ?_, ?_, ?_, ?_⟩, fun i hi => ?_, rfl⟩
  · simp (disch := first | omega | (simp only [nxt_set, nxt_new] <;> omega) | fail) only [go_sem]
    simp [stoRow, Dev.zero]
  refine jO 1 ?_; rotate_left
  refine jO 1 ?_; rotate_left
  refine jO 1 ?_; rotate_left
  refine jO 1 ?_; rotate_left
  · simp (disch := first | omega | (simp only [nxt_set, nxt_new] <;> omega) | fail) only [go_sem, ↓reduceIte, Nat.add_assoc, Nat.reduceAdd]
    simp [devRow, Dev.zero]
  · have h0 := ltn hi; have h1 := lte hi
    simp (disch := first | omega | (simp only [nxt_set, nxt_new] <;> omega) | fail) only [go_sem, Nat.add_assoc, Nat.reduceAdd, ↓reduceIte, h0, h1]
  any_goals
    refine jI 1 ?_
    simp (disch := first | omega | (simp only [nxt_set, nxt_new] <;> omega) | fail) only [go_sem]
    simp [Dev.zero]
end Go.Proofs
namespace Go.Proofs
open Go.PM
set_option maxHeartbeats 2000000
theorem DevAt.nw {b : Nat} {D : Dev} {s : St} (h : DevAt b D s) (hl : b + 5 < s.nxt) (x : Blk) : DevAt b D (s.new x) := by
  have e : ∀ i, i ≤ b + 5 → (s.new x).blk i = s.blk i := fun i hi => blk_new_ne (by omega)
  exact ⟨by rw [e _ (by omega)]; exact h.st, by rw [e _ (by omega)]; exact h.c0, by rw [e _ (by omega)]; exact h.c1, by rw [e _ (by omega)]; exact h.v0, by rw [e _ (by omega)]; exact h.v1, by rw [e _ (by omega)]; exact h.dv⟩
theorem count_of {q : Req} (h : countF q = true) (hf : q.fn = 1 ∨ q.fn = 2 ∨ q.fn = 3 ∨ q.fn = 4 ∨ q.fn = 15 ∨ q.fn = 16 ∨ q.fn = 23) : 1 ≤ q.count := by
  have h := (of_decide_eq_true h).2
  rcases hf with e | e | e | e | e | e | e <;> simp [e] at h <;> omega
theorem bits_of {q : Req} (hr : rightF q = 0) (h : countF q = true) (hf : q.fn = 5 ∨ q.fn = 15) : q.bits ≠ [] := by
  have hR := right0 hr
  have hb := hR.nb
  intro e
  rw [e] at hb
  rcases hf with e1 | e1
  · unfold bitsF at hb; rw [if_pos e1] at hb; simp at hb
  · have := count_of h (by omega)
    unfold bitsF at hb; rw [if_neg (by omega), if_pos e1] at hb; simp at hb; omega
theorem vals_of {q : Req} (hr : rightF q = 0) (h : countF q = true) (hf : q.fn = 6 ∨ q.fn = 8 ∨ q.fn = 16 ∨ q.fn = 23) : q.vals ≠ [] := by
  have hR := right0 hr
  have hb := hR.nv
  intro e
  rw [e] at hb
  rcases hf with e1 | e1 | e1 | e1
  · unfold valsF at hb; rw [if_pos (.inl e1)] at hb; simp at hb
  · unfold valsF at hb; rw [if_pos (.inr e1)] at hb; simp at hb
  · have := count_of h (by omega)
    unfold valsF at hb; rw [if_neg (by omega), if_pos e1] at hb; simp at hb; omega
  · have h := (of_decide_eq_true h).2
    simp [e1, e] at h
attribute [local go_sem] weaks_bools Req.pv Rep.pv
set_option maxRecDepth 100000 in
theorem device_rd1 {b : Nat} {D : Dev} {s : St} (hA : DevAt b D s) (hD : D.ok) {q : Req} (hq : q.ok) (hr : rightF q = 0) (hc : countF q = true) (hf : q.fn = 1) : ACalls Try.prog 41 [.ptr (b + 5) 0 0, q.pv] s (fun r s' => r = (bodyF D q).1.pv ∧ s' = putDev b (bodyF D q).2 s) := by
  refine go Try.func41 (k := fun hwf H => ?_)
  have hdv := hA.dv
  unfold devRow at hdv
  have hlt := hA.lt hwf
  have hA1 : ∀ x y, DevAt b D ((s.new x).new y) := fun x y => (hA.nw hlt x).nw (by show b + 5 < s.nxt + 1; omega) y
  have hd1 := hD.h1
  have hd2 := hD.h2
  have hd3 := hD.c1
  have hd4 := hD.v0
  have hd5 := hD.v1
  have H := aj hdv H
  have hsp : ∀ s, ACalls Try.prog 80 [.int .i64 q.fn] s (fun r s' => r = .int .i64 0 ∧ s' = s) := fun s => by rw [hf]; simpa using device_space (fn := 1) (s := s)
  have hcn := count_of hc (by omega)
  refine rs (k := rg [0, 3, 4] (k := rs (k := ?_)))
  refine Run.drawC [] [3, 4, 5, 6] Try.mixed (by kernel_rfl) ?_
  refine DetC.pre (pre := [_, _, _, _, _, _]) au ?_
  refine DetC.call au au au (by kernel_rfl) (hsp _) ?_
  refine DetC.pre (pre := [_, _, _, _]) au ?_
  refine DetC.call au au au (by kernel_rfl) (store_get0 (hA1 _ _).st (hA1 _ _).c0 (by omega) hd2 hq.at_ hcn) ?_
  refine DetC.all au ?_
  refine re (k := rs (k := rs (k := rg [3, 4, 5, 23] (k := rc (ht := fun hc0 => ?_) (hf := fun hc0 => ?_)))))
  have hc := hc0
  refine rs (k := rr (k := ro (pre := [_]) (k := rC (h := device_where hq) (k := rh [4] (k := rR (k := ?_))))))
  refine jO 1 ?_; rotate_left
  have hc := hc0
  refine rk (k := rs (k := rg [4] (k := rR (k := ?_))))
  refine jO 1 ?_; rotate_left
  any_goals
    refine jI 1 ?_
    first
      | (have hT : thereF D.c0.length q.at_ q.count = false := by simpa using hc0
         have hB : bodyF D q = (whereF q, D) := by
           unfold bodyF; rw [if_pos (by omega), hT, if_neg Bool.false_ne_true]
         refine Ret.dev D hA (r' := (whereF q : Rep).pv) (by simp only [Try.f41, go_sem, ↓reduceIte] <;> rfl) ?_ (blw_rep _ _) hwf (fun i hi => by
      have h0 := ltn hi; have h1 := lte hi
      rw [putDev_blk]
      simp only [go_sem, Nat.add_assoc, Nat.reduceAdd, ↓reduceIte, h0, h1]
      (repeat' split) <;> first | rfl | (rename_i e; rw [e]; first | exact hA.dv | exact hA.v1 | exact hA.v0 | exact hA.c1 | exact hA.c0) | (exfalso; omega)) ⟨by rw [hB], by rw [hB]⟩
         rfl)
      | (have hT : thereF D.c0.length q.at_ q.count = true := by simpa using hc0
         have hB : bodyF D q = (⟨q.fn, 0, 0, 0, 0, cutF D.c0 q.at_ q.count, [], 0, 0, []⟩, D) := by
           unfold bodyF; rw [if_pos (by omega), hT, if_pos rfl]
         refine Ret.dev D hA (r' := (⟨q.fn, 0, 0, 0, 0, cutF D.c0 q.at_ q.count, [], 0, 0, []⟩ : Rep).pv) (by simp only [Try.f41, go_sem, ↓reduceIte] <;> rfl) ?_ (blw_rep _ _) hwf (fun i hi => by
      have h0 := ltn hi; have h1 := lte hi
      rw [putDev_blk]
      simp only [go_sem, Nat.add_assoc, Nat.reduceAdd, ↓reduceIte, h0, h1]
      (repeat' split) <;> first | rfl | (rename_i e; rw [e]; first | exact hA.dv | exact hA.v1 | exact hA.v0 | exact hA.c1 | exact hA.c0) | (exfalso; omega)) ⟨by rw [hB], by rw [hB]⟩
         simp only [Rep.pv, PV.weak, PV.weaks, weaks_u16, weaks_bools, weaks_u8]; rfl)
attribute [local go_sem] weaks_bools Req.pv Rep.pv
set_option maxRecDepth 100000 in
theorem device_rd2 {b : Nat} {D : Dev} {s : St} (hA : DevAt b D s) (hD : D.ok) {q : Req} (hq : q.ok) (hr : rightF q = 0) (hc : countF q = true) (hf : q.fn = 2) : ACalls Try.prog 41 [.ptr (b + 5) 0 0, q.pv] s (fun r s' => r = (bodyF D q).1.pv ∧ s' = putDev b (bodyF D q).2 s) := by
  refine go Try.func41 (k := fun hwf H => ?_)
  have hdv := hA.dv
  unfold devRow at hdv
  have hlt := hA.lt hwf
  have hA1 : ∀ x y, DevAt b D ((s.new x).new y) := fun x y => (hA.nw hlt x).nw (by show b + 5 < s.nxt + 1; omega) y
  have hd1 := hD.h1
  have hd2 := hD.h2
  have hd3 := hD.c1
  have hd4 := hD.v0
  have hd5 := hD.v1
  have H := aj hdv H
  have hsp : ∀ s, ACalls Try.prog 80 [.int .i64 q.fn] s (fun r s' => r = .int .i64 1 ∧ s' = s) := fun s => by rw [hf]; simpa using device_space (fn := 2) (s := s)
  have hcn := count_of hc (by omega)
  refine rs (k := rg [0, 3, 4] (k := rs (k := ?_)))
  refine Run.drawC [] [3, 4, 5, 6] Try.mixed (by kernel_rfl) ?_
  refine DetC.pre (pre := [_, _, _, _, _, _]) au ?_
  refine DetC.call au au au (by kernel_rfl) (hsp _) ?_
  refine DetC.pre (pre := [_, _, _, _]) au ?_
  refine DetC.call au au au (by kernel_rfl) (store_get1 (hA1 _ _).st (hA1 _ _).c1 (by omega) hd2 hq.at_ hcn) ?_
  refine DetC.all au ?_
  refine re (k := rs (k := rs (k := rg [3, 4, 5, 23] (k := rc (ht := fun hc0 => ?_) (hf := fun hc0 => ?_)))))
  have hc := hc0
  refine rs (k := rr (k := ro (pre := [_]) (k := rC (h := device_where hq) (k := rh [4] (k := rR (k := ?_))))))
  refine jO 1 ?_; rotate_left
  have hc := hc0
  refine rk (k := rs (k := rg [4] (k := rR (k := ?_))))
  refine jO 1 ?_; rotate_left
  any_goals
    refine jI 1 ?_
    first
      | (have hT : thereF D.c0.length q.at_ q.count = false := by simpa using hc0
         have hB : bodyF D q = (whereF q, D) := by
           unfold bodyF; rw [if_neg (by omega), if_pos (by omega), hT, if_neg Bool.false_ne_true]
         refine Ret.dev D hA (r' := (whereF q : Rep).pv) (by simp only [Try.f41, go_sem, ↓reduceIte] <;> rfl) ?_ (blw_rep _ _) hwf (fun i hi => by
      have h0 := ltn hi; have h1 := lte hi
      rw [putDev_blk]
      simp only [go_sem, Nat.add_assoc, Nat.reduceAdd, ↓reduceIte, h0, h1]
      (repeat' split) <;> first | rfl | (rename_i e; rw [e]; first | exact hA.dv | exact hA.v1 | exact hA.v0 | exact hA.c1 | exact hA.c0) | (exfalso; omega)) ⟨by rw [hB], by rw [hB]⟩
         rfl)
      | (have hT : thereF D.c0.length q.at_ q.count = true := by simpa using hc0
         have hB : bodyF D q = (⟨q.fn, 0, 0, 0, 0, cutF D.c1 q.at_ q.count, [], 0, 0, []⟩, D) := by
           unfold bodyF; rw [if_neg (by omega), if_pos (by omega), hT, if_pos rfl]
         refine Ret.dev D hA (r' := (⟨q.fn, 0, 0, 0, 0, cutF D.c1 q.at_ q.count, [], 0, 0, []⟩ : Rep).pv) (by simp only [Try.f41, go_sem, ↓reduceIte] <;> rfl) ?_ (blw_rep _ _) hwf (fun i hi => by
      have h0 := ltn hi; have h1 := lte hi
      rw [putDev_blk]
      simp only [go_sem, Nat.add_assoc, Nat.reduceAdd, ↓reduceIte, h0, h1]
      (repeat' split) <;> first | rfl | (rename_i e; rw [e]; first | exact hA.dv | exact hA.v1 | exact hA.v0 | exact hA.c1 | exact hA.c0) | (exfalso; omega)) ⟨by rw [hB], by rw [hB]⟩
         simp only [Rep.pv, PV.weak, PV.weaks, weaks_u16, weaks_bools, weaks_u8]; rfl)
attribute [local go_sem] weaks_bools Req.pv Rep.pv
set_option maxRecDepth 100000 in
theorem device_rd3 {b : Nat} {D : Dev} {s : St} (hA : DevAt b D s) (hD : D.ok) {q : Req} (hq : q.ok) (hr : rightF q = 0) (hc : countF q = true) (hf : q.fn = 3) : ACalls Try.prog 42 [.ptr (b + 5) 0 0, q.pv] s (fun r s' => r = (bodyF D q).1.pv ∧ s' = putDev b (bodyF D q).2 s) := by
  refine go Try.func42 (k := fun hwf H => ?_)
  have hdv := hA.dv
  unfold devRow at hdv
  have hlt := hA.lt hwf
  have hA1 : ∀ x y, DevAt b D ((s.new x).new y) := fun x y => (hA.nw hlt x).nw (by show b + 5 < s.nxt + 1; omega) y
  have hd1 := hD.h1
  have hd2 := hD.h2
  have hd3 := hD.c1
  have hd4 := hD.v0
  have hd5 := hD.v1
  have H := aj hdv H
  have hsp : ∀ s, ACalls Try.prog 80 [.int .i64 q.fn] s (fun r s' => r = .int .i64 3 ∧ s' = s) := fun s => by rw [hf]; simpa using device_space (fn := 3) (s := s)
  have hcn := count_of hc (by omega)
  refine rs (k := rg [0, 3, 4] (k := rs (k := ?_)))
  refine Run.drawC [] [3, 4, 5, 6] Try.mixed (by kernel_rfl) ?_
  refine DetC.pre (pre := [_, _, _, _, _, _]) au ?_
  refine DetC.call au au au (by kernel_rfl) (hsp _) ?_
  refine DetC.pre (pre := [_, _, _, _]) au ?_
  refine DetC.call au au au (by kernel_rfl) (store_get3 (hA1 _ _).st (hA1 _ _).v1 (by omega) hd2 hq.at_ hcn) ?_
  refine DetC.all au ?_
  refine re (k := rs (k := rs (k := rg [3, 4, 5, 23] (k := rc (ht := fun hc0 => ?_) (hf := fun hc0 => ?_)))))
  have hc := hc0
  refine rs (k := rr (k := ro (pre := [_]) (k := rC (h := device_where hq) (k := rh [4] (k := rR (k := ?_))))))
  refine jO 1 ?_; rotate_left
  have hc := hc0
  refine rk (k := rs (k := rg [4] (k := rR (k := ?_))))
  refine jO 1 ?_; rotate_left
  any_goals
    refine jI 1 ?_
    first
      | (have hT : thereF D.c0.length q.at_ q.count = false := by simpa using hc0
         have hB : bodyF D q = (whereF q, D) := by
           unfold bodyF; rw [if_neg (by omega), if_neg (by omega), if_pos (by omega), hT, if_neg Bool.false_ne_true]
         refine Ret.dev D hA (r' := (whereF q : Rep).pv) (by simp only [Try.f42, go_sem, ↓reduceIte] <;> rfl) ?_ (blw_rep _ _) hwf (fun i hi => by
      have h0 := ltn hi; have h1 := lte hi
      rw [putDev_blk]
      simp only [go_sem, Nat.add_assoc, Nat.reduceAdd, ↓reduceIte, h0, h1]
      (repeat' split) <;> first | rfl | (rename_i e; rw [e]; first | exact hA.dv | exact hA.v1 | exact hA.v0 | exact hA.c1 | exact hA.c0) | (exfalso; omega)) ⟨by rw [hB], by rw [hB]⟩
         rfl)
      | (have hT : thereF D.c0.length q.at_ q.count = true := by simpa using hc0
         have hB : bodyF D q = (⟨q.fn, 0, 0, 0, 0, [], cutF D.v1 q.at_ q.count, 0, 0, []⟩, D) := by
           unfold bodyF; rw [if_neg (by omega), if_neg (by omega), if_pos (by omega), hT, if_pos rfl]
         refine Ret.dev D hA (r' := (⟨q.fn, 0, 0, 0, 0, [], cutF D.v1 q.at_ q.count, 0, 0, []⟩ : Rep).pv) (by simp only [Try.f42, go_sem, ↓reduceIte] <;> rfl) ?_ (blw_rep _ _) hwf (fun i hi => by
      have h0 := ltn hi; have h1 := lte hi
      rw [putDev_blk]
      simp only [go_sem, Nat.add_assoc, Nat.reduceAdd, ↓reduceIte, h0, h1]
      (repeat' split) <;> first | rfl | (rename_i e; rw [e]; first | exact hA.dv | exact hA.v1 | exact hA.v0 | exact hA.c1 | exact hA.c0) | (exfalso; omega)) ⟨by rw [hB], by rw [hB]⟩
         simp only [Rep.pv, PV.weak, PV.weaks, weaks_u16, weaks_bools, weaks_u8]; rfl)
attribute [local go_sem] weaks_bools Req.pv Rep.pv
set_option maxRecDepth 100000 in
theorem device_rd4 {b : Nat} {D : Dev} {s : St} (hA : DevAt b D s) (hD : D.ok) {q : Req} (hq : q.ok) (hr : rightF q = 0) (hc : countF q = true) (hf : q.fn = 4) : ACalls Try.prog 42 [.ptr (b + 5) 0 0, q.pv] s (fun r s' => r = (bodyF D q).1.pv ∧ s' = putDev b (bodyF D q).2 s) := by
  refine go Try.func42 (k := fun hwf H => ?_)
  have hdv := hA.dv
  unfold devRow at hdv
  have hlt := hA.lt hwf
  have hA1 : ∀ x y, DevAt b D ((s.new x).new y) := fun x y => (hA.nw hlt x).nw (by show b + 5 < s.nxt + 1; omega) y
  have hd1 := hD.h1
  have hd2 := hD.h2
  have hd3 := hD.c1
  have hd4 := hD.v0
  have hd5 := hD.v1
  have H := aj hdv H
  have hsp : ∀ s, ACalls Try.prog 80 [.int .i64 q.fn] s (fun r s' => r = .int .i64 2 ∧ s' = s) := fun s => by rw [hf]; simpa using device_space (fn := 4) (s := s)
  have hcn := count_of hc (by omega)
  refine rs (k := rg [0, 3, 4] (k := rs (k := ?_)))
  refine Run.drawC [] [3, 4, 5, 6] Try.mixed (by kernel_rfl) ?_
  refine DetC.pre (pre := [_, _, _, _, _, _]) au ?_
  refine DetC.call au au au (by kernel_rfl) (hsp _) ?_
  refine DetC.pre (pre := [_, _, _, _]) au ?_
  refine DetC.call au au au (by kernel_rfl) (store_get2 (hA1 _ _).st (hA1 _ _).v0 (by omega) hd2 hq.at_ hcn) ?_
  refine DetC.all au ?_
  refine re (k := rs (k := rs (k := rg [3, 4, 5, 23] (k := rc (ht := fun hc0 => ?_) (hf := fun hc0 => ?_)))))
  have hc := hc0
  refine rs (k := rr (k := ro (pre := [_]) (k := rC (h := device_where hq) (k := rh [4] (k := rR (k := ?_))))))
  refine jO 1 ?_; rotate_left
  have hc := hc0
  refine rk (k := rs (k := rg [4] (k := rR (k := ?_))))
  refine jO 1 ?_; rotate_left
  any_goals
    refine jI 1 ?_
    first
      | (have hT : thereF D.c0.length q.at_ q.count = false := by simpa using hc0
         have hB : bodyF D q = (whereF q, D) := by
           unfold bodyF; rw [if_neg (by omega), if_neg (by omega), if_neg (by omega), if_pos (by omega), hT, if_neg Bool.false_ne_true]
         refine Ret.dev D hA (r' := (whereF q : Rep).pv) (by simp only [Try.f42, go_sem, ↓reduceIte] <;> rfl) ?_ (blw_rep _ _) hwf (fun i hi => by
      have h0 := ltn hi; have h1 := lte hi
      rw [putDev_blk]
      simp only [go_sem, Nat.add_assoc, Nat.reduceAdd, ↓reduceIte, h0, h1]
      (repeat' split) <;> first | rfl | (rename_i e; rw [e]; first | exact hA.dv | exact hA.v1 | exact hA.v0 | exact hA.c1 | exact hA.c0) | (exfalso; omega)) ⟨by rw [hB], by rw [hB]⟩
         rfl)
      | (have hT : thereF D.c0.length q.at_ q.count = true := by simpa using hc0
         have hB : bodyF D q = (⟨q.fn, 0, 0, 0, 0, [], cutF D.v0 q.at_ q.count, 0, 0, []⟩, D) := by
           unfold bodyF; rw [if_neg (by omega), if_neg (by omega), if_neg (by omega), if_pos (by omega), hT, if_pos rfl]
         refine Ret.dev D hA (r' := (⟨q.fn, 0, 0, 0, 0, [], cutF D.v0 q.at_ q.count, 0, 0, []⟩ : Rep).pv) (by simp only [Try.f42, go_sem, ↓reduceIte] <;> rfl) ?_ (blw_rep _ _) hwf (fun i hi => by
      have h0 := ltn hi; have h1 := lte hi
      rw [putDev_blk]
      simp only [go_sem, Nat.add_assoc, Nat.reduceAdd, ↓reduceIte, h0, h1]
      (repeat' split) <;> first | rfl | (rename_i e; rw [e]; first | exact hA.dv | exact hA.v1 | exact hA.v0 | exact hA.c1 | exact hA.c0) | (exfalso; omega)) ⟨by rw [hB], by rw [hB]⟩
         simp only [Rep.pv, PV.weak, PV.weaks, weaks_u16, weaks_bools, weaks_u8]; rfl)
end Go.Proofs
namespace Go.Proofs
open Go.PM
set_option maxHeartbeats 2000000
attribute [local go_sem] weaks_bools Req.pv Rep.pv
set_option maxRecDepth 100000 in
theorem device_wr5 {b : Nat} {D : Dev} {s : St} (hA : DevAt b D s) (hD : D.ok) {q : Req} (hq : q.ok) (hr : rightF q = 0) (hc : countF q = true) (hf : q.fn = 5) : ACalls Try.prog 43 [.ptr (b + 5) 0 0, q.pv] s (fun r s' => r = (bodyF D q).1.pv ∧ s' = putDev b (bodyF D q).2 s) := by
  refine go Try.func43 (k := fun hwf H => ?_)
  have hdv := hA.dv
  unfold devRow at hdv
  have hlt := hA.lt hwf
  have hA1 : ∀ x y, DevAt b D ((s.new x).new y) := fun x y => (hA.nw hlt x).nw (by show b + 5 < s.nxt + 1; omega) y
  have hd1 := hD.h1
  have hd2 := hD.h2
  have hd3 := hD.c1
  have hd4 := hD.v0
  have hd5 := hD.v1
  have H := aj hdv H
  have hfT : decide (q.fn = 15) = false := by rw [hf]; rfl
  have hne := bits_of hr hc (by omega)
  have H := aj hfT H
  refine rs (k := rg [0, 3, 4] (k := rs (k := rs (k := ?_))))
  refine Run.drawCut 8 [] Try.mixed (by kernel_rfl) (by kernel_rfl) ?_
  refine DetC.all au ?_
  refine RunO.callw au au au (by kernel_rfl) ((store_put0 (hA1 _ _).st (hA1 _ _).c0 (by omega) hd2 hq.at_ hne (by omega)).mono ?_)
  rintro r s1 ⟨rfl, hs⟩
  refine rh [3, 4, 14] (k := rc (ht := fun hc0 => ?_) (hf := fun hc0 => ?_))
  have hc := hc0
  refine rs (k := ?_)
  have hT : thereF D.c0.length q.at_ q.bits.length = false := by simpa using hc0
  rw [hT, if_neg Bool.false_ne_true] at hs
  subst hs
  refine rr (k := ro (pre := [_]) (k := rC (h := device_where hq) (k := rh [4] (k := rR (k := ?_)))))
  refine jO 1 ?_; rotate_left
  have hc := hc0
  refine rk (k := rs (k := rs (k := ?_)))
  have hT : thereF D.c0.length q.at_ q.bits.length = true := by simpa using hc0
  rw [hT, if_pos rfl] at hs
  subst hs
  refine rg [3, 4, 19] (k := rc (ht := fun hc1 => ?_) (hf := fun hc1 => ?_))
  · cases hc1
  have hc := hc1
  refine rk (k := rs (k := ?_))
  obtain ⟨y, ys, hye⟩ : ∃ y ys, q.bits = y :: ys := by cases hh : q.bits with | nil => exact absurd hh hne | cons y ys => exact ⟨y, ys, rfl⟩
  have hy0 : (q.bits[0]?).getD false = y := by rw [hye]; rfl
  have hyy : (q.bits.map PV.bool)[0]? = some (.bool y) := by rw [hye]; rfl
  have hyl : (0 < q.bits.length) = True := by rw [hye]; simp
  have H := aj hyy (aj hyl H)
  refine Run.drawC [10] [4] Try.mixed (by kernel_rfl) ?_
  refine DetC.pre (pre := [_, _, _, _, _, _, _, _, _, _]) au ?_
  refine DetC.eff (by decide) au au ?_
  refine DetC.nil ?_
  refine re (k := rR (k := ?_))
  refine jO 1 ?_; rotate_left
  any_goals
    refine jI 1 ?_
    first
      | (have hT : thereF D.c0.length q.at_ q.bits.length = false := by simpa using hc0
         have hB : bodyF D q = (whereF q, D) := by
           unfold bodyF; rw [if_neg (by omega), if_neg (by omega), if_neg (by omega), if_neg (by omega), if_pos (by omega), hT, if_neg Bool.false_ne_true]
         refine Ret.dev D hA (r' := (whereF q : Rep).pv) (by simp only [Try.f43, go_sem, ↓reduceIte] <;> rfl) ?_ (blw_rep _ _) hwf (fun i hi => by
      have h0 := ltn hi; have h1 := lte hi
      rw [putDev_blk]
      simp only [go_sem, Nat.add_assoc, Nat.reduceAdd, ↓reduceIte, h0, h1]
      (repeat' split) <;> first | rfl | (rename_i e; rw [e]; first | exact hA.dv | exact hA.v1 | exact hA.v0 | exact hA.c1 | exact hA.c0) | (exfalso; omega)) ⟨by rw [hB], by rw [hB]⟩
         rfl)
      | (have hT : thereF D.c0.length q.at_ q.bits.length = true := by simpa using hc0
         have hB : bodyF D q = (⟨q.fn, 0, q.at_, 0, 0, [(q.bits[0]?).getD false], [], 0, 0, []⟩, { D with c0 := overF D.c0 q.at_.toNat q.bits }) := by
           unfold bodyF; rw [if_neg (by omega), if_neg (by omega), if_neg (by omega), if_neg (by omega), if_pos (by omega), hT, if_pos rfl, if_neg (by omega)]
         refine Ret.dev { D with c0 := overF D.c0 q.at_.toNat q.bits } hA (r' := (⟨q.fn, 0, q.at_, 0, 0, [(q.bits[0]?).getD false], [], 0, 0, []⟩ : Rep).pv) (by simp only [Try.f43, go_sem, ↓reduceIte] <;> rfl) ?_ (blw_rep _ _) hwf (fun i hi => by
      have h0 := ltn hi; have h1 := lte hi
      rw [putDev_blk]
      simp only [go_sem, Nat.add_assoc, Nat.reduceAdd, ↓reduceIte, h0, h1]
      (repeat' split) <;> first | rfl | (rename_i e; rw [e]; first | exact hA.dv | exact hA.v1 | exact hA.v0 | exact hA.c1 | exact hA.c0) | (exfalso; omega)) ⟨by rw [hB], by rw [hB]⟩
         simp only [Rep.pv, PV.weak, PV.weaks, weaks_u16, weaks_bools, weaks_u8, hy0]; rfl)
attribute [local go_sem] weaks_bools Req.pv Rep.pv
set_option maxRecDepth 100000 in
theorem device_wr15 {b : Nat} {D : Dev} {s : St} (hA : DevAt b D s) (hD : D.ok) {q : Req} (hq : q.ok) (hr : rightF q = 0) (hc : countF q = true) (hf : q.fn = 15) : ACalls Try.prog 43 [.ptr (b + 5) 0 0, q.pv] s (fun r s' => r = (bodyF D q).1.pv ∧ s' = putDev b (bodyF D q).2 s) := by
  refine go Try.func43 (k := fun hwf H => ?_)
  have hdv := hA.dv
  unfold devRow at hdv
  have hlt := hA.lt hwf
  have hA1 : ∀ x y, DevAt b D ((s.new x).new y) := fun x y => (hA.nw hlt x).nw (by show b + 5 < s.nxt + 1; omega) y
  have hd1 := hD.h1
  have hd2 := hD.h2
  have hd3 := hD.c1
  have hd4 := hD.v0
  have hd5 := hD.v1
  have H := aj hdv H
  have hfT : decide (q.fn = 15) = true := by rw [hf]; rfl
  have hne := bits_of hr hc (by omega)
  have H := aj hfT H
  refine rs (k := rg [0, 3, 4] (k := rs (k := rs (k := ?_))))
  refine Run.drawCut 8 [] Try.mixed (by kernel_rfl) (by kernel_rfl) ?_
  refine DetC.all au ?_
  refine RunO.callw au au au (by kernel_rfl) ((store_put0 (hA1 _ _).st (hA1 _ _).c0 (by omega) hd2 hq.at_ hne (by omega)).mono ?_)
  rintro r s1 ⟨rfl, hs⟩
  refine rh [3, 4, 14] (k := rc (ht := fun hc0 => ?_) (hf := fun hc0 => ?_))
  have hc := hc0
  refine rs (k := ?_)
  have hT : thereF D.c0.length q.at_ q.bits.length = false := by simpa using hc0
  rw [hT, if_neg Bool.false_ne_true] at hs
  subst hs
  refine rr (k := ro (pre := [_]) (k := rC (h := device_where hq) (k := rh [4] (k := rR (k := ?_)))))
  refine jO 1 ?_; rotate_left
  have hc := hc0
  refine rk (k := rs (k := rs (k := ?_)))
  have hT : thereF D.c0.length q.at_ q.bits.length = true := by simpa using hc0
  rw [hT, if_pos rfl] at hs
  subst hs
  refine rg [3, 4, 19] (k := rc (ht := fun hc1 => ?_) (hf := fun hc1 => ?_))
  have hc := hc1
  refine rs (k := rg [4] (k := rR (k := ?_)))
  refine jO 1 ?_; rotate_left
  · cases hc1
  any_goals
    refine jI 1 ?_
    first
      | (have hT : thereF D.c0.length q.at_ q.bits.length = false := by simpa using hc0
         have hB : bodyF D q = (whereF q, D) := by
           unfold bodyF; rw [if_neg (by omega), if_neg (by omega), if_neg (by omega), if_neg (by omega), if_pos (by omega), hT, if_neg Bool.false_ne_true]
         refine Ret.dev D hA (r' := (whereF q : Rep).pv) (by simp only [Try.f43, go_sem, ↓reduceIte] <;> rfl) ?_ (blw_rep _ _) hwf (fun i hi => by
      have h0 := ltn hi; have h1 := lte hi
      rw [putDev_blk]
      simp only [go_sem, Nat.add_assoc, Nat.reduceAdd, ↓reduceIte, h0, h1]
      (repeat' split) <;> first | rfl | (rename_i e; rw [e]; first | exact hA.dv | exact hA.v1 | exact hA.v0 | exact hA.c1 | exact hA.c0) | (exfalso; omega)) ⟨by rw [hB], by rw [hB]⟩
         rfl)
      | (have hT : thereF D.c0.length q.at_ q.bits.length = true := by simpa using hc0
         have hB : bodyF D q = (⟨q.fn, 0, q.at_, q.count, 0, [], [], 0, 0, []⟩, { D with c0 := overF D.c0 q.at_.toNat q.bits }) := by
           unfold bodyF; rw [if_neg (by omega), if_neg (by omega), if_neg (by omega), if_neg (by omega), if_pos (by omega), hT, if_pos rfl, if_pos hf]
         refine Ret.dev { D with c0 := overF D.c0 q.at_.toNat q.bits } hA (r' := (⟨q.fn, 0, q.at_, q.count, 0, [], [], 0, 0, []⟩ : Rep).pv) (by simp only [Try.f43, go_sem, ↓reduceIte] <;> rfl) ?_ (blw_rep _ _) hwf (fun i hi => by
      have h0 := ltn hi; have h1 := lte hi
      rw [putDev_blk]
      simp only [go_sem, Nat.add_assoc, Nat.reduceAdd, ↓reduceIte, h0, h1]
      (repeat' split) <;> first | rfl | (rename_i e; rw [e]; first | exact hA.dv | exact hA.v1 | exact hA.v0 | exact hA.c1 | exact hA.c0) | (exfalso; omega)) ⟨by rw [hB], by rw [hB]⟩
         simp only [Rep.pv, PV.weak, PV.weaks, weaks_u16, weaks_bools, weaks_u8]; rfl)
attribute [local go_sem] weaks_bools Req.pv Rep.pv
set_option maxRecDepth 100000 in
theorem device_wr6 {b : Nat} {D : Dev} {s : St} (hA : DevAt b D s) (hD : D.ok) {q : Req} (hq : q.ok) (hr : rightF q = 0) (hc : countF q = true) (hf : q.fn = 6) : ACalls Try.prog 44 [.ptr (b + 5) 0 0, q.pv] s (fun r s' => r = (bodyF D q).1.pv ∧ s' = putDev b (bodyF D q).2 s) := by
  refine go Try.func44 (k := fun hwf H => ?_)
  have hdv := hA.dv
  unfold devRow at hdv
  have hlt := hA.lt hwf
  have hA1 : ∀ x y, DevAt b D ((s.new x).new y) := fun x y => (hA.nw hlt x).nw (by show b + 5 < s.nxt + 1; omega) y
  have hd1 := hD.h1
  have hd2 := hD.h2
  have hd3 := hD.c1
  have hd4 := hD.v0
  have hd5 := hD.v1
  have H := aj hdv H
  have hfT : decide (q.fn = 16) = false := by rw [hf]; rfl
  have hne := vals_of hr hc (by omega)
  have H := aj hfT H
  refine rs (k := rg [0, 3, 4] (k := rs (k := rs (k := ?_))))
  refine Run.drawCut 8 [] Try.mixed (by kernel_rfl) (by kernel_rfl) ?_
  refine DetC.all au ?_
  refine RunO.callw au au au (by kernel_rfl) ((store_put3 (hA1 _ _).st (hA1 _ _).v1 (by omega) hd2 hq.at_ hne (by omega)).mono ?_)
  rintro r s1 ⟨rfl, hs⟩
  refine rh [3, 4, 14] (k := rc (ht := fun hc0 => ?_) (hf := fun hc0 => ?_))
  have hc := hc0
  refine rs (k := ?_)
  have hT : thereF D.c0.length q.at_ q.vals.length = false := by simpa using hc0
  rw [hT, if_neg Bool.false_ne_true] at hs
  subst hs
  refine rr (k := ro (pre := [_]) (k := rC (h := device_where hq) (k := rh [4] (k := rR (k := ?_)))))
  refine jO 1 ?_; rotate_left
  have hc := hc0
  refine rk (k := rs (k := rs (k := ?_)))
  have hT : thereF D.c0.length q.at_ q.vals.length = true := by simpa using hc0
  rw [hT, if_pos rfl] at hs
  subst hs
  refine rg [3, 4, 19] (k := rc (ht := fun hc1 => ?_) (hf := fun hc1 => ?_))
  · cases hc1
  have hc := hc1
  refine rk (k := rs (k := ?_))
  obtain ⟨y, ys, hye⟩ : ∃ y ys, q.vals = y :: ys := by cases hh : q.vals with | nil => exact absurd hh hne | cons y ys => exact ⟨y, ys, rfl⟩
  have hy0 : (q.vals[0]?).getD 0 = y := by rw [hye]; rfl
  have hyy : (q.vals.map (PV.int .u16))[0]? = some (.int .u16 y) := by rw [hye]; rfl
  have hyl : (0 < q.vals.length) = True := by rw [hye]; simp
  have H := aj hyy (aj hyl H)
  refine Run.drawC [10] [4] Try.mixed (by kernel_rfl) ?_
  refine DetC.pre (pre := [_, _, _, _, _, _, _, _, _, _]) au ?_
  refine DetC.eff (by decide) au au ?_
  refine DetC.nil ?_
  refine re (k := rR (k := ?_))
  refine jO 1 ?_; rotate_left
  any_goals
    refine jI 1 ?_
    first
      | (have hT : thereF D.c0.length q.at_ q.vals.length = false := by simpa using hc0
         have hB : bodyF D q = (whereF q, D) := by
           unfold bodyF; rw [if_neg (by omega), if_neg (by omega), if_neg (by omega), if_neg (by omega), if_neg (by omega), if_pos (by omega), hT, if_neg Bool.false_ne_true]
         refine Ret.dev D hA (r' := (whereF q : Rep).pv) (by simp only [Try.f44, go_sem, ↓reduceIte] <;> rfl) ?_ (blw_rep _ _) hwf (fun i hi => by
      have h0 := ltn hi; have h1 := lte hi
      rw [putDev_blk]
      simp only [go_sem, Nat.add_assoc, Nat.reduceAdd, ↓reduceIte, h0, h1]
      (repeat' split) <;> first | rfl | (rename_i e; rw [e]; first | exact hA.dv | exact hA.v1 | exact hA.v0 | exact hA.c1 | exact hA.c0) | (exfalso; omega)) ⟨by rw [hB], by rw [hB]⟩
         rfl)
      | (have hT : thereF D.c0.length q.at_ q.vals.length = true := by simpa using hc0
         have hB : bodyF D q = (⟨q.fn, 0, q.at_, 0, 0, [], [(q.vals[0]?).getD 0], 0, 0, []⟩, { D with v1 := overF D.v1 q.at_.toNat q.vals }) := by
           unfold bodyF; rw [if_neg (by omega), if_neg (by omega), if_neg (by omega), if_neg (by omega), if_neg (by omega), if_pos (by omega), hT, if_pos rfl, if_neg (by omega)]
         refine Ret.dev { D with v1 := overF D.v1 q.at_.toNat q.vals } hA (r' := (⟨q.fn, 0, q.at_, 0, 0, [], [(q.vals[0]?).getD 0], 0, 0, []⟩ : Rep).pv) (by simp only [Try.f44, go_sem, ↓reduceIte] <;> rfl) ?_ (blw_rep _ _) hwf (fun i hi => by
      have h0 := ltn hi; have h1 := lte hi
      rw [putDev_blk]
      simp only [go_sem, Nat.add_assoc, Nat.reduceAdd, ↓reduceIte, h0, h1]
      (repeat' split) <;> first | rfl | (rename_i e; rw [e]; first | exact hA.dv | exact hA.v1 | exact hA.v0 | exact hA.c1 | exact hA.c0) | (exfalso; omega)) ⟨by rw [hB], by rw [hB]⟩
         simp only [Rep.pv, PV.weak, PV.weaks, weaks_u16, weaks_bools, weaks_u8, hy0]; rfl)
attribute [local go_sem] weaks_bools Req.pv Rep.pv
set_option maxRecDepth 100000 in
theorem device_wr16 {b : Nat} {D : Dev} {s : St} (hA : DevAt b D s) (hD : D.ok) {q : Req} (hq : q.ok) (hr : rightF q = 0) (hc : countF q = true) (hf : q.fn = 16) : ACalls Try.prog 44 [.ptr (b + 5) 0 0, q.pv] s (fun r s' => r = (bodyF D q).1.pv ∧ s' = putDev b (bodyF D q).2 s) := by
  refine go Try.func44 (k := fun hwf H => ?_)
  have hdv := hA.dv
  unfold devRow at hdv
  have hlt := hA.lt hwf
  have hA1 : ∀ x y, DevAt b D ((s.new x).new y) := fun x y => (hA.nw hlt x).nw (by show b + 5 < s.nxt + 1; omega) y
  have hd1 := hD.h1
  have hd2 := hD.h2
  have hd3 := hD.c1
  have hd4 := hD.v0
  have hd5 := hD.v1
  have H := aj hdv H
  have hfT : decide (q.fn = 16) = true := by rw [hf]; rfl
  have hne := vals_of hr hc (by omega)
  have H := aj hfT H
  refine rs (k := rg [0, 3, 4] (k := rs (k := rs (k := ?_))))
  refine Run.drawCut 8 [] Try.mixed (by kernel_rfl) (by kernel_rfl) ?_
  refine DetC.all au ?_
  refine RunO.callw au au au (by kernel_rfl) ((store_put3 (hA1 _ _).st (hA1 _ _).v1 (by omega) hd2 hq.at_ hne (by omega)).mono ?_)
  rintro r s1 ⟨rfl, hs⟩
  refine rh [3, 4, 14] (k := rc (ht := fun hc0 => ?_) (hf := fun hc0 => ?_))
  have hc := hc0
  refine rs (k := ?_)
  have hT : thereF D.c0.length q.at_ q.vals.length = false := by simpa using hc0
  rw [hT, if_neg Bool.false_ne_true] at hs
  subst hs
  refine rr (k := ro (pre := [_]) (k := rC (h := device_where hq) (k := rh [4] (k := rR (k := ?_)))))
  refine jO 1 ?_; rotate_left
  have hc := hc0
  refine rk (k := rs (k := rs (k := ?_)))
  have hT : thereF D.c0.length q.at_ q.vals.length = true := by simpa using hc0
  rw [hT, if_pos rfl] at hs
  subst hs
  refine rg [3, 4, 19] (k := rc (ht := fun hc1 => ?_) (hf := fun hc1 => ?_))
  have hc := hc1
  refine rs (k := rg [4] (k := rR (k := ?_)))
  refine jO 1 ?_; rotate_left
  · cases hc1
  any_goals
    refine jI 1 ?_
    first
      | (have hT : thereF D.c0.length q.at_ q.vals.length = false := by simpa using hc0
         have hB : bodyF D q = (whereF q, D) := by
           unfold bodyF; rw [if_neg (by omega), if_neg (by omega), if_neg (by omega), if_neg (by omega), if_neg (by omega), if_pos (by omega), hT, if_neg Bool.false_ne_true]
         refine Ret.dev D hA (r' := (whereF q : Rep).pv) (by simp only [Try.f44, go_sem, ↓reduceIte] <;> rfl) ?_ (blw_rep _ _) hwf (fun i hi => by
      have h0 := ltn hi; have h1 := lte hi
      rw [putDev_blk]
      simp only [go_sem, Nat.add_assoc, Nat.reduceAdd, ↓reduceIte, h0, h1]
      (repeat' split) <;> first | rfl | (rename_i e; rw [e]; first | exact hA.dv | exact hA.v1 | exact hA.v0 | exact hA.c1 | exact hA.c0) | (exfalso; omega)) ⟨by rw [hB], by rw [hB]⟩
         rfl)
      | (have hT : thereF D.c0.length q.at_ q.vals.length = true := by simpa using hc0
         have hB : bodyF D q = (⟨q.fn, 0, q.at_, q.count, 0, [], [], 0, 0, []⟩, { D with v1 := overF D.v1 q.at_.toNat q.vals }) := by
           unfold bodyF; rw [if_neg (by omega), if_neg (by omega), if_neg (by omega), if_neg (by omega), if_neg (by omega), if_pos (by omega), hT, if_pos rfl, if_pos hf]
         refine Ret.dev { D with v1 := overF D.v1 q.at_.toNat q.vals } hA (r' := (⟨q.fn, 0, q.at_, q.count, 0, [], [], 0, 0, []⟩ : Rep).pv) (by simp only [Try.f44, go_sem, ↓reduceIte] <;> rfl) ?_ (blw_rep _ _) hwf (fun i hi => by
      have h0 := ltn hi; have h1 := lte hi
      rw [putDev_blk]
      simp only [go_sem, Nat.add_assoc, Nat.reduceAdd, ↓reduceIte, h0, h1]
      (repeat' split) <;> first | rfl | (rename_i e; rw [e]; first | exact hA.dv | exact hA.v1 | exact hA.v0 | exact hA.c1 | exact hA.c0) | (exfalso; omega)) ⟨by rw [hB], by rw [hB]⟩
         simp only [Rep.pv, PV.weak, PV.weaks, weaks_u16, weaks_bools, weaks_u8]; rfl)
end Go.Proofs
namespace Go.Proofs
open Go.PM
set_option maxHeartbeats 2000000
attribute [local go_sem] weaks_bools Req.pv Rep.pv
set_option maxRecDepth 100000 in
theorem device_ident {b : Nat} {D : Dev} {s : St} (hA : DevAt b D s) (hD : D.ok) {q : Req} (hq : q.ok) (hr : rightF q = 0) (hc : countF q = true) (hf : q.fn = 17) : ACalls Try.prog 46 [.ptr (b + 5) 0 0, q.pv] s (fun r s' => r = (bodyF D q).1.pv ∧ s' = putDev b (bodyF D q).2 s) := by
  refine go Try.func46 (k := fun hwf H => ?_)
  have hdv := hA.dv
  unfold devRow at hdv
  have hlt := hA.lt hwf
  have hA1 : ∀ x y, DevAt b D ((s.new x).new y) := fun x y => (hA.nw hlt x).nw (by show b + 5 < s.nxt + 1; omega) y
  have hd1 := hD.h1
  have hd2 := hD.h2
  have hd3 := hD.c1
  have hd4 := hD.v0
  have hd5 := hD.v1
  have H := aj hdv H
  refine rs (k := rg [0, 3, 4] (k := rs (k := ?_)))
  refine Run.drawC [8] [4] Try.mixed (by kernel_rfl) ?_
  refine DetC.pre (pre := [_, _, _, _, _, _, _, _]) au ?_
  refine DetC.eff (by decide) au au ?_
  refine DetC.nil ?_
  refine re (k := rR (k := ?_))
  first
    | (have hB : bodyF D q = (⟨q.fn, 0, 0, 0, 0, [], [], 0, 0, [D.unit, 255]⟩, D) := by
         unfold bodyF; rw [if_neg (by omega), if_neg (by omega), if_neg (by omega), if_neg (by omega), if_neg (by omega), if_neg (by omega), if_neg (by omega), if_pos (by omega)]
       refine Ret.dev D hA (r' := (⟨q.fn, 0, 0, 0, 0, [], [], 0, 0, [D.unit, 255]⟩ : Rep).pv) (by simp only [Try.f46, go_sem, ↓reduceIte] <;> rfl) ?_ (blw_rep _ _) hwf (fun i hi => by
    have h0 := ltn hi; have h1 := lte hi
    rw [putDev_blk]
    simp only [go_sem, Nat.add_assoc, Nat.reduceAdd, ↓reduceIte, h0, h1]
    (repeat' split) <;> first | rfl | (rename_i e; rw [e]; first | exact hA.dv | exact hA.v1 | exact hA.v0 | exact hA.c1 | exact hA.c0) | (exfalso; omega)) ⟨by rw [hB], by rw [hB]⟩
       simp only [Rep.pv, PV.weak, PV.weaks, weaks_u16, weaks_bools, weaks_u8]; rfl)
attribute [local go_sem] set_set weaks_bools Req.pv Rep.pv
set_option maxRecDepth 100000 in
theorem device_diag {b : Nat} {D : Dev} {s : St} (hA : DevAt b D s) (hD : D.ok) {q : Req} (hq : q.ok) (hr : rightF q = 0) (hc : countF q = true) (hf : q.fn = 8) : ACalls Try.prog 45 [.ptr (b + 5) 0 0, q.pv] s (fun r s' => r = (bodyF D q).1.pv ∧ s' = putDev b (bodyF D q).2 s) := by
  refine go Try.func45 (k := fun hwf H => ?_)
  have hdv := hA.dv
  unfold devRow at hdv
  have hlt := hA.lt hwf
  have hA1 : ∀ x y, DevAt b D ((s.new x).new y) := fun x y => (hA.nw hlt x).nw (by show b + 5 < s.nxt + 1; omega) y
  have hd1 := hD.h1
  have hd2 := hD.h2
  have hd3 := hD.c1
  have hd4 := hD.v0
  have hd5 := hD.v1
  have H := aj hdv H
  have hne := vals_of hr hc (by omega)
  obtain ⟨y, ys, hye⟩ : ∃ y ys, q.vals = y :: ys := by cases hh : q.vals with | nil => exact absurd hh hne | cons y ys => exact ⟨y, ys, rfl⟩
  have hy0 : (q.vals[0]?).getD 0 = y := by rw [hye]; rfl
  have hyy : (q.vals.map (PV.int .u16))[0]? = some (.int .u16 y) := by rw [hye]; rfl
  have hyl : (0 < q.vals.length) = True := by rw [hye]; simp
  have H := aj hyy (aj hyl H)
  have h3 : I64 3 := by constructor <;> decide
  refine rs (k := rg [0, 3, 4] (k := rs (k := rg [0, 3, 4, 5] (k := rs (k := rs (k := rg [0, 3, 4, 5, 11] (k := rb (k := rs (k := rg [0, 3, 4, 5, 11, 15] (k := rc (ht := fun hc0 => ?_) (hf := fun hc0 => ?_)))))))))))
  have hc := hc0
  refine jO 1 ?_; rotate_left
  have hc := hc0
  refine rs (k := rg [0, 3, 4, 5, 11, 17] (k := rc (ht := fun hc1 => ?_) (hf := fun hc1 => ?_)))
  have hc := hc1
  refine jO 2 ?_; rotate_left
  have hc := hc1
  refine rs (k := rs (k := rg [0, 3, 4, 5, 11, 25] (k := rc (ht := fun hc2 => ?_) (hf := fun hc2 => ?_))))
  have hc := hc2
  refine rk (k := rc (ht := fun hc4 => ?_) (hf := fun hc4 => ?_))
  refine jO 3 ?_; rotate_left
  · exact Bool.noConfusion (hc2.symm.trans hc4)
  have hc := hc2
  refine rs (k := rg [0, 3, 4, 5, 11, 25] (k := rc (ht := fun hc3 => ?_) (hf := fun hc3 => ?_)))
  have hc := hc3
  refine rk (k := rc (ht := fun hc4 => ?_) (hf := fun hc4 => ?_))
  refine jO 3 ?_; rotate_left
  · exact Bool.noConfusion (hc3.symm.trans hc4)
  have hc := hc3
  refine rg [0, 3, 4, 5, 25] (k := rc (ht := fun hc4 => ?_) (hf := fun hc4 => ?_))
  refine jO 3 ?_; rotate_left
  have hc := hc4
  refine jO 4 ?_; rotate_left
  any_goals
    refine jI 3 ?_
    have hc := hc4
    refine jO 5 ?_; rotate_left
  any_goals
    refine jI 5 ?_
    refine rs (k := rs (k := rg [0, 3, 4, 30] (k := rc (ht := fun hc5 => ?_) (hf := fun hc5 => ?_))))
    refine jO 6 ?_; rotate_left
    refine jO 7 ?_; rotate_left
  any_goals
    refine jI 7 ?_
    have hc := hc5
    refine jO 8 ?_; rotate_left
  any_goals
    refine jI 8 ?_
    refine rk (k := rs (k := rg [0, 3, 4, 5] (k := rs (k := rg [0, 3, 4, 5, 41] (k := rc (ht := fun hc6 => ?_) (hf := fun hc6 => ?_))))))
    refine jO 9 ?_; rotate_left
    refine jO 10 ?_; rotate_left
  any_goals
    refine jI 6 ?_
    have hc := hc5
    refine jO 4 ?_; rotate_left
  any_goals
    refine jI 4 ?_
    refine rs (k := rr (k := ro (pre := [_, _]) (k := rC (h := reply_Refuse (fn := q.fn) (code := 3) hq.fn h3) (k := rh [4] (k := rR (k := ?_))))))
    refine jO 11 ?_; rotate_left
  any_goals
    refine jI 9 ?_
    have hc := hc6
    refine jO 2 ?_; rotate_left
  any_goals
    refine jI 10 ?_
    have hc := hc6
    refine jO 1 ?_; rotate_left
  any_goals
    refine jI 2 ?_
    refine rg [3, 4, 5] (k := rB (k := rs (k := rr (k := ro (pre := [_, _, _, _, _]) (k := rO (k := rh [4] (k := rR (k := ?_))))))))
    refine jO 11 ?_; rotate_left
  any_goals
    refine jI 1 ?_
    refine rk (k := rB (k := rs (k := rr (k := ro (pre := [_, _, _, _, _]) (k := rO (k := rh [4] (k := rR (k := ?_))))))))
    refine jO 11 ?_; rotate_left
  any_goals
    refine jI 11 ?_
    simp only [decide_eq_true_eq, decide_eq_false_iff_not, Bool.not_eq_true', Bool.not_eq_false'] at *
    refine jO 12 ?_; rotate_left
  any_goals
    refine jI 12 ?_
    first
      | (have hB : bodyF D q = (⟨q.fn, 0, 0, 0, q.sub, [], [y], 0, 0, []⟩, D) := by
           unfold bodyF; rw [if_neg (by omega), if_neg (by omega), if_neg (by omega), if_neg (by omega), if_neg (by omega), if_neg (by omega), if_pos (by omega)]
           unfold diagF
           simp only [hy0]
           rw [if_pos (by omega)]
         refine Ret.dev D hA (r' := (⟨q.fn, 0, 0, 0, q.sub, [], [y], 0, 0, []⟩ : Rep).pv) (by simp only [Try.f45, go_sem, ↓reduceIte] <;> rfl) ?_ (blw_rep _ _) hwf (fun i hi => by
      have h0 := ltn hi; have h1 := lte hi
      rw [putDev_blk]
      simp only [go_sem, Nat.add_assoc, Nat.reduceAdd, ↓reduceIte, h0, h1]
      (repeat' split) <;> first | rfl | (rename_i e; rw [e]; first | exact hA.dv | exact hA.v1 | exact hA.v0 | exact hA.c1 | exact hA.c0) | (exfalso; omega)) ⟨by rw [hB], by rw [hB]⟩
         simp only [Rep.pv, PV.weak, PV.weaks, weaks_u16, weaks_bools, weaks_u8]; rfl)
      | (have hB : bodyF D q = (⟨q.fn, 0, 0, 0, q.sub, [], [y], 0, 0, []⟩, { D with msgs := 0, exc := 0 }) := by
           unfold bodyF; rw [if_neg (by omega), if_neg (by omega), if_neg (by omega), if_neg (by omega), if_neg (by omega), if_neg (by omega), if_pos (by omega)]
           unfold diagF
           simp only [hy0]
           rw [if_neg (by omega), if_pos (by omega)]
         refine Ret.dev { D with msgs := 0, exc := 0 } hA (r' := (⟨q.fn, 0, 0, 0, q.sub, [], [y], 0, 0, []⟩ : Rep).pv) (by simp only [Try.f45, go_sem, ↓reduceIte] <;> rfl) ?_ (blw_rep _ _) hwf (fun i hi => by
      have h0 := ltn hi; have h1 := lte hi
      rw [putDev_blk]
      simp only [go_sem, Nat.add_assoc, Nat.reduceAdd, ↓reduceIte, h0, h1]
      (repeat' split) <;> first | rfl | (rename_i e; rw [e]; first | exact hA.dv | exact hA.v1 | exact hA.v0 | exact hA.c1 | exact hA.c0) | (exfalso; omega)) ⟨by rw [hB], by rw [hB]⟩
         simp only [Rep.pv, PV.weak, PV.weaks, weaks_u16, weaks_bools, weaks_u8]; rfl)
      | (have hB : bodyF D q = (refuseP q.fn 3, D) := by
           unfold bodyF; rw [if_neg (by omega), if_neg (by omega), if_neg (by omega), if_neg (by omega), if_neg (by omega), if_neg (by omega), if_pos (by omega)]
           unfold diagF
           simp only [hy0]
           rw [if_neg (by omega), if_neg (by omega), if_pos (by omega), if_pos (by omega)]
         refine Ret.dev D hA (r' := (refuseP q.fn 3 : Rep).pv) (by simp only [Try.f45, go_sem, ↓reduceIte] <;> rfl) ?_ (blw_rep _ _) hwf (fun i hi => by
      have h0 := ltn hi; have h1 := lte hi
      rw [putDev_blk]
      simp only [go_sem, Nat.add_assoc, Nat.reduceAdd, ↓reduceIte, h0, h1]
      (repeat' split) <;> first | rfl | (rename_i e; rw [e]; first | exact hA.dv | exact hA.v1 | exact hA.v0 | exact hA.c1 | exact hA.c0) | (exfalso; omega)) ⟨by rw [hB], by rw [hB]⟩
         rfl)
      | (have hB : bodyF D q = (⟨q.fn, 0, 0, 0, q.sub, [], [IntKind.u16.wrap D.exc], 0, 0, []⟩, D) := by
           unfold bodyF; rw [if_neg (by omega), if_neg (by omega), if_neg (by omega), if_neg (by omega), if_neg (by omega), if_neg (by omega), if_pos (by omega)]
           unfold diagF
           simp only [hy0]
           rw [if_neg (by omega), if_neg (by omega), if_pos (by omega), if_neg (by omega), if_pos (by omega)]
         refine Ret.dev D hA (r' := (⟨q.fn, 0, 0, 0, q.sub, [], [IntKind.u16.wrap D.exc], 0, 0, []⟩ : Rep).pv) (by simp only [Try.f45, go_sem, ↓reduceIte] <;> rfl) ?_ (blw_rep _ _) hwf (fun i hi => by
      have h0 := ltn hi; have h1 := lte hi
      rw [putDev_blk]
      simp only [go_sem, Nat.add_assoc, Nat.reduceAdd, ↓reduceIte, h0, h1]
      (repeat' split) <;> first | rfl | (rename_i e; rw [e]; first | exact hA.dv | exact hA.v1 | exact hA.v0 | exact hA.c1 | exact hA.c0) | (exfalso; omega)) ⟨by rw [hB], by rw [hB]⟩
         simp only [Rep.pv, PV.weak, PV.weaks, weaks_u16, weaks_bools, weaks_u8]; rfl)
      | (have hB : bodyF D q = (⟨q.fn, 0, 0, 0, q.sub, [], [IntKind.u16.wrap D.msgs], 0, 0, []⟩, D) := by
           unfold bodyF; rw [if_neg (by omega), if_neg (by omega), if_neg (by omega), if_neg (by omega), if_neg (by omega), if_neg (by omega), if_pos (by omega)]
           unfold diagF
           simp only [hy0]
           rw [if_neg (by omega), if_neg (by omega), if_pos (by omega), if_neg (by omega), if_neg (by omega)]
         refine Ret.dev D hA (r' := (⟨q.fn, 0, 0, 0, q.sub, [], [IntKind.u16.wrap D.msgs], 0, 0, []⟩ : Rep).pv) (by simp only [Try.f45, go_sem, ↓reduceIte] <;> rfl) ?_ (blw_rep _ _) hwf (fun i hi => by
      have h0 := ltn hi; have h1 := lte hi
      rw [putDev_blk]
      simp only [go_sem, Nat.add_assoc, Nat.reduceAdd, ↓reduceIte, h0, h1]
      (repeat' split) <;> first | rfl | (rename_i e; rw [e]; first | exact hA.dv | exact hA.v1 | exact hA.v0 | exact hA.c1 | exact hA.c0) | (exfalso; omega)) ⟨by rw [hB], by rw [hB]⟩
         simp only [Rep.pv, PV.weak, PV.weaks, weaks_u16, weaks_bools, weaks_u8]; rfl)
      | (have hB : bodyF D q = (refuseP q.fn 3, D) := by
           unfold bodyF; rw [if_neg (by omega), if_neg (by omega), if_neg (by omega), if_neg (by omega), if_neg (by omega), if_neg (by omega), if_pos (by omega)]
           unfold diagF
           simp only [hy0]
           rw [if_neg (by omega), if_neg (by omega), if_neg (by omega)]
         refine Ret.dev D hA (r' := (refuseP q.fn 3 : Rep).pv) (by simp only [Try.f45, go_sem, ↓reduceIte] <;> rfl) ?_ (blw_rep _ _) hwf (fun i hi => by
      have h0 := ltn hi; have h1 := lte hi
      rw [putDev_blk]
      simp only [go_sem, Nat.add_assoc, Nat.reduceAdd, ↓reduceIte, h0, h1]
      (repeat' split) <;> first | rfl | (rename_i e; rw [e]; first | exact hA.dv | exact hA.v1 | exact hA.v0 | exact hA.c1 | exact hA.c0) | (exfalso; omega)) ⟨by rw [hB], by rw [hB]⟩
         rfl)
attribute [local go_sem] weaks_bools Req.pv Rep.pv
set_option maxRecDepth 100000 in
theorem device_mask {b : Nat} {D : Dev} {s : St} (hA : DevAt b D s) (hD : D.ok) {q : Req} (hq : q.ok) (hr : rightF q = 0) (hc : countF q = true) (hf : q.fn = 22) : ACalls Try.prog 47 [.ptr (b + 5) 0 0, q.pv] s (fun r s' => r = (bodyF D q).1.pv ∧ s' = putDev b (bodyF D q).2 s) := by
  refine go Try.func47 (k := fun hwf H => ?_)
  have hdv := hA.dv
  unfold devRow at hdv
  have hlt := hA.lt hwf
  have hA1 : ∀ x y, DevAt b D ((s.new x).new y) := fun x y => (hA.nw hlt x).nw (by show b + 5 < s.nxt + 1; omega) y
  have hd1 := hD.h1
  have hd2 := hD.h2
  have hd3 := hD.c1
  have hd4 := hD.v0
  have hd5 := hD.v1
  have H := aj hdv H
  refine rs (k := rg [0, 3, 4] (k := rs (k := ?_)))
  refine Run.drawC [] [0, 3, 4, 5, 6] Try.mixed (by kernel_rfl) ?_
  refine DetC.pre (pre := [_, _, _, _, _, _]) au ?_
  refine DetC.call au au au (by kernel_rfl) (store_get3 (hA1 _ _).st (hA1 _ _).v1 (by omega) hd2 hq.at_ (by decide)) ?_
  refine DetC.all au ?_
  refine re (k := rs (k := rs (k := rg [0, 3, 4, 5, 18] (k := rc (ht := fun hc0 => ?_) (hf := fun hc0 => ?_)))))
  have hc := hc0
  refine rs (k := rr (k := ro (pre := [_]) (k := rC (h := device_where hq) (k := rh [4] (k := rR (k := ?_))))))
  refine jO 1 ?_; rotate_left
  have hc := hc0
  refine rk (k := rs (k := ?_))
  have hT : thereF D.c0.length q.at_ 1 = true := by simpa using hc0
  have htt := hT
  unfold thereF at htt
  have htt := of_decide_eq_true htt
  have hat : q.at_.toNat < D.v1.length := by omega
  have hcut : cutF D.v1 q.at_ 1 = [(D.v1[q.at_.toNat]?).getD 0] := by
    unfold cutF
    rw [show thereF D.v1.length q.at_ 1 = true by rw [hd5]; exact hT, if_pos rfl]
    show (D.v1.drop q.at_.toNat).take 1 = _
    rw [List.drop_eq_getElem_cons hat, List.getElem?_eq_getElem hat]
    rfl
  have hm0 : ((cutF D.v1 q.at_ 1).map (PV.int .u16))[0]? = some (.int .u16 ((D.v1[q.at_.toNat]?).getD 0)) := by rw [hcut]; rfl
  have hml : (0 < (cutF D.v1 q.at_ 1).length) = True := by rw [hcut]; simp
  have hmf : ibits .or .u16 (ibits .and .u16 ((D.v1[q.at_.toNat]?).getD 0) q.and_) (ibits .andNot .u16 q.or_ q.and_) = maskF ((D.v1[q.at_.toNat]?).getD 0) q := rfl
  have H := aj hm0 (aj hml (aj hmf H))
  refine Run.drawCut 19 [] Try.mixed (by kernel_rfl) (by kernel_rfl) ?_
  refine DetC.all au ?_
  refine RunO.callw au au au (by kernel_rfl) ((store_put3 (hA1 _ _).st (hA1 _ _).v1 (x := [maskF ((D.v1[q.at_.toNat]?).getD 0) q]) (by omega) hd2 hq.at_ (by simp) (by omega)).mono ?_)
  rintro r s1 ⟨rfl, hs⟩
  rw [show (([maskF ((D.v1[q.at_.toNat]?).getD 0) q] : List Int).length : Int) = 1 from rfl, hT, if_pos rfl] at hs
  subst hs
  refine rl [3, 4] (k := rs (k := rg [4] (k := rR (k := ?_))))
  refine jO 1 ?_; rotate_left
  any_goals
    refine jI 1 ?_
    first
      | (have hT : thereF D.c0.length q.at_ 1 = false := by simpa using hc0
         have hB : bodyF D q = (whereF q, D) := by
           unfold bodyF; rw [if_neg (by omega), if_neg (by omega), if_neg (by omega), if_neg (by omega), if_neg (by omega), if_neg (by omega), if_neg (by omega), if_neg (by omega), if_pos (by omega), hT, if_neg Bool.false_ne_true]
         refine Ret.dev D hA (r' := (whereF q : Rep).pv) (by simp only [Try.f47, go_sem, ↓reduceIte] <;> rfl) ?_ (blw_rep _ _) hwf (fun i hi => by
      have h0 := ltn hi; have h1 := lte hi
      rw [putDev_blk]
      simp only [go_sem, Nat.add_assoc, Nat.reduceAdd, ↓reduceIte, h0, h1]
      (repeat' split) <;> first | rfl | (rename_i e; rw [e]; first | exact hA.dv | exact hA.v1 | exact hA.v0 | exact hA.c1 | exact hA.c0) | (exfalso; omega)) ⟨by rw [hB], by rw [hB]⟩
         rfl)
      | (have hB : bodyF D q = (⟨q.fn, 0, q.at_, 0, 0, [], [], q.and_, q.or_, []⟩, { D with v1 := overF D.v1 q.at_.toNat [maskF ((D.v1[q.at_.toNat]?).getD 0) q] }) := by
           unfold bodyF; rw [if_neg (by omega), if_neg (by omega), if_neg (by omega), if_neg (by omega), if_neg (by omega), if_neg (by omega), if_neg (by omega), if_neg (by omega), if_pos (by omega), hT, if_pos rfl]
         refine Ret.dev { D with v1 := overF D.v1 q.at_.toNat [maskF ((D.v1[q.at_.toNat]?).getD 0) q] } hA (r' := (⟨q.fn, 0, q.at_, 0, 0, [], [], q.and_, q.or_, []⟩ : Rep).pv) (by simp only [Try.f47, go_sem, ↓reduceIte] <;> rfl) ?_ (blw_rep _ _) hwf (fun i hi => by
      have h0 := ltn hi; have h1 := lte hi
      rw [putDev_blk]
      simp only [go_sem, Nat.add_assoc, Nat.reduceAdd, ↓reduceIte, h0, h1]
      (repeat' split) <;> first | rfl | (rename_i e; rw [e]; first | exact hA.dv | exact hA.v1 | exact hA.v0 | exact hA.c1 | exact hA.c0) | (exfalso; omega)) ⟨by rw [hB], by rw [hB]⟩
         simp only [Rep.pv, PV.weak, PV.weaks, weaks_u16, weaks_bools, weaks_u8]; rfl)
end Go.Proofs
namespace Go.Proofs
open Go.PM
set_option maxHeartbeats 2000000
attribute [local go_sem] weaks_bools Req.pv Rep.pv
theorem device_rv23 {b : Nat} {D : Dev} {s : St} (hA : DevAt b D s) (hd2 : D.c0.length ≤ 65536) (hd5 : D.v1.length = D.c0.length) {q : Req} (hq : q.ok) (hcn : 1 ≤ q.count) (hf : q.fn = 23) : ACalls Try.prog 42 [.ptr (b + 5) 0 0, q.pv] s (fun r s' => r = (if thereF D.c0.length q.at_ q.count = true then ⟨q.fn, 0, 0, 0, 0, [], cutF D.v1 q.at_ q.count, 0, 0, []⟩ else whereF q : Rep).pv ∧ s' = s) := by
  refine go Try.func42 (k := fun hwf H => ?_)
  have hdv := hA.dv
  unfold devRow at hdv
  have hlt := hA.lt hwf
  have hA1 : ∀ x y, DevAt b D ((s.new x).new y) := fun x y => (hA.nw hlt x).nw (by show b + 5 < s.nxt + 1; omega) y
  have H := aj hdv H
  have hsp : ∀ s, ACalls Try.prog 80 [.int .i64 q.fn] s (fun r s' => r = .int .i64 3 ∧ s' = s) := fun s => by rw [hf]; simpa using device_space (fn := 23) (s := s)
  refine rs (k := rg [0, 3, 4] (k := rs (k := ?_)))
  refine Run.drawC [] [3, 4, 5, 6] Try.mixed (by kernel_rfl) ?_
  refine DetC.pre (pre := [_, _, _, _, _, _]) au ?_
  refine DetC.call au au au (by kernel_rfl) (hsp _) ?_
  refine DetC.pre (pre := [_, _, _, _]) au ?_
  refine DetC.call au au au (by kernel_rfl) (store_get3 (hA1 _ _).st (hA1 _ _).v1 (by omega) hd2 hq.at_ hcn) ?_
  refine DetC.all au ?_
  refine re (k := rs (k := rs (k := rg [3, 4, 5, 23] (k := rc (ht := fun hc0 => ?_) (hf := fun hc0 => ?_)))))
  refine rs (k := rr (k := ro (pre := [_]) (k := rC (h := device_where hq) (k := rh [4] (k := rR (k := ?_))))))
  refine jO 1 ?_; rotate_left
  refine rk (k := rs (k := rg [4] (k := rR (k := ?_))))
  refine jO 1 ?_; rotate_left
  any_goals
    refine jI 1 ?_
    first
      | (have hT : thereF D.c0.length q.at_ q.count = false := by simpa using hc0
         refine Ret.pure (r' := (whereF q).pv) (by simp only [Try.f42, go_sem, ↓reduceIte] <;> rfl) (by rfl) (blw_rep _ _) hwf (fun i hi => by first | rfl | (have h0 := ltn hi; have h1 := lte hi; simp only [go_sem, Nat.add_assoc, Nat.reduceAdd, ↓reduceIte, h0, h1])) ⟨by rw [hT, if_neg Bool.false_ne_true], rfl⟩)
      | (have hT : thereF D.c0.length q.at_ q.count = true := by simpa using hc0
         refine Ret.pure (r' := (⟨q.fn, 0, 0, 0, 0, [], cutF D.v1 q.at_ q.count, 0, 0, []⟩ : Rep).pv) (by simp only [Try.f42, go_sem, ↓reduceIte] <;> rfl) (by simp only [Rep.pv, PV.weak, PV.weaks, weaks_u16, weaks_bools, weaks_u8]; rfl) (blw_rep _ _) hwf (fun i hi => by first | rfl | (have h0 := ltn hi; have h1 := lte hi; simp only [go_sem, Nat.add_assoc, Nat.reduceAdd, ↓reduceIte, h0, h1])) ⟨by rw [hT, if_pos rfl], rfl⟩)
attribute [local go_sem] weaks_bools Req.pv Rep.pv
set_option maxRecDepth 100000 in
theorem device_rw {b : Nat} {D : Dev} {s : St} (hA : DevAt b D s) (hD : D.ok) {q : Req} (hq : q.ok) (hr : rightF q = 0) (hc : countF q = true) (hf : q.fn = 23) : ACalls Try.prog 48 [.ptr (b + 5) 0 0, q.pv] s (fun r s' => r = (bodyF D q).1.pv ∧ s' = putDev b (bodyF D q).2 s) := by
  refine go Try.func48 (k := fun hwf H => ?_)
  have hdv := hA.dv
  unfold devRow at hdv
  have hlt := hA.lt hwf
  have hA1 : ∀ x y, DevAt b D ((s.new x).new y) := fun x y => (hA.nw hlt x).nw (by show b + 5 < s.nxt + 1; omega) y
  have hd1 := hD.h1
  have hd2 := hD.h2
  have hd3 := hD.c1
  have hd4 := hD.v0
  have hd5 := hD.v1
  have H := aj hdv H
  have hk2 := hd2
  have hk5 := hd5
  have hne := vals_of hr hc (by omega)
  have hcn := count_of hc (by omega)
  have hA2 : ∀ x y, DevAt b { D with v1 := overF D.v1 q.wat.toNat q.vals } (((s.new x).new y).set (b + 4) (some (.row 24 ((overF D.v1 q.wat.toNat q.vals).map (PV.int .u16))))) := fun x y => (hA1 x y).of (blk_set_ne (by omega)) rfl (by rw [blk_set_ne (by omega)]; exact (hA1 x y).c0) (by rw [blk_set_ne (by omega)]; exact (hA1 x y).c1) (by rw [blk_set_ne (by omega)]; exact (hA1 x y).v0) (by rw [blk_set_self]) (by rw [blk_set_ne (by omega)]; exact (hA1 x y).dv)
  refine rs (k := rg [0, 3, 4] (k := rs (k := ?_)))
  refine Run.drawC [] [0, 3, 4, 6] Try.mixed (by kernel_rfl) ?_
  refine DetC.pre (pre := [_, _, _, _, _, _, _, _]) au ?_
  refine DetC.call au au au (by kernel_rfl) (store_get3 (hA1 _ _).st (hA1 _ _).v1 (by omega) hk2 hq.at_ hcn) ?_
  refine DetC.all au ?_
  refine re (k := rs (k := rs (k := ?_)))
  refine Run.drawCut 11 [] Try.mixed (by kernel_rfl) (by kernel_rfl) ?_
  refine DetC.pre (pre := [_, _, _]) au ?_
  rcases hd2 : (!thereF D.c0.length q.at_ q.count) with _ | _
  have H := aj hd2 H
  refine DetC.gdo au au ?_
  refine DetC.gdo au au ?_
  refine DetC.gdo au au ?_
  refine DetC.gdo au au ?_
  refine DetC.gdo au au ?_
  refine DetC.gdo au au ?_
  refine DetC.gdo au au ?_
  refine DetC.gdo au au ?_
  refine DetC.nil ?_
  refine RunO.callw au au au (by kernel_rfl) ((store_put3 (hA1 _ _).st (hA1 _ _).v1 (x := q.vals) (by omega) hk2 hq.wat hne (by omega)).mono ?_)
  rintro r s1 ⟨rfl, hs⟩
  refine rg1 (k := rh [0, 3, 4, 32] (k := rc (ht := fun hc0 => ?_) (hf := fun hc0 => ?_)))
  refine jO 1 ?_; rotate_left
  have hc := hc0
  refine rk (k := rs (k := ?_))
  have hT2 : thereF D.c0.length q.wat q.vals.length = true := by simpa using hc0
  rw [hT2, if_pos rfl] at hs
  subst hs
  refine rr (k := ro (pre := [_, _]) (k := rC (h := device_rv23 (hA2 _ _) hk2 (by show (overF D.v1 q.wat.toNat q.vals).length = _; rw [overF_len (by unfold thereF at hT2; have := of_decide_eq_true hT2; omega)]; exact hk5) hq hcn hf) (k := rh [4] (k := rR (k := ?_)))))
  refine jO 2 ?_; rotate_left
  have H := aj hd2 H
  refine DetC.gskip' au ?_
  refine DetC.gskip' au ?_
  refine DetC.gskip' au ?_
  refine DetC.gskip' au ?_
  refine DetC.gskip' au ?_
  refine DetC.gskip' au ?_
  refine DetC.gskip' au ?_
  refine DetC.gskip' au ?_
  refine DetC.nil ?_
  refine rg0 (k := rg0 (k := rh [0, 3, 4, 32] (k := rc (ht := fun hc0 => ?_) (hf := fun hc0 => ?_))))
  refine jO 1 ?_; rotate_left
  · cases hc0
  any_goals
    refine jI 1 ?_
    have hc := hc0
    refine jO 3 ?_; rotate_left
  any_goals
    refine jI 3 ?_
    refine rs (k := ?_)
    refine jO 4 ?_; rotate_left
  any_goals
    refine jI 4 ?_
    first
      | (have hT2 : thereF D.c0.length q.wat q.vals.length = false := by simpa using hc0
         rw [hT2, if_neg Bool.false_ne_true] at hs
         subst hs)
      | skip
    refine jO 5 ?_; rotate_left
  any_goals
    refine jI 5 ?_
    refine rr (k := ro (pre := [_]) (k := rC (h := device_where hq) (k := rh [4] (k := rR (k := ?_)))))
    refine jO 2 ?_; rotate_left
  any_goals
    refine jI 2 ?_
    first
      | (have hT1 : thereF D.c0.length q.at_ q.count = false := by simpa using hd2
         have hB : bodyF D q = (whereF q, D) := by
           unfold bodyF; rw [if_neg (by omega), if_neg (by omega), if_neg (by omega), if_neg (by omega), if_neg (by omega), if_neg (by omega), if_neg (by omega), if_neg (by omega), if_neg (by omega), if_neg (by rw [hT1]; rintro ⟨h, _⟩; cases h)]
         refine Ret.dev D hA (r' := (whereF q : Rep).pv) (by simp only [Try.f48, go_sem, ↓reduceIte] <;> rfl) ?_ (blw_rep _ _) hwf (fun i hi => by
      have h0 := ltn hi; have h1 := lte hi
      rw [putDev_blk]
      simp only [go_sem, Nat.add_assoc, Nat.reduceAdd, ↓reduceIte, h0, h1]
      (repeat' split) <;> first | rfl | (rename_i e; rw [e]; first | exact hA.dv | exact hA.v1 | exact hA.v0 | exact hA.c1 | exact hA.c0) | (exfalso; omega)) ⟨by rw [hB], by rw [hB]⟩
         rfl)
      | (have hT1 : thereF D.c0.length q.at_ q.count = true := by simpa using hd2
         have hB : bodyF D q = (whereF q, D) := by
           unfold bodyF; rw [if_neg (by omega), if_neg (by omega), if_neg (by omega), if_neg (by omega), if_neg (by omega), if_neg (by omega), if_neg (by omega), if_neg (by omega), if_neg (by omega), if_neg (by rw [hT2]; rintro ⟨_, h⟩; cases h)]
         refine Ret.dev D hA (r' := (whereF q : Rep).pv) (by simp only [Try.f48, go_sem, ↓reduceIte] <;> rfl) ?_ (blw_rep _ _) hwf (fun i hi => by
      have h0 := ltn hi; have h1 := lte hi
      rw [putDev_blk]
      simp only [go_sem, Nat.add_assoc, Nat.reduceAdd, ↓reduceIte, h0, h1]
      (repeat' split) <;> first | rfl | (rename_i e; rw [e]; first | exact hA.dv | exact hA.v1 | exact hA.v0 | exact hA.c1 | exact hA.c0) | (exfalso; omega)) ⟨by rw [hB], by rw [hB]⟩
         rfl)
      | (have hT1 : thereF D.c0.length q.at_ q.count = true := by simpa using hd2
         have hB : bodyF D q = (⟨q.fn, 0, 0, 0, 0, [], cutF (overF D.v1 q.wat.toNat q.vals) q.at_ q.count, 0, 0, []⟩, { D with v1 := overF D.v1 q.wat.toNat q.vals }) := by
           unfold bodyF; rw [if_neg (by omega), if_neg (by omega), if_neg (by omega), if_neg (by omega), if_neg (by omega), if_neg (by omega), if_neg (by omega), if_neg (by omega), if_neg (by omega), if_pos ⟨hT1, hT2⟩]
         refine Ret.dev { D with v1 := overF D.v1 q.wat.toNat q.vals } hA (r' := (⟨q.fn, 0, 0, 0, 0, [], cutF (overF D.v1 q.wat.toNat q.vals) q.at_ q.count, 0, 0, []⟩ : Rep).pv) (by simp only [Try.f48, go_sem, ↓reduceIte] <;> rfl) ?_ (blw_rep _ _) hwf (fun i hi => by
      have h0 := ltn hi; have h1 := lte hi
      rw [putDev_blk]
      simp only [go_sem, Nat.add_assoc, Nat.reduceAdd, ↓reduceIte, h0, h1]
      (repeat' split) <;> first | rfl | (rename_i e; rw [e]; first | exact hA.dv | exact hA.v1 | exact hA.v0 | exact hA.c1 | exact hA.c0) | (exfalso; omega)) ⟨by rw [hB], by rw [hB]⟩
         simp only [Rep.pv, PV.weak, PV.weaks, weaks_u16, weaks_bools, weaks_u8]; simp only [hT1, if_true, weaks_u16])
end Go.Proofs
namespace Go.Proofs
open Go.PM
set_option maxHeartbeats 2000000
set_option maxRecDepth 100000 in
theorem device_does_0 {s : St} : ACalls Try.prog 19 [.int .i64 0] s (fun r s' => r = .nilf ∧ s' = s) := by
  refine go Try.func19 (k := fun hwf H => ?_)
  have f0 : ((0 : Int) ≤ 0) = True := by decide
  have f1 : ((0 : Int) < ((24 : Nat) : Int)) = True := by decide
  have ft : Int.toNat 0 = 0 := rfl
  have f2 : (decide ((24 : Int) ≤ 0)) = false := by decide
  have f3 : (decide ((0 : Int) < 0)) = false := by decide
  have H := aj f0 (aj f1 (aj ft (aj f2 (aj f3 H))))
  refine rs (k := rg [0] (k := rs (k := rg [0, 3] (k := rs (k := rs (k := rg [0, 3, 10] (k := rc (ht := fun hc0 => ?_) (hf := fun hc0 => ?_))))))))
  · cases hc0
  · refine rk (k := rs (k := rg [2] (k := rR (k := ?_))))
    refine Ret.pure (r' := .nilf) (by simp only [Try.f19, go_sem, ↓reduceIte] <;> rfl) (by rfl) (by simp only [PV.blw, PV.blws, and_self]) hwf (fun i hi => by first | rfl | (have h0 := ltn hi; have h1 := lte hi; simp only [go_sem, Nat.add_assoc, Nat.reduceAdd, ↓reduceIte, h0, h1])) ⟨rfl, rfl⟩
set_option maxRecDepth 100000 in
theorem device_does_1 {s : St} : ACalls Try.prog 19 [.int .i64 1] s (fun r s' => r = .fn (.func 41) [] [] ∧ s' = s) := by
  refine go Try.func19 (k := fun hwf H => ?_)
  have f0 : ((0 : Int) ≤ 1) = True := by decide
  have f1 : ((1 : Int) < ((24 : Nat) : Int)) = True := by decide
  have ft : Int.toNat 1 = 1 := rfl
  have f2 : (decide ((24 : Int) ≤ 1)) = false := by decide
  have f3 : (decide ((1 : Int) < 0)) = false := by decide
  have H := aj f0 (aj f1 (aj ft (aj f2 (aj f3 H))))
  refine rs (k := rg [0] (k := rs (k := rg [0, 3] (k := rs (k := rs (k := rg [0, 3, 10] (k := rc (ht := fun hc0 => ?_) (hf := fun hc0 => ?_))))))))
  · cases hc0
  · refine rk (k := rs (k := rg [2] (k := rR (k := ?_))))
    refine Ret.pure (r' := .fn (.func 41) [] []) (by simp only [Try.f19, go_sem, ↓reduceIte] <;> rfl) (by rfl) (by simp only [PV.blw, PV.blws, and_self]) hwf (fun i hi => by first | rfl | (have h0 := ltn hi; have h1 := lte hi; simp only [go_sem, Nat.add_assoc, Nat.reduceAdd, ↓reduceIte, h0, h1])) ⟨rfl, rfl⟩
set_option maxRecDepth 100000 in
theorem device_does_2 {s : St} : ACalls Try.prog 19 [.int .i64 2] s (fun r s' => r = .fn (.func 41) [] [] ∧ s' = s) := by
  refine go Try.func19 (k := fun hwf H => ?_)
  have f0 : ((0 : Int) ≤ 2) = True := by decide
  have f1 : ((2 : Int) < ((24 : Nat) : Int)) = True := by decide
  have ft : Int.toNat 2 = 2 := rfl
  have f2 : (decide ((24 : Int) ≤ 2)) = false := by decide
  have f3 : (decide ((2 : Int) < 0)) = false := by decide
  have H := aj f0 (aj f1 (aj ft (aj f2 (aj f3 H))))
  refine rs (k := rg [0] (k := rs (k := rg [0, 3] (k := rs (k := rs (k := rg [0, 3, 10] (k := rc (ht := fun hc0 => ?_) (hf := fun hc0 => ?_))))))))
  · cases hc0
  · refine rk (k := rs (k := rg [2] (k := rR (k := ?_))))
    refine Ret.pure (r' := .fn (.func 41) [] []) (by simp only [Try.f19, go_sem, ↓reduceIte] <;> rfl) (by rfl) (by simp only [PV.blw, PV.blws, and_self]) hwf (fun i hi => by first | rfl | (have h0 := ltn hi; have h1 := lte hi; simp only [go_sem, Nat.add_assoc, Nat.reduceAdd, ↓reduceIte, h0, h1])) ⟨rfl, rfl⟩
set_option maxRecDepth 100000 in
theorem device_does_3 {s : St} : ACalls Try.prog 19 [.int .i64 3] s (fun r s' => r = .fn (.func 42) [] [] ∧ s' = s) := by
  refine go Try.func19 (k := fun hwf H => ?_)
  have f0 : ((0 : Int) ≤ 3) = True := by decide
  have f1 : ((3 : Int) < ((24 : Nat) : Int)) = True := by decide
  have ft : Int.toNat 3 = 3 := rfl
  have f2 : (decide ((24 : Int) ≤ 3)) = false := by decide
  have f3 : (decide ((3 : Int) < 0)) = false := by decide
  have H := aj f0 (aj f1 (aj ft (aj f2 (aj f3 H))))
  refine rs (k := rg [0] (k := rs (k := rg [0, 3] (k := rs (k := rs (k := rg [0, 3, 10] (k := rc (ht := fun hc0 => ?_) (hf := fun hc0 => ?_))))))))
  · cases hc0
  · refine rk (k := rs (k := rg [2] (k := rR (k := ?_))))
    refine Ret.pure (r' := .fn (.func 42) [] []) (by simp only [Try.f19, go_sem, ↓reduceIte] <;> rfl) (by rfl) (by simp only [PV.blw, PV.blws, and_self]) hwf (fun i hi => by first | rfl | (have h0 := ltn hi; have h1 := lte hi; simp only [go_sem, Nat.add_assoc, Nat.reduceAdd, ↓reduceIte, h0, h1])) ⟨rfl, rfl⟩
set_option maxRecDepth 100000 in
theorem device_does_4 {s : St} : ACalls Try.prog 19 [.int .i64 4] s (fun r s' => r = .fn (.func 42) [] [] ∧ s' = s) := by
  refine go Try.func19 (k := fun hwf H => ?_)
  have f0 : ((0 : Int) ≤ 4) = True := by decide
  have f1 : ((4 : Int) < ((24 : Nat) : Int)) = True := by decide
  have ft : Int.toNat 4 = 4 := rfl
  have f2 : (decide ((24 : Int) ≤ 4)) = false := by decide
  have f3 : (decide ((4 : Int) < 0)) = false := by decide
  have H := aj f0 (aj f1 (aj ft (aj f2 (aj f3 H))))
  refine rs (k := rg [0] (k := rs (k := rg [0, 3] (k := rs (k := rs (k := rg [0, 3, 10] (k := rc (ht := fun hc0 => ?_) (hf := fun hc0 => ?_))))))))
  · cases hc0
  · refine rk (k := rs (k := rg [2] (k := rR (k := ?_))))
    refine Ret.pure (r' := .fn (.func 42) [] []) (by simp only [Try.f19, go_sem, ↓reduceIte] <;> rfl) (by rfl) (by simp only [PV.blw, PV.blws, and_self]) hwf (fun i hi => by first | rfl | (have h0 := ltn hi; have h1 := lte hi; simp only [go_sem, Nat.add_assoc, Nat.reduceAdd, ↓reduceIte, h0, h1])) ⟨rfl, rfl⟩
set_option maxRecDepth 100000 in
theorem device_does_5 {s : St} : ACalls Try.prog 19 [.int .i64 5] s (fun r s' => r = .fn (.func 43) [] [] ∧ s' = s) := by
  refine go Try.func19 (k := fun hwf H => ?_)
  have f0 : ((0 : Int) ≤ 5) = True := by decide
  have f1 : ((5 : Int) < ((24 : Nat) : Int)) = True := by decide
  have ft : Int.toNat 5 = 5 := rfl
  have f2 : (decide ((24 : Int) ≤ 5)) = false := by decide
  have f3 : (decide ((5 : Int) < 0)) = false := by decide
  have H := aj f0 (aj f1 (aj ft (aj f2 (aj f3 H))))
  refine rs (k := rg [0] (k := rs (k := rg [0, 3] (k := rs (k := rs (k := rg [0, 3, 10] (k := rc (ht := fun hc0 => ?_) (hf := fun hc0 => ?_))))))))
  · cases hc0
  · refine rk (k := rs (k := rg [2] (k := rR (k := ?_))))
    refine Ret.pure (r' := .fn (.func 43) [] []) (by simp only [Try.f19, go_sem, ↓reduceIte] <;> rfl) (by rfl) (by simp only [PV.blw, PV.blws, and_self]) hwf (fun i hi => by first | rfl | (have h0 := ltn hi; have h1 := lte hi; simp only [go_sem, Nat.add_assoc, Nat.reduceAdd, ↓reduceIte, h0, h1])) ⟨rfl, rfl⟩
set_option maxRecDepth 100000 in
theorem device_does_6 {s : St} : ACalls Try.prog 19 [.int .i64 6] s (fun r s' => r = .fn (.func 44) [] [] ∧ s' = s) := by
  refine go Try.func19 (k := fun hwf H => ?_)
  have f0 : ((0 : Int) ≤ 6) = True := by decide
  have f1 : ((6 : Int) < ((24 : Nat) : Int)) = True := by decide
  have ft : Int.toNat 6 = 6 := rfl
  have f2 : (decide ((24 : Int) ≤ 6)) = false := by decide
  have f3 : (decide ((6 : Int) < 0)) = false := by decide
  have H := aj f0 (aj f1 (aj ft (aj f2 (aj f3 H))))
  refine rs (k := rg [0] (k := rs (k := rg [0, 3] (k := rs (k := rs (k := rg [0, 3, 10] (k := rc (ht := fun hc0 => ?_) (hf := fun hc0 => ?_))))))))
  · cases hc0
  · refine rk (k := rs (k := rg [2] (k := rR (k := ?_))))
    refine Ret.pure (r' := .fn (.func 44) [] []) (by simp only [Try.f19, go_sem, ↓reduceIte] <;> rfl) (by rfl) (by simp only [PV.blw, PV.blws, and_self]) hwf (fun i hi => by first | rfl | (have h0 := ltn hi; have h1 := lte hi; simp only [go_sem, Nat.add_assoc, Nat.reduceAdd, ↓reduceIte, h0, h1])) ⟨rfl, rfl⟩
set_option maxRecDepth 100000 in
theorem device_does_7 {s : St} : ACalls Try.prog 19 [.int .i64 7] s (fun r s' => r = .nilf ∧ s' = s) := by
  refine go Try.func19 (k := fun hwf H => ?_)
  have f0 : ((0 : Int) ≤ 7) = True := by decide
  have f1 : ((7 : Int) < ((24 : Nat) : Int)) = True := by decide
  have ft : Int.toNat 7 = 7 := rfl
  have f2 : (decide ((24 : Int) ≤ 7)) = false := by decide
  have f3 : (decide ((7 : Int) < 0)) = false := by decide
  have H := aj f0 (aj f1 (aj ft (aj f2 (aj f3 H))))
  refine rs (k := rg [0] (k := rs (k := rg [0, 3] (k := rs (k := rs (k := rg [0, 3, 10] (k := rc (ht := fun hc0 => ?_) (hf := fun hc0 => ?_))))))))
  · cases hc0
  · refine rk (k := rs (k := rg [2] (k := rR (k := ?_))))
    refine Ret.pure (r' := .nilf) (by simp only [Try.f19, go_sem, ↓reduceIte] <;> rfl) (by rfl) (by simp only [PV.blw, PV.blws, and_self]) hwf (fun i hi => by first | rfl | (have h0 := ltn hi; have h1 := lte hi; simp only [go_sem, Nat.add_assoc, Nat.reduceAdd, ↓reduceIte, h0, h1])) ⟨rfl, rfl⟩
set_option maxRecDepth 100000 in
theorem device_does_8 {s : St} : ACalls Try.prog 19 [.int .i64 8] s (fun r s' => r = .fn (.func 45) [] [] ∧ s' = s) := by
  refine go Try.func19 (k := fun hwf H => ?_)
  have f0 : ((0 : Int) ≤ 8) = True := by decide
  have f1 : ((8 : Int) < ((24 : Nat) : Int)) = True := by decide
  have ft : Int.toNat 8 = 8 := rfl
  have f2 : (decide ((24 : Int) ≤ 8)) = false := by decide
  have f3 : (decide ((8 : Int) < 0)) = false := by decide
  have H := aj f0 (aj f1 (aj ft (aj f2 (aj f3 H))))
  refine rs (k := rg [0] (k := rs (k := rg [0, 3] (k := rs (k := rs (k := rg [0, 3, 10] (k := rc (ht := fun hc0 => ?_) (hf := fun hc0 => ?_))))))))
  · cases hc0
  · refine rk (k := rs (k := rg [2] (k := rR (k := ?_))))
    refine Ret.pure (r' := .fn (.func 45) [] []) (by simp only [Try.f19, go_sem, ↓reduceIte] <;> rfl) (by rfl) (by simp only [PV.blw, PV.blws, and_self]) hwf (fun i hi => by first | rfl | (have h0 := ltn hi; have h1 := lte hi; simp only [go_sem, Nat.add_assoc, Nat.reduceAdd, ↓reduceIte, h0, h1])) ⟨rfl, rfl⟩
set_option maxRecDepth 100000 in
theorem device_does_9 {s : St} : ACalls Try.prog 19 [.int .i64 9] s (fun r s' => r = .nilf ∧ s' = s) := by
  refine go Try.func19 (k := fun hwf H => ?_)
  have f0 : ((0 : Int) ≤ 9) = True := by decide
  have f1 : ((9 : Int) < ((24 : Nat) : Int)) = True := by decide
  have ft : Int.toNat 9 = 9 := rfl
  have f2 : (decide ((24 : Int) ≤ 9)) = false := by decide
  have f3 : (decide ((9 : Int) < 0)) = false := by decide
  have H := aj f0 (aj f1 (aj ft (aj f2 (aj f3 H))))
  refine rs (k := rg [0] (k := rs (k := rg [0, 3] (k := rs (k := rs (k := rg [0, 3, 10] (k := rc (ht := fun hc0 => ?_) (hf := fun hc0 => ?_))))))))
  · cases hc0
  · refine rk (k := rs (k := rg [2] (k := rR (k := ?_))))
    refine Ret.pure (r' := .nilf) (by simp only [Try.f19, go_sem, ↓reduceIte] <;> rfl) (by rfl) (by simp only [PV.blw, PV.blws, and_self]) hwf (fun i hi => by first | rfl | (have h0 := ltn hi; have h1 := lte hi; simp only [go_sem, Nat.add_assoc, Nat.reduceAdd, ↓reduceIte, h0, h1])) ⟨rfl, rfl⟩
set_option maxRecDepth 100000 in
theorem device_does_10 {s : St} : ACalls Try.prog 19 [.int .i64 10] s (fun r s' => r = .nilf ∧ s' = s) := by
  refine go Try.func19 (k := fun hwf H => ?_)
  have f0 : ((0 : Int) ≤ 10) = True := by decide
  have f1 : ((10 : Int) < ((24 : Nat) : Int)) = True := by decide
  have ft : Int.toNat 10 = 10 := rfl
  have f2 : (decide ((24 : Int) ≤ 10)) = false := by decide
  have f3 : (decide ((10 : Int) < 0)) = false := by decide
  have H := aj f0 (aj f1 (aj ft (aj f2 (aj f3 H))))
  refine rs (k := rg [0] (k := rs (k := rg [0, 3] (k := rs (k := rs (k := rg [0, 3, 10] (k := rc (ht := fun hc0 => ?_) (hf := fun hc0 => ?_))))))))
  · cases hc0
  · refine rk (k := rs (k := rg [2] (k := rR (k := ?_))))
    refine Ret.pure (r' := .nilf) (by simp only [Try.f19, go_sem, ↓reduceIte] <;> rfl) (by rfl) (by simp only [PV.blw, PV.blws, and_self]) hwf (fun i hi => by first | rfl | (have h0 := ltn hi; have h1 := lte hi; simp only [go_sem, Nat.add_assoc, Nat.reduceAdd, ↓reduceIte, h0, h1])) ⟨rfl, rfl⟩
set_option maxRecDepth 100000 in
theorem device_does_11 {s : St} : ACalls Try.prog 19 [.int .i64 11] s (fun r s' => r = .nilf ∧ s' = s) := by
  refine go Try.func19 (k := fun hwf H => ?_)
  have f0 : ((0 : Int) ≤ 11) = True := by decide
  have f1 : ((11 : Int) < ((24 : Nat) : Int)) = True := by decide
  have ft : Int.toNat 11 = 11 := rfl
  have f2 : (decide ((24 : Int) ≤ 11)) = false := by decide
  have f3 : (decide ((11 : Int) < 0)) = false := by decide
  have H := aj f0 (aj f1 (aj ft (aj f2 (aj f3 H))))
  refine rs (k := rg [0] (k := rs (k := rg [0, 3] (k := rs (k := rs (k := rg [0, 3, 10] (k := rc (ht := fun hc0 => ?_) (hf := fun hc0 => ?_))))))))
  · cases hc0
  · refine rk (k := rs (k := rg [2] (k := rR (k := ?_))))
    refine Ret.pure (r' := .nilf) (by simp only [Try.f19, go_sem, ↓reduceIte] <;> rfl) (by rfl) (by simp only [PV.blw, PV.blws, and_self]) hwf (fun i hi => by first | rfl | (have h0 := ltn hi; have h1 := lte hi; simp only [go_sem, Nat.add_assoc, Nat.reduceAdd, ↓reduceIte, h0, h1])) ⟨rfl, rfl⟩
set_option maxRecDepth 100000 in
theorem device_does_12 {s : St} : ACalls Try.prog 19 [.int .i64 12] s (fun r s' => r = .nilf ∧ s' = s) := by
  refine go Try.func19 (k := fun hwf H => ?_)
  have f0 : ((0 : Int) ≤ 12) = True := by decide
  have f1 : ((12 : Int) < ((24 : Nat) : Int)) = True := by decide
  have ft : Int.toNat 12 = 12 := rfl
  have f2 : (decide ((24 : Int) ≤ 12)) = false := by decide
  have f3 : (decide ((12 : Int) < 0)) = false := by decide
  have H := aj f0 (aj f1 (aj ft (aj f2 (aj f3 H))))
  refine rs (k := rg [0] (k := rs (k := rg [0, 3] (k := rs (k := rs (k := rg [0, 3, 10] (k := rc (ht := fun hc0 => ?_) (hf := fun hc0 => ?_))))))))
  · cases hc0
  · refine rk (k := rs (k := rg [2] (k := rR (k := ?_))))
    refine Ret.pure (r' := .nilf) (by simp only [Try.f19, go_sem, ↓reduceIte] <;> rfl) (by rfl) (by simp only [PV.blw, PV.blws, and_self]) hwf (fun i hi => by first | rfl | (have h0 := ltn hi; have h1 := lte hi; simp only [go_sem, Nat.add_assoc, Nat.reduceAdd, ↓reduceIte, h0, h1])) ⟨rfl, rfl⟩
set_option maxRecDepth 100000 in
theorem device_does_13 {s : St} : ACalls Try.prog 19 [.int .i64 13] s (fun r s' => r = .nilf ∧ s' = s) := by
  refine go Try.func19 (k := fun hwf H => ?_)
  have f0 : ((0 : Int) ≤ 13) = True := by decide
  have f1 : ((13 : Int) < ((24 : Nat) : Int)) = True := by decide
  have ft : Int.toNat 13 = 13 := rfl
  have f2 : (decide ((24 : Int) ≤ 13)) = false := by decide
  have f3 : (decide ((13 : Int) < 0)) = false := by decide
  have H := aj f0 (aj f1 (aj ft (aj f2 (aj f3 H))))
  refine rs (k := rg [0] (k := rs (k := rg [0, 3] (k := rs (k := rs (k := rg [0, 3, 10] (k := rc (ht := fun hc0 => ?_) (hf := fun hc0 => ?_))))))))
  · cases hc0
  · refine rk (k := rs (k := rg [2] (k := rR (k := ?_))))
    refine Ret.pure (r' := .nilf) (by simp only [Try.f19, go_sem, ↓reduceIte] <;> rfl) (by rfl) (by simp only [PV.blw, PV.blws, and_self]) hwf (fun i hi => by first | rfl | (have h0 := ltn hi; have h1 := lte hi; simp only [go_sem, Nat.add_assoc, Nat.reduceAdd, ↓reduceIte, h0, h1])) ⟨rfl, rfl⟩
set_option maxRecDepth 100000 in
theorem device_does_14 {s : St} : ACalls Try.prog 19 [.int .i64 14] s (fun r s' => r = .nilf ∧ s' = s) := by
  refine go Try.func19 (k := fun hwf H => ?_)
  have f0 : ((0 : Int) ≤ 14) = True := by decide
  have f1 : ((14 : Int) < ((24 : Nat) : Int)) = True := by decide
  have ft : Int.toNat 14 = 14 := rfl
  have f2 : (decide ((24 : Int) ≤ 14)) = false := by decide
  have f3 : (decide ((14 : Int) < 0)) = false := by decide
  have H := aj f0 (aj f1 (aj ft (aj f2 (aj f3 H))))
  refine rs (k := rg [0] (k := rs (k := rg [0, 3] (k := rs (k := rs (k := rg [0, 3, 10] (k := rc (ht := fun hc0 => ?_) (hf := fun hc0 => ?_))))))))
  · cases hc0
  · refine rk (k := rs (k := rg [2] (k := rR (k := ?_))))
    refine Ret.pure (r' := .nilf) (by simp only [Try.f19, go_sem, ↓reduceIte] <;> rfl) (by rfl) (by simp only [PV.blw, PV.blws, and_self]) hwf (fun i hi => by first | rfl | (have h0 := ltn hi; have h1 := lte hi; simp only [go_sem, Nat.add_assoc, Nat.reduceAdd, ↓reduceIte, h0, h1])) ⟨rfl, rfl⟩
set_option maxRecDepth 100000 in
theorem device_does_15 {s : St} : ACalls Try.prog 19 [.int .i64 15] s (fun r s' => r = .fn (.func 43) [] [] ∧ s' = s) := by
  refine go Try.func19 (k := fun hwf H => ?_)
  have f0 : ((0 : Int) ≤ 15) = True := by decide
  have f1 : ((15 : Int) < ((24 : Nat) : Int)) = True := by decide
  have ft : Int.toNat 15 = 15 := rfl
  have f2 : (decide ((24 : Int) ≤ 15)) = false := by decide
  have f3 : (decide ((15 : Int) < 0)) = false := by decide
  have H := aj f0 (aj f1 (aj ft (aj f2 (aj f3 H))))
  refine rs (k := rg [0] (k := rs (k := rg [0, 3] (k := rs (k := rs (k := rg [0, 3, 10] (k := rc (ht := fun hc0 => ?_) (hf := fun hc0 => ?_))))))))
  · cases hc0
  · refine rk (k := rs (k := rg [2] (k := rR (k := ?_))))
    refine Ret.pure (r' := .fn (.func 43) [] []) (by simp only [Try.f19, go_sem, ↓reduceIte] <;> rfl) (by rfl) (by simp only [PV.blw, PV.blws, and_self]) hwf (fun i hi => by first | rfl | (have h0 := ltn hi; have h1 := lte hi; simp only [go_sem, Nat.add_assoc, Nat.reduceAdd, ↓reduceIte, h0, h1])) ⟨rfl, rfl⟩
set_option maxRecDepth 100000 in
theorem device_does_16 {s : St} : ACalls Try.prog 19 [.int .i64 16] s (fun r s' => r = .fn (.func 44) [] [] ∧ s' = s) := by
  refine go Try.func19 (k := fun hwf H => ?_)
  have f0 : ((0 : Int) ≤ 16) = True := by decide
  have f1 : ((16 : Int) < ((24 : Nat) : Int)) = True := by decide
  have ft : Int.toNat 16 = 16 := rfl
  have f2 : (decide ((24 : Int) ≤ 16)) = false := by decide
  have f3 : (decide ((16 : Int) < 0)) = false := by decide
  have H := aj f0 (aj f1 (aj ft (aj f2 (aj f3 H))))
  refine rs (k := rg [0] (k := rs (k := rg [0, 3] (k := rs (k := rs (k := rg [0, 3, 10] (k := rc (ht := fun hc0 => ?_) (hf := fun hc0 => ?_))))))))
  · cases hc0
  · refine rk (k := rs (k := rg [2] (k := rR (k := ?_))))
    refine Ret.pure (r' := .fn (.func 44) [] []) (by simp only [Try.f19, go_sem, ↓reduceIte] <;> rfl) (by rfl) (by simp only [PV.blw, PV.blws, and_self]) hwf (fun i hi => by first | rfl | (have h0 := ltn hi; have h1 := lte hi; simp only [go_sem, Nat.add_assoc, Nat.reduceAdd, ↓reduceIte, h0, h1])) ⟨rfl, rfl⟩
set_option maxRecDepth 100000 in
theorem device_does_17 {s : St} : ACalls Try.prog 19 [.int .i64 17] s (fun r s' => r = .fn (.func 46) [] [] ∧ s' = s) := by
  refine go Try.func19 (k := fun hwf H => ?_)
  have f0 : ((0 : Int) ≤ 17) = True := by decide
  have f1 : ((17 : Int) < ((24 : Nat) : Int)) = True := by decide
  have ft : Int.toNat 17 = 17 := rfl
  have f2 : (decide ((24 : Int) ≤ 17)) = false := by decide
  have f3 : (decide ((17 : Int) < 0)) = false := by decide
  have H := aj f0 (aj f1 (aj ft (aj f2 (aj f3 H))))
  refine rs (k := rg [0] (k := rs (k := rg [0, 3] (k := rs (k := rs (k := rg [0, 3, 10] (k := rc (ht := fun hc0 => ?_) (hf := fun hc0 => ?_))))))))
  · cases hc0
  · refine rk (k := rs (k := rg [2] (k := rR (k := ?_))))
    refine Ret.pure (r' := .fn (.func 46) [] []) (by simp only [Try.f19, go_sem, ↓reduceIte] <;> rfl) (by rfl) (by simp only [PV.blw, PV.blws, and_self]) hwf (fun i hi => by first | rfl | (have h0 := ltn hi; have h1 := lte hi; simp only [go_sem, Nat.add_assoc, Nat.reduceAdd, ↓reduceIte, h0, h1])) ⟨rfl, rfl⟩
set_option maxRecDepth 100000 in
theorem device_does_18 {s : St} : ACalls Try.prog 19 [.int .i64 18] s (fun r s' => r = .nilf ∧ s' = s) := by
  refine go Try.func19 (k := fun hwf H => ?_)
  have f0 : ((0 : Int) ≤ 18) = True := by decide
  have f1 : ((18 : Int) < ((24 : Nat) : Int)) = True := by decide
  have ft : Int.toNat 18 = 18 := rfl
  have f2 : (decide ((24 : Int) ≤ 18)) = false := by decide
  have f3 : (decide ((18 : Int) < 0)) = false := by decide
  have H := aj f0 (aj f1 (aj ft (aj f2 (aj f3 H))))
  refine rs (k := rg [0] (k := rs (k := rg [0, 3] (k := rs (k := rs (k := rg [0, 3, 10] (k := rc (ht := fun hc0 => ?_) (hf := fun hc0 => ?_))))))))
  · cases hc0
  · refine rk (k := rs (k := rg [2] (k := rR (k := ?_))))
    refine Ret.pure (r' := .nilf) (by simp only [Try.f19, go_sem, ↓reduceIte] <;> rfl) (by rfl) (by simp only [PV.blw, PV.blws, and_self]) hwf (fun i hi => by first | rfl | (have h0 := ltn hi; have h1 := lte hi; simp only [go_sem, Nat.add_assoc, Nat.reduceAdd, ↓reduceIte, h0, h1])) ⟨rfl, rfl⟩
set_option maxRecDepth 100000 in
theorem device_does_19 {s : St} : ACalls Try.prog 19 [.int .i64 19] s (fun r s' => r = .nilf ∧ s' = s) := by
  refine go Try.func19 (k := fun hwf H => ?_)
  have f0 : ((0 : Int) ≤ 19) = True := by decide
  have f1 : ((19 : Int) < ((24 : Nat) : Int)) = True := by decide
  have ft : Int.toNat 19 = 19 := rfl
  have f2 : (decide ((24 : Int) ≤ 19)) = false := by decide
  have f3 : (decide ((19 : Int) < 0)) = false := by decide
  have H := aj f0 (aj f1 (aj ft (aj f2 (aj f3 H))))
  refine rs (k := rg [0] (k := rs (k := rg [0, 3] (k := rs (k := rs (k := rg [0, 3, 10] (k := rc (ht := fun hc0 => ?_) (hf := fun hc0 => ?_))))))))
  · cases hc0
  · refine rk (k := rs (k := rg [2] (k := rR (k := ?_))))
    refine Ret.pure (r' := .nilf) (by simp only [Try.f19, go_sem, ↓reduceIte] <;> rfl) (by rfl) (by simp only [PV.blw, PV.blws, and_self]) hwf (fun i hi => by first | rfl | (have h0 := ltn hi; have h1 := lte hi; simp only [go_sem, Nat.add_assoc, Nat.reduceAdd, ↓reduceIte, h0, h1])) ⟨rfl, rfl⟩
set_option maxRecDepth 100000 in
theorem device_does_20 {s : St} : ACalls Try.prog 19 [.int .i64 20] s (fun r s' => r = .nilf ∧ s' = s) := by
  refine go Try.func19 (k := fun hwf H => ?_)
  have f0 : ((0 : Int) ≤ 20) = True := by decide
  have f1 : ((20 : Int) < ((24 : Nat) : Int)) = True := by decide
  have ft : Int.toNat 20 = 20 := rfl
  have f2 : (decide ((24 : Int) ≤ 20)) = false := by decide
  have f3 : (decide ((20 : Int) < 0)) = false := by decide
  have H := aj f0 (aj f1 (aj ft (aj f2 (aj f3 H))))
  refine rs (k := rg [0] (k := rs (k := rg [0, 3] (k := rs (k := rs (k := rg [0, 3, 10] (k := rc (ht := fun hc0 => ?_) (hf := fun hc0 => ?_))))))))
  · cases hc0
  · refine rk (k := rs (k := rg [2] (k := rR (k := ?_))))
    refine Ret.pure (r' := .nilf) (by simp only [Try.f19, go_sem, ↓reduceIte] <;> rfl) (by rfl) (by simp only [PV.blw, PV.blws, and_self]) hwf (fun i hi => by first | rfl | (have h0 := ltn hi; have h1 := lte hi; simp only [go_sem, Nat.add_assoc, Nat.reduceAdd, ↓reduceIte, h0, h1])) ⟨rfl, rfl⟩
set_option maxRecDepth 100000 in
theorem device_does_21 {s : St} : ACalls Try.prog 19 [.int .i64 21] s (fun r s' => r = .nilf ∧ s' = s) := by
  refine go Try.func19 (k := fun hwf H => ?_)
  have f0 : ((0 : Int) ≤ 21) = True := by decide
  have f1 : ((21 : Int) < ((24 : Nat) : Int)) = True := by decide
  have ft : Int.toNat 21 = 21 := rfl
  have f2 : (decide ((24 : Int) ≤ 21)) = false := by decide
  have f3 : (decide ((21 : Int) < 0)) = false := by decide
  have H := aj f0 (aj f1 (aj ft (aj f2 (aj f3 H))))
  refine rs (k := rg [0] (k := rs (k := rg [0, 3] (k := rs (k := rs (k := rg [0, 3, 10] (k := rc (ht := fun hc0 => ?_) (hf := fun hc0 => ?_))))))))
  · cases hc0
  · refine rk (k := rs (k := rg [2] (k := rR (k := ?_))))
    refine Ret.pure (r' := .nilf) (by simp only [Try.f19, go_sem, ↓reduceIte] <;> rfl) (by rfl) (by simp only [PV.blw, PV.blws, and_self]) hwf (fun i hi => by first | rfl | (have h0 := ltn hi; have h1 := lte hi; simp only [go_sem, Nat.add_assoc, Nat.reduceAdd, ↓reduceIte, h0, h1])) ⟨rfl, rfl⟩
set_option maxRecDepth 100000 in
theorem device_does_22 {s : St} : ACalls Try.prog 19 [.int .i64 22] s (fun r s' => r = .fn (.func 47) [] [] ∧ s' = s) := by
  refine go Try.func19 (k := fun hwf H => ?_)
  have f0 : ((0 : Int) ≤ 22) = True := by decide
  have f1 : ((22 : Int) < ((24 : Nat) : Int)) = True := by decide
  have ft : Int.toNat 22 = 22 := rfl
  have f2 : (decide ((24 : Int) ≤ 22)) = false := by decide
  have f3 : (decide ((22 : Int) < 0)) = false := by decide
  have H := aj f0 (aj f1 (aj ft (aj f2 (aj f3 H))))
  refine rs (k := rg [0] (k := rs (k := rg [0, 3] (k := rs (k := rs (k := rg [0, 3, 10] (k := rc (ht := fun hc0 => ?_) (hf := fun hc0 => ?_))))))))
  · cases hc0
  · refine rk (k := rs (k := rg [2] (k := rR (k := ?_))))
    refine Ret.pure (r' := .fn (.func 47) [] []) (by simp only [Try.f19, go_sem, ↓reduceIte] <;> rfl) (by rfl) (by simp only [PV.blw, PV.blws, and_self]) hwf (fun i hi => by first | rfl | (have h0 := ltn hi; have h1 := lte hi; simp only [go_sem, Nat.add_assoc, Nat.reduceAdd, ↓reduceIte, h0, h1])) ⟨rfl, rfl⟩
set_option maxRecDepth 100000 in
theorem device_does_23 {s : St} : ACalls Try.prog 19 [.int .i64 23] s (fun r s' => r = .fn (.func 48) [] [] ∧ s' = s) := by
  refine go Try.func19 (k := fun hwf H => ?_)
  have f0 : ((0 : Int) ≤ 23) = True := by decide
  have f1 : ((23 : Int) < ((24 : Nat) : Int)) = True := by decide
  have ft : Int.toNat 23 = 23 := rfl
  have f2 : (decide ((24 : Int) ≤ 23)) = false := by decide
  have f3 : (decide ((23 : Int) < 0)) = false := by decide
  have H := aj f0 (aj f1 (aj ft (aj f2 (aj f3 H))))
  refine rs (k := rg [0] (k := rs (k := rg [0, 3] (k := rs (k := rs (k := rg [0, 3, 10] (k := rc (ht := fun hc0 => ?_) (hf := fun hc0 => ?_))))))))
  · cases hc0
  · refine rk (k := rs (k := rg [2] (k := rR (k := ?_))))
    refine Ret.pure (r' := .fn (.func 48) [] []) (by simp only [Try.f19, go_sem, ↓reduceIte] <;> rfl) (by rfl) (by simp only [PV.blw, PV.blws, and_self]) hwf (fun i hi => by first | rfl | (have h0 := ltn hi; have h1 := lte hi; simp only [go_sem, Nat.add_assoc, Nat.reduceAdd, ↓reduceIte, h0, h1])) ⟨rfl, rfl⟩
set_option maxRecDepth 100000 in
theorem device_does_out {fn : Int} (h : fn < 0 ∨ 24 ≤ fn) {s : St} : ACalls Try.prog 19 [.int .i64 fn] s (fun r s' => r = .nilf ∧ s' = s) := by
  refine go Try.func19 (k := fun hwf H => ?_)
  refine rs (k := rg [0] (k := rs (k := rg [0, 3] (k := rs (k := rs (k := rg [0, 3, 10] (k := rc (ht := fun hc0 => ?_) (hf := fun hc0 => ?_))))))))
  · refine rs (k := rg [2] (k := rR (k := ?_)))
    refine Ret.pure (r' := .nilf) (by simp only [Try.f19, go_sem, ↓reduceIte] <;> rfl) (by rfl) (by simp only [PV.blw]) hwf (fun i hi => by first | rfl | (have h0 := ltn hi; have h1 := lte hi; simp only [go_sem, Nat.add_assoc, Nat.reduceAdd, ↓reduceIte, h0, h1])) ⟨rfl, rfl⟩
  · refine rk (k := rs (k := ?_))
    exfalso
    simp only [Bool.or_eq_false_iff, decide_eq_false_iff_not] at hc0
    omega
theorem device_does_no {fn : Int} (h : hasF fn = false) {s : St} : ACalls Try.prog 19 [.int .i64 fn] s (fun r s' => r = .nilf ∧ s' = s) := by
  have hn := of_decide_eq_false h
  by_cases ho : fn < 0 ∨ 24 ≤ fn
  · exact device_does_out ho
  · have hk : fn = 0 ∨ fn = 7 ∨ fn = 9 ∨ fn = 10 ∨ fn = 11 ∨ fn = 12 ∨ fn = 13 ∨ fn = 14 ∨ fn = 18 ∨ fn = 19 ∨ fn = 20 ∨ fn = 21 := by omega
    rcases hk with rfl | rfl | rfl | rfl | rfl | rfl | rfl | rfl | rfl | rfl | rfl | rfl
    · exact device_does_0
    · exact device_does_7
    · exact device_does_9
    · exact device_does_10
    · exact device_does_11
    · exact device_does_12
    · exact device_does_13
    · exact device_does_14
    · exact device_does_18
    · exact device_does_19
    · exact device_does_20
    · exact device_does_21
theorem device_does_body {q : Req} (h : hasF q.fn = true) : ∃ N : Nat, (∀ s, ACalls Try.prog 19 [.int .i64 q.fn] s (fun r s' => r = .fn (.func N) [] [] ∧ s' = s)) ∧ callable Try.prog N = true ∧
    ∀ {b : Nat} {D : Dev} {s : St}, DevAt b D s → D.ok → q.ok → rightF q = 0 → countF q = true → ACalls Try.prog N [.ptr (b + 5) 0 0, q.pv] s (fun r s' => r = (bodyF D q).1.pv ∧ s' = putDev b (bodyF D q).2 s) := by
  rcases has_cases h with e | e | e | e | e | e | e | e | e | e | e | e
  · exact ⟨41, fun s => by rw [e]; exact device_does_1, by kernel_rfl, fun h1 h2 h3 h4 h5 => device_rd1 h1 h2 h3 h4 h5 e⟩
  · exact ⟨41, fun s => by rw [e]; exact device_does_2, by kernel_rfl, fun h1 h2 h3 h4 h5 => device_rd2 h1 h2 h3 h4 h5 e⟩
  · exact ⟨42, fun s => by rw [e]; exact device_does_3, by kernel_rfl, fun h1 h2 h3 h4 h5 => device_rd3 h1 h2 h3 h4 h5 e⟩
  · exact ⟨42, fun s => by rw [e]; exact device_does_4, by kernel_rfl, fun h1 h2 h3 h4 h5 => device_rd4 h1 h2 h3 h4 h5 e⟩
  · exact ⟨43, fun s => by rw [e]; exact device_does_5, by kernel_rfl, fun h1 h2 h3 h4 h5 => device_wr5 h1 h2 h3 h4 h5 e⟩
  · exact ⟨44, fun s => by rw [e]; exact device_does_6, by kernel_rfl, fun h1 h2 h3 h4 h5 => device_wr6 h1 h2 h3 h4 h5 e⟩
  · exact ⟨45, fun s => by rw [e]; exact device_does_8, by kernel_rfl, fun h1 h2 h3 h4 h5 => device_diag h1 h2 h3 h4 h5 e⟩
  · exact ⟨43, fun s => by rw [e]; exact device_does_15, by kernel_rfl, fun h1 h2 h3 h4 h5 => device_wr15 h1 h2 h3 h4 h5 e⟩
  · exact ⟨44, fun s => by rw [e]; exact device_does_16, by kernel_rfl, fun h1 h2 h3 h4 h5 => device_wr16 h1 h2 h3 h4 h5 e⟩
  · exact ⟨46, fun s => by rw [e]; exact device_does_17, by kernel_rfl, fun h1 h2 h3 h4 h5 => device_ident h1 h2 h3 h4 h5 e⟩
  · exact ⟨47, fun s => by rw [e]; exact device_does_22, by kernel_rfl, fun h1 h2 h3 h4 h5 => device_mask h1 h2 h3 h4 h5 e⟩
  · exact ⟨48, fun s => by rw [e]; exact device_does_23, by kernel_rfl, fun h1 h2 h3 h4 h5 => device_rw h1 h2 h3 h4 h5 e⟩
end Go.Proofs
namespace Go.Proofs
open Go.PM
set_option maxHeartbeats 2000000
theorem putDev_hi {b : Nat} {D : Dev} {s : St} {i : Nat} (h : b + 5 < i) : (putDev b D s).blk i = s.blk i := by
  rw [putDev_blk, if_neg (by omega), if_neg (by omega), if_neg (by omega), if_neg (by omega), if_neg (by omega)]
theorem putDev_congr2 {b m : Nat} {D : Dev} {s s' : St} (hk : ∀ i, i < m → i < b + 1 ∨ b + 5 < i → s'.blk i = s.blk i) (i : Nat) (hi : i < m) : (putDev b D s').blk i = (putDev b D s).blk i := by
  rw [putDev_blk, putDev_blk]
  by_cases e5 : i = b + 5
  · rw [if_pos e5, if_pos e5]
  by_cases e4 : i = b + 4
  · rw [if_neg e5, if_neg e5, if_pos e4, if_pos e4]
  by_cases e2 : i = b + 2
  · rw [if_neg e5, if_neg e5, if_neg e4, if_neg e4, if_pos e2, if_pos e2]
  by_cases e3 : i = b + 3
  · rw [if_neg e5, if_neg e5, if_neg e4, if_neg e4, if_neg e2, if_neg e2, if_pos e3, if_pos e3]
  by_cases e1 : i = b + 1
  · rw [if_neg e5, if_neg e5, if_neg e4, if_neg e4, if_neg e2, if_neg e2, if_neg e3, if_neg e3, if_pos e1, if_pos e1]
  rw [if_neg e5, if_neg e5, if_neg e4, if_neg e4, if_neg e2, if_neg e2, if_neg e3, if_neg e3, if_neg e1, if_neg e1]
  exact hk i hi (by omega)
theorem putDev_lo {b : Nat} {D : Dev} {s : St} {i : Nat} (h : i < b + 1) : (putDev b D s).blk i = s.blk i := by
  rw [putDev_blk, if_neg (by omega), if_neg (by omega), if_neg (by omega), if_neg (by omega), if_neg (by omega)]
theorem I64_wrap (n : Int) : I64 (IntKind.i64.wrap n) := by
  unfold IntKind.wrap
  simp [IntKind.signed, IntKind.bits]
  constructor <;> (split <;> omega)
def DOk (n : Nat) (z : Rep × Dev) : Prop := z.2.ok ∧ z.2.c0.length = n
theorem DOk.ite {n : Nat} {c : Prop} [Decidable c] {x y : Rep × Dev} (h1 : c → DOk n x) (h2 : ¬ c → DOk n y) : DOk n (if c then x else y) := by
  split
  · exact h1 ‹_›
  · exact h2 ‹_›
theorem u16_ibits (op : BinOp) (a b : Int) : U16 (ibits op .u16 a b) := ibits_u16 _ _ _
theorem overF_ok {l x : List Int} (h : OkW l) (k : OkW x) (a : Nat) : OkW (overF l a x) := by
  intro y hy
  unfold overF at hy
  rcases List.mem_append.1 hy with hy | hy
  · rcases List.mem_append.1 hy with hy | hy
    · exact h y (List.mem_of_mem_take hy)
    · exact k y hy
  · exact h y (List.mem_of_mem_drop hy)
theorem there_len {N : Nat} {a m : Int} (h : thereF N a m = true) : 0 ≤ a ∧ 0 ≤ m ∧ a + m ≤ N := by
  unfold thereF at h
  have := of_decide_eq_true h
  omega
theorem bodyF_ok {D : Dev} (hD : D.ok) {q : Req} (hq : q.ok) : (bodyF D q).2.ok ∧ (bodyF D q).2.c0.length = D.c0.length := by
  have h1 := hD.h1; have h2 := hD.h2; have h3 := hD.c1; have h4 := hD.v0; have h5 := hD.v1
  have z : I64 0 := by constructor <;> decide
  have ok0 : ∀ {x : List Bool}, thereF D.c0.length q.at_ x.length = true → ({ D with c0 := overF D.c0 q.at_.toNat x } : Dev).ok ∧ (overF D.c0 q.at_.toNat x).length = D.c0.length := by
    intro x hx
    have ht := there_len hx
    have hl : (overF D.c0 q.at_.toNat x).length = D.c0.length := overF_len (by omega)
    exact ⟨⟨by show 1 ≤ (overF D.c0 q.at_.toNat x).length; omega, by show (overF D.c0 q.at_.toNat x).length ≤ 65536; omega, by show D.c1.length = (overF D.c0 q.at_.toNat x).length; omega, by show D.v0.length = (overF D.c0 q.at_.toNat x).length; omega, by show D.v1.length = (overF D.c0 q.at_.toNat x).length; omega, hD.w0, hD.w1, hD.unit, hD.msgs, hD.exc⟩, hl⟩
  have ok1 : ∀ {x : List Int} {a : Int}, OkW x → thereF D.c0.length a x.length = true → ({ D with v1 := overF D.v1 a.toNat x } : Dev).ok := by
    intro x a hw hx
    have ht := there_len hx
    have hl : (overF D.v1 a.toNat x).length = D.v1.length := overF_len (by omega)
    exact ⟨h1, h2, h3, h4, by show (overF D.v1 a.toNat x).length = D.c0.length; omega, hD.w0, overF_ok hD.w1 hw _, hD.unit, hD.msgs, hD.exc⟩
  have key : DOk D.c0.length (bodyF D q) := by
    unfold bodyF
    refine DOk.ite (fun _ => DOk.ite (fun _ => ⟨hD, rfl⟩) (fun _ => ⟨hD, rfl⟩)) fun _ => ?_
    refine DOk.ite (fun _ => DOk.ite (fun _ => ⟨hD, rfl⟩) (fun _ => ⟨hD, rfl⟩)) fun _ => ?_
    refine DOk.ite (fun _ => DOk.ite (fun _ => ⟨hD, rfl⟩) (fun _ => ⟨hD, rfl⟩)) fun _ => ?_
    refine DOk.ite (fun _ => DOk.ite (fun _ => ⟨hD, rfl⟩) (fun _ => ⟨hD, rfl⟩)) fun _ => ?_
    refine DOk.ite (fun _ => DOk.ite (fun ht => ok0 ht) (fun _ => ⟨hD, rfl⟩)) fun _ => ?_
    refine DOk.ite (fun _ => DOk.ite (fun ht => ⟨ok1 hq.vals ht, rfl⟩) (fun _ => ⟨hD, rfl⟩)) fun _ => ?_
    refine DOk.ite (fun _ => ?_) fun _ => ?_
    · unfold diagF
      refine DOk.ite (fun _ => ⟨hD, rfl⟩) fun _ => ?_
      refine DOk.ite (fun _ => ⟨⟨h1, h2, h3, h4, h5, hD.w0, hD.w1, hD.unit, z, z⟩, rfl⟩) fun _ => ?_
      refine DOk.ite (fun _ => DOk.ite (fun _ => ⟨hD, rfl⟩) (fun _ => ⟨hD, rfl⟩)) fun _ => ⟨hD, rfl⟩
    refine DOk.ite (fun _ => ⟨hD, rfl⟩) fun _ => ?_
    refine DOk.ite (fun _ => DOk.ite (fun ht => ⟨ok1 (x := [maskF _ q]) (fun y hy => by rw [List.mem_singleton.1 hy]; exact u16_ibits _ _ _) ht, rfl⟩) (fun _ => ⟨hD, rfl⟩)) fun _ => ?_
    exact DOk.ite (fun ht => ⟨ok1 hq.vals ht.2, rfl⟩) (fun _ => ⟨hD, rfl⟩)
  exact key
theorem inc_ok {D : Dev} (hD : D.ok) : ({ D with msgs := inc D.msgs } : Dev).ok := ⟨hD.h1, hD.h2, hD.c1, hD.v0, hD.v1, hD.w0, hD.w1, hD.unit, I64_wrap _, hD.exc⟩
theorem refD_ok {D : Dev} (hD : D.ok) (fn c : Int) : (refD D fn c).2.ok := ⟨hD.h1, hD.h2, hD.c1, hD.v0, hD.v1, hD.w0, hD.w1, hD.unit, hD.msgs, I64_wrap _⟩
theorem doF_ok {D : Dev} (hD : D.ok) {q : Req} (hq : q.ok) : (doF D q).2.ok ∧ (doF D q).2.c0.length = D.c0.length := by
  have hb := bodyF_ok (inc_ok hD) hq
  have key : DOk D.c0.length (doF D q) := by
    unfold doF
    dsimp only
    refine DOk.ite (fun _ => ⟨refD_ok (inc_ok hD) _ _, rfl⟩) fun _ => ?_
    refine DOk.ite (fun _ => ⟨refD_ok (inc_ok hD) _ _, rfl⟩) fun _ => ?_
    exact DOk.ite (fun _ => ⟨refD_ok hb.1 _ _, hb.2⟩) fun _ => hb
  exact key
theorem DevAt.sv {b : Nat} {D : Dev} {s : St} (h : DevAt b D s) {i : Nat} (hi : b + 5 < i) (x : Option Blk) : DevAt b D (s.set i x) := by
  have e : ∀ j, j ≤ b + 5 → (s.set i x).blk j = s.blk j := fun j hj => blk_set_ne (by omega)
  exact ⟨by rw [e _ (by omega)]; exact h.st, by rw [e _ (by omega)]; exact h.c0, by rw [e _ (by omega)]; exact h.c1, by rw [e _ (by omega)]; exact h.v0, by rw [e _ (by omega)]; exact h.v1, by rw [e _ (by omega)]; exact h.dv⟩
def ROk (z : Rep × Dev) : Prop := z.1.ok
theorem ROk.ite {c : Prop} [Decidable c] {x y : Rep × Dev} (h1 : c → ROk x) (h2 : ¬ c → ROk y) : ROk (if c then x else y) := by
  split
  · exact h1 ‹_›
  · exact h2 ‹_›
theorem zI : I64 0 := by constructor <;> decide
theorem zU : U16 0 := by constructor <;> decide
theorem zW : OkW [] := fun x hx => (List.not_mem_nil hx).elim
theorem refuseP_ok (fn code : Int) : (refuseP fn code).ok := ⟨by show I64 (fn % 128); constructor <;> omega, by show I64 (code % 256); constructor <;> omega, zI, zI, zI, zW, zU, zU, OkB.nil, by show 0 ≤ _; decide, by show 0 * 2 ≤ _; decide, by show 0 ≤ _; decide⟩
theorem rep_ok {fn at_ count sub and_ or_ : Int} {bits : List Bool} {vals data : List Int} (h1 : I64 fn) (h2 : I64 at_) (h3 : I64 count) (h4 : I64 sub) (h5 : OkW vals) (h6 : U16 and_) (h7 : U16 or_) (h8 : OkB data) (h9 : bits.length ≤ 65536) (h10 : vals.length ≤ 65536) (h11 : data.length ≤ 65536) :
    (⟨fn, 0, at_, count, sub, bits, vals, and_, or_, data⟩ : Rep).ok := ⟨h1, zI, h2, h3, h4, h5, h6, h7, h8, by show bits.length ≤ _; omega, by show vals.length * 2 ≤ _; omega, by show data.length ≤ _; omega⟩
theorem cutF_ok {l : List Int} (h : OkW l) (a m : Int) : OkW (cutF l a m) := by
  unfold cutF
  split
  · exact fun x hx => h x (List.mem_of_mem_drop (List.mem_of_mem_take hx))
  · exact zW
theorem cutF_len {α : Type} (l : List α) (a m : Int) : (cutF l a m).length ≤ l.length := by
  unfold cutF
  split
  · rw [List.length_take, List.length_drop]; omega
  · simp
theorem OkW.one {v : Int} (h : U16 v) : OkW [v] := fun x hx => by rw [List.mem_singleton.1 hx]; exact h
theorem head_ok {l : List Int} (h : OkW l) : U16 ((l[0]?).getD 0) := by
  cases hx : l[0]? with
  | none => exact zU
  | some x => exact h x (List.mem_of_getElem? hx)
theorem u16_wrap_ok (n : Int) : U16 (IntKind.u16.wrap n) := by rw [u16_wrap]; constructor <;> omega
theorem bodyF_rep {D : Dev} (hD : D.ok) {q : Req} (hq : q.ok) : (bodyF D q).1.ok := by
  have h1 := hD.h1; have h2 := hD.h2; have h3 := hD.c1; have h4 := hD.v0; have h5 := hD.v1
  have w : ROk (whereF q, D) := refuseP_ok _ _
  have n0 : ([] : List Bool).length ≤ 65536 := by decide
  have n1 : ([] : List Int).length ≤ 65536 := by decide
  have m1 : ∀ v : Int, [v].length ≤ 65536 := fun v => by simp
  have m2 : ∀ v : Bool, [v].length ≤ 65536 := fun v => by simp
  have key : ROk (bodyF D q) := by
    unfold bodyF
    refine ROk.ite (fun _ => ROk.ite (fun _ => rep_ok hq.fn zI zI zI zW zU zU OkB.nil (Nat.le_trans (cutF_len _ _ _) (by omega)) n1 n1) (fun _ => w)) fun _ => ?_
    refine ROk.ite (fun _ => ROk.ite (fun _ => rep_ok hq.fn zI zI zI zW zU zU OkB.nil (Nat.le_trans (cutF_len _ _ _) (by omega)) n1 n1) (fun _ => w)) fun _ => ?_
    refine ROk.ite (fun _ => ROk.ite (fun _ => rep_ok hq.fn zI zI zI (cutF_ok hD.w1 _ _) zU zU OkB.nil n0 (Nat.le_trans (cutF_len _ _ _) (by omega)) n1) (fun _ => w)) fun _ => ?_
    refine ROk.ite (fun _ => ROk.ite (fun _ => rep_ok hq.fn zI zI zI (cutF_ok hD.w0 _ _) zU zU OkB.nil n0 (Nat.le_trans (cutF_len _ _ _) (by omega)) n1) (fun _ => w)) fun _ => ?_
    refine ROk.ite (fun _ => ROk.ite (fun _ => ?_) (fun _ => w)) fun _ => ?_
    · show Rep.ok (if q.fn = 15 then _ else _)
      split
      · exact rep_ok hq.fn hq.at_ hq.count zI zW zU zU OkB.nil n0 n1 n1
      · exact rep_ok hq.fn hq.at_ zI zI zW zU zU OkB.nil (m2 _) n1 n1
    refine ROk.ite (fun _ => ROk.ite (fun _ => ?_) (fun _ => w)) fun _ => ?_
    · show Rep.ok (if q.fn = 16 then _ else _)
      split
      · exact rep_ok hq.fn hq.at_ hq.count zI zW zU zU OkB.nil n0 n1 n1
      · exact rep_ok hq.fn hq.at_ zI zI (OkW.one (head_ok hq.vals)) zU zU OkB.nil n0 (m1 _) n1
    refine ROk.ite (fun _ => ?_) fun _ => ?_
    · unfold diagF
      refine ROk.ite (fun _ => rep_ok hq.fn zI zI hq.sub (OkW.one (head_ok hq.vals)) zU zU OkB.nil n0 (m1 _) n1) fun _ => ?_
      refine ROk.ite (fun _ => rep_ok hq.fn zI zI hq.sub (OkW.one (head_ok hq.vals)) zU zU OkB.nil n0 (m1 _) n1) fun _ => ?_
      exact ROk.ite (fun _ => ROk.ite (fun _ => refuseP_ok _ _) (fun _ => rep_ok hq.fn zI zI hq.sub (OkW.one (u16_wrap_ok _)) zU zU OkB.nil n0 (m1 _) n1)) fun _ => refuseP_ok _ _
    refine ROk.ite (fun _ => rep_ok hq.fn zI zI zI zW zU zU (OkB.cons hD.unit (OkB.cons (by constructor <;> decide) OkB.nil)) n0 n1 (by simp)) fun _ => ?_
    refine ROk.ite (fun _ => ROk.ite (fun _ => rep_ok hq.fn hq.at_ zI zI zW hq.and_ hq.or_ OkB.nil n0 n1 n1) (fun _ => w)) fun _ => ?_
    refine ROk.ite (fun ht => rep_ok hq.fn zI zI zI (cutF_ok (overF_ok hD.w1 hq.vals _) _ _) zU zU OkB.nil n0 (Nat.le_trans (cutF_len _ _ _) ?_) n1) (fun _ => w)
    have := there_len ht.2
    rw [overF_len (by omega)]; omega
  exact key
theorem doF_rep {D : Dev} (hD : D.ok) {q : Req} (hq : q.ok) : (doF D q).1.ok := by
  have hb := bodyF_rep (inc_ok hD) hq
  have key : ROk (doF D q) := by
    unfold doF
    dsimp only
    refine ROk.ite (fun _ => refuseP_ok _ _) fun _ => ?_
    refine ROk.ite (fun _ => refuseP_ok _ _) fun _ => ?_
    exact ROk.ite (fun _ => refuseP_ok _ _) fun _ => hb
  exact key
attribute [local go_sem] set_set putDev_hi putDev_nxt weaks_bools Req.pv Rep.pv
set_option maxRecDepth 100000 in
theorem device_DoNo {b : Nat} {D : Dev} {s : St} (hA : DevAt b D s) {q : Req} (hq : q.ok) (hh : hasF q.fn = false) : ACalls Try.prog 9 [.ptr (b + 5) 0 0, q.pv] s (fun r s' => r = (doF D q).1.pv ∧ s' = putDev b (doF D q).2 s) := by
  refine go Try.func9 (k := fun hwf H => ?_)
  have hdv := hA.dv
  unfold devRow at hdv
  have hlt := hA.lt hwf
  have h1c : I64 1 := by constructor <;> decide
  have h3c : I64 3 := by constructor <;> decide
  have hinc : IntKind.i64.wrap (D.msgs + 1) = inc D.msgs := rfl
  have H := aj hdv (aj hinc H)
  refine rs (k := rg [0, 3, 4] (k := rs (k := rg [0, 3, 4] (k := rs (k := ?_)))))
  refine Run.genS fun S hS => ?_
  have g0 : S.blk s.nxt = some (.row 33 [.agg [.int .i64 q.fn, .int .i64 q.at_, .int .i64 q.count, .int .i64 q.wat, .int .i64 q.sub, .sl .unk (q.bits.map PV.bool), .sl .unk (q.vals.map (PV.int .u16)), .int .u16 q.and_, .int .u16 q.or_]]) := by rw [hS]; simp (disch := first | omega | (simp only [nxt_set, nxt_new] <;> omega) | fail) only [go_sem] <;> rfl
  have g1 : S.blk (s.nxt + 1) = some (.row 30 [.agg [.int .i64 0, .int .i64 0, .int .i64 0, .int .i64 0, .int .i64 0, .sl .nil [], .sl .nil [], .int .u16 0, .int .u16 0, .sl .nil []]]) := by rw [hS]; simp (disch := first | omega | (simp only [nxt_set, nxt_new] <;> omega) | fail) only [go_sem] <;> rfl
  have gA : DevAt b { D with msgs := inc D.msgs } S := by
    have e : ∀ i, i ≤ b + 5 → i ≠ b + 5 → S.blk i = s.blk i := fun i h1 h2 => by rw [hS]; simp (disch := first | omega | (simp only [nxt_set, nxt_new] <;> omega) | fail) only [go_sem]
    exact ⟨by rw [e _ (by omega) (by omega)]; exact hA.st, by rw [e _ (by omega) (by omega)]; exact hA.c0, by rw [e _ (by omega) (by omega)]; exact hA.c1, by rw [e _ (by omega) (by omega)]; exact hA.v0, by rw [e _ (by omega) (by omega)]; exact hA.v1, by rw [hS]; simp (disch := first | omega | (simp only [nxt_set, nxt_new] <;> omega) | fail) only [go_sem] <;> rfl⟩
  have gn : S.nxt = s.nxt + 2 := by rw [hS]; rfl
  have gf : ∀ i, i < s.nxt → i ≠ b + 5 → S.blk i = s.blk i := fun i h1 h2 => by rw [hS]; simp (disch := first | omega | (simp only [nxt_set, nxt_new] <;> omega) | fail) only [go_sem]
  clear hS
  have H := aj g0 (aj g1 H)
  refine rr (k := ro (pre := [_, _]) (k := rC (h := device_does_no hh) (k := rh [0, 3, 4, 5] (k := rs (k := rb (k := rs (k := rg [0, 3, 4, 5, 17] (k := rc (ht := fun hc0 => ?_) (hf := fun hc0 => ?_)))))))))
  · refine rs (k := rr (k := ro (pre := [_, _, _]) (k := ?_)))
    refine RunO.callw au au au (by kernel_rfl) ((device_refuse gA hq.fn h1c).mono ?_)
    rintro r s1 ⟨rfl, rfl⟩
    refine rh [4] (k := rR (k := ?_))
    have hB : doF D q = refD { D with msgs := inc D.msgs } q.fn 1 := by
      unfold doF
      dsimp only
      rw [if_pos hh]
    refine Ret.dev (doF D q).2 hA (r' := (doF D q).1.pv) (by simp only [Try.f9, go_sem, ↓reduceIte] <;> rfl) ?_ (blw_rep _ _) hwf ?_ ⟨rfl, rfl⟩
    · rw [hB]; rfl
    · rw [hB]
      exact (fun i hi => by
           have h0 := ltn hi; have h1 := lte hi; have h2 : (i = S.nxt) = False := eq_false (by rw [gn]; omega)
           simp (disch := first | omega | (simp only [nxt_set, nxt_new] <;> omega) | fail) only [h2, go_sem, Nat.add_assoc, Nat.reduceAdd, ↓reduceIte, h0, h1]
           exact putDev_congr2 (m := s.nxt) (fun j hj hj2 => by
             have h0 := ltn hj; have h1 := lte hj; have h2 : (j = S.nxt) = False := eq_false (by rw [gn]; omega)
             first
             | exact gf j hj (by omega)
             | (rcases hj2 with hj2 | hj2
                · simp (disch := first | omega | (simp only [nxt_set, nxt_new] <;> omega) | fail) only [h2, ↓reduceIte, go_sem, putDev_lo, putDev_put]; exact gf j hj (by omega)
                · simp (disch := first | omega | (simp only [nxt_set, nxt_new] <;> omega) | fail) only [h2, ↓reduceIte, go_sem, putDev_hi, putDev_put]; exact gf j hj (by omega))) i hi)
  · cases hc0
attribute [local go_sem] set_set putDev_hi putDev_nxt weaks_bools Req.pv Rep.pv
set_option maxRecDepth 100000 in
theorem device_DoYes {b : Nat} {D : Dev} {s : St} (hA : DevAt b D s) (hD : D.ok) {q : Req} (hq : q.ok) (hh : hasF q.fn = true) : ACalls Try.prog 9 [.ptr (b + 5) 0 0, q.pv] s (fun r s' => r = (doF D q).1.pv ∧ s' = putDev b (doF D q).2 s) := by
  refine go Try.func9 (k := fun hwf H => ?_)
  have hdv := hA.dv
  unfold devRow at hdv
  have hlt := hA.lt hwf
  have h1c : I64 1 := by constructor <;> decide
  have h3c : I64 3 := by constructor <;> decide
  have hinc : IntKind.i64.wrap (D.msgs + 1) = inc D.msgs := rfl
  have H := aj hdv (aj hinc H)
  obtain ⟨Nf, hdoes, hcal, hbody⟩ := device_does_body hh
  obtain ⟨X, hX⟩ : ∃ X, X = bodyF { D with msgs := inc D.msgs } q := ⟨_, rfl⟩
  refine rs (k := rg [0, 3, 4] (k := rs (k := rg [0, 3, 4] (k := rs (k := ?_)))))
  refine Run.genS fun S hS => ?_
  have g0 : S.blk s.nxt = some (.row 33 [.agg [.int .i64 q.fn, .int .i64 q.at_, .int .i64 q.count, .int .i64 q.wat, .int .i64 q.sub, .sl .unk (q.bits.map PV.bool), .sl .unk (q.vals.map (PV.int .u16)), .int .u16 q.and_, .int .u16 q.or_]]) := by rw [hS]; simp (disch := first | omega | (simp only [nxt_set, nxt_new] <;> omega) | fail) only [go_sem] <;> rfl
  have g1 : S.blk (s.nxt + 1) = some (.row 30 [.agg [.int .i64 0, .int .i64 0, .int .i64 0, .int .i64 0, .int .i64 0, .sl .nil [], .sl .nil [], .int .u16 0, .int .u16 0, .sl .nil []]]) := by rw [hS]; simp (disch := first | omega | (simp only [nxt_set, nxt_new] <;> omega) | fail) only [go_sem] <;> rfl
  have gA : DevAt b { D with msgs := inc D.msgs } S := by
    have e : ∀ i, i ≤ b + 5 → i ≠ b + 5 → S.blk i = s.blk i := fun i h1 h2 => by rw [hS]; simp (disch := first | omega | (simp only [nxt_set, nxt_new] <;> omega) | fail) only [go_sem]
    exact ⟨by rw [e _ (by omega) (by omega)]; exact hA.st, by rw [e _ (by omega) (by omega)]; exact hA.c0, by rw [e _ (by omega) (by omega)]; exact hA.c1, by rw [e _ (by omega) (by omega)]; exact hA.v0, by rw [e _ (by omega) (by omega)]; exact hA.v1, by rw [hS]; simp (disch := first | omega | (simp only [nxt_set, nxt_new] <;> omega) | fail) only [go_sem] <;> rfl⟩
  have gn : S.nxt = s.nxt + 2 := by rw [hS]; rfl
  have gf : ∀ i, i < s.nxt → i ≠ b + 5 → S.blk i = s.blk i := fun i h1 h2 => by rw [hS]; simp (disch := first | omega | (simp only [nxt_set, nxt_new] <;> omega) | fail) only [go_sem]
  clear hS
  have H := aj g0 (aj g1 (aj gn H))
  refine rr (k := ro (pre := [_, _]) (k := rC (h := hdoes _) (k := rh [0, 3, 4, 5] (k := rs (k := rb (k := rs (k := rg [0, 3, 4, 5, 17] (k := rc (ht := fun hc0 => ?_) (hf := fun hc0 => ?_)))))))))
  · cases hc0
  refine rs (k := rr (k := ro (pre := [_]) (k := rC (h := pdu_Right (q := q)) (k := ro (pre := [_, _, _]) (k := rG (h := fun hb => pdu_Counts (q := q)) (k := rh [0, 3, 4, 5, 24] (k := rc (ht := fun hc1 => ?_) (hf := fun hc1 => ?_))))))))
  refine rs (k := rr (k := ro (pre := [_, _, _]) (k := ?_)))
  refine RunO.callw au au au (by kernel_rfl) ((device_refuse gA hq.fn h3c).mono ?_)
  refine jO 1 ?_; rotate_left
  refine rk (k := rB (k := rs (k := ?_)))
  have hok : rightF q = 0 ∧ countF q = true := by simpa using hc1
  have gA2 : DevAt b X.2 (putDev b X.2 S) := gA.put (by rw [hX]; exact (bodyF_ok (inc_ok hD) hq).2)
  refine rr (k := ro (pre := [_, _, _]) (k := ?_))
  refine RunO.callw au au au hcal ((hbody gA (inc_ok hD) hq hok.1 hok.2).mono ?_)
  rw [← hX]
  rintro r s1 ⟨rfl, rfl⟩
  refine rh [0, 3, 4, 6] (k := rs (k := rs (k := rg [0, 3, 4, 6, 43] (k := rc (ht := fun hc2 => ?_) (hf := fun hc2 => ?_)))))
  refine rs (k := ?_)
  have hXc : I64 X.1.code := by rw [hX]; exact (bodyF_rep (inc_ok hD) hq).code
  refine rr (k := ro (pre := [_, _, _, _, _]) (k := ?_))
  refine RunO.callw au au au (by kernel_rfl) ((device_refuse ((gA2.nw (by rw [putDev_nxt]; omega) _).sv (by omega) _) hq.fn hXc).mono ?_)
  refine jO 1 ?_; rotate_left
  refine rk (k := rs (k := rg [4] (k := rR (k := ?_))))
  refine jO 2 ?_; rotate_left
  any_goals
    refine jI 1 ?_
    rintro r s1 ⟨rfl, rfl⟩
    refine jO 3 ?_; rotate_left
  any_goals
    refine jI 3 ?_
    refine rh [4] (k := rR (k := ?_))
    refine jO 2 ?_; rotate_left
  any_goals
    refine jI 2 ?_
    have h00 : ¬ hasF q.fn = false := by rw [hh]; decide
    refine jO 4 ?_; rotate_left
  any_goals
    refine jI 4 ?_
    first
      | (have hB : doF D q = refD { D with msgs := inc D.msgs } q.fn 3 := by
           have hcc : ¬ rightF q = 0 ∨ countF q = false := by simpa using hc1
           unfold doF
           dsimp only
           rw [if_neg h00, if_pos hcc]
         refine Ret.dev (doF D q).2 hA (r' := (doF D q).1.pv) (by simp only [Try.f9, go_sem, ↓reduceIte] <;> rfl) ?_ (blw_rep _ _) hwf ?_ ⟨rfl, rfl⟩
         · rw [hB]; rfl
         · rw [hB]
           exact (fun i hi => by
           have h0 := ltn hi; have h1 := lte hi; have h2 : (i = S.nxt) = False := eq_false (by rw [gn]; omega)
           simp (disch := first | omega | (simp only [nxt_set, nxt_new] <;> omega) | fail) only [h2, go_sem, Nat.add_assoc, Nat.reduceAdd, ↓reduceIte, h0, h1]
           exact putDev_congr2 (m := s.nxt) (fun j hj hj2 => by
             have h0 := ltn hj; have h1 := lte hj; have h2 : (j = S.nxt) = False := eq_false (by rw [gn]; omega)
             first
             | exact gf j hj (by omega)
             | (rcases hj2 with hj2 | hj2
                · simp (disch := first | omega | (simp only [nxt_set, nxt_new] <;> omega) | fail) only [h2, ↓reduceIte, go_sem, putDev_lo, putDev_put]; exact gf j hj (by omega)
                · simp (disch := first | omega | (simp only [nxt_set, nxt_new] <;> omega) | fail) only [h2, ↓reduceIte, go_sem, putDev_hi, putDev_put]; exact gf j hj (by omega))) i hi))
      | (have hB : doF D q = refD X.2 q.fn X.1.code := by
           have hcc : ¬ (¬ rightF q = 0 ∨ countF q = false) := by rw [hok.1, hok.2]; simp
           have hc3 : ¬ X.1.code = 0 := by simpa using hc2
           unfold doF
           dsimp only
           rw [if_neg h00, if_neg hcc, ← hX, if_pos hc3]
         refine Ret.dev (doF D q).2 hA (r' := (doF D q).1.pv) (by simp only [Try.f9, go_sem, ↓reduceIte] <;> rfl) ?_ (blw_rep _ _) hwf ?_ ⟨rfl, rfl⟩
         · rw [hB]; rfl
         · rw [hB]
           exact (fun i hi => by
           have h0 := ltn hi; have h1 := lte hi; have h2 : (i = S.nxt) = False := eq_false (by rw [gn]; omega)
           simp (disch := first | omega | (simp only [nxt_set, nxt_new] <;> omega) | fail) only [h2, go_sem, Nat.add_assoc, Nat.reduceAdd, ↓reduceIte, h0, h1]
           exact putDev_congr2 (m := s.nxt) (fun j hj hj2 => by
             have h0 := ltn hj; have h1 := lte hj; have h2 : (j = S.nxt) = False := eq_false (by rw [gn]; omega)
             first
             | exact gf j hj (by omega)
             | (rcases hj2 with hj2 | hj2
                · simp (disch := first | omega | (simp only [nxt_set, nxt_new] <;> omega) | fail) only [h2, ↓reduceIte, go_sem, putDev_lo, putDev_put]; exact gf j hj (by omega)
                · simp (disch := first | omega | (simp only [nxt_set, nxt_new] <;> omega) | fail) only [h2, ↓reduceIte, go_sem, putDev_hi, putDev_put]; exact gf j hj (by omega))) i hi))
      | (have hB : doF D q = X := by
           have hcc : ¬ (¬ rightF q = 0 ∨ countF q = false) := by rw [hok.1, hok.2]; simp
           have hc3 : ¬ ¬ X.1.code = 0 := by simpa using hc2
           unfold doF
           dsimp only
           rw [if_neg h00, if_neg hcc, ← hX, if_neg hc3]
         refine Ret.dev (doF D q).2 hA (r' := (doF D q).1.pv) (by simp only [Try.f9, go_sem, ↓reduceIte] <;> rfl) ?_ (blw_rep _ _) hwf ?_ ⟨rfl, rfl⟩
         · rw [hB]; simp only [Rep.pv, PV.weak, PV.weaks, weaks_u16, weaks_bools, weaks_u8]
         · rw [hB]
           exact (fun i hi => by
           have h0 := ltn hi; have h1 := lte hi; have h2 : (i = S.nxt) = False := eq_false (by rw [gn]; omega)
           simp (disch := first | omega | (simp only [nxt_set, nxt_new] <;> omega) | fail) only [h2, go_sem, Nat.add_assoc, Nat.reduceAdd, ↓reduceIte, h0, h1]
           exact putDev_congr2 (m := s.nxt) (fun j hj hj2 => by
             have h0 := ltn hj; have h1 := lte hj; have h2 : (j = S.nxt) = False := eq_false (by rw [gn]; omega)
             first
             | exact gf j hj (by omega)
             | (rcases hj2 with hj2 | hj2
                · simp (disch := first | omega | (simp only [nxt_set, nxt_new] <;> omega) | fail) only [h2, ↓reduceIte, go_sem, putDev_lo, putDev_put]; exact gf j hj (by omega)
                · simp (disch := first | omega | (simp only [nxt_set, nxt_new] <;> omega) | fail) only [h2, ↓reduceIte, go_sem, putDev_hi, putDev_put]; exact gf j hj (by omega))) i hi))
end Go.Proofs
namespace Go.Proofs
open Go.PM
set_option maxHeartbeats 2000000
theorem device_Do {b : Nat} {D : Dev} {s : St} (hA : DevAt b D s) (hD : D.ok) {q : Req} (hq : q.ok) : ACalls Try.prog 9 [.ptr (b + 5) 0 0, q.pv] s (fun r s' => r = (doF D q).1.pv ∧ s' = putDev b (doF D q).2 s) := by
  cases hh : hasF q.fn with
  | false => exact device_DoNo hA hq hh
  | true => exact device_DoYes hA hD hq hh
theorem u8_and127 {a : Int} (h : U8 a) : ibits .and .u8 a 127 = a % 128 := by
  unfold U8 at h
  obtain ⟨n, rfl⟩ : ∃ n : Nat, a = n := ⟨a.toNat, (Int.toNat_of_nonneg h.1).symm⟩
  have hn : n < 256 := by omega
  have : ∀ m : Fin 256, ibits .and .u8 ((m.val : Nat) : Int) 127 = ((m.val : Nat) : Int) % 128 := by decide +kernel
  exact this ⟨n, hn⟩
theorem zeroR_ok : zeroR.ok := ⟨zI, zI, zI, zI, zI, zW, zU, zU, by decide, by decide⟩
theorem readF_ok {l : List Int} (h : OkB l) (hl : l.length ≤ 140737488351232) : (readF l).1.ok := by
  unfold readF
  repeat' split
  · exact zeroR_ok
  · exact zeroR_ok
  · exact guessF_ok h hl
  · exact zeroR_ok
theorem readF_nil {l : List Int} (h : ¬ (readF l).2 = 13) : l ≠ [] := by
  rintro rfl
  exact h rfl
attribute [local go_sem] set_set putDev_hi putDev_nxt weaks_bools Req.pv Rep.pv
set_option maxRecDepth 100000 in
theorem device_Pdu {b : Nat} {D : Dev} {s : St} (hA : DevAt b D s) (hD : D.ok) {l : List Int} (hb : OkB l) (hl : l.length ≤ 140737488351232) : ACalls Try.prog 16 [.ptr (b + 5) 0 0, .sl .unk (l.map (PV.int .u8))] s (fun r s' => r = .sl .unk ((pduF D l).1.map (PV.int .u8)) ∧ s' = putDev b (pduF D l).2 s) := by
  refine go Try.func16 (k := fun hwf H => ?_)
  have hdv := hA.dv
  unfold devRow at hdv
  have hlt := hA.lt hwf
  have hA1 : ∀ x y, DevAt b D ((s.new x).new y) := fun x y => (hA.nw hlt x).nw (by show b + 5 < s.nxt + 1; omega) y
  have h1c : I64 1 := by constructor <;> decide
  have h3c : I64 3 := by constructor <;> decide
  have hinc : IntKind.i64.wrap (D.msgs + 1) = inc D.msgs := rfl
  have H := aj hdv (aj hinc H)
  obtain ⟨q, hQ⟩ : ∃ q, q = (readF l).1 := ⟨_, rfl⟩
  obtain ⟨E, hE⟩ : ∃ E, E = (readF l).2 := ⟨_, rfl⟩
  have hqo : q.ok := by rw [hQ]; exact readF_ok hb hl
  have hrd : ∀ s, ACalls Try.prog 39 [.sl .unk (l.map (PV.int .u8))] s (fun r s' => r = .tuple [q.pv, .int .i64 E] ∧ s' = s) := fun s => by rw [hQ, hE]; exact pdu_Read hb hl
  refine rs (k := rg [0, 1] (k := rs (k := rr (k := ro (pre := [_]) (k := rC (h := hrd _) (k := rh [0, 1, 5, 6] (k := rs (k := rg [0, 1, 5, 6, 7] (k := rs (k := rs (k := rg [0, 1, 5, 7, 15] (k := rb (k := rs (k := rg [0, 1, 5, 7, 15, 19] (k := rc (ht := fun hc0 => ?_) (hf := fun hc0 => ?_))))))))))))))))
  refine rs (k := rg [4] (k := rR (k := ?_)))
  refine jO 1 ?_; rotate_left
  refine rs (k := rg [0, 1, 5, 7, 15, 21] (k := rc (ht := fun hc1 => ?_) (hf := fun hc1 => ?_)))
  refine rs (k := ?_)
  have hne : l ≠ [] := readF_nil (by rw [← hE]; have := of_decide_eq_false hc0; exact this)
  have hll : 0 < l.length := List.length_pos_iff.2 hne
  obtain ⟨x, hx⟩ : ∃ x, l[0]? = some x := ⟨l[0], List.getElem?_eq_getElem hll⟩
  have hxx : (l.map (PV.int .u8))[0]? = some (.int .u8 x) := by rw [List.getElem?_map, hx]; rfl
  have hlT : (0 < l.length) = True := eq_true hll
  have hx8 : U8 x := hb x (List.mem_of_getElem? hx)
  have hx0 : (l[0]?).getD 0 = x := by rw [hx]; rfl
  have ha127 : ibits .and .u8 x 127 = x % 128 := u8_and127 hx8
  have hw : IntKind.i64.wrap (x % 128) = x % 128 := wrap_i64 (by omega)
  have hx64 : I64 (x % 128) := by constructor <;> omega
  have H := aj hxx (aj hlT (aj ha127 (aj hw H)))
  refine rg [0, 1, 7] (k := ?_)
  refine Run.genS fun S hS => ?_
  have g0 : S.blk s.nxt = some (.row 33 [.agg [.int .i64 q.fn, .int .i64 q.at_, .int .i64 q.count, .int .i64 q.wat, .int .i64 q.sub, .sl .unk (q.bits.map PV.bool), .sl .unk (q.vals.map (PV.int .u16)), .int .u16 q.and_, .int .u16 q.or_]]) := by rw [hS]; simp (disch := first | omega | (simp only [nxt_set, nxt_new] <;> omega) | fail) only [go_sem] <;> rfl
  have g1 : S.blk (s.nxt + 1) = some (.row 30 [.agg [.int .i64 0, .int .i64 0, .int .i64 0, .int .i64 0, .int .i64 0, .sl .nil [], .sl .nil [], .int .u16 0, .int .u16 0, .sl .nil []]]) := by rw [hS]; simp (disch := first | omega | (simp only [nxt_set, nxt_new] <;> omega) | fail) only [go_sem] <;> rfl
  have gA : DevAt b { D with msgs := inc D.msgs } S := by
    have e : ∀ i, i ≤ b + 5 → i ≠ b + 5 → S.blk i = s.blk i := fun i h1 h2 => by rw [hS]; simp (disch := first | omega | (simp only [nxt_set, nxt_new] <;> omega) | fail) only [go_sem]
    exact ⟨by rw [e _ (by omega) (by omega)]; exact hA.st, by rw [e _ (by omega) (by omega)]; exact hA.c0, by rw [e _ (by omega) (by omega)]; exact hA.c1, by rw [e _ (by omega) (by omega)]; exact hA.v0, by rw [e _ (by omega) (by omega)]; exact hA.v1, by rw [hS]; simp (disch := first | omega | (simp only [nxt_set, nxt_new] <;> omega) | fail) only [go_sem] <;> rfl⟩
  have gn : S.nxt = s.nxt + 2 := by rw [hS]; rfl
  have gf : ∀ i, i < s.nxt → i ≠ b + 5 → S.blk i = s.blk i := fun i h1 h2 => by rw [hS]; simp (disch := first | omega | (simp only [nxt_set, nxt_new] <;> omega) | fail) only [go_sem]
  clear hS
  have H := aj g0 (aj g1 H)
  refine rr (k := ro (pre := [_, _, _, _, _, _]) (k := ?_))
  refine RunO.callw au au au (by kernel_rfl) ((device_refuse gA hx64 h1c).mono ?_)
  refine jO 2 ?_; rotate_left
  refine rs (k := rg [0, 1, 5, 7, 37] (k := rc (ht := fun hc2 => ?_) (hf := fun hc2 => ?_)))
  refine rs (k := ?_)
  have hne : l ≠ [] := readF_nil (by rw [← hE]; have := of_decide_eq_false hc0; exact this)
  have hll : 0 < l.length := List.length_pos_iff.2 hne
  obtain ⟨x, hx⟩ : ∃ x, l[0]? = some x := ⟨l[0], List.getElem?_eq_getElem hll⟩
  have hxx : (l.map (PV.int .u8))[0]? = some (.int .u8 x) := by rw [List.getElem?_map, hx]; rfl
  have hlT : (0 < l.length) = True := eq_true hll
  have hx8 : U8 x := hb x (List.mem_of_getElem? hx)
  have hx0 : (l[0]?).getD 0 = x := by rw [hx]; rfl
  have ha127 : ibits .and .u8 x 127 = x % 128 := u8_and127 hx8
  have hw : IntKind.i64.wrap (x % 128) = x % 128 := wrap_i64 (by omega)
  have hx64 : I64 (x % 128) := by constructor <;> omega
  have H := aj hxx (aj hlT (aj ha127 (aj hw H)))
  refine rg [0, 1, 7] (k := ?_)
  refine Run.genS fun S hS => ?_
  have g0 : S.blk s.nxt = some (.row 33 [.agg [.int .i64 q.fn, .int .i64 q.at_, .int .i64 q.count, .int .i64 q.wat, .int .i64 q.sub, .sl .unk (q.bits.map PV.bool), .sl .unk (q.vals.map (PV.int .u16)), .int .u16 q.and_, .int .u16 q.or_]]) := by rw [hS]; simp (disch := first | omega | (simp only [nxt_set, nxt_new] <;> omega) | fail) only [go_sem] <;> rfl
  have g1 : S.blk (s.nxt + 1) = some (.row 30 [.agg [.int .i64 0, .int .i64 0, .int .i64 0, .int .i64 0, .int .i64 0, .sl .nil [], .sl .nil [], .int .u16 0, .int .u16 0, .sl .nil []]]) := by rw [hS]; simp (disch := first | omega | (simp only [nxt_set, nxt_new] <;> omega) | fail) only [go_sem] <;> rfl
  have gA : DevAt b { D with msgs := inc D.msgs } S := by
    have e : ∀ i, i ≤ b + 5 → i ≠ b + 5 → S.blk i = s.blk i := fun i h1 h2 => by rw [hS]; simp (disch := first | omega | (simp only [nxt_set, nxt_new] <;> omega) | fail) only [go_sem]
    exact ⟨by rw [e _ (by omega) (by omega)]; exact hA.st, by rw [e _ (by omega) (by omega)]; exact hA.c0, by rw [e _ (by omega) (by omega)]; exact hA.c1, by rw [e _ (by omega) (by omega)]; exact hA.v0, by rw [e _ (by omega) (by omega)]; exact hA.v1, by rw [hS]; simp (disch := first | omega | (simp only [nxt_set, nxt_new] <;> omega) | fail) only [go_sem] <;> rfl⟩
  have gn : S.nxt = s.nxt + 2 := by rw [hS]; rfl
  have gf : ∀ i, i < s.nxt → i ≠ b + 5 → S.blk i = s.blk i := fun i h1 h2 => by rw [hS]; simp (disch := first | omega | (simp only [nxt_set, nxt_new] <;> omega) | fail) only [go_sem]
  clear hS
  have H := aj g0 (aj g1 H)
  refine rr (k := ro (pre := [_, _, _, _, _, _]) (k := ?_))
  refine RunO.callw au au au (by kernel_rfl) ((device_refuse gA hx64 h3c).mono ?_)
  refine jO 2 ?_; rotate_left
  refine rr (k := ro (pre := [_, _]) (k := ?_))
  refine RunO.callw au au au (by kernel_rfl) ((device_Do (hA1 _ _) hD hqo).mono ?_)
  refine jO 2 ?_; rotate_left
  any_goals
    refine jI 2 ?_
    rintro r s1 ⟨rfl, rfl⟩
    refine jO 3 ?_; rotate_left
  any_goals
    refine jI 3 ?_
    refine rh [7] (k := rB (k := rs (k := rr (k := ro (pre := [_]) (k := rC (h := reply_Bytes (by first | exact refuseP_ok _ _ | exact doF_rep hD hqo)) (k := rh [8] (k := rs (k := rg [4] (k := rR (k := ?_))))))))))
    refine jO 1 ?_; rotate_left
  any_goals
    refine jI 1 ?_
    first
      | (have hEk : E = 15 := of_decide_eq_true hc1
         have hB : pduF D l = (repF (refD { D with msgs := inc D.msgs } (x % 128) 1).1, (refD { D with msgs := inc D.msgs } (x % 128) 1).2) := by
           unfold pduF
           rw [← hE, hEk, hx0]
           rfl
         refine Ret.dev (refD { D with msgs := inc D.msgs } (x % 128) 1).2 hA (r' := .sl .unk ((repF (refD { D with msgs := inc D.msgs } (x % 128) 1).1).map (PV.int .u8))) (by simp only [Try.f16, go_sem, ↓reduceIte] <;> rfl) ?_ (by simp only [PV.blw]; exact ⟨fun t z e => (by cases e), blws_u8 _ _⟩) hwf ?_ ⟨by rw [hB], by rw [hB]⟩
         · simp only [PV.weak, weaks_u8]
         · exact (fun i hi => by
           have h0 := ltn hi; have h1 := lte hi; have h2 : (i = S.nxt) = False := eq_false (by rw [gn]; omega)
           simp (disch := first | omega | (simp only [nxt_set, nxt_new] <;> omega) | fail) only [h2, go_sem, Nat.add_assoc, Nat.reduceAdd, ↓reduceIte, h0, h1]
           exact putDev_congr2 (m := s.nxt) (fun j hj hj2 => by
             have h0 := ltn hj; have h1 := lte hj; have h2 : (j = S.nxt) = False := eq_false (by rw [gn]; omega)
             first
             | exact gf j hj (by omega)
             | (rcases hj2 with hj2 | hj2
                · simp (disch := first | omega | (simp only [nxt_set, nxt_new] <;> omega) | fail) only [h2, ↓reduceIte, go_sem, putDev_lo, putDev_put]; exact gf j hj (by omega)
                · simp (disch := first | omega | (simp only [nxt_set, nxt_new] <;> omega) | fail) only [h2, ↓reduceIte, go_sem, putDev_hi, putDev_put]; exact gf j hj (by omega))) i hi))
      | (have hEk : E = 12 := of_decide_eq_true hc2
         have hB : pduF D l = (repF (refD { D with msgs := inc D.msgs } (x % 128) 3).1, (refD { D with msgs := inc D.msgs } (x % 128) 3).2) := by
           unfold pduF
           rw [← hE, hEk, hx0]
           rfl
         refine Ret.dev (refD { D with msgs := inc D.msgs } (x % 128) 3).2 hA (r' := .sl .unk ((repF (refD { D with msgs := inc D.msgs } (x % 128) 3).1).map (PV.int .u8))) (by simp only [Try.f16, go_sem, ↓reduceIte] <;> rfl) ?_ (by simp only [PV.blw]; exact ⟨fun t z e => (by cases e), blws_u8 _ _⟩) hwf ?_ ⟨by rw [hB], by rw [hB]⟩
         · simp only [PV.weak, weaks_u8]
         · exact (fun i hi => by
           have h0 := ltn hi; have h1 := lte hi; have h2 : (i = S.nxt) = False := eq_false (by rw [gn]; omega)
           simp (disch := first | omega | (simp only [nxt_set, nxt_new] <;> omega) | fail) only [h2, go_sem, Nat.add_assoc, Nat.reduceAdd, ↓reduceIte, h0, h1]
           exact putDev_congr2 (m := s.nxt) (fun j hj hj2 => by
             have h0 := ltn hj; have h1 := lte hj; have h2 : (j = S.nxt) = False := eq_false (by rw [gn]; omega)
             first
             | exact gf j hj (by omega)
             | (rcases hj2 with hj2 | hj2
                · simp (disch := first | omega | (simp only [nxt_set, nxt_new] <;> omega) | fail) only [h2, ↓reduceIte, go_sem, putDev_lo, putDev_put]; exact gf j hj (by omega)
                · simp (disch := first | omega | (simp only [nxt_set, nxt_new] <;> omega) | fail) only [h2, ↓reduceIte, go_sem, putDev_hi, putDev_put]; exact gf j hj (by omega))) i hi))
      | (have hEk : E = 13 := of_decide_eq_true hc0
         have hB : pduF D l = ([], D) := by
           unfold pduF
           rw [← hE, if_pos hEk]
         refine Ret.dev D hA (r' := .sl .unk (([] : List Int).map (PV.int .u8))) (by simp only [Try.f16, go_sem, ↓reduceIte] <;> rfl) ?_ (by simp only [PV.blw]; exact ⟨fun t z e => (by cases e), blws_u8 _ _⟩) hwf ?_ ⟨by rw [hB], by rw [hB]⟩
         · rfl
         · rw [putDev_self hA]
           exact fun i hi => by have h0 := ltn hi; have h1 := lte hi; simp only [go_sem, Nat.add_assoc, Nat.reduceAdd, ↓reduceIte, h0, h1])
      | (have hB : pduF D l = (repF (doF D q).1, (doF D q).2) := by
           unfold pduF
           rw [← hE, if_neg (of_decide_eq_false hc0), if_neg (of_decide_eq_false hc1), if_neg (of_decide_eq_false hc2), ← hQ]
         refine Ret.dev (doF D q).2 hA (r' := .sl .unk ((repF (doF D q).1).map (PV.int .u8))) (by simp only [Try.f16, go_sem, ↓reduceIte] <;> rfl) ?_ (by simp only [PV.blw]; exact ⟨fun t z e => (by cases e), blws_u8 _ _⟩) hwf ?_ ⟨by rw [hB], by rw [hB]⟩
         · simp only [PV.weak, weaks_u8]
         · exact (fun i hi => by
           have h0 := ltn hi; have h1 := lte hi
           simp (disch := first | omega | (simp only [nxt_set, nxt_new] <;> omega) | fail) only [go_sem, Nat.add_assoc, Nat.reduceAdd, ↓reduceIte, h0, h1]
           exact putDev_congr2 (m := s.nxt) (fun j hj hj2 => by
             have h0 := ltn hj; have h1 := lte hj
             simp (disch := first | omega | (simp only [nxt_set, nxt_new] <;> omega) | fail) only [go_sem, Nat.add_assoc, Nat.reduceAdd, ↓reduceIte, h0, h1]) i hi))
end Go.Proofs
namespace Go.Proofs
open Go.PM
set_option maxHeartbeats 2000000
theorem store_New0 {s : St} : ACalls Try.prog 18 [.int .i64 0] s (fun r s' => r = .nilp ∧ s' = s) := by
  refine go Try.func18 (k := fun hwf H => ?_)
  have f0 : (decide ((0 : Int) < 1)) = true := by decide
  have H := aj f0 H
  refine rs (k := rg [0] (k := rs (k := rs (k := rg [0, 10] (k := rc (ht := fun hc0 => ?_) (hf := fun hc0 => ?_))))))
  · refine rs (k := rg [2] (k := rR (k := rP (by simp only [Try.f18, go_sem]; rfl) hwf ⟨?_, rfl⟩)))
    simp [PV.weak, go_sem]
  · cases hc0
theorem device_New0 {s : St} : ACalls Try.prog 7 [.int .i64 0] s (fun r s' => r = .nilp ∧ s' = s) := by
  refine go Try.func7 (k := fun hwf H => ?_)
  refine rs (k := rg [0] (k := rs (k := rr (k := ro (pre := [_]) (k := rC (h := store_New0) (k := rh [3] (k := rs (k := rs (k := rg [3, 7] (k := rc (ht := fun hc0 => ?_) (hf := fun hc0 => ?_)))))))))))
  · refine rs (k := rg [2] (k := rR (k := rP (by simp only [Try.f7, go_sem]; rfl) hwf ⟨?_, rfl⟩)))
    simp [PV.weak, go_sem]
  · cases hc0
theorem book_same16 {xs ys : List Int} (nx : xs.length < 140737488355328) {s : St} : ACalls Try.prog 10 [.sl .unk (xs.map (PV.int .u16)), .sl .unk (ys.map (PV.int .u16))] s (fun r s' => r = .bool (decide (xs = ys)) ∧ s' = s) := by
  refine go Try.func10 (k := fun hwf H => ?_)
  refine rs (k := rg [0, 1] (k := rs (k := rs (k := rg [0, 1, 10] (k := rc (ht := fun hc0 => ?_) (hf := fun hc0 => ?_))))))
  refine jO 1 ?_; rotate_left
  refine rk (k := rs (k := rs (k := ?_)))
  have hlen : xs.length = ys.length := by simp at hc0; omega
  refine rg [0, 1, 5] (k := rb (k := ?_))
  refine Run.loop (fun e s' => s' = s ∧ ∃ i : Nat, e = [(0, .sl .unk (xs.map (PV.int .u16))), (1, .sl .unk (ys.map (PV.int .u16))), (5, .int .i64 (i : Int))] ∧ i ≤ xs.length ∧ xs.take i = ys.take i) (fun e s' => xs.length - ivar e 5) ?_ ?_
  · exact ⟨rfl, 0, rfl, by omega, rfl⟩
  rintro e s' ⟨hs, i, rfl, hi, hbe⟩
  subst s'
  refine rs (k := rs (k := rg [0, 1, 5, 14] (k := rc (ht := fun hc1 => ?_) (hf := fun hc1 => ?_))))
  refine rk (k := rs (k := rb (k := rs (k := ?_))))
  have hil : i < xs.length := by have := of_decide_eq_true hc1; omega
  have hjl : i < ys.length := by omega
  obtain ⟨x, hxe⟩ : ∃ z_, xs[i]'hil = z_ := ⟨_, rfl⟩
  have hxx : (xs.map (PV.int .u16))[i]? = some (.int .u16 x) := by rw [map_get hil, hxe]
  obtain ⟨y, hye⟩ : ∃ z_, ys[i]'hjl = z_ := ⟨_, rfl⟩
  have hxy : (ys.map (PV.int .u16))[i]? = some (.int .u16 y) := by rw [map_get hjl, hye]
  have hw : IntKind.i64.wrap ((i : Int) + 1) = ((i + 1 : Nat) : Int) := by rw [wrap_i64 (by omega)]; omega
  have H := aj hxx (aj hxy (aj hw H))
  refine Run.drawC [] [0, 1, 5, 25] Try.mixed (by kernel_rfl) ?_
  refine DetC.all au ?_
  refine re (k := rc (ht := fun hc2 => ?_) (hf := fun hc2 => ?_))
  refine jO 1 ?_; rotate_left
  · refine rk (k := rB (k := rg [0, 1, 5] (k := ?_)))
    have hxy : x = y := by simpa using hc2
    refine Run.lp ⟨⟨rfl, i + 1, rfl, by omega, ?_⟩, ?_⟩
    · rw [take_get hil, take_get hjl, hbe, hxe, hye, hxy]
    · simp only [ivar, go_sem, ↓reduceIte, Nat.reduceEqDiff]
      omega
  refine rX (k := rs (k := rg [4] (k := rR (k := rP (by simp only [Try.f10, go_sem]; rfl) hwf ⟨?_, rfl⟩))))
  refine jO 2 ?_; rotate_left
  any_goals
    refine jI 1 ?_
    refine rs (k := rg [4] (k := rR (k := rP (by simp only [Try.f10, go_sem]; rfl) hwf ⟨?_, rfl⟩)))
    refine jO 2 ?_; rotate_left
  any_goals
    refine jI 2 ?_
    first
      | (have hne : xs ≠ ys := by rintro rfl; simp at hc0
         rw [decide_eq_false hne]; rfl)
      | (have hne : xs ≠ ys := by
           rintro rfl
           rw [hxe] at hye
           subst hye
           simp at hc2
         rw [decide_eq_false hne]; rfl)
      | (have hlen : xs.length = ys.length := by simp at hc0; omega
         have : i = xs.length := by have := of_decide_eq_false hc1; omega
         rw [this, List.take_length, hlen, List.take_length] at hbe
         rw [decide_eq_true hbe]; rfl)
def StoAt (b n : Nat) (s : St) : Prop := s.blk b = some (stoRow b n)
theorem DevAt.put' {b : Nat} {D : Dev} {s : St} (h : StoAt b D.c0.length s) : DevAt b D (putDev b D s) := by
  refine ⟨?_, ?_, ?_, ?_, ?_, ?_⟩ <;> rw [putDev_blk]
  · rw [if_neg (by omega), if_neg (by omega), if_neg (by omega), if_neg (by omega), if_neg (by omega)]; exact h
  · rw [if_neg (by omega), if_neg (by omega), if_neg (by omega), if_neg (by omega), if_pos rfl]
  · rw [if_neg (by omega), if_neg (by omega), if_neg (by omega), if_pos rfl]
  · rw [if_neg (by omega), if_neg (by omega), if_pos rfl]
  · rw [if_neg (by omega), if_pos rfl]
  · rw [if_pos rfl]
theorem StoAt.put {b n : Nat} {D : Dev} {s : St} (h : StoAt b n s) : StoAt b n (putDev b D s) := by
  unfold StoAt
  rw [putDev_lo (by omega)]; exact h
theorem StoAt.nw {b n : Nat} {s : St} (h : StoAt b n s) (hl : b + 5 < s.nxt) (x : Blk) : StoAt b n (s.new x) := by
  unfold StoAt
  rw [blk_new_ne (by omega)]; exact h
theorem StoAt.sv {b n : Nat} {s : St} (h : StoAt b n s) {i : Nat} (hi : b + 5 < i) (x : Option Blk) : StoAt b n (s.set i x) := by
  unfold StoAt
  rw [blk_set_ne (by omega)]; exact h
theorem device_DoL {b : Nat} {D D' : Dev} {s : St} {q : Req} {R : Rep} (h : doF D q = (R, D')) (hA : DevAt b D s) (hD : D.ok) (hq : q.ok) : ACalls Try.prog 9 [.ptr (b + 5) 0 0, q.pv] s (fun r s' => r = R.pv ∧ s' = putDev b D' s) := by
  have := device_Do hA hD hq
  rw [h] at this
  exact this
theorem device_PduL {b : Nat} {D D' : Dev} {s : St} {l m : List Int} (h : pduF D l = (m, D')) (hA : DevAt b D s) (hD : D.ok) (hb : OkB l) (hl : l.length ≤ 140737488351232) : ACalls Try.prog 16 [.ptr (b + 5) 0 0, .sl .unk (l.map (PV.int .u8))] s (fun r s' => r = .sl .unk (m.map (PV.int .u8)) ∧ s' = putDev b D' s) := by
  have := device_Pdu hA hD hb hl
  rw [h] at this
  exact this
theorem req_ok (fn at_ count wat sub : Int) (bits : List Bool) (vals : List Int) (a o : Int) (h : (decide (0 ≤ fn ∧ fn ≤ 65535 ∧ 0 ≤ at_ ∧ at_ ≤ 65535 ∧ 0 ≤ count ∧ count ≤ 65535 ∧ 0 ≤ wat ∧ wat ≤ 65535 ∧ 0 ≤ sub ∧ sub ≤ 65535 ∧ 0 ≤ a ∧ a ≤ 65535 ∧ 0 ≤ o ∧ o ≤ 65535 ∧ bits.length ≤ 100000 ∧ vals.length ≤ 100000) && vals.all (fun x => decide (0 ≤ x ∧ x ≤ 65535))) = true) : (⟨fn, at_, count, wat, sub, bits, vals, a, o⟩ : Req).ok := by
  simp only [Bool.and_eq_true, decide_eq_true_eq, List.all_eq_true] at h
  obtain ⟨h1, h2⟩ := h
  exact ⟨⟨by show _ ≤ fn; omega, by show fn ≤ _; omega⟩, ⟨by show _ ≤ at_; omega, by show at_ ≤ _; omega⟩, ⟨by show _ ≤ count; omega, by show count ≤ _; omega⟩, ⟨by show _ ≤ wat; omega, by show wat ≤ _; omega⟩, ⟨by show _ ≤ sub; omega, by show sub ≤ _; omega⟩, fun x hx => h2 x hx, ⟨by show _ ≤ a; omega, by show a ≤ _; omega⟩, ⟨by show _ ≤ o; omega, by show o ≤ _; omega⟩, by show bits.length ≤ _; omega, by show vals.length * 2 ≤ _; omega⟩
attribute [local go_sem] set_set putDev_hi putDev_nxt Rep.pv
set_option maxRecDepth 100000 in
theorem law9_known {s : St} : ACalls Try.prog 12 [] s (fun r s' => r = .bool true ∧ s' = s) := by
  refine go Try.func12 (k := fun hwf H => ?_)
  obtain ⟨b, hb⟩ : ∃ b, b = s.nxt := ⟨_, rfl⟩
  have o0 : (⟨[false, false, false, false], [false, false, false, false], [0, 0, 0, 0], [0, 0, 0, 0], 0, 0, 0⟩ : Dev).ok := Dev.zero_ok (n := 4) (by decide) (by decide)
  have q1 : (⟨1, 4, 1, 0, 0, [], [], 0, 0⟩ : Req).ok := req_ok _ _ _ _ _ _ _ _ _ (by decide)
  have e1 : doF (⟨[false, false, false, false], [false, false, false, false], [0, 0, 0, 0], [0, 0, 0, 0], 0, 0, 0⟩ : Dev) (⟨1, 4, 1, 0, 0, [], [], 0, 0⟩ : Req) = ((⟨1, 2, 0, 0, 0, [], [], 0, 0, []⟩ : Rep), (⟨[false, false, false, false], [false, false, false, false], [0, 0, 0, 0], [0, 0, 0, 0], 0, 1, 1⟩ : Dev)) := by kernel_rfl
  have o1 : (⟨[false, false, false, false], [false, false, false, false], [0, 0, 0, 0], [0, 0, 0, 0], 0, 1, 1⟩ : Dev).ok := by have := (doF_ok o0 q1).1; rw [e1] at this; exact this
  have q2 : (⟨16, 1, 2, 0, 0, [], [5, 6], 0, 0⟩ : Req).ok := req_ok _ _ _ _ _ _ _ _ _ (by decide)
  have e2 : doF (⟨[false, false, false, false], [false, false, false, false], [0, 0, 0, 0], [0, 0, 0, 0], 0, 1, 1⟩ : Dev) (⟨16, 1, 2, 0, 0, [], [5, 6], 0, 0⟩ : Req) = ((⟨16, 0, 1, 2, 0, [], [], 0, 0, []⟩ : Rep), (⟨[false, false, false, false], [false, false, false, false], [0, 0, 0, 0], [0, 5, 6, 0], 0, 2, 1⟩ : Dev)) := by kernel_rfl
  have o2 : (⟨[false, false, false, false], [false, false, false, false], [0, 0, 0, 0], [0, 5, 6, 0], 0, 2, 1⟩ : Dev).ok := by have := (doF_ok o1 q2).1; rw [e2] at this; exact this
  have q3 : (⟨23, 0, 3, 0, 0, [], [9], 0, 0⟩ : Req).ok := req_ok _ _ _ _ _ _ _ _ _ (by decide)
  have e3 : doF (⟨[false, false, false, false], [false, false, false, false], [0, 0, 0, 0], [0, 5, 6, 0], 0, 2, 1⟩ : Dev) (⟨23, 0, 3, 0, 0, [], [9], 0, 0⟩ : Req) = ((⟨23, 0, 0, 0, 0, [], [9, 5, 6], 0, 0, []⟩ : Rep), (⟨[false, false, false, false], [false, false, false, false], [0, 0, 0, 0], [9, 5, 6, 0], 0, 3, 1⟩ : Dev)) := by kernel_rfl
  have o3 : (⟨[false, false, false, false], [false, false, false, false], [0, 0, 0, 0], [9, 5, 6, 0], 0, 3, 1⟩ : Dev).ok := by have := (doF_ok o2 q3).1; rw [e3] at this; exact this
  have q4 : (⟨22, 1, 0, 0, 0, [], [], 65534, 2⟩ : Req).ok := req_ok _ _ _ _ _ _ _ _ _ (by decide)
  have e4 : doF (⟨[false, false, false, false], [false, false, false, false], [0, 0, 0, 0], [9, 5, 6, 0], 0, 3, 1⟩ : Dev) (⟨22, 1, 0, 0, 0, [], [], 65534, 2⟩ : Req) = ((⟨22, 0, 1, 0, 0, [], [], 65534, 2, []⟩ : Rep), (⟨[false, false, false, false], [false, false, false, false], [0, 0, 0, 0], [9, 4, 6, 0], 0, 4, 1⟩ : Dev)) := by kernel_rfl
  have o4 : (⟨[false, false, false, false], [false, false, false, false], [0, 0, 0, 0], [9, 4, 6, 0], 0, 4, 1⟩ : Dev).ok := by have := (doF_ok o3 q4).1; rw [e4] at this; exact this
  have q5 : (⟨8, 0, 0, 0, 11, [], [0], 0, 0⟩ : Req).ok := req_ok _ _ _ _ _ _ _ _ _ (by decide)
  have e5 : doF (⟨[false, false, false, false], [false, false, false, false], [0, 0, 0, 0], [9, 4, 6, 0], 0, 4, 1⟩ : Dev) (⟨8, 0, 0, 0, 11, [], [0], 0, 0⟩ : Req) = ((⟨8, 0, 0, 0, 11, [], [5], 0, 0, []⟩ : Rep), (⟨[false, false, false, false], [false, false, false, false], [0, 0, 0, 0], [9, 4, 6, 0], 0, 5, 1⟩ : Dev)) := by kernel_rfl
  have o5 : (⟨[false, false, false, false], [false, false, false, false], [0, 0, 0, 0], [9, 4, 6, 0], 0, 5, 1⟩ : Dev).ok := by have := (doF_ok o4 q5).1; rw [e5] at this; exact this
  have q6 : (⟨8, 0, 0, 0, 13, [], [0], 0, 0⟩ : Req).ok := req_ok _ _ _ _ _ _ _ _ _ (by decide)
  have e6 : doF (⟨[false, false, false, false], [false, false, false, false], [0, 0, 0, 0], [9, 4, 6, 0], 0, 5, 1⟩ : Dev) (⟨8, 0, 0, 0, 13, [], [0], 0, 0⟩ : Req) = ((⟨8, 0, 0, 0, 13, [], [1], 0, 0, []⟩ : Rep), (⟨[false, false, false, false], [false, false, false, false], [0, 0, 0, 0], [9, 4, 6, 0], 0, 6, 1⟩ : Dev)) := by kernel_rfl
  have o6 : (⟨[false, false, false, false], [false, false, false, false], [0, 0, 0, 0], [9, 4, 6, 0], 0, 6, 1⟩ : Dev).ok := by have := (doF_ok o5 q6).1; rw [e6] at this; exact this
  have q7 : (⟨8, 0, 0, 0, 10, [], [3], 0, 0⟩ : Req).ok := req_ok _ _ _ _ _ _ _ _ _ (by decide)
  have e7 : doF (⟨[false, false, false, false], [false, false, false, false], [0, 0, 0, 0], [9, 4, 6, 0], 0, 6, 1⟩ : Dev) (⟨8, 0, 0, 0, 10, [], [3], 0, 0⟩ : Req) = ((⟨8, 0, 0, 0, 10, [], [3], 0, 0, []⟩ : Rep), (⟨[false, false, false, false], [false, false, false, false], [0, 0, 0, 0], [9, 4, 6, 0], 0, 0, 0⟩ : Dev)) := by kernel_rfl
  have o7 : (⟨[false, false, false, false], [false, false, false, false], [0, 0, 0, 0], [9, 4, 6, 0], 0, 0, 0⟩ : Dev).ok := by have := (doF_ok o6 q7).1; rw [e7] at this; exact this
  have o7u : (⟨[false, false, false, false], [false, false, false, false], [0, 0, 0, 0], [9, 4, 6, 0], 44, 0, 0⟩ : Dev).ok := ⟨o7.h1, o7.h2, o7.c1, o7.v0, o7.v1, o7.w0, o7.w1, by constructor <;> decide, o7.msgs, o7.exc⟩
  have q8 : (⟨17, 0, 0, 0, 0, [], [], 0, 0⟩ : Req).ok := req_ok _ _ _ _ _ _ _ _ _ (by decide)
  have e8 : doF (⟨[false, false, false, false], [false, false, false, false], [0, 0, 0, 0], [9, 4, 6, 0], 44, 0, 0⟩ : Dev) (⟨17, 0, 0, 0, 0, [], [], 0, 0⟩ : Req) = ((⟨17, 0, 0, 0, 0, [], [], 0, 0, [44, 255]⟩ : Rep), (⟨[false, false, false, false], [false, false, false, false], [0, 0, 0, 0], [9, 4, 6, 0], 44, 1, 0⟩ : Dev)) := by kernel_rfl
  have o8 : (⟨[false, false, false, false], [false, false, false, false], [0, 0, 0, 0], [9, 4, 6, 0], 44, 1, 0⟩ : Dev).ok := by have := (doF_ok o7u q8).1; rw [e8] at this; exact this
  have e9 : pduF (⟨[false, false, false, false], [false, false, false, false], [0, 0, 0, 0], [9, 4, 6, 0], 44, 1, 0⟩ : Dev) [7] = ([135, 1], (⟨[false, false, false, false], [false, false, false, false], [0, 0, 0, 0], [9, 4, 6, 0], 44, 2, 1⟩ : Dev)) := by kernel_rfl
  have e10 : pduF (⟨[false, false, false, false], [false, false, false, false], [0, 0, 0, 0], [9, 4, 6, 0], 44, 2, 1⟩ : Dev) [] = ([], (⟨[false, false, false, false], [false, false, false, false], [0, 0, 0, 0], [9, 4, 6, 0], 44, 2, 1⟩ : Dev)) := by kernel_rfl
  have o9 : (⟨[false, false, false, false], [false, false, false, false], [0, 0, 0, 0], [9, 4, 6, 0], 44, 2, 1⟩ : Dev).ok := ⟨o8.h1, o8.h2, o8.c1, o8.v0, o8.v1, o8.w0, o8.w1, o8.unit, by constructor <;> decide, by constructor <;> decide⟩
  have hg4 : ∀ S, DevAt b (⟨[false, false, false, false], [false, false, false, false], [0, 0, 0, 0], [9, 4, 6, 0], 0, 4, 1⟩ : Dev) S → ACalls Try.prog 24 [.ptr b 0 0, .int .i64 3, .int .i64 1, .int .i64 1] S (fun r s' => r = .tuple [.sl .unk [.int .u16 4], .bool true] ∧ s' = S) := fun S g => store_get3 g.st g.v1 rfl (by decide) (a := 1) (m := 1) (by constructor <;> decide) (by decide)
  have hr2 : (⟨16, 0, 1, 2, 0, [], [], 0, 0, []⟩ : Rep).ok := rep_ok (by constructor <;> decide) (by constructor <;> decide) (by constructor <;> decide) zI zW zU zU OkB.nil (by decide) (by decide) (by decide)
  have hal : ∀ S, ACalls Try.prog 26 [(⟨16, 0, 1, 2, 0, [], [], 0, 0, []⟩ : Rep).pv, (⟨16, 0, 1, 2, 0, [], [], 0, 0, []⟩ : Rep).pv] S (fun r s' => r = .bool true ∧ s' = S) := fun S => by simpa using ref3_Alike (s := S) hr2 hr2
  have hsm : ∀ S, ACalls Try.prog 10 [.sl .unk (([9, 5, 6] : List Int).map (PV.int .u16)), .sl .unk (([9, 5, 6] : List Int).map (PV.int .u16))] S (fun r s' => r = .bool true ∧ s' = S) := fun S => by simpa using book_same16 (s := S) (xs := [9, 5, 6]) (ys := [9, 5, 6]) (by decide)
  refine rs (k := rg [] (k := rs (k := rr (k := ?_))))
  refine RunO.callw au au au (by kernel_rfl) ((device_New (n := 4) (by decide) (by decide)).mono ?_)
  rintro r s1 ⟨rfl, gA0, gf0, gn0⟩
  rw [← hb] at gA0 gn0
  rw [← hb]
  refine rh [1] (k := rs (k := rs (k := rr (k := ro (pre := [_, _, _]) (k := rC (h := device_New0) (k := rg1 (k := ro (pre := [_, _]) (k := rg1 (k := ?_)))))))))
  refine RunO.callw au au au (by kernel_rfl) ((device_Store gA0).mono ?_)
  rintro r s2 ⟨rfl, hs2⟩
  subst s2
  refine rg1 (k := rh [1, 25] (k := rc (ht := fun hc0 => ?_) (hf := fun hc0 => ?_)))
  · cases hc0
  · refine rk (k := rs (k := rr (k := ro (pre := [_, _]) (k := ?_))))
    refine RunO.callw au au au (by kernel_rfl) ((device_DoL e1 (by repeat' first | exact gA0 | exact gA0.st | refine DevAt.put' ?_ | refine StoAt.put ?_ | refine StoAt.sv ?_ ?_ _ | refine StoAt.nw ?_ ?_ _ | refine DevAt.sv ?_ ?_ _ | refine DevAt.nw ?_ ?_ _ | (simp only [putDev_nxt, nxt_new, nxt_set]; omega) | omega) o0 q1).mono ?_)
    rintro r s1 ⟨rfl, rfl⟩
    refine rh [1, 2] (k := rs (k := rr (k := ro (pre := [_]) (k := rO (k := ro (pre := [_]) (k := ?_))))))
    refine RunO.callw au au au (by kernel_rfl) ((device_DoL e2 (by repeat' first | exact gA0 | exact gA0.st | refine DevAt.put' ?_ | refine StoAt.put ?_ | refine StoAt.sv ?_ ?_ _ | refine StoAt.nw ?_ ?_ _ | refine DevAt.sv ?_ ?_ _ | refine DevAt.nw ?_ ?_ _ | (simp only [putDev_nxt, nxt_new, nxt_set]; omega) | omega) o1 q2).mono ?_)
    rintro r s1 ⟨rfl, rfl⟩
    refine rh [1, 2, 3] (k := rs (k := rr (k := ro (pre := [_]) (k := rO (k := ro (pre := [_]) (k := ?_))))))
    refine RunO.callw au au au (by kernel_rfl) ((device_DoL e3 (by repeat' first | exact gA0 | exact gA0.st | refine DevAt.put' ?_ | refine StoAt.put ?_ | refine StoAt.sv ?_ ?_ _ | refine StoAt.nw ?_ ?_ _ | refine DevAt.sv ?_ ?_ _ | refine DevAt.nw ?_ ?_ _ | (simp only [putDev_nxt, nxt_new, nxt_set]; omega) | omega) o2 q3).mono ?_)
    rintro r s1 ⟨rfl, rfl⟩
    refine rh [1, 2, 3, 4] (k := rs (k := rr (k := ro (pre := [_, _]) (k := ?_))))
    refine RunO.callw au au au (by kernel_rfl) ((device_DoL e4 (by repeat' first | exact gA0 | exact gA0.st | refine DevAt.put' ?_ | refine StoAt.put ?_ | refine StoAt.sv ?_ ?_ _ | refine StoAt.nw ?_ ?_ _ | refine DevAt.sv ?_ ?_ _ | refine DevAt.nw ?_ ?_ _ | (simp only [putDev_nxt, nxt_new, nxt_set]; omega) | omega) o3 q4).mono ?_)
    rintro r s1 ⟨rfl, rfl⟩
    refine rh [1, 2, 3, 4, 5] (k := rs (k := rr (k := ro (pre := [_]) (k := ?_))))
    refine RunO.callw au au au (by kernel_rfl) ((device_Store (D := (⟨[false, false, false, false], [false, false, false, false], [0, 0, 0, 0], [9, 4, 6, 0], 0, 4, 1⟩ : Dev)) (by repeat' first | exact gA0 | exact gA0.st | refine DevAt.put' ?_ | refine StoAt.put ?_ | refine StoAt.sv ?_ ?_ _ | refine StoAt.nw ?_ ?_ _ | refine DevAt.sv ?_ ?_ _ | refine DevAt.nw ?_ ?_ _ | (simp only [putDev_nxt, nxt_new, nxt_set]; omega) | omega)).mono ?_)
    rintro r s2 ⟨rfl, hs2⟩
    subst s2
    refine RunO.callw au au au (by kernel_rfl) ((hg4 _ (by repeat' first | exact gA0 | exact gA0.st | refine DevAt.put' ?_ | refine StoAt.put ?_ | refine StoAt.sv ?_ ?_ _ | refine StoAt.nw ?_ ?_ _ | refine DevAt.sv ?_ ?_ _ | refine DevAt.nw ?_ ?_ _ | (simp only [putDev_nxt, nxt_new, nxt_set]; omega) | omega)).mono ?_)
    rintro r s2 ⟨rfl, hs2⟩
    subst s2
    refine rh [1, 2, 3, 4, 5, 6] (k := rs (k := rr (k := ro (pre := [_]) (k := rO (k := ro (pre := [_]) (k := ?_))))))
    refine RunO.callw au au au (by kernel_rfl) ((device_DoL e5 (by repeat' first | exact gA0 | exact gA0.st | refine DevAt.put' ?_ | refine StoAt.put ?_ | refine StoAt.sv ?_ ?_ _ | refine StoAt.nw ?_ ?_ _ | refine DevAt.sv ?_ ?_ _ | refine DevAt.nw ?_ ?_ _ | (simp only [putDev_nxt, nxt_new, nxt_set]; omega) | omega) o4 q5).mono ?_)
    rintro r s1 ⟨rfl, rfl⟩
    refine rh [1, 2, 3, 4, 5, 6, 8] (k := rs (k := rr (k := ro (pre := [_]) (k := rO (k := ro (pre := [_]) (k := ?_))))))
    refine RunO.callw au au au (by kernel_rfl) ((device_DoL e6 (by repeat' first | exact gA0 | exact gA0.st | refine DevAt.put' ?_ | refine StoAt.put ?_ | refine StoAt.sv ?_ ?_ _ | refine StoAt.nw ?_ ?_ _ | refine DevAt.sv ?_ ?_ _ | refine DevAt.nw ?_ ?_ _ | (simp only [putDev_nxt, nxt_new, nxt_set]; omega) | omega) o5 q6).mono ?_)
    rintro r s1 ⟨rfl, rfl⟩
    refine rh [1, 2, 3, 4, 5, 6, 8, 9] (k := rs (k := rr (k := ro (pre := [_]) (k := rO (k := ro (pre := [_]) (k := ?_))))))
    refine RunO.callw au au au (by kernel_rfl) ((device_DoL e7 (by repeat' first | exact gA0 | exact gA0.st | refine DevAt.put' ?_ | refine StoAt.put ?_ | refine StoAt.sv ?_ ?_ _ | refine StoAt.nw ?_ ?_ _ | refine DevAt.sv ?_ ?_ _ | refine DevAt.nw ?_ ?_ _ | (simp only [putDev_nxt, nxt_new, nxt_set]; omega) | omega) o6 q7).mono ?_)
    rintro r s1 ⟨rfl, rfl⟩
    refine rh [1, 2, 3, 4, 5, 6, 8, 9, 10] (k := rs (k := rr (k := ro (pre := [_]) (k := ?_))))
    refine RunO.callw au au au (by kernel_rfl) ((device_Counts (D := (⟨[false, false, false, false], [false, false, false, false], [0, 0, 0, 0], [9, 4, 6, 0], 0, 0, 0⟩ : Dev)) (by repeat' first | exact gA0 | exact gA0.st | refine DevAt.put' ?_ | refine StoAt.put ?_ | refine StoAt.sv ?_ ?_ _ | refine StoAt.nw ?_ ?_ _ | refine DevAt.sv ?_ ?_ _ | refine DevAt.nw ?_ ?_ _ | (simp only [putDev_nxt, nxt_new, nxt_set]; omega) | omega)).mono ?_)
    rintro r s2 ⟨rfl, hs2⟩
    subst s2
    refine rh [1, 2, 3, 4, 5, 6, 8, 9, 10, 11, 12] (k := rs (k := rr (k := ro (pre := [_]) (k := ?_))))
    refine RunO.callw au au au (by kernel_rfl) ((device_Unit (D := (⟨[false, false, false, false], [false, false, false, false], [0, 0, 0, 0], [9, 4, 6, 0], 0, 0, 0⟩ : Dev)) (by repeat' first | exact gA0 | exact gA0.st | refine DevAt.put' ?_ | refine StoAt.put ?_ | refine StoAt.sv ?_ ?_ _ | refine StoAt.nw ?_ ?_ _ | refine DevAt.sv ?_ ?_ _ | refine DevAt.nw ?_ ?_ _ | (simp only [putDev_nxt, nxt_new, nxt_set]; omega) | omega)).mono ?_)
    rintro r s1 ⟨rfl, rfl⟩
    refine rl [1, 2, 3, 4, 5, 6, 8, 9, 10, 11, 12] (k := rs (k := rr (k := ro (pre := [_, _]) (k := ?_))))
    refine RunO.callw au au au (by kernel_rfl) ((device_DoL e8 (by repeat' first | exact gA0 | exact gA0.st | refine DevAt.put' ?_ | refine StoAt.put ?_ | refine StoAt.sv ?_ ?_ _ | refine StoAt.nw ?_ ?_ _ | refine DevAt.sv ?_ ?_ _ | refine DevAt.nw ?_ ?_ _ | (simp only [putDev_nxt, nxt_new, nxt_set]; omega) | omega) o7u q8).mono ?_)
    rintro r s1 ⟨rfl, rfl⟩
    refine rh [1, 2, 3, 4, 5, 6, 8, 9, 10, 11, 12, 13] (k := rs (k := ?_))
    have hst1 : ((ByteArray.mk [UInt8.ofNat (Int.toNat 255), UInt8.ofNat (Int.toNat 44)].reverse.toArray).toList == (ByteArray.mk #[44, 255]).toList) = true := by decide +kernel
    have hst2 : ((ByteArray.mk [UInt8.ofNat (Int.toNat 1), UInt8.ofNat (Int.toNat 135)].reverse.toArray).toList == (ByteArray.mk #[135, 1]).toList) = true := by decide +kernel
    have hd1 : (decide (((1 : Nat) : Int) = 1)) = true := by decide
    have H := aj hst1 (aj hst2 (aj hd1 H))
    refine rrA [some 68, some 69, some 70, some 71, some 72, some 73, some 74, some 75, some 76, some 77, some 78, some 79, some 80, some 81, some 82, some 83, some 84, some 85, some 86, some 87, some 88, some 89, some 90, some 91, some 92, some 93, some 94, some 95, some 96, some 97, some 98, some 99, some 100, some 101, some 102, some 103, some 104, some 105, some 106, some 107, some 108, some 109, some 110, some 111, some 112, some 113, some 114, some 115, some 116, some 117, some 118, some 119, some 120, some 121, some 122, some 123, some 124, some 125, some 126, some 127, some 128, some 129, some 130, some 131, some 132, some 133, some 134, some 135, some 136, some 137, some 138, some 139, some 140, some 141, some 142, some 143, some 144, some 145, some 146, some 147, some 148, some 149, some 150, some 151, some 152, some 153, some 154, some 155, some 156, some 157, some 158, some 159, some 160, some 161, some 162, some 163, some 0] (k := fun ops hops => ?_)
    have H := aj hops H
    refine ro (pre := [_, _, _, _]) (k := rg1 (k := rg1 (k := ?_)))
    refine RunO.callw au au au (by kernel_rfl) ((hal _).mono ?_)
    rintro r s2 ⟨rfl, hs2⟩
    subst s2
    refine ro (pre := [_, _]) (k := rg1 (k := rg1 (k := rO (k := ?_))))
    refine RunO.callw au au au (by kernel_rfl) ((hsm _).mono ?_)
    rintro r s2 ⟨rfl, hs2⟩
    subst s2
    refine ro (pre := [_, _]) (k := rg1 (k := rg1 (k := rg1 (k := ro (pre := [_, _]) (k := rg1 (k := rg1 (k := rg1 (k := ro (pre := [_, _]) (k := rg1 (k := rg1 (k := rg1 (k := rg1 (k := ro (pre := [_, _]) (k := rg1 (k := rg1 (k := rg1 (k := rg1 (k := ro (pre := [_, _]) (k := rg1 (k := rg1 (k := rg1 (k := rg1 (k := rg1 (k := ro (pre := [_, _]) (k := rg1 (k := rg1 (k := rg1 (k := ?_))))))))))))))))))))))))))))
    refine rg1 (k := ro (pre := [_, _]) (k := rg1 (k := rg1 (k := rg1 (k := rg1 (k := rg1 (k := ro (pre := [_, _]) (k := rg1 (k := rg1 (k := rg1 (k := rg1 (k := ro (pre := [_, _]) (k := rg1 (k := rg1 (k := rg1 (k := rg1 (k := rg1 (k := ro (pre := [_, _]) (k := rg1 (k := rg1 (k := ro (pre := [_, _]) (k := rg1 (k := rg1 (k := ro (pre := [_, _]) (k := rg1 (k := rg1 (k := rg1 (k := ?_))))))))))))))))))))))))))))
    refine rg1 (k := ro (pre := [_, _]) (k := rg1 (k := rO (k := ?_))))
    refine RunO.callw au au au (by kernel_rfl) ((device_PduL e9 (by repeat' first | exact gA0 | exact gA0.st | refine DevAt.put' ?_ | refine StoAt.put ?_ | refine StoAt.sv ?_ ?_ _ | refine StoAt.nw ?_ ?_ _ | refine DevAt.sv ?_ ?_ _ | refine DevAt.nw ?_ ?_ _ | (simp only [putDev_nxt, nxt_new, nxt_set]; omega) | omega) o8 (l := [7]) (by intro x hx; rw [List.mem_singleton.1 hx]; constructor <;> decide) (by decide)).mono ?_)
    rintro r s1 ⟨rfl, rfl⟩
    refine rg1 (k := rg1 (k := ro (pre := [_, _]) (k := rg1 (k := ?_))))
    refine RunO.callw au au au (by kernel_rfl) ((device_PduL e10 (by repeat' first | exact gA0 | exact gA0.st | refine DevAt.put' ?_ | refine StoAt.put ?_ | refine StoAt.sv ?_ ?_ _ | refine StoAt.nw ?_ ?_ _ | refine DevAt.sv ?_ ?_ _ | refine DevAt.nw ?_ ?_ _ | (simp only [putDev_nxt, nxt_new, nxt_set]; omega) | omega) o9 (l := []) OkB.nil (by decide)).mono ?_)
    rintro r s1 ⟨rfl, rfl⟩
    refine rg1 (k := rg1 (k := rh [0] (k := rR (k := ?_))))
    exact Ret.pure (r' := .bool true) (by simp only [Try.f12, go_sem, ↓reduceIte] <;> rfl) rfl (by simp only [PV.blw]) hwf (fun i hi => by
      have hi2 : i < b := by omega
      simp (disch := first | omega | (simp only [putDev_nxt, nxt_set, nxt_new] <;> omega) | fail) only [putDev_lo, blk_set_ne, blk_new_ne]
      exact gf0 i hi) ⟨rfl, rfl⟩
end Go.Proofs
namespace Go.Proofs
open Go.PM
set_option maxHeartbeats 2000000
theorem order_right {F A C : Int} (hF : 1 ≤ F ∧ F ≤ 4) (hA : 0 ≤ A ∧ A ≤ 65535) (hC : 0 ≤ C ∧ C ≤ 65535) : rightF ⟨F, A, C, 0, 0, [], [], 0, 0⟩ = 0 := by
  refine right_of ⟨decide_eq_true (by show 1 ≤ F ∧ F ≤ 6 ∨ _; omega), decide_eq_true ?_, decide_eq_true hA, by show wordF 0 = true; decide, by show wordF 0 = true; decide, decide_eq_true hC, ?_, ?_, by show 0 ≤ _; decide, by show 0 ≤ _; decide⟩
  · show (¬ F = 8 ∧ ¬ F = 17 ∨ A = 0) ∧ ((1 ≤ F ∧ F ≤ 4 ∨ _) ∨ _) ∧ (_ ∨ (0 : Int) = 0) ∧ (_ ∨ (0 : Int) = 0) ∧ (_ ∨ (0 : Int) = 0 ∧ (0 : Int) = 0)
    exact ⟨.inl (by omega), .inl (.inl hF), .inr rfl, .inr rfl, .inr ⟨rfl, rfl⟩⟩
  · show ((0 : Nat) : Int) = (if F = 5 then 1 else if F = 15 then C else 0)
    rw [if_neg (by omega), if_neg (by omega)]; rfl
  · show ((0 : Nat) : Int) = (if F = 6 ∨ F = 8 then 1 else if F = 16 then C else if F = 23 then ((0 : Nat) : Int) else 0)
    rw [if_neg (by omega), if_neg (by omega), if_neg (by omega)]; rfl
theorem cutF_size {α : Type} (l : List α) {a m : Int} (h : thereF l.length a m = true) : ((cutF l a m).length : Int) = m := by
  have ht := there_len h
  unfold cutF
  rw [if_pos h, List.length_take, List.length_drop]
  omega
theorem doF_base {D : Dev} {q : Req} (hr : rightF q = 0) (hc : countF q = true) : doF D q = (if ¬ (bodyF { D with msgs := inc D.msgs } q).1.code = 0 then refD (bodyF { D with msgs := inc D.msgs } q).2 q.fn (bodyF { D with msgs := inc D.msgs } q).1.code else bodyF { D with msgs := inc D.msgs } q) := by
  have hh : ¬ hasF q.fn = false := by
    intro h
    unfold rightF at hr
    rw [if_pos h] at hr
    exact absurd hr (by decide)
  unfold doF
  dsimp only
  rw [if_neg hh, if_neg (by rw [hr, hc]; simp)]
theorem right16 {K : Int} {W : List Int} (hK : 0 ≤ K ∧ K ≤ 65535) (hl : W.length ≤ 127) : rightF ⟨16, K, W.length, 0, 0, [], W, 0, 0⟩ = 0 :=
  right_of ⟨by show hasF 16 = true; decide, decide_eq_true (by simp), decide_eq_true hK, by show wordF 0 = true; decide, by show wordF 0 = true; decide, decide_eq_true (by show 0 ≤ (W.length : Int) ∧ (W.length : Int) ≤ 65535; omega), rfl, rfl, by show 0 ≤ _; decide, hl⟩
theorem right15 {K : Int} {W : List Bool} (hK : 0 ≤ K ∧ K ≤ 65535) (hl : W.length ≤ 2040) : rightF ⟨15, K, W.length, 0, 0, W, [], 0, 0⟩ = 0 :=
  right_of ⟨by show hasF 15 = true; decide, decide_eq_true (by simp), decide_eq_true hK, by show wordF 0 = true; decide, by show wordF 0 = true; decide, decide_eq_true (by show 0 ≤ (W.length : Int) ∧ (W.length : Int) ≤ 65535; omega), rfl, rfl, hl, by show 0 ≤ _; decide⟩
theorem right22 {K a o : Int} (hK : 0 ≤ K ∧ K ≤ 65535) : rightF ⟨22, K, 0, 0, 0, [], [], a, o⟩ = 0 :=
  right_of ⟨by show hasF 22 = true; decide, decide_eq_true (by simp), decide_eq_true hK, by show wordF 0 = true; decide, by show wordF 0 = true; decide, by show wordF 0 = true; decide, rfl, rfl, by show 0 ≤ _; decide, by show 0 ≤ _; decide⟩
theorem DevAt.same {b : Nat} {D : Dev} {s s' : St} (h : DevAt b D s) (e : ∀ j, j ≤ b + 5 → s'.blk j = s.blk j) : DevAt b D s' :=
  ⟨by rw [e _ (by omega)]; exact h.st, by rw [e _ (by omega)]; exact h.c0, by rw [e _ (by omega)]; exact h.c1, by rw [e _ (by omega)]; exact h.v0, by rw [e _ (by omega)]; exact h.v1, by rw [e _ (by omega)]; exact h.dv⟩
end Go.Proofs
namespace Go.Proofs
open Go.PM
set_option maxHeartbeats 2000000
structure QAt (s0 : St) (tp : Nat) (T : Tp) (q : List PV) (S : St) : Prop where
  nx : s0.nxt + 2 ≤ S.nxt
  tape : S.blk tp = some (.row 42 [T.pv])
  zero : S.blk s0.nxt = some (.row 33 [.agg [.int .i64 (0), .int .i64 (0), .int .i64 (0), .int .i64 (0), .int .i64 (0), .sl .nil [], .sl .nil [], .int .u16 (0), .int .u16 (0)]])
  row : S.blk (s0.nxt + 1) = some (.row 33 [.agg q])
  rest : ∀ j, j < s0.nxt → j ≠ tp → S.blk j = s0.blk j
theorem QAt.first {s0 : St} {tp : Nat} {T : Tp} {q : List PV} {a : Option Blk} (h : tp < s0.nxt) {x : Blk} : QAt s0 tp T q ((((((s0.new (.row 33 [.agg [.int .i64 (0), .int .i64 (0), .int .i64 (0), .int .i64 (0), .int .i64 (0), .sl .nil [], .sl .nil [], .int .u16 (0), .int .u16 (0)]])).set tp a).new x).set (s0.nxt + 1) (some (.row 33 [.agg q]))).set tp (some (.row 42 [T.pv])))) := by
  refine ⟨Nat.le_refl _, blk_set_self _ _ _, ?_, ?_, fun j hj hne => ?_⟩
  · simp (disch := first | omega | (simp only [nxt_set, nxt_new] <;> omega)) only [blk_set_ne, blk_new_ne, blk_new_eq]
  · simp (disch := first | omega | (simp only [nxt_set, nxt_new] <;> omega)) only [blk_set_ne, blk_new_ne, blk_set_self]
  · simp (disch := first | omega | (simp only [nxt_set, nxt_new] <;> omega)) only [blk_set_ne, blk_new_ne]
theorem QAt.tp' {s0 : St} {tp : Nat} {T T' : Tp} {q : List PV} {S : St} (h : QAt s0 tp T q S) (hl : tp < s0.nxt) : QAt s0 tp T' q (S.set tp (some (.row 42 [T'.pv]))) :=
  ⟨h.nx, blk_set_self _ _ _, by rw [blk_set_ne (by omega)]; exact h.zero, by rw [blk_set_ne (by omega)]; exact h.row, fun j hj hne => by rw [blk_set_ne hne]; exact h.rest j hj hne⟩
theorem QAt.rw' {s0 : St} {tp : Nat} {T : Tp} {q q' : List PV} {S : St} (h : QAt s0 tp T q S) (hl : tp < s0.nxt) : QAt s0 tp T q' (S.set (s0.nxt + 1) (some (.row 33 [.agg q']))) :=
  ⟨h.nx, by rw [blk_set_ne (by omega)]; exact h.tape, by rw [blk_set_ne (by omega)]; exact h.zero, blk_set_self _ _ _, fun j hj hne => by rw [blk_set_ne (by omega)]; exact h.rest j hj hne⟩
theorem QAt.nw {s0 : St} {tp : Nat} {T : Tp} {q : List PV} {S : St} (h : QAt s0 tp T q S) (hl : tp < s0.nxt) (x : Blk) : QAt s0 tp T q (S.new x) := by
  have := h.nx
  exact ⟨Nat.le_succ_of_le h.nx, by rw [blk_new_ne (by omega)]; exact h.tape, by rw [blk_new_ne (by omega)]; exact h.zero, by rw [blk_new_ne (by omega)]; exact h.row, fun j hj hne => by rw [blk_new_ne (by omega)]; exact h.rest j hj hne⟩
theorem QAt.tk {s0 : St} {tp : Nat} {T : Tp} {q : List PV} {S : St} (h : QAt s0 tp T q S) (hl : tp < s0.nxt) {i : Nat} (hi : s0.nxt + 2 ≤ i) (x : Option Blk) : QAt s0 tp T q (S.set i x) :=
  ⟨h.nx, by rw [blk_set_ne (by omega)]; exact h.tape, by rw [blk_set_ne (by omega)]; exact h.zero, by rw [blk_set_ne (by omega)]; exact h.row, fun j hj hne => by rw [blk_set_ne (by omega)]; exact h.rest j hj hne⟩
theorem aAppend_nilL {P : Program} {e : TypeId} {α : Type} {f : α → PV} {ys : List α} {s : St} {z : Nat} (hy : ys ≠ []) (hc : P.cellsOf e = z) :
    aAppend P e .nil [] (ys.map f) s = some (.sl (.tok s.nxt z) (ys.map f), s.new (.tok ys.length)) := by
  subst hc
  unfold aAppend
  rw [if_neg (by simpa using hy)]
  simp
def fnL : List Int := [1, 2, 3, 4, 5, 6, 8, 15, 16, 17, 22, 23]
def subL : List Int := [0, 10, 11, 12, 13, 14, 2, 300]
def vL : List Int := [0, 0, 0, 777]
theorem fnL_get {u : Nat} (h : u ≤ 11) : ∃ f, (fnL.map (PV.int .i64))[u]? = some (.int .i64 f) ∧ f ∈ fnL := by
  have : u < fnL.length := by show u < 12; omega
  exact ⟨fnL[u], by rw [List.getElem?_map, List.getElem?_eq_getElem this]; rfl, List.getElem_mem _⟩
theorem subL_get {u : Nat} (h : u ≤ 7) : ∃ f, (subL.map (PV.int .i64))[u]? = some (.int .i64 f) ∧ U16 f := by
  have : u < subL.length := by show u < 8; omega
  refine ⟨subL[u], by rw [List.getElem?_map, List.getElem?_eq_getElem this]; rfl, ?_⟩
  have h : ∀ x ∈ subL, U16 x := by unfold U16; decide
  exact h _ (List.getElem_mem _)
theorem vL_get {u : Nat} (h : u ≤ 3) : ∃ f, (vL.map (PV.int .u16))[u]? = some (.int .u16 f) ∧ U16 f := by
  have : u < vL.length := by show u < 4; omega
  refine ⟨vL[u], by rw [List.getElem?_map, List.getElem?_eq_getElem this]; rfl, ?_⟩
  have h : ∀ x ∈ vL, U16 x := by unfold U16; decide
  exact h _ (List.getElem_mem _)
theorem right5 {A : Int} (hA : 0 ≤ A ∧ A ≤ 65535) (b : Bool) : rightF ⟨5, A, 0, 0, 0, [b], [], 0, 0⟩ = 0 :=
  right_of ⟨by show hasF 5 = true; decide, decide_eq_true (by simp), decide_eq_true hA, by show wordF 0 = true; decide, by show wordF 0 = true; decide, by show wordF 0 = true; decide, rfl, rfl, by show 1 ≤ _; decide, by show 0 ≤ _; decide⟩
theorem right6 {A : Int} (hA : 0 ≤ A ∧ A ≤ 65535) (v : Int) : rightF ⟨6, A, 0, 0, 0, [], [v], 0, 0⟩ = 0 :=
  right_of ⟨by show hasF 6 = true; decide, decide_eq_true (by simp), decide_eq_true hA, by show wordF 0 = true; decide, by show wordF 0 = true; decide, by show wordF 0 = true; decide, rfl, rfl, by show 0 ≤ _; decide, by show 1 ≤ _; decide⟩
theorem right8 {A : Int} (hA : 0 ≤ A ∧ A ≤ 65535) (v : Int) : rightF ⟨8, 0, 0, 0, A, [], [v], 0, 0⟩ = 0 :=
  right_of ⟨by show hasF 8 = true; decide, decide_eq_true (by simp), by show wordF 0 = true; decide, by show wordF 0 = true; decide, decide_eq_true hA, by show wordF 0 = true; decide, rfl, rfl, by show 0 ≤ _; decide, by show 1 ≤ _; decide⟩
theorem right17 : rightF ⟨17, 0, 0, 0, 0, [], [], 0, 0⟩ = 0 := by decide
theorem right23 {A C B : Int} {W : List Int} (hA : 0 ≤ A ∧ A ≤ 65535) (hC : 0 ≤ C ∧ C ≤ 65535) (hB : 0 ≤ B ∧ B ≤ 65535) (hl : W.length ≤ 127) : rightF ⟨23, A, C, B, 0, [], W, 0, 0⟩ = 0 :=
  right_of ⟨by show hasF 23 = true; decide, decide_eq_true (by simp), decide_eq_true hA, decide_eq_true hB, by show wordF 0 = true; decide, decide_eq_true hC, rfl, rfl, by show 0 ≤ _; decide, hl⟩
theorem req_okT {q : Req} (h1 : 0 ≤ q.fn ∧ q.fn ≤ 255) (h2 : U16 q.at_) (h3 : U16 q.count) (h4 : U16 q.wat) (h5 : U16 q.sub) (h6 : OkW q.vals) (h7 : U16 q.and_) (h8 : U16 q.or_) (h9 : q.bits.length ≤ 2000) (h10 : q.vals.length ≤ 2000) : q.ok := by
  have lt : ∀ {z : Int}, U16 z → I64 z := fun h => by unfold U16 at h; constructor <;> omega
  exact ⟨by constructor <;> omega, lt h2, lt h3, lt h4, lt h5, h6, h7, h8, by omega, by omega⟩
theorem keep_Functions {s : St} : ACalls Try.prog 27 [] s (fun r s' => r = .sl .unk (fnL.map (PV.int .i64)) ∧ s' = s) := by
  refine go Try.func27 (k := fun hwf H => ?_)
  refine rs (k := rg [] (k := rs (k := rr (k := rO (k := rh [0] (k := rR (k := rP (by simp only [Try.f27, go_sem]; rfl) hwf ⟨?_, rfl⟩)))))))
  rfl
attribute [local go_sem] weaks_bools set_set
set_option maxRecDepth 100000 in
theorem tape_Request {T : Tp} (hT : T.ok) {s : St} {tp : Nat} (hb : s.blk tp = some (.row 42 [T.pv])) : ACalls Try.prog 13 [.ptr tp 0 0] s (fun r s' => ∃ (q : Req) (T' : Tp), r = q.pv ∧ s' = s.set tp (some (.row 42 [T'.pv])) ∧ T'.ok ∧ q.ok ∧ rightF q = 0) := by
  refine go Try.func13 (k := fun hwf H => ?_)
  have hlt : tp < s.nxt := lt_blk hwf hb
  have hFt : (s.nxt = tp) = False := eq_false (by omega)
  have htF : (tp = s.nxt) = False := eq_false (by omega)
  have hRt : (s.nxt + 1 = tp) = False := eq_false (by omega)
  have htR : (tp = s.nxt + 1) = False := eq_false (by omega)
  have zU : U16 0 := by constructor <;> decide
  have zW : OkW [] := fun x hx => (List.not_mem_nil hx).elim
  have hv12 := T.val_bound (n := 12) (by decide)
  obtain ⟨u, hu, hue⟩ := T.val_nat (n := 12) (by decide)
  have hue : T.val 12 = (u : Int) := hue
  obtain ⟨f, hfu, hfm⟩ := fnL_get (u := u) (by omega)
  have hflen : (u < 12) = True := eq_true (by omega)
  have H := aj hFt (aj htF (aj hRt (aj htR H)))
  refine rs (k := rg [0, 2] (k := rs (k := ?_)))
  have H := aj hue (aj hfu (aj hflen H))
  refine rr (k := rC (h := keep_Functions) (k := ro (pre := [_]) (k := ?_)))
  refine RunO.callw au au au (by kernel_rfl) ((tape_Next hT (n := 12) (by simp only [go_sem, htF, ↓reduceIte]; exact hb)).mono ?_)
  rintro r s9 ⟨rfl, hs⟩
  subst s9
  refine rh [0, 2, 3] (k := rs (k := rr (k := ro (pre := [_]) (k := ?_))))
  refine RunO.callw au au au (by kernel_rfl) ((tape_Next (hT.nx 12) (n := 70) (by simp only [go_sem, htR, htF, ↓reduceIte])).mono ?_)
  rintro r s9 ⟨rfl, hs⟩
  subst s9
  refine rh [0, 2, 3, 4] (k := rs (k := rs (k := ?_)))
  refine Run.genS fun S hS => ?_
  obtain ⟨T2, hT2e⟩ : ∃ y, (T.nx 12).nx 70 = y := ⟨_, rfl⟩
  have hT2 : T2.ok := by rw [← hT2e]; exact (hT.nx 12).nx 70
  have hab := (T.nx 12).val_bound (n := 70) (by decide)
  obtain ⟨a, ha⟩ : ∃ y, (T.nx 12).val 70 = y := ⟨_, rfl⟩
  rw [ha] at hab
  rw [ha]
  have hU : U16 a := ⟨by omega, by omega⟩
  have hQ : QAt s tp T2 [.int .i64 (f), .int .i64 (0), .int .i64 (0), .int .i64 (0), .int .i64 (0), .sl .nil [], .sl .nil [], .int .u16 (0), .int .u16 (0)] S := by rw [hS, ← hT2e]; exact QAt.first hlt
  have hQr := hQ.row
  have hQz := hQ.zero
  clear hS
  have H := aj hQr (aj hQz H)
  refine rg [0, 2, 3, 4, 17] (k := ?_)
  refine Run.join (fun e s' => ∃ (T' : Tp) (q : Req) (kb kv : SK), e = [(2, .ptr s.nxt 0 0), (3, .ptr (s.nxt + 1) 0 0)] ∧ T'.ok ∧ q.ok ∧ rightF q = 0 ∧ QAt s tp T' [.int .i64 q.fn, .int .i64 q.at_, .int .i64 q.count, .int .i64 q.wat, .int .i64 q.sub, .sl kb (q.bits.map PV.bool), .sl kv (q.vals.map (PV.int .u16)), .int .u16 q.and_, .int .u16 q.or_] s') ?_ ?_
  · rintro e SJ ⟨TJ, q, kb, kv, rfl, hTJ, hq, hr, hQJ⟩
    have hJr := hQJ.row
    have hJz := hQJ.zero
    have H := aj hJr (aj hJz H)
    refine rs (k := rg [2] (k := rR (k := ?_)))
    refine Ret.baseK (r' := q.pv) tp (.row 42 [TJ.pv]) hlt (by simp only [Try.f13, go_sem, ↓reduceIte] <;> rfl) (by simp only [Req.pv, PV.weak, PV.weaks, weaks_bools, weaks_u16]) (blw_req _ _) (by simp only [Blk.blw, PV.blws]; exact ⟨blw_tape _ _, trivial⟩) hwf (fun i hi => ?_) ⟨q, TJ, rfl, rfl, hTJ, hq, hr⟩
    rw [blk_set_ne (by omega), blk_set]
    split
    · rename_i e; rw [e]; exact hQJ.tape
    · rename_i e; exact hQJ.rest i hi e
  intro hJb0
  refine rb (k := rs (k := rs (k := rg [0, 2, 3, 4, 17, 18] (k := rc (ht := fun hc0 => ?_) (hf := fun hc0 => ?_)))))
  refine rk (k := rc (ht := fun hc3 => ?_) (hf := fun hc3 => ?_))
  refine jO 1 ?_; rotate_left
  · exact Bool.noConfusion (hc0.symm.trans hc3)
  refine rs (k := rg [0, 2, 3, 4, 17, 18] (k := rc (ht := fun hc1 => ?_) (hf := fun hc1 => ?_)))
  refine rk (k := rc (ht := fun hc3 => ?_) (hf := fun hc3 => ?_))
  refine jO 1 ?_; rotate_left
  · exact Bool.noConfusion (hc1.symm.trans hc3)
  refine rs (k := rg [0, 2, 3, 4, 17, 18] (k := rc (ht := fun hc2 => ?_) (hf := fun hc2 => ?_)))
  refine rk (k := rc (ht := fun hc3 => ?_) (hf := fun hc3 => ?_))
  refine jO 1 ?_; rotate_left
  · exact Bool.noConfusion (hc2.symm.trans hc3)
  refine rg [0, 2, 3, 4, 17, 18] (k := rc (ht := fun hc3 => ?_) (hf := fun hc3 => ?_))
  refine jO 1 ?_; rotate_left
  · refine rs (k := rg [0, 2, 3, 4, 17, 28] (k := rc (ht := fun hc4 => ?_) (hf := fun hc4 => ?_)))
    · have hy2b := (T2).val_bound (n := 2) (by decide)
      obtain ⟨y2, hy2⟩ : ∃ y, (T2).val 2 = y := ⟨_, rfl⟩
      rw [hy2] at hy2b
      have H := aj hy2 H
      refine rr (k := ro (pre := [_, _]) (k := ?_))
      refine RunO.callw au au au (by kernel_rfl) ((tape_Next hT2 (n := 2) hQ.tape).mono ?_)
      rintro r s9 ⟨rfl, hs⟩
      subst s9
      refine ro (pre := [_]) (k := rO (k := rh [2, 3] (k := rB (k := ?_))))
      have hf5 : f = 5 := by simp only [decide_eq_true_eq, decide_eq_false_iff_not] at *; omega
      subst hf5
      exact hJb0 _ _ ⟨T2.nx 2, ⟨5, a, 0, 0, 0, [decide (y2 = 1)], [], 0, 0⟩, .clip, .nil, rfl, hT2.nx 2, (req_okT (by simp) hU zU zU zU zW zU zU (by simp) (by simp)), (right5 (by omega) _), (by repeat' first | assumption | omega | apply QAt.rw' | apply QAt.tp' | apply QAt.nw | apply QAt.tk)⟩
    · refine rs (k := rg [0, 2, 3, 4, 17, 37] (k := rc (ht := fun hc5 => ?_) (hf := fun hc5 => ?_)))
      · have hy6b := (T2).val_bound (n := 65536) (by decide)
        obtain ⟨y6, hy6⟩ : ∃ y, (T2).val 65536 = y := ⟨_, rfl⟩
        rw [hy6] at hy6b
        have hw6 : IntKind.u16.wrap y6 = y6 := by rw [u16_wrap]; omega
        have H := aj hy6 (aj hw6 H)
        refine rr (k := ro (pre := [_, _]) (k := ?_))
        refine RunO.callw au au au (by kernel_rfl) ((tape_Next hT2 (n := 65536) hQ.tape).mono ?_)
        rintro r s9 ⟨rfl, hs⟩
        subst s9
        refine ro (pre := [_]) (k := rO (k := rh [2, 3] (k := rB (k := ?_))))
        have hf5 : f = 6 := by simp only [decide_eq_true_eq, decide_eq_false_iff_not] at *; omega
        subst hf5
        exact hJb0 _ _ ⟨T2.nx 65536, ⟨6, a, 0, 0, 0, [], [y6], 0, 0⟩, .nil, .clip, rfl, hT2.nx 65536, (req_okT (by simp) hU zU zU zU (OkW.one (show U16 y6 from ⟨by omega, by omega⟩)) zU zU (by simp) (by simp)), (right6 (by omega) _), (by repeat' first | assumption | omega | apply QAt.rw' | apply QAt.tp' | apply QAt.nw | apply QAt.tk)⟩
      · refine rs (k := rg [0, 2, 3, 4, 17, 46] (k := rc (ht := fun hc6 => ?_) (hf := fun hc6 => ?_)))
        · obtain ⟨x8, hx8, hx8e⟩ := T2.val_nat (n := 8) (by decide)
          have hx8e : T2.val 8 = (x8 : Int) := hx8e
          obtain ⟨sb, hsb, hsbU⟩ := subL_get (u := x8) (by omega)
          obtain ⟨x4, hx4, hx4e⟩ := (T2.nx 8).val_nat (n := 4) (by decide)
          have hx4e : (T2.nx 8).val 4 = (x4 : Int) := hx4e
          obtain ⟨vv, hvv, hvvU⟩ := vL_get (u := x4) (by omega)
          have hl8 : (x8 < 8) = True := eq_true (by omega)
          have hl4 : (x4 < 4) = True := eq_true (by omega)
          simp only [subL, vL, List.map_cons, List.map_nil] at hsb hvv
          have H := aj hx8e (aj hsb (aj hx4e (aj hvv (aj hl8 (aj hl4 H)))))
          refine Run.drawH 15 [2, 7, 12, 14] [[false, false, false, false], [true, false, false, false], [true, true, false, false], [true, true, true, false], [true, true, true, true]] [S, (S.set tp (some (.row 42 [(T2.nx 8).pv]))), ((S.set tp (some (.row 42 [(T2.nx 8).pv]))).set tp (some (.row 42 [((T2.nx 8).nx 4).pv]))), (((S.set tp (some (.row 42 [(T2.nx 8).pv]))).set tp (some (.row 42 [((T2.nx 8).nx 4).pv]))).set (s.nxt + 1) (some (.row 33 [.agg [.int .i64 (f), .int .i64 (0), .int .i64 (0), .int .i64 (0), .int .i64 (sb), .sl .nil [], .sl .nil [], .int .u16 (0), .int .u16 (0)]]))), ((((S.set tp (some (.row 42 [(T2.nx 8).pv]))).set tp (some (.row 42 [((T2.nx 8).nx 4).pv]))).set (s.nxt + 1) (some (.row 33 [.agg [.int .i64 (f), .int .i64 (0), .int .i64 (0), .int .i64 (0), .int .i64 (sb), .sl .nil [], .sl .nil [], .int .u16 (0), .int .u16 (0)]]))).set (s.nxt + 1) (some (.row 33 [.agg [.int .i64 (f), .int .i64 (0), .int .i64 (0), .int .i64 (0), .int .i64 (sb), .sl .nil [], .sl .clip [.int .u16 vv], .int .u16 (0), .int .u16 (0)]])))] (((((S.set tp (some (.row 42 [(T2.nx 8).pv]))).set tp (some (.row 42 [((T2.nx 8).nx 4).pv]))).set (s.nxt + 1) (some (.row 33 [.agg [.int .i64 (f), .int .i64 (0), .int .i64 (0), .int .i64 (0), .int .i64 (sb), .sl .nil [], .sl .nil [], .int .u16 (0), .int .u16 (0)]]))).set (s.nxt + 1) (some (.row 33 [.agg [.int .i64 (f), .int .i64 (0), .int .i64 (0), .int .i64 (0), .int .i64 (sb), .sl .nil [], .sl .clip [.int .u16 vv], .int .u16 (0), .int .u16 (0)]])))) Try.mixed (by kernel_rfl) (by kernel_rfl) (by kernel_rfl) (by kernel_rfl) (by kernel_rfl) rfl (by kernel_rfl) rfl ?_
          refine DetHC.pre (pre := [_, _]) (s1 := S) [0, 1, 2] [S, (S.set tp (some (.row 42 [(T2.nx 8).pv]))), ((S.set tp (some (.row 42 [(T2.nx 8).pv]))).set tp (some (.row 42 [((T2.nx 8).nx 4).pv])))] (by kernel_rfl) rfl au ?_
          refine DetHC.callE (v := .int .i64 x8) [(0, 1)] [(S, (S.set tp (some (.row 42 [(T2.nx 8).pv]))))] (by kernel_rfl) rfl au au au (by kernel_rfl) (by intro q hq; rw [List.mem_singleton.1 hq]; simp only; rw [← hx8e]; exact tape_Next hT2 hQ.tape) ?_
          refine DetHC.pre (pre := [_, _, _, _]) (s1 := S) [0, 1, 2, 3] [S, (S.set tp (some (.row 42 [(T2.nx 8).pv]))), ((S.set tp (some (.row 42 [(T2.nx 8).pv]))).set tp (some (.row 42 [((T2.nx 8).nx 4).pv]))), (((S.set tp (some (.row 42 [(T2.nx 8).pv]))).set tp (some (.row 42 [((T2.nx 8).nx 4).pv]))).set (s.nxt + 1) (some (.row 33 [.agg [.int .i64 (f), .int .i64 (0), .int .i64 (0), .int .i64 (0), .int .i64 (sb), .sl .nil [], .sl .nil [], .int .u16 (0), .int .u16 (0)]])))] (by kernel_rfl) rfl au ?_
          refine DetHC.callE (v := .int .i64 x4) [(1, 2)] [((S.set tp (some (.row 42 [(T2.nx 8).pv]))), ((S.set tp (some (.row 42 [(T2.nx 8).pv]))).set tp (some (.row 42 [((T2.nx 8).nx 4).pv]))))] (by kernel_rfl) rfl au au au (by kernel_rfl) (by intro q hq; rw [List.mem_singleton.1 hq]; simp only; rw [← hx4e]; exact tape_Next (hT2.nx 8) (blk_set_self _ _ _)) ?_
          refine DetHC.pre (pre := [_, _, _, _]) (s1 := (S.set tp (some (.row 42 [(T2.nx 8).pv])))) [1, 2, 3] [(S.set tp (some (.row 42 [(T2.nx 8).pv]))), ((S.set tp (some (.row 42 [(T2.nx 8).pv]))).set tp (some (.row 42 [((T2.nx 8).nx 4).pv]))), (((S.set tp (some (.row 42 [(T2.nx 8).pv]))).set tp (some (.row 42 [((T2.nx 8).nx 4).pv]))).set (s.nxt + 1) (some (.row 33 [.agg [.int .i64 (f), .int .i64 (0), .int .i64 (0), .int .i64 (0), .int .i64 (sb), .sl .nil [], .sl .nil [], .int .u16 (0), .int .u16 (0)]])))] (by kernel_rfl) rfl au ?_
          refine DetHC.eff [(2, 3)] (((S.set tp (some (.row 42 [(T2.nx 8).pv]))).set tp (some (.row 42 [((T2.nx 8).nx 4).pv])))) ((((S.set tp (some (.row 42 [(T2.nx 8).pv]))).set tp (some (.row 42 [((T2.nx 8).nx 4).pv]))).set (s.nxt + 1) (some (.row 33 [.agg [.int .i64 (f), .int .i64 (0), .int .i64 (0), .int .i64 (0), .int .i64 (sb), .sl .nil [], .sl .nil [], .int .u16 (0), .int .u16 (0)]])))) [] (by kernel_rfl) rfl au au au ?_
          refine DetHC.pre (pre := [_]) (s1 := (((S.set tp (some (.row 42 [(T2.nx 8).pv]))).set tp (some (.row 42 [((T2.nx 8).nx 4).pv]))).set (s.nxt + 1) (some (.row 33 [.agg [.int .i64 (f), .int .i64 (0), .int .i64 (0), .int .i64 (0), .int .i64 (sb), .sl .nil [], .sl .nil [], .int .u16 (0), .int .u16 (0)]])))) [3] [(((S.set tp (some (.row 42 [(T2.nx 8).pv]))).set tp (some (.row 42 [((T2.nx 8).nx 4).pv]))).set (s.nxt + 1) (some (.row 33 [.agg [.int .i64 (f), .int .i64 (0), .int .i64 (0), .int .i64 (0), .int .i64 (sb), .sl .nil [], .sl .nil [], .int .u16 (0), .int .u16 (0)]])))] (by kernel_rfl) rfl au ?_
          refine DetHC.eff [(3, 4)] ((((S.set tp (some (.row 42 [(T2.nx 8).pv]))).set tp (some (.row 42 [((T2.nx 8).nx 4).pv]))).set (s.nxt + 1) (some (.row 33 [.agg [.int .i64 (f), .int .i64 (0), .int .i64 (0), .int .i64 (0), .int .i64 (sb), .sl .nil [], .sl .nil [], .int .u16 (0), .int .u16 (0)]])))) (((((S.set tp (some (.row 42 [(T2.nx 8).pv]))).set tp (some (.row 42 [((T2.nx 8).nx 4).pv]))).set (s.nxt + 1) (some (.row 33 [.agg [.int .i64 (f), .int .i64 (0), .int .i64 (0), .int .i64 (0), .int .i64 (sb), .sl .nil [], .sl .nil [], .int .u16 (0), .int .u16 (0)]]))).set (s.nxt + 1) (some (.row 33 [.agg [.int .i64 (f), .int .i64 (0), .int .i64 (0), .int .i64 (0), .int .i64 (sb), .sl .nil [], .sl .clip [.int .u16 vv], .int .u16 (0), .int .u16 (0)]])))) [] (by kernel_rfl) rfl au au au ?_
          refine DetHC.nil ?_
          refine rl [2, 3] (k := rB (k := ?_))
          have hf5 : f = 8 := by simp only [decide_eq_true_eq, decide_eq_false_iff_not] at *; omega
          subst hf5
          exact hJb0 _ _ ⟨(T2.nx 8).nx 4, ⟨8, 0, 0, 0, sb, [], [vv], 0, 0⟩, .nil, .clip, rfl, (hT2.nx 8).nx 4, (req_okT (by simp) zU zU zU hsbU (OkW.one hvvU) zU zU (by simp) (by simp)), (right8 (by unfold U16 at hsbU; omega) _), (by repeat' first | assumption | omega | apply QAt.rw' | apply QAt.tp' | apply QAt.nw | apply QAt.tk)⟩
        · refine rs (k := rg [0, 2, 3, 4, 17, 61] (k := rc (ht := fun hc7 => ?_) (hf := fun hc7 => ?_)))
          · refine rs (k := ?_)
            have hf5 : f = 15 := by simp only [decide_eq_true_eq, decide_eq_false_iff_not] at *; omega
            subst hf5
            have hy26b := (T2).val_bound (n := 26) (by decide)
            obtain ⟨y26, hy26⟩ : ∃ y, (T2).val 26 = y := ⟨_, rfl⟩
            rw [hy26] at hy26b
            have H := aj hy26 H
            refine rr (k := ro (pre := [_, _]) (k := ?_))
            refine RunO.callw au au au (by kernel_rfl) ((tape_Next hT2 (n := 26) hQ.tape).mono ?_)
            rintro r s9 ⟨rfl, hs⟩
            subst s9
            refine rh [0, 2, 3] (k := rs (k := rg [0, 2, 3, 5] (k := rb (k := ?_))))
            refine Run.loop (fun e s' => ∃ (T3 : Tp) (i : Nat) (L : List Bool) (k : SK), e = [(0, .ptr tp 0 0), (2, .ptr s.nxt 0 0), (3, .ptr (s.nxt + 1) 0 0), (5, .int .i64 (i : Int))] ∧ T3.ok ∧ QAt s tp T3 [.int .i64 (15), .int .i64 (a), .int .i64 (y26), .int .i64 (0), .int .i64 (0), .sl k (L.map PV.bool), .sl .nil [], .int .u16 (0), .int .u16 (0)] s' ∧ L.length = i ∧ (i : Int) ≤ y26 ∧ (k = .nil ∧ L = [] ∨ ∃ t, k = .tok t 1 ∧ s.nxt + 2 ≤ t ∧ s'.blk t = some (.tok L.length))) (fun e s' => y26.toNat - ivar e 5) ?_ ?_
            · exact ⟨T2.nx 26, 0, [], .nil, rfl, hT2.nx 26, (by repeat' first | assumption | omega | apply QAt.rw' | apply QAt.tp' | apply QAt.nw | apply QAt.tk), rfl, by omega, .inl ⟨rfl, rfl⟩⟩
            rintro e S3 ⟨T3, i, L, k, rfl, hT3, hQ3, hr1, hr2, hk⟩
            have h3r := hQ3.row
            have h3t := hQ3.tape
            have h3n := hQ3.nx
            have hN1 : (s.nxt + 1 = S3.nxt) = False := eq_false (by omega)
            have hN2 : (tp = S3.nxt) = False := eq_false (by omega)
            have H := aj h3r (aj h3t (aj hN1 (aj hN2 H)))
            rcases hk with ⟨rfl, rfl⟩ | ⟨t, rfl, htn, htb⟩
            · simp only [List.length_nil] at hr1
              refine rs (k := rs (k := rg [0, 2, 3, 5, 71] (k := rc (ht := fun hc8 => ?_) (hf := fun hc8 => ?_))))
              · refine rk (k := rs (k := rb (k := ?_)))
                have hy2b := (T3).val_bound (n := 2) (by decide)
                obtain ⟨y2, hy2⟩ : ∃ y, (T3).val 2 = y := ⟨_, rfl⟩
                rw [hy2] at hy2b
                have hic : (i : Int) < y26 := of_decide_eq_true hc8
                refine Run.drawH 9 [3, 6, 8] [[false, false, false], [true, false, false], [true, true, false], [true, true, true]] [S3, (S3.set tp (some (.row 42 [(T3.nx 2).pv]))), ((S3.set tp (some (.row 42 [(T3.nx 2).pv]))).new (.tok [decide (y2 = 1)].length)), (((S3.set tp (some (.row 42 [(T3.nx 2).pv]))).new (.tok [decide (y2 = 1)].length)).set (s.nxt + 1) (some (.row 33 [.agg [.int .i64 (15), .int .i64 (a), .int .i64 (y26), .int .i64 (0), .int .i64 (0), .sl (.tok S3.nxt 1) ([decide (y2 = 1)].map PV.bool), .sl .nil [], .int .u16 (0), .int .u16 (0)]])))] ((((S3.set tp (some (.row 42 [(T3.nx 2).pv]))).new (.tok [decide (y2 = 1)].length)).set (s.nxt + 1) (some (.row 33 [.agg [.int .i64 (15), .int .i64 (a), .int .i64 (y26), .int .i64 (0), .int .i64 (0), .sl (.tok S3.nxt 1) ([decide (y2 = 1)].map PV.bool), .sl .nil [], .int .u16 (0), .int .u16 (0)]])))) Try.mixed (by kernel_rfl) (by kernel_rfl) (by kernel_rfl) (by kernel_rfl) (by kernel_rfl) rfl (by kernel_rfl) rfl ?_
                refine DetHC.pre (pre := [_, _, _]) (s1 := S3) [0, 1] [S3, (S3.set tp (some (.row 42 [(T3.nx 2).pv])))] (by kernel_rfl) rfl au ?_
                refine DetHC.callE (v := .int .i64 y2) [(0, 1)] [(S3, (S3.set tp (some (.row 42 [(T3.nx 2).pv]))))] (by kernel_rfl) rfl au au au (by kernel_rfl) (by intro q hq; rw [List.mem_singleton.1 hq]; simp only; rw [← hy2]; exact tape_Next hT3 hQ3.tape) ?_
                refine DetHC.pre (pre := [_, _]) (s1 := (S3.set tp (some (.row 42 [(T3.nx 2).pv])))) [1] [(S3.set tp (some (.row 42 [(T3.nx 2).pv])))] (by kernel_rfl) rfl au ?_
                refine DetHC.app (kx := .nil) (xs := []) (ys := [decide (y2 = 1)].map PV.bool) (v := .sl (.tok S3.nxt 1) ([decide (y2 = 1)].map PV.bool)) [(1, 2)] [((S3.set tp (some (.row 42 [(T3.nx 2).pv]))), ((S3.set tp (some (.row 42 [(T3.nx 2).pv]))).new (.tok [decide (y2 = 1)].length)))] (by kernel_rfl) rfl au au au Try.td23 (by rw [Try.zp4]; rfl) (by first | exact isEls_map (P := Try.prog) (e := 4) (f := PV.bool) (fun a => ⟨rfl, by rw [Try.cz4]; first | done | rfl⟩) _ | (intro p hp; cases hp)) (isEls_map (P := Try.prog) (e := 4) (f := PV.bool) (fun a => ⟨rfl, by rw [Try.cz4]; first | done | rfl⟩) _) (by rw [Try.by4]; decide) (by rw [Try.by4]; simp <;> omega) (by intro q hq; rw [List.mem_singleton.1 hq]; exact aAppend_nilL (f := PV.bool) (ys := [decide (y2 = 1)]) (by simp) (by rw [Try.cz4])) ?_
                refine DetHC.pre (pre := [_]) (s1 := ((S3.set tp (some (.row 42 [(T3.nx 2).pv]))).new (.tok [decide (y2 = 1)].length))) [2] [((S3.set tp (some (.row 42 [(T3.nx 2).pv]))).new (.tok [decide (y2 = 1)].length))] (by kernel_rfl) rfl au ?_
                refine DetHC.eff [(2, 3)] (((S3.set tp (some (.row 42 [(T3.nx 2).pv]))).new (.tok [decide (y2 = 1)].length))) ((((S3.set tp (some (.row 42 [(T3.nx 2).pv]))).new (.tok [decide (y2 = 1)].length)).set (s.nxt + 1) (some (.row 33 [.agg [.int .i64 (15), .int .i64 (a), .int .i64 (y26), .int .i64 (0), .int .i64 (0), .sl (.tok S3.nxt 1) ([decide (y2 = 1)].map PV.bool), .sl .nil [], .int .u16 (0), .int .u16 (0)]])))) [] (by kernel_rfl) rfl au au au ?_
                refine DetHC.nil ?_
                refine rl [0, 2, 3, 5] (k := rB (k := ?_))
                have hwi : IntKind.i64.wrap ((i : Int) + 1) = ((i + 1 : Nat) : Int) := by rw [wrap_i64 (by omega)]; omega
                have H := aj hwi H
                refine rg [0, 2, 3, 5] (k := ?_)
                refine Run.lp ⟨⟨T3.nx 2, i + 1, [decide (y2 = 1)], (.tok S3.nxt 1), rfl, hT3.nx 2, (by repeat' first | assumption | omega | apply QAt.rw' | apply QAt.tp' | apply QAt.nw | apply QAt.tk), (by simp at hr1 ⊢ <;> omega), (by omega), .inr ⟨S3.nxt, rfl, hQ3.nx, by simp (disch := first | omega | (simp only [nxt_set, nxt_new] <;> omega)) only [blk_set_ne, blk_new_eq, nxt_set] <;> first | rfl | exact blk_new_eq⟩⟩, ?_⟩
                simp only [ivar, ivar1, go_sem, ↓reduceIte, Nat.reduceEqDiff]
                omega
              · refine rX (k := rB (k := ?_))
                have hie : (0 : Int) = y26 := by simp only [decide_eq_true_eq, decide_eq_false_iff_not] at *; omega
                rw [← hie] at hQ3
                refine rp [2, 3] (k := ?_)
                exact hJb0 _ _ ⟨T3, ⟨15, a, 0, 0, 0, [], [], 0, 0⟩, .nil, .nil, rfl, hT3, (req_okT (by simp) hU zU zU zU zW zU zU (by simp) (by simp)), (right15 (W := []) (by omega) (by simp)), (by repeat' first | assumption | omega | apply QAt.rw' | apply QAt.tp' | apply QAt.nw | apply QAt.tk)⟩
            · have hN3 : (s.nxt + 1 = t) = False := eq_false (by omega)
              have hN4 : (tp = t) = False := eq_false (by omega)
              have hN5 : (t = tp) = False := eq_false (by omega)
              have hN6 : (t = s.nxt + 1) = False := eq_false (by omega)
              have H := aj hN3 (aj hN4 (aj hN5 (aj hN6 H)))
              refine rs (k := rs (k := rg [0, 2, 3, 5, 71] (k := rc (ht := fun hc8 => ?_) (hf := fun hc8 => ?_))))
              · refine rk (k := rs (k := rb (k := ?_)))
                have hy2b := (T3).val_bound (n := 2) (by decide)
                obtain ⟨y2, hy2⟩ : ∃ y, (T3).val 2 = y := ⟨_, rfl⟩
                rw [hy2] at hy2b
                have hic : (i : Int) < y26 := of_decide_eq_true hc8
                refine Run.drawH 9 [3, 6, 8] [[false, false, false], [true, false, false], [true, true, false], [true, true, true]] [S3, (S3.set tp (some (.row 42 [(T3.nx 2).pv]))), ((S3.set tp (some (.row 42 [(T3.nx 2).pv]))).set t (some (.tok (L ++ [decide (y2 = 1)]).length))), (((S3.set tp (some (.row 42 [(T3.nx 2).pv]))).set t (some (.tok (L ++ [decide (y2 = 1)]).length))).set (s.nxt + 1) (some (.row 33 [.agg [.int .i64 (15), .int .i64 (a), .int .i64 (y26), .int .i64 (0), .int .i64 (0), .sl (.tok t 1) ((L ++ [decide (y2 = 1)]).map PV.bool), .sl .nil [], .int .u16 (0), .int .u16 (0)]])))] ((((S3.set tp (some (.row 42 [(T3.nx 2).pv]))).set t (some (.tok (L ++ [decide (y2 = 1)]).length))).set (s.nxt + 1) (some (.row 33 [.agg [.int .i64 (15), .int .i64 (a), .int .i64 (y26), .int .i64 (0), .int .i64 (0), .sl (.tok t 1) ((L ++ [decide (y2 = 1)]).map PV.bool), .sl .nil [], .int .u16 (0), .int .u16 (0)]])))) Try.mixed (by kernel_rfl) (by kernel_rfl) (by kernel_rfl) (by kernel_rfl) (by kernel_rfl) rfl (by kernel_rfl) rfl ?_
                refine DetHC.pre (pre := [_, _, _]) (s1 := S3) [0, 1] [S3, (S3.set tp (some (.row 42 [(T3.nx 2).pv])))] (by kernel_rfl) rfl au ?_
                refine DetHC.callE (v := .int .i64 y2) [(0, 1)] [(S3, (S3.set tp (some (.row 42 [(T3.nx 2).pv]))))] (by kernel_rfl) rfl au au au (by kernel_rfl) (by intro q hq; rw [List.mem_singleton.1 hq]; simp only; rw [← hy2]; exact tape_Next hT3 hQ3.tape) ?_
                refine DetHC.pre (pre := [_, _]) (s1 := (S3.set tp (some (.row 42 [(T3.nx 2).pv])))) [1] [(S3.set tp (some (.row 42 [(T3.nx 2).pv])))] (by kernel_rfl) rfl au ?_
                refine DetHC.app (kx := (.tok t 1)) (xs := L.map PV.bool) (ys := [decide (y2 = 1)].map PV.bool) (v := .sl (.tok t 1) ((L ++ [decide (y2 = 1)]).map PV.bool)) [(1, 2)] [((S3.set tp (some (.row 42 [(T3.nx 2).pv]))), ((S3.set tp (some (.row 42 [(T3.nx 2).pv]))).set t (some (.tok (L ++ [decide (y2 = 1)]).length))))] (by kernel_rfl) rfl au au au Try.td23 (by rw [Try.zp4]; rfl) (by first | exact isEls_map (P := Try.prog) (e := 4) (f := PV.bool) (fun a => ⟨rfl, by rw [Try.cz4]; first | done | rfl⟩) _ | (intro p hp; cases hp)) (isEls_map (P := Try.prog) (e := 4) (f := PV.bool) (fun a => ⟨rfl, by rw [Try.cz4]; first | done | rfl⟩) _) (by rw [Try.by4]; decide) (by rw [Try.by4]; simp <;> omega) (by intro q hq; rw [List.mem_singleton.1 hq]; exact aAppend_tokL (f := PV.bool) (xs := L) (ys := [decide (y2 = 1)]) rfl (by simp) (by rw [blk_set_ne (by omega)]; exact htb) rfl (by rw [Try.cz4])) ?_
                refine DetHC.pre (pre := [_]) (s1 := ((S3.set tp (some (.row 42 [(T3.nx 2).pv]))).set t (some (.tok (L ++ [decide (y2 = 1)]).length)))) [2] [((S3.set tp (some (.row 42 [(T3.nx 2).pv]))).set t (some (.tok (L ++ [decide (y2 = 1)]).length)))] (by kernel_rfl) rfl au ?_
                refine DetHC.eff [(2, 3)] (((S3.set tp (some (.row 42 [(T3.nx 2).pv]))).set t (some (.tok (L ++ [decide (y2 = 1)]).length)))) ((((S3.set tp (some (.row 42 [(T3.nx 2).pv]))).set t (some (.tok (L ++ [decide (y2 = 1)]).length))).set (s.nxt + 1) (some (.row 33 [.agg [.int .i64 (15), .int .i64 (a), .int .i64 (y26), .int .i64 (0), .int .i64 (0), .sl (.tok t 1) ((L ++ [decide (y2 = 1)]).map PV.bool), .sl .nil [], .int .u16 (0), .int .u16 (0)]])))) [] (by kernel_rfl) rfl au au au ?_
                refine DetHC.nil ?_
                refine rl [0, 2, 3, 5] (k := rB (k := ?_))
                have hwi : IntKind.i64.wrap ((i : Int) + 1) = ((i + 1 : Nat) : Int) := by rw [wrap_i64 (by omega)]; omega
                have H := aj hwi H
                refine rg [0, 2, 3, 5] (k := ?_)
                refine Run.lp ⟨⟨T3.nx 2, i + 1, (L ++ [decide (y2 = 1)]), (.tok t 1), rfl, hT3.nx 2, (by repeat' first | assumption | omega | apply QAt.rw' | apply QAt.tp' | apply QAt.nw | apply QAt.tk), (by simp at hr1 ⊢ <;> omega), (by omega), .inr ⟨t, rfl, htn, by rw [blk_set_ne (by omega), blk_set_self]⟩⟩, ?_⟩
                simp only [ivar, ivar1, go_sem, ↓reduceIte, Nat.reduceEqDiff]
                omega
              · refine rX (k := rB (k := ?_))
                have hie : ((L.length : Nat) : Int) = y26 := by simp only [decide_eq_true_eq, decide_eq_false_iff_not] at *; omega
                rw [← hie] at hQ3
                refine rp [2, 3] (k := ?_)
                exact hJb0 _ _ ⟨T3, ⟨15, a, L.length, 0, 0, L, [], 0, 0⟩, _, .nil, rfl, hT3, (req_okT (by simp) hU (show U16 ((L.length : Nat) : Int) from ⟨by omega, by omega⟩) zU zU zW zU zU (by simp <;> omega) (by simp)), (right15 (by omega) (by omega)), (by repeat' first | assumption | omega | apply QAt.rw' | apply QAt.tp' | apply QAt.nw | apply QAt.tk)⟩
          · refine rs (k := rg [0, 2, 3, 4, 17, 82] (k := rc (ht := fun hc9 => ?_) (hf := fun hc9 => ?_)))
            · refine rs (k := ?_)
              have hf5 : f = 16 := by simp only [decide_eq_true_eq, decide_eq_false_iff_not] at *; omega
              subst hf5
              have hy26b := (T2).val_bound (n := 26) (by decide)
              obtain ⟨y26, hy26⟩ : ∃ y, (T2).val 26 = y := ⟨_, rfl⟩
              rw [hy26] at hy26b
              have H := aj hy26 H
              refine rr (k := ro (pre := [_, _]) (k := ?_))
              refine RunO.callw au au au (by kernel_rfl) ((tape_Next hT2 (n := 26) hQ.tape).mono ?_)
              rintro r s9 ⟨rfl, hs⟩
              subst s9
              refine rh [0, 2, 3] (k := rs (k := rg [0, 2, 3, 6] (k := rb (k := ?_))))
              refine Run.loop (fun e s' => ∃ (T3 : Tp) (i : Nat) (L : List Int) (k : SK), e = [(0, .ptr tp 0 0), (2, .ptr s.nxt 0 0), (3, .ptr (s.nxt + 1) 0 0), (6, .int .i64 (i : Int))] ∧ T3.ok ∧ QAt s tp T3 [.int .i64 (16), .int .i64 (a), .int .i64 (y26), .int .i64 (0), .int .i64 (0), .sl .nil [], .sl k (L.map (PV.int .u16)), .int .u16 (0), .int .u16 (0)] s' ∧ L.length = i ∧ (i : Int) ≤ y26 ∧ (k = .nil ∧ L = [] ∨ ∃ t, k = .tok t 1 ∧ s.nxt + 2 ≤ t ∧ s'.blk t = some (.tok L.length)) ∧ OkW L) (fun e s' => y26.toNat - ivar e 6) ?_ ?_
              · exact ⟨T2.nx 26, 0, [], .nil, rfl, hT2.nx 26, (by repeat' first | assumption | omega | apply QAt.rw' | apply QAt.tp' | apply QAt.nw | apply QAt.tk), rfl, by omega, .inl ⟨rfl, rfl⟩, zW⟩
              rintro e S3 ⟨T3, i, L, k, rfl, hT3, hQ3, hr1, hr2, hk, hLo⟩
              have h3r := hQ3.row
              have h3t := hQ3.tape
              have h3n := hQ3.nx
              have hN1 : (s.nxt + 1 = S3.nxt) = False := eq_false (by omega)
              have hN2 : (tp = S3.nxt) = False := eq_false (by omega)
              have H := aj h3r (aj h3t (aj hN1 (aj hN2 H)))
              rcases hk with ⟨rfl, rfl⟩ | ⟨t, rfl, htn, htb⟩
              · simp only [List.length_nil] at hr1
                refine rs (k := rs (k := rg [0, 2, 3, 6, 92] (k := rc (ht := fun hc10 => ?_) (hf := fun hc10 => ?_))))
                · refine rk (k := rs (k := rb (k := ?_)))
                  have hy6b := (T3).val_bound (n := 65536) (by decide)
                  obtain ⟨y6, hy6⟩ : ∃ y, (T3).val 65536 = y := ⟨_, rfl⟩
                  rw [hy6] at hy6b
                  have hic : (i : Int) < y26 := of_decide_eq_true hc10
                  have hw6 : IntKind.u16.wrap y6 = y6 := by rw [u16_wrap]; omega
                  have H := aj hw6 H
                  refine Run.drawH 9 [3, 6, 8] [[false, false, false], [true, false, false], [true, true, false], [true, true, true]] [S3, (S3.set tp (some (.row 42 [(T3.nx 65536).pv]))), ((S3.set tp (some (.row 42 [(T3.nx 65536).pv]))).new (.tok [y6].length)), (((S3.set tp (some (.row 42 [(T3.nx 65536).pv]))).new (.tok [y6].length)).set (s.nxt + 1) (some (.row 33 [.agg [.int .i64 (16), .int .i64 (a), .int .i64 (y26), .int .i64 (0), .int .i64 (0), .sl .nil [], .sl (.tok S3.nxt 1) ([y6].map (PV.int .u16)), .int .u16 (0), .int .u16 (0)]])))] ((((S3.set tp (some (.row 42 [(T3.nx 65536).pv]))).new (.tok [y6].length)).set (s.nxt + 1) (some (.row 33 [.agg [.int .i64 (16), .int .i64 (a), .int .i64 (y26), .int .i64 (0), .int .i64 (0), .sl .nil [], .sl (.tok S3.nxt 1) ([y6].map (PV.int .u16)), .int .u16 (0), .int .u16 (0)]])))) Try.mixed (by kernel_rfl) (by kernel_rfl) (by kernel_rfl) (by kernel_rfl) (by kernel_rfl) rfl (by kernel_rfl) rfl ?_
                  refine DetHC.pre (pre := [_, _, _]) (s1 := S3) [0, 1] [S3, (S3.set tp (some (.row 42 [(T3.nx 65536).pv])))] (by kernel_rfl) rfl au ?_
                  refine DetHC.callE (v := .int .i64 y6) [(0, 1)] [(S3, (S3.set tp (some (.row 42 [(T3.nx 65536).pv]))))] (by kernel_rfl) rfl au au au (by kernel_rfl) (by intro q hq; rw [List.mem_singleton.1 hq]; simp only; rw [← hy6]; exact tape_Next hT3 hQ3.tape) ?_
                  refine DetHC.pre (pre := [_, _]) (s1 := (S3.set tp (some (.row 42 [(T3.nx 65536).pv])))) [1] [(S3.set tp (some (.row 42 [(T3.nx 65536).pv])))] (by kernel_rfl) rfl au ?_
                  refine DetHC.app (kx := .nil) (xs := []) (ys := [y6].map (PV.int .u16)) (v := .sl (.tok S3.nxt 1) ([y6].map (PV.int .u16))) [(1, 2)] [((S3.set tp (some (.row 42 [(T3.nx 65536).pv]))), ((S3.set tp (some (.row 42 [(T3.nx 65536).pv]))).new (.tok [y6].length)))] (by kernel_rfl) rfl au au au Try.td22 (by rw [Try.zp24]; rfl) (by first | exact isEls_map (P := Try.prog) (e := 24) (f := (PV.int .u16)) (fun a => ⟨rfl, by rw [Try.cz24]; first | done | rfl⟩) _ | (intro p hp; cases hp)) (isEls_map (P := Try.prog) (e := 24) (f := (PV.int .u16)) (fun a => ⟨rfl, by rw [Try.cz24]; first | done | rfl⟩) _) (by rw [Try.by24]; decide) (by rw [Try.by24]; simp <;> omega) (by intro q hq; rw [List.mem_singleton.1 hq]; exact aAppend_nilL (f := (PV.int .u16)) (ys := [y6]) (by simp) (by rw [Try.cz24])) ?_
                  refine DetHC.pre (pre := [_]) (s1 := ((S3.set tp (some (.row 42 [(T3.nx 65536).pv]))).new (.tok [y6].length))) [2] [((S3.set tp (some (.row 42 [(T3.nx 65536).pv]))).new (.tok [y6].length))] (by kernel_rfl) rfl au ?_
                  refine DetHC.eff [(2, 3)] (((S3.set tp (some (.row 42 [(T3.nx 65536).pv]))).new (.tok [y6].length))) ((((S3.set tp (some (.row 42 [(T3.nx 65536).pv]))).new (.tok [y6].length)).set (s.nxt + 1) (some (.row 33 [.agg [.int .i64 (16), .int .i64 (a), .int .i64 (y26), .int .i64 (0), .int .i64 (0), .sl .nil [], .sl (.tok S3.nxt 1) ([y6].map (PV.int .u16)), .int .u16 (0), .int .u16 (0)]])))) [] (by kernel_rfl) rfl au au au ?_
                  refine DetHC.nil ?_
                  refine rl [0, 2, 3, 6] (k := rB (k := ?_))
                  have hwi : IntKind.i64.wrap ((i : Int) + 1) = ((i + 1 : Nat) : Int) := by rw [wrap_i64 (by omega)]; omega
                  have H := aj hwi H
                  refine rg [0, 2, 3, 6] (k := ?_)
                  refine Run.lp ⟨⟨T3.nx 65536, i + 1, [y6], (.tok S3.nxt 1), rfl, hT3.nx 65536, (by repeat' first | assumption | omega | apply QAt.rw' | apply QAt.tp' | apply QAt.nw | apply QAt.tk), (by simp at hr1 ⊢ <;> omega), (by omega), .inr ⟨S3.nxt, rfl, hQ3.nx, by simp (disch := first | omega | (simp only [nxt_set, nxt_new] <;> omega)) only [blk_set_ne, blk_new_eq, nxt_set] <;> first | rfl | exact blk_new_eq⟩, (by intro y hy; rw [List.mem_singleton.1 hy]; exact ⟨by omega, by omega⟩)⟩, ?_⟩
                  simp only [ivar, ivar1, go_sem, ↓reduceIte, Nat.reduceEqDiff]
                  omega
                · refine rX (k := rB (k := ?_))
                  have hie : (0 : Int) = y26 := by simp only [decide_eq_true_eq, decide_eq_false_iff_not] at *; omega
                  rw [← hie] at hQ3
                  refine rp [2, 3] (k := ?_)
                  exact hJb0 _ _ ⟨T3, ⟨16, a, 0, 0, 0, [], [], 0, 0⟩, .nil, .nil, rfl, hT3, (req_okT (by simp) hU zU zU zU zW zU zU (by simp) (by simp)), (right16 (W := []) (by omega) (by simp)), (by repeat' first | assumption | omega | apply QAt.rw' | apply QAt.tp' | apply QAt.nw | apply QAt.tk)⟩
              · have hN3 : (s.nxt + 1 = t) = False := eq_false (by omega)
                have hN4 : (tp = t) = False := eq_false (by omega)
                have hN5 : (t = tp) = False := eq_false (by omega)
                have hN6 : (t = s.nxt + 1) = False := eq_false (by omega)
                have H := aj hN3 (aj hN4 (aj hN5 (aj hN6 H)))
                refine rs (k := rs (k := rg [0, 2, 3, 6, 92] (k := rc (ht := fun hc10 => ?_) (hf := fun hc10 => ?_))))
                · refine rk (k := rs (k := rb (k := ?_)))
                  have hy6b := (T3).val_bound (n := 65536) (by decide)
                  obtain ⟨y6, hy6⟩ : ∃ y, (T3).val 65536 = y := ⟨_, rfl⟩
                  rw [hy6] at hy6b
                  have hic : (i : Int) < y26 := of_decide_eq_true hc10
                  have hw6 : IntKind.u16.wrap y6 = y6 := by rw [u16_wrap]; omega
                  have H := aj hw6 H
                  refine Run.drawH 9 [3, 6, 8] [[false, false, false], [true, false, false], [true, true, false], [true, true, true]] [S3, (S3.set tp (some (.row 42 [(T3.nx 65536).pv]))), ((S3.set tp (some (.row 42 [(T3.nx 65536).pv]))).set t (some (.tok (L ++ [y6]).length))), (((S3.set tp (some (.row 42 [(T3.nx 65536).pv]))).set t (some (.tok (L ++ [y6]).length))).set (s.nxt + 1) (some (.row 33 [.agg [.int .i64 (16), .int .i64 (a), .int .i64 (y26), .int .i64 (0), .int .i64 (0), .sl .nil [], .sl (.tok t 1) ((L ++ [y6]).map (PV.int .u16)), .int .u16 (0), .int .u16 (0)]])))] ((((S3.set tp (some (.row 42 [(T3.nx 65536).pv]))).set t (some (.tok (L ++ [y6]).length))).set (s.nxt + 1) (some (.row 33 [.agg [.int .i64 (16), .int .i64 (a), .int .i64 (y26), .int .i64 (0), .int .i64 (0), .sl .nil [], .sl (.tok t 1) ((L ++ [y6]).map (PV.int .u16)), .int .u16 (0), .int .u16 (0)]])))) Try.mixed (by kernel_rfl) (by kernel_rfl) (by kernel_rfl) (by kernel_rfl) (by kernel_rfl) rfl (by kernel_rfl) rfl ?_
                  refine DetHC.pre (pre := [_, _, _]) (s1 := S3) [0, 1] [S3, (S3.set tp (some (.row 42 [(T3.nx 65536).pv])))] (by kernel_rfl) rfl au ?_
                  refine DetHC.callE (v := .int .i64 y6) [(0, 1)] [(S3, (S3.set tp (some (.row 42 [(T3.nx 65536).pv]))))] (by kernel_rfl) rfl au au au (by kernel_rfl) (by intro q hq; rw [List.mem_singleton.1 hq]; simp only; rw [← hy6]; exact tape_Next hT3 hQ3.tape) ?_
                  refine DetHC.pre (pre := [_, _]) (s1 := (S3.set tp (some (.row 42 [(T3.nx 65536).pv])))) [1] [(S3.set tp (some (.row 42 [(T3.nx 65536).pv])))] (by kernel_rfl) rfl au ?_
                  refine DetHC.app (kx := (.tok t 1)) (xs := L.map (PV.int .u16)) (ys := [y6].map (PV.int .u16)) (v := .sl (.tok t 1) ((L ++ [y6]).map (PV.int .u16))) [(1, 2)] [((S3.set tp (some (.row 42 [(T3.nx 65536).pv]))), ((S3.set tp (some (.row 42 [(T3.nx 65536).pv]))).set t (some (.tok (L ++ [y6]).length))))] (by kernel_rfl) rfl au au au Try.td22 (by rw [Try.zp24]; rfl) (by first | exact isEls_map (P := Try.prog) (e := 24) (f := (PV.int .u16)) (fun a => ⟨rfl, by rw [Try.cz24]; first | done | rfl⟩) _ | (intro p hp; cases hp)) (isEls_map (P := Try.prog) (e := 24) (f := (PV.int .u16)) (fun a => ⟨rfl, by rw [Try.cz24]; first | done | rfl⟩) _) (by rw [Try.by24]; decide) (by rw [Try.by24]; simp <;> omega) (by intro q hq; rw [List.mem_singleton.1 hq]; exact aAppend_tokL (f := (PV.int .u16)) (xs := L) (ys := [y6]) rfl (by simp) (by rw [blk_set_ne (by omega)]; exact htb) rfl (by rw [Try.cz24])) ?_
                  refine DetHC.pre (pre := [_]) (s1 := ((S3.set tp (some (.row 42 [(T3.nx 65536).pv]))).set t (some (.tok (L ++ [y6]).length)))) [2] [((S3.set tp (some (.row 42 [(T3.nx 65536).pv]))).set t (some (.tok (L ++ [y6]).length)))] (by kernel_rfl) rfl au ?_
                  refine DetHC.eff [(2, 3)] (((S3.set tp (some (.row 42 [(T3.nx 65536).pv]))).set t (some (.tok (L ++ [y6]).length)))) ((((S3.set tp (some (.row 42 [(T3.nx 65536).pv]))).set t (some (.tok (L ++ [y6]).length))).set (s.nxt + 1) (some (.row 33 [.agg [.int .i64 (16), .int .i64 (a), .int .i64 (y26), .int .i64 (0), .int .i64 (0), .sl .nil [], .sl (.tok t 1) ((L ++ [y6]).map (PV.int .u16)), .int .u16 (0), .int .u16 (0)]])))) [] (by kernel_rfl) rfl au au au ?_
                  refine DetHC.nil ?_
                  refine rl [0, 2, 3, 6] (k := rB (k := ?_))
                  have hwi : IntKind.i64.wrap ((i : Int) + 1) = ((i + 1 : Nat) : Int) := by rw [wrap_i64 (by omega)]; omega
                  have H := aj hwi H
                  refine rg [0, 2, 3, 6] (k := ?_)
                  refine Run.lp ⟨⟨T3.nx 65536, i + 1, (L ++ [y6]), (.tok t 1), rfl, hT3.nx 65536, (by repeat' first | assumption | omega | apply QAt.rw' | apply QAt.tp' | apply QAt.nw | apply QAt.tk), (by simp at hr1 ⊢ <;> omega), (by omega), .inr ⟨t, rfl, htn, by rw [blk_set_ne (by omega), blk_set_self]⟩, (by intro y hy; rcases List.mem_append.1 hy with hy | hy; exact hLo y hy; rw [List.mem_singleton.1 hy]; exact ⟨by omega, by omega⟩)⟩, ?_⟩
                  simp only [ivar, ivar1, go_sem, ↓reduceIte, Nat.reduceEqDiff]
                  omega
                · refine rX (k := rB (k := ?_))
                  have hie : ((L.length : Nat) : Int) = y26 := by simp only [decide_eq_true_eq, decide_eq_false_iff_not] at *; omega
                  rw [← hie] at hQ3
                  refine rp [2, 3] (k := ?_)
                  exact hJb0 _ _ ⟨T3, ⟨16, a, L.length, 0, 0, [], L, 0, 0⟩, .nil, _, rfl, hT3, (req_okT (by simp) hU (show U16 ((L.length : Nat) : Int) from ⟨by omega, by omega⟩) zU zU hLo zU zU (by simp) (by simp <;> omega)), (right16 (by omega) (by omega)), (by repeat' first | assumption | omega | apply QAt.rw' | apply QAt.tp' | apply QAt.nw | apply QAt.tk)⟩
            · refine rs (k := rg [0, 2, 3, 4, 17, 103] (k := rc (ht := fun hc11 => ?_) (hf := fun hc11 => ?_)))
              · have hcab := (T2).val_bound (n := 65536) (by decide)
                obtain ⟨ca, hca⟩ : ∃ y, (T2).val 65536 = y := ⟨_, rfl⟩
                rw [hca] at hcab
                have hcob := (T2.nx 65536).val_bound (n := 65536) (by decide)
                obtain ⟨co, hco⟩ : ∃ y, (T2.nx 65536).val 65536 = y := ⟨_, rfl⟩
                rw [hco] at hcob
                have hwa : IntKind.u16.wrap ca = ca := by rw [u16_wrap]; omega
                have hwo : IntKind.u16.wrap co = co := by rw [u16_wrap]; omega
                have H := aj hca (aj hco (aj hwa (aj hwo H)))
                refine rr (k := ro (pre := [_, _]) (k := ?_))
                refine RunO.callw au au au (by kernel_rfl) ((tape_Next hT2 (n := 65536) hQ.tape).mono ?_)
                rintro r s9 ⟨rfl, hs⟩
                subst s9
                refine ro (pre := [_, _]) (k := ?_)
                refine RunO.callw au au au (by kernel_rfl) ((tape_Next (hT2.nx 65536) (n := 65536) (blk_set_self _ _ _)).mono ?_)
                rintro r s9 ⟨rfl, hs⟩
                subst s9
                refine rh [2, 3] (k := rB (k := ?_))
                have hf5 : f = 22 := by simp only [decide_eq_true_eq, decide_eq_false_iff_not] at *; omega
                subst hf5
                exact hJb0 _ _ ⟨(T2.nx 65536).nx 65536, ⟨22, a, 0, 0, 0, [], [], ca, co⟩, .nil, .nil, rfl, (hT2.nx 65536).nx 65536, (req_okT (by simp) hU zU zU zU zW (show U16 ca from ⟨by omega, by omega⟩) (show U16 co from ⟨by omega, by omega⟩) (by simp) (by simp)), (right22 (by omega)), (by repeat' first | assumption | omega | apply QAt.rw' | apply QAt.tp' | apply QAt.nw | apply QAt.tk)⟩
              · refine rs (k := rg [0, 2, 3, 4, 115] (k := rc (ht := fun hc12 => ?_) (hf := fun hc12 => ?_)))
                · refine rs (k := ?_)
                  have hf5 : f = 23 := by simp only [decide_eq_true_eq, decide_eq_false_iff_not] at *; omega
                  subst hf5
                  have hy20b := (T2).val_bound (n := 20) (by decide)
                  obtain ⟨y20, hy20⟩ : ∃ y, (T2).val 20 = y := ⟨_, rfl⟩
                  rw [hy20] at hy20b
                  have hy40b := (T2.nx 20).val_bound (n := 40) (by decide)
                  obtain ⟨y40, hy40⟩ : ∃ y, (T2.nx 20).val 40 = y := ⟨_, rfl⟩
                  rw [hy40] at hy40b
                  have hm0b := ((T2.nx 20).nx 40).val_bound (n := 20) (by decide)
                  obtain ⟨m0, hm0⟩ : ∃ y, ((T2.nx 20).nx 40).val 20 = y := ⟨_, rfl⟩
                  rw [hm0] at hm0b
                  have H := aj hy20 (aj hy40 (aj hm0 H))
                  refine rr (k := ro (pre := [_, _]) (k := ?_))
                  refine RunO.callw au au au (by kernel_rfl) ((tape_Next hT2 (n := 20) hQ.tape).mono ?_)
                  rintro r s9 ⟨rfl, hs⟩
                  subst s9
                  refine ro (pre := [_]) (k := ?_)
                  refine RunO.callw au au au (by kernel_rfl) ((tape_Next (hT2.nx 20) (n := 40) (blk_set_self _ _ _)).mono ?_)
                  rintro r s9 ⟨rfl, hs⟩
                  subst s9
                  refine rh [0, 2, 3] (k := rs (k := rr (k := ro (pre := [_]) (k := ?_))))
                  refine RunO.callw au au au (by kernel_rfl) ((tape_Next ((hT2.nx 20).nx 40) (n := 20) (by first | exact blk_set_self _ _ _ | (simp (disch := omega) only [blk_set_ne, blk_set_self]))).mono ?_)
                  rintro r s9 ⟨rfl, hs⟩
                  subst s9
                  refine rh [0, 2, 3, 7] (k := rb (k := ?_))
                  refine Run.loop (fun e s' => ∃ (T3 : Tp) (m : Int) (L : List Int) (k : SK), e = [(0, .ptr tp 0 0), (2, .ptr s.nxt 0 0), (3, .ptr (s.nxt + 1) 0 0), (7, .int .i64 m)] ∧ T3.ok ∧ QAt s tp T3 [.int .i64 (23), .int .i64 (a), .int .i64 (y20), .int .i64 (y40), .int .i64 (0), .sl .nil [], .sl k (L.map (PV.int .u16)), .int .u16 (0), .int .u16 (0)] s' ∧ L.length + m = m0 ∧ 0 ≤ m ∧ (k = .nil ∧ L = [] ∨ ∃ t, k = .tok t 1 ∧ s.nxt + 2 ≤ t ∧ s'.blk t = some (.tok L.length)) ∧ OkW L) (fun e s' => ivar1 e 7) ?_ ?_
                  · exact ⟨((T2.nx 20).nx 40).nx 20, m0, [], .nil, rfl, ((hT2.nx 20).nx 40).nx 20, (by repeat' first | assumption | omega | apply QAt.rw' | apply QAt.tp' | apply QAt.nw | apply QAt.tk), by simp, by omega, .inl ⟨rfl, rfl⟩, zW⟩
                  rintro e S3 ⟨T3, m, L, k, rfl, hT3, hQ3, hr1, hr2, hk, hLo⟩
                  have h3r := hQ3.row
                  have h3t := hQ3.tape
                  have h3n := hQ3.nx
                  have hN1 : (s.nxt + 1 = S3.nxt) = False := eq_false (by omega)
                  have hN2 : (tp = S3.nxt) = False := eq_false (by omega)
                  have H := aj h3r (aj h3t (aj hN1 (aj hN2 H)))
                  rcases hk with ⟨rfl, rfl⟩ | ⟨t, rfl, htn, htb⟩
                  · simp only [List.length_nil] at hr1
                    refine rs (k := rs (k := rg [0, 2, 3, 7, 128] (k := rc (ht := fun hc13 => ?_) (hf := fun hc13 => ?_))))
                    · refine rk (k := rs (k := rb (k := ?_)))
                      have hy6b := (T3).val_bound (n := 65536) (by decide)
                      obtain ⟨y6, hy6⟩ : ∃ y, (T3).val 65536 = y := ⟨_, rfl⟩
                      rw [hy6] at hy6b
                      have hw6 : IntKind.u16.wrap y6 = y6 := by rw [u16_wrap]; omega
                      have H := aj hw6 H
                      refine Run.drawH 9 [3, 6, 8] [[false, false, false], [true, false, false], [true, true, false], [true, true, true]] [S3, (S3.set tp (some (.row 42 [(T3.nx 65536).pv]))), ((S3.set tp (some (.row 42 [(T3.nx 65536).pv]))).new (.tok [y6].length)), (((S3.set tp (some (.row 42 [(T3.nx 65536).pv]))).new (.tok [y6].length)).set (s.nxt + 1) (some (.row 33 [.agg [.int .i64 (23), .int .i64 (a), .int .i64 (y20), .int .i64 (y40), .int .i64 (0), .sl .nil [], .sl (.tok S3.nxt 1) ([y6].map (PV.int .u16)), .int .u16 (0), .int .u16 (0)]])))] ((((S3.set tp (some (.row 42 [(T3.nx 65536).pv]))).new (.tok [y6].length)).set (s.nxt + 1) (some (.row 33 [.agg [.int .i64 (23), .int .i64 (a), .int .i64 (y20), .int .i64 (y40), .int .i64 (0), .sl .nil [], .sl (.tok S3.nxt 1) ([y6].map (PV.int .u16)), .int .u16 (0), .int .u16 (0)]])))) Try.mixed (by kernel_rfl) (by kernel_rfl) (by kernel_rfl) (by kernel_rfl) (by kernel_rfl) rfl (by kernel_rfl) rfl ?_
                      refine DetHC.pre (pre := [_, _, _]) (s1 := S3) [0, 1] [S3, (S3.set tp (some (.row 42 [(T3.nx 65536).pv])))] (by kernel_rfl) rfl au ?_
                      refine DetHC.callE (v := .int .i64 y6) [(0, 1)] [(S3, (S3.set tp (some (.row 42 [(T3.nx 65536).pv]))))] (by kernel_rfl) rfl au au au (by kernel_rfl) (by intro q hq; rw [List.mem_singleton.1 hq]; simp only; rw [← hy6]; exact tape_Next hT3 hQ3.tape) ?_
                      refine DetHC.pre (pre := [_, _]) (s1 := (S3.set tp (some (.row 42 [(T3.nx 65536).pv])))) [1] [(S3.set tp (some (.row 42 [(T3.nx 65536).pv])))] (by kernel_rfl) rfl au ?_
                      refine DetHC.app (kx := .nil) (xs := []) (ys := [y6].map (PV.int .u16)) (v := .sl (.tok S3.nxt 1) ([y6].map (PV.int .u16))) [(1, 2)] [((S3.set tp (some (.row 42 [(T3.nx 65536).pv]))), ((S3.set tp (some (.row 42 [(T3.nx 65536).pv]))).new (.tok [y6].length)))] (by kernel_rfl) rfl au au au Try.td22 (by rw [Try.zp24]; rfl) (by first | exact isEls_map (P := Try.prog) (e := 24) (f := (PV.int .u16)) (fun a => ⟨rfl, by rw [Try.cz24]; first | done | rfl⟩) _ | (intro p hp; cases hp)) (isEls_map (P := Try.prog) (e := 24) (f := (PV.int .u16)) (fun a => ⟨rfl, by rw [Try.cz24]; first | done | rfl⟩) _) (by rw [Try.by24]; decide) (by rw [Try.by24]; simp <;> omega) (by intro q hq; rw [List.mem_singleton.1 hq]; exact aAppend_nilL (f := (PV.int .u16)) (ys := [y6]) (by simp) (by rw [Try.cz24])) ?_
                      refine DetHC.pre (pre := [_]) (s1 := ((S3.set tp (some (.row 42 [(T3.nx 65536).pv]))).new (.tok [y6].length))) [2] [((S3.set tp (some (.row 42 [(T3.nx 65536).pv]))).new (.tok [y6].length))] (by kernel_rfl) rfl au ?_
                      refine DetHC.eff [(2, 3)] (((S3.set tp (some (.row 42 [(T3.nx 65536).pv]))).new (.tok [y6].length))) ((((S3.set tp (some (.row 42 [(T3.nx 65536).pv]))).new (.tok [y6].length)).set (s.nxt + 1) (some (.row 33 [.agg [.int .i64 (23), .int .i64 (a), .int .i64 (y20), .int .i64 (y40), .int .i64 (0), .sl .nil [], .sl (.tok S3.nxt 1) ([y6].map (PV.int .u16)), .int .u16 (0), .int .u16 (0)]])))) [] (by kernel_rfl) rfl au au au ?_
                      refine DetHC.nil ?_
                      refine rl [0, 2, 3, 7] (k := rB (k := ?_))
                      have hm1 : 0 < m := by have := of_decide_eq_true hc13; omega
                      have hwi : IntKind.i64.wrap (m - 1) = m - 1 := wrap_i64 (by omega)
                      have H := aj hwi H
                      refine rg [0, 2, 3, 7] (k := ?_)
                      refine Run.lp ⟨⟨T3.nx 65536, m - 1, [y6], (.tok S3.nxt 1), rfl, hT3.nx 65536, (by repeat' first | assumption | omega | apply QAt.rw' | apply QAt.tp' | apply QAt.nw | apply QAt.tk), (by simp at hr1 ⊢ <;> omega), (by omega), .inr ⟨S3.nxt, rfl, hQ3.nx, by simp (disch := first | omega | (simp only [nxt_set, nxt_new] <;> omega)) only [blk_set_ne, blk_new_eq, nxt_set] <;> first | rfl | exact blk_new_eq⟩, (by intro y hy; rw [List.mem_singleton.1 hy]; exact ⟨by omega, by omega⟩)⟩, ?_⟩
                      simp only [ivar, ivar1, go_sem, ↓reduceIte, Nat.reduceEqDiff]
                      omega
                    · refine rX (k := rB (k := rp [2, 3] (k := ?_)))
                      exact hJb0 _ _ ⟨T3, ⟨23, a, y20, y40, 0, [], ([] : List Int), 0, 0⟩, .nil, _, rfl, hT3, (req_okT (by simp) hU (show U16 y20 from ⟨by omega, by omega⟩) (show U16 y40 from ⟨by omega, by omega⟩) zU hLo zU zU (by simp) (by simp <;> omega)), (right23 (by omega) (by omega) (by omega) (by first | omega | (simp at hr1 ⊢ <;> omega))), (by repeat' first | assumption | omega | apply QAt.rw' | apply QAt.tp' | apply QAt.nw | apply QAt.tk)⟩
                  · have hN3 : (s.nxt + 1 = t) = False := eq_false (by omega)
                    have hN4 : (tp = t) = False := eq_false (by omega)
                    have hN5 : (t = tp) = False := eq_false (by omega)
                    have hN6 : (t = s.nxt + 1) = False := eq_false (by omega)
                    have H := aj hN3 (aj hN4 (aj hN5 (aj hN6 H)))
                    refine rs (k := rs (k := rg [0, 2, 3, 7, 128] (k := rc (ht := fun hc13 => ?_) (hf := fun hc13 => ?_))))
                    · refine rk (k := rs (k := rb (k := ?_)))
                      have hy6b := (T3).val_bound (n := 65536) (by decide)
                      obtain ⟨y6, hy6⟩ : ∃ y, (T3).val 65536 = y := ⟨_, rfl⟩
                      rw [hy6] at hy6b
                      have hw6 : IntKind.u16.wrap y6 = y6 := by rw [u16_wrap]; omega
                      have H := aj hw6 H
                      refine Run.drawH 9 [3, 6, 8] [[false, false, false], [true, false, false], [true, true, false], [true, true, true]] [S3, (S3.set tp (some (.row 42 [(T3.nx 65536).pv]))), ((S3.set tp (some (.row 42 [(T3.nx 65536).pv]))).set t (some (.tok (L ++ [y6]).length))), (((S3.set tp (some (.row 42 [(T3.nx 65536).pv]))).set t (some (.tok (L ++ [y6]).length))).set (s.nxt + 1) (some (.row 33 [.agg [.int .i64 (23), .int .i64 (a), .int .i64 (y20), .int .i64 (y40), .int .i64 (0), .sl .nil [], .sl (.tok t 1) ((L ++ [y6]).map (PV.int .u16)), .int .u16 (0), .int .u16 (0)]])))] ((((S3.set tp (some (.row 42 [(T3.nx 65536).pv]))).set t (some (.tok (L ++ [y6]).length))).set (s.nxt + 1) (some (.row 33 [.agg [.int .i64 (23), .int .i64 (a), .int .i64 (y20), .int .i64 (y40), .int .i64 (0), .sl .nil [], .sl (.tok t 1) ((L ++ [y6]).map (PV.int .u16)), .int .u16 (0), .int .u16 (0)]])))) Try.mixed (by kernel_rfl) (by kernel_rfl) (by kernel_rfl) (by kernel_rfl) (by kernel_rfl) rfl (by kernel_rfl) rfl ?_
                      refine DetHC.pre (pre := [_, _, _]) (s1 := S3) [0, 1] [S3, (S3.set tp (some (.row 42 [(T3.nx 65536).pv])))] (by kernel_rfl) rfl au ?_
                      refine DetHC.callE (v := .int .i64 y6) [(0, 1)] [(S3, (S3.set tp (some (.row 42 [(T3.nx 65536).pv]))))] (by kernel_rfl) rfl au au au (by kernel_rfl) (by intro q hq; rw [List.mem_singleton.1 hq]; simp only; rw [← hy6]; exact tape_Next hT3 hQ3.tape) ?_
                      refine DetHC.pre (pre := [_, _]) (s1 := (S3.set tp (some (.row 42 [(T3.nx 65536).pv])))) [1] [(S3.set tp (some (.row 42 [(T3.nx 65536).pv])))] (by kernel_rfl) rfl au ?_
                      refine DetHC.app (kx := (.tok t 1)) (xs := L.map (PV.int .u16)) (ys := [y6].map (PV.int .u16)) (v := .sl (.tok t 1) ((L ++ [y6]).map (PV.int .u16))) [(1, 2)] [((S3.set tp (some (.row 42 [(T3.nx 65536).pv]))), ((S3.set tp (some (.row 42 [(T3.nx 65536).pv]))).set t (some (.tok (L ++ [y6]).length))))] (by kernel_rfl) rfl au au au Try.td22 (by rw [Try.zp24]; rfl) (by first | exact isEls_map (P := Try.prog) (e := 24) (f := (PV.int .u16)) (fun a => ⟨rfl, by rw [Try.cz24]; first | done | rfl⟩) _ | (intro p hp; cases hp)) (isEls_map (P := Try.prog) (e := 24) (f := (PV.int .u16)) (fun a => ⟨rfl, by rw [Try.cz24]; first | done | rfl⟩) _) (by rw [Try.by24]; decide) (by rw [Try.by24]; simp <;> omega) (by intro q hq; rw [List.mem_singleton.1 hq]; exact aAppend_tokL (f := (PV.int .u16)) (xs := L) (ys := [y6]) rfl (by simp) (by rw [blk_set_ne (by omega)]; exact htb) rfl (by rw [Try.cz24])) ?_
                      refine DetHC.pre (pre := [_]) (s1 := ((S3.set tp (some (.row 42 [(T3.nx 65536).pv]))).set t (some (.tok (L ++ [y6]).length)))) [2] [((S3.set tp (some (.row 42 [(T3.nx 65536).pv]))).set t (some (.tok (L ++ [y6]).length)))] (by kernel_rfl) rfl au ?_
                      refine DetHC.eff [(2, 3)] (((S3.set tp (some (.row 42 [(T3.nx 65536).pv]))).set t (some (.tok (L ++ [y6]).length)))) ((((S3.set tp (some (.row 42 [(T3.nx 65536).pv]))).set t (some (.tok (L ++ [y6]).length))).set (s.nxt + 1) (some (.row 33 [.agg [.int .i64 (23), .int .i64 (a), .int .i64 (y20), .int .i64 (y40), .int .i64 (0), .sl .nil [], .sl (.tok t 1) ((L ++ [y6]).map (PV.int .u16)), .int .u16 (0), .int .u16 (0)]])))) [] (by kernel_rfl) rfl au au au ?_
                      refine DetHC.nil ?_
                      refine rl [0, 2, 3, 7] (k := rB (k := ?_))
                      have hm1 : 0 < m := by have := of_decide_eq_true hc13; omega
                      have hwi : IntKind.i64.wrap (m - 1) = m - 1 := wrap_i64 (by omega)
                      have H := aj hwi H
                      refine rg [0, 2, 3, 7] (k := ?_)
                      refine Run.lp ⟨⟨T3.nx 65536, m - 1, (L ++ [y6]), (.tok t 1), rfl, hT3.nx 65536, (by repeat' first | assumption | omega | apply QAt.rw' | apply QAt.tp' | apply QAt.nw | apply QAt.tk), (by simp at hr1 ⊢ <;> omega), (by omega), .inr ⟨t, rfl, htn, by rw [blk_set_ne (by omega), blk_set_self]⟩, (by intro y hy; rcases List.mem_append.1 hy with hy | hy; exact hLo y hy; rw [List.mem_singleton.1 hy]; exact ⟨by omega, by omega⟩)⟩, ?_⟩
                      simp only [ivar, ivar1, go_sem, ↓reduceIte, Nat.reduceEqDiff]
                      omega
                    · refine rX (k := rB (k := rp [2, 3] (k := ?_)))
                      exact hJb0 _ _ ⟨T3, ⟨23, a, y20, y40, 0, [], L, 0, 0⟩, .nil, _, rfl, hT3, (req_okT (by simp) hU (show U16 y20 from ⟨by omega, by omega⟩) (show U16 y40 from ⟨by omega, by omega⟩) zU hLo zU zU (by simp) (by simp <;> omega)), (right23 (by omega) (by omega) (by omega) (by first | omega | (simp at hr1 ⊢ <;> omega))), (by repeat' first | assumption | omega | apply QAt.rw' | apply QAt.tp' | apply QAt.nw | apply QAt.tk)⟩
                · refine rk (k := rB (k := ?_))
                  have hf5 : f = 17 := by simp only [decide_eq_true_eq, decide_eq_false_iff_not] at *; simp only [fnL, List.mem_cons, List.not_mem_nil, or_false] at hfm; omega
                  subst hf5
                  refine rp [2, 3] (k := ?_)
                  exact hJb0 _ _ ⟨T2, ⟨17, 0, 0, 0, 0, [], [], 0, 0⟩, .nil, .nil, rfl, hT2, (req_okT (by simp) zU zU zU zU zW zU zU (by simp) (by simp)), right17, (by repeat' first | assumption | omega | apply QAt.rw' | apply QAt.tp' | apply QAt.nw | apply QAt.tk)⟩
  any_goals
    refine jI 1 ?_
    have hy26b := (T2).val_bound (n := 26) (by decide)
    refine jO 2 ?_; rotate_left
  any_goals
    refine jI 2 ?_
    obtain ⟨y26, hy26⟩ : ∃ y, (T2).val 26 = y := ⟨_, rfl⟩
    refine jO 3 ?_; rotate_left
  any_goals
    refine jI 3 ?_
    rw [hy26] at hy26b
    refine jO 4 ?_; rotate_left
  any_goals
    refine jI 4 ?_
    have H := aj hy26 H
    refine jO 5 ?_; rotate_left
  any_goals
    refine jI 5 ?_
    refine rr (k := ro (pre := [_, _]) (k := ?_))
    refine jO 6 ?_; rotate_left
  any_goals
    refine jI 6 ?_
    refine RunO.callw au au au (by kernel_rfl) ((tape_Next hT2 (n := 26) hQ.tape).mono ?_)
    refine jO 7 ?_; rotate_left
  any_goals
    refine jI 7 ?_
    rintro r s9 ⟨rfl, hs⟩
    refine jO 8 ?_; rotate_left
  any_goals
    refine jI 8 ?_
    subst s9
    refine jO 9 ?_; rotate_left
  any_goals
    refine jI 9 ?_
    refine rh [2, 3] (k := rB (k := ?_))
    refine jO 10 ?_; rotate_left
  any_goals
    refine jI 10 ?_
    have hf4 : 1 ≤ f ∧ f ≤ 4 := by simp only [decide_eq_true_eq, decide_eq_false_iff_not] at *; omega
    refine jO 11 ?_; rotate_left
  any_goals
    refine jI 11 ?_
    exact hJb0 _ _ ⟨T2.nx 26, ⟨f, a, y26, 0, 0, [], [], 0, 0⟩, .nil, .nil, rfl, hT2.nx 26, (req_okT (by simp <;> omega) hU (show U16 y26 from ⟨by omega, by omega⟩) zU zU zW zU zU (by simp) (by simp)), (order_right (by omega) (by omega) (by omega)), (by repeat' first | assumption | omega | apply QAt.rw' | apply QAt.tp' | apply QAt.nw | apply QAt.tk)⟩
end Go.Proofs
namespace Go.Proofs
open Go.PM
set_option maxHeartbeats 2000000
theorem has127 {q : Req} (hr : rightF q = 0) : 1 ≤ q.fn ∧ q.fn ≤ 127 := by
  have := has_cases (right0 hr).has
  omega
theorem body_fits {D : Dev} (hD : D.ok) {q : Req} (hq : q.ok) (hr : rightF q = 0) (hc : countF q = true) : Fits (bodyF D q).1 q := by
  have hR := right0 hr
  have wa := u16_word hR.wa
  have wsb := u16_word hR.ws
  have wc := u16_word hR.wc
  have hcc := (of_decide_eq_true hc).2
  have h127 := has127 hr
  have no : Fits (whereF q) q := fits_refuse h127 (by decide)
  have h3 := hD.c1; have h4 := hD.v0; have h5 := hD.v1
  have hv0 : U16 ((q.vals[0]?).getD 0) := head_ok hq.vals
  unfold bodyF
  by_cases e1 : q.fn = 1
  · rw [if_pos (.inl e1)] at hcc
    rw [if_pos e1]
    split
    · rename_i ht
      have := cutF_size D.c0 ht
      exact fits_bits (.inl e1) this (by omega)
    · exact no
  rw [if_neg e1]
  by_cases e2 : q.fn = 2
  · rw [if_pos (.inr e2)] at hcc
    rw [if_pos e2]
    split
    · rename_i ht
      have := cutF_size D.c1 (by rw [h3]; exact ht)
      exact fits_bits (.inr e2) this (by omega)
    · exact no
  rw [if_neg e2]
  rw [if_neg (by omega)] at hcc
  by_cases e3 : q.fn = 3
  · rw [if_pos (.inl e3)] at hcc
    rw [if_pos e3]
    split
    · rename_i ht
      have := cutF_size D.v1 (by rw [h5]; exact ht)
      exact fits_vals (.inl e3) (cutF_ok hD.w1 _ _) this (by omega)
    · exact no
  rw [if_neg e3]
  by_cases e4 : q.fn = 4
  · rw [if_pos (.inr e4)] at hcc
    rw [if_pos e4]
    split
    · rename_i ht
      have := cutF_size D.v0 (by rw [h4]; exact ht)
      exact fits_vals (.inr (.inl e4)) (cutF_ok hD.w0 _ _) this (by omega)
    · exact no
  rw [if_neg e4]
  rw [if_neg (by omega)] at hcc
  by_cases e5 : q.fn = 5 ∨ q.fn = 15
  · rw [if_pos e5]
    split
    · by_cases e15 : q.fn = 15
      · rw [if_pos e15]; exact fits_15 (.inl e15) wa wc
      · rw [if_neg e15]; exact fits_5 (by omega) wa _
    · exact no
  rw [if_neg e5]
  by_cases e6 : q.fn = 6 ∨ q.fn = 16
  · rw [if_pos e6]
    split
    · by_cases e15 : q.fn = 16
      · rw [if_pos e15]; exact fits_15 (.inr e15) wa wc
      · rw [if_neg e15]; exact fits_6 (by omega) wa hv0
    · exact no
  rw [if_neg e6]
  by_cases e8 : q.fn = 8
  · rw [if_pos e8]
    unfold diagF
    dsimp only
    split
    · exact fits_8 e8 wsb hv0
    · split
      · exact fits_8 e8 wsb hv0
      · split
        · split
          · exact fits_refuse h127 (by decide)
          · exact fits_8 e8 wsb (u16_wrap_ok _)
        · exact fits_refuse h127 (by decide)
  rw [if_neg e8]
  by_cases e17 : q.fn = 17
  · rw [if_pos e17]; exact fits_17 e17 _ _
  rw [if_neg e17]
  by_cases e22 : q.fn = 22
  · rw [if_pos e22]
    split
    · exact fits_22 e22 wa hq.and_ hq.or_
    · exact no
  rw [if_neg e22]
  have e23 : q.fn = 23 := by have := has_cases hR.has; omega
  rw [if_neg (by omega), if_neg (by omega), if_pos e23] at hcc
  split
  · rename_i ht
    have hl := there_len ht.2
    have := cutF_size (overF D.v1 q.wat.toNat q.vals) (a := q.at_) (m := q.count) (by rw [overF_len (by omega), h5]; exact ht.1)
    exact fits_vals (.inr (.inr e23)) (cutF_ok (overF_ok hD.w1 hq.vals _) _ _) this (by omega)
  · exact no
theorem do_fits {D : Dev} (hD : D.ok) {q : Req} (hq : q.ok) (hr : rightF q = 0) : Fits (doF D q).1 q := by
  have h127 := has127 hr
  cases hc : countF q with
  | false =>
    have hh : ¬ hasF q.fn = false := by rw [(right0 hr).has]; decide
    unfold doF
    dsimp only
    rw [if_neg hh, if_pos (.inr hc)]
    exact fits_refuse h127 (by decide)
  | true =>
    rw [doF_base hr hc]
    have hb := body_fits (inc_ok hD) hq hr hc
    split
    · rename_i hne
      have hg := goodC hb.good hne
      exact fits_refuse h127 ⟨hg.1, hg.2.1⟩
    · exact hb
theorem pdu_write {D : Dev} {q : Req} (hq : q.ok) (hr : rightF q = 0) : pduF D (writeF q) = (repF (doF D q).1, (doF D q).2) := by
  unfold pduF
  rw [read_write hq hr]
  rfl
theorem pdu_take {D : Dev} (hD : D.ok) {q : Req} (hq : q.ok) (hr : rightF q = 0) : takeF (pduF D (writeF q)).1 q = ((doF D q).1, 0) ∧ (doF D q).1.fn = q.fn := by
  rw [pdu_write hq hr]
  have hf := do_fits hD hq hr
  exact ⟨hf.take (has127 hr), hf.fn⟩
theorem and127 {a : Int} (h : U8 a) : ibits .and .u8 a 127 = a % 128 := by
  obtain ⟨n, rfl⟩ : ∃ n : Nat, a = n := ⟨a.toNat, (Int.toNat_of_nonneg h.1).symm⟩
  have hn : n < 256 := by unfold U8 at h; omega
  have : ∀ m : Fin 256, ibits .and .u8 ((m.val : Nat) : Int) 127 = ((m.val : Nat) : Int) % 128 := by decide +kernel
  exact this ⟨n, hn⟩
theorem lay_two {R : Rep} (h : goodF R = 0) : 2 ≤ (layF R).length := by
  unfold layF
  split
  · exact Nat.le_refl _
  · repeat' split
    all_goals simp only [List.length_cons, List.length_append, show ∀ n, (num2 n).length = 2 from fun _ => rfl]; omega
theorem fit_head {R : Rep} {q : Req} (h : Fits R q) (hq : 1 ≤ q.fn ∧ q.fn ≤ 127) : ∃ x l, repF R = x :: l ∧ 1 ≤ l.length ∧ x % 128 = q.fn := by
  unfold repF
  rw [if_pos h.good]
  have h2 := lay_two h.good
  have h3 := lay_head (R := R)
  have h4 := h.fn
  cases hl : layF R with
  | nil => rw [hl] at h2; simp at h2
  | cons x l =>
    rw [hl] at h2 h3
    simp only [List.length_cons] at h2
    refine ⟨x, l, rfl, by omega, ?_⟩
    have h3 : x = if ¬ R.code = 0 then R.fn + 128 else R.fn := h3
    rw [h3]
    split <;> omega
theorem pdu_head {D : Dev} (hD : D.ok) {b : List Int} (hb : OkB b) (hl : b.length ≤ 140737488351232) {y : Int} {ys : List Int} (he : b = y :: ys) : ∃ x l, (pduF D b).1 = x :: l ∧ 1 ≤ l.length ∧ x % 128 = y % 128 := by
  have hne : ¬ b = [] := by rw [he]; exact List.cons_ne_nil _ _
  have h0 : (b[0]?).getD 0 = y := by rw [he]; rfl
  have hy := hb y (by rw [he]; simp)
  have ref : ∀ c : Int, 1 ≤ c ∧ c ≤ 255 → ∃ x l, repF (refuseP (y % 128) c) = x :: l ∧ 1 ≤ l.length ∧ x % 128 = y % 128 := by
    intro c hc
    have e : refuseP (y % 128) c = ⟨y % 128, c, 0, 0, 0, [], [], 0, 0, []⟩ := by unfold refuseP; rw [show y % 128 % 128 = y % 128 by omega, show c % 256 = c by omega]
    have h0 : ¬ c = 0 := by omega
    have hg : goodF ⟨y % 128, c, 0, 0, 0, [], [], 0, 0, []⟩ = 0 := by
      unfold goodF
      rw [if_pos h0, if_pos ⟨hc.1, hc.2, by show 0 ≤ y % 128; omega, by show y % 128 ≤ 127; omega, rfl⟩]
    rw [e]
    unfold repF
    rw [if_pos hg]
    unfold layF
    rw [if_pos h0]
    exact ⟨_, _, rfl, by simp, by show (y % 128 + 128) % 128 = _; omega⟩
  unfold pduF
  unfold readF
  rw [if_neg hne, h0]
  by_cases h1 : hasF y = false
  · rw [if_pos h1]; exact ref 1 (by decide)
  · rw [if_neg h1]
    by_cases h2 : rightF (guessF b) = 0 ∧ writeF (guessF b) = b
    · rw [if_pos h2]
      have hf := do_fits hD (guessF_ok hb hl) h2.1
      have hfn : (guessF b).fn = y := by
        have k : ((writeF (guessF b))[0]?).getD 0 = (guessF b).fn := rfl
        rw [h2.2, h0] at k
        exact k.symm
      have h127 := has127 h2.1
      obtain ⟨x, l, k1, k2, k3⟩ := fit_head hf h127
      exact ⟨x, l, k1, k2, by omega⟩
    · rw [if_neg h2]; exact ref 3 (by decide)
end Go.Proofs

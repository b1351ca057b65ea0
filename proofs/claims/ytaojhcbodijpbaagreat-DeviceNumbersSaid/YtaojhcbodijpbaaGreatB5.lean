import Derived.Test.YtaojhcbodijpbaaGreatB4
import Derived.Test.YtaojhcbodijpbaaGreatB1
import Derived.Test.YtaojhcbodijpbaaGreatB2
set_option linter.unusedVariables false
set_option linter.unusedSimpArgs false
namespace Go.Proofs
open Go.PM
set_option maxHeartbeats 2000000
theorem store_NewBad {n : Int} (h : n < 1 ∨ 65536 < n) {s : St} : ACalls Tryz.prog 24 [.int .i64 n] s (fun r s' => r = .nilp ∧ s' = s) := by
 refine go Tryz.func24 (k := fun hwf H => ?_)
 refine rs (k := rg [0] (k := rs (k := rs (k := rg [0, 10] (k := rc (ht := fun hc0 => ?_) (hf := fun hc0 => ?_))))))
 · exact Y275
 · exact Y155
theorem device_NewBad {n : Int} (h : n < 1 ∨ 65536 < n) {s : St} : ACalls Tryz.prog 9 [.int .i64 n] s (fun r s' => r = .nilp ∧ s' = s) := by
 refine go Tryz.func9 (k := fun hwf H => ?_)
 refine rs (k := rg [0] (k := rs (k := rr (k := ro (pre := [_]) (k := rC (h := store_NewBad h) (k := rh [3] (k := rs (k := rs (k := rg [3, 7] (k := rc (ht := fun hc0 => ?_) (hf := fun hc0 => ?_)))))))))))
 · exact Y276
 · cases hc0
theorem Y108 {p : Prop} (h : p := by
 refine rs (k := rg [4] (k := rR (k := ?_)))
 refine Ret.pureK (r := .sl .nil []) au Y80 hwf (fun _ _ => rfl) ⟨rfl, rfl⟩) : p := h
theorem store_fn0 {st : Nat} {s : St} : ACalls Tryz.prog 53 [.ptr st 0 0, .int .i64 0] s (fun r s' => r = .sl .nil [] ∧ s' = s) := by
 refine go Tryz.func53 (k := fun hwf H => ?_)
 refine rs (k := rg [0, 1] (k := rs (k := rs (k := rg [0, 1, 10] (k := rc (ht := fun hc0 => ?_) (hf := fun hc0 => ?_))))))
 · exact Y108
 · cases hc0
theorem Y109 {p : Prop} (h : p := by
 refine rs (k := rg [8, 9] (k := rR (k := ?_)))
 exact Ret.pure (r' := .tuple [.sl .unk [], .bool false]) Y150 rfl Y162 hwf (fun _ _ => rfl) ⟨rfl, rfl⟩) : p := h
theorem store_gn0 {st : Nat} {a m : Int} {s : St} : ACalls Tryz.prog 20 [.ptr st 0 0, .int .i64 0, .int .i64 a, .int .i64 m] s (fun r s' => r = .tuple [.sl .unk [], .bool false] ∧ s' = s) := by
 refine go Tryz.func20 (k := fun hwf H => ?_)
 refine rs (k := rg [0, 1, 2, 3] (k := rs (k := rr (k := ro (pre := [_, _]) (k := rC (h := store_fn0) (k := rh [0, 2, 3, 10] (k := rs (k := rs (k := rr (k := ro (pre := [_, _, _]) (k := rg0 (k := rg0 (k := rg0 (k := rg0 (k := rg0 (k := rh [2, 3, 10, 22] (k := rc (ht := fun hc0 => ?_) (hf := fun hc0 => ?_))))))))))))))))))
 · exact Y109
 · cases hc0
theorem store_fn1 {st : Nat} {s : St} : ACalls Tryz.prog 53 [.ptr st 0 0, .int .i64 1] s (fun r s' => r = .sl .nil [] ∧ s' = s) := by
 refine go Tryz.func53 (k := fun hwf H => ?_)
 refine rs (k := rg [0, 1] (k := rs (k := rs (k := rg [0, 1, 10] (k := rc (ht := fun hc0 => ?_) (hf := fun hc0 => ?_))))))
 · exact Y108
 · cases hc0
theorem store_gn1 {st : Nat} {a m : Int} {s : St} : ACalls Tryz.prog 20 [.ptr st 0 0, .int .i64 1, .int .i64 a, .int .i64 m] s (fun r s' => r = .tuple [.sl .unk [], .bool false] ∧ s' = s) := by
 refine go Tryz.func20 (k := fun hwf H => ?_)
 refine rs (k := rg [0, 1, 2, 3] (k := rs (k := rr (k := ro (pre := [_, _]) (k := rC (h := store_fn1) (k := rh [0, 2, 3, 10] (k := rs (k := rs (k := rr (k := ro (pre := [_, _, _]) (k := rg0 (k := rg0 (k := rg0 (k := rg0 (k := rg0 (k := rh [2, 3, 10, 22] (k := rc (ht := fun hc0 => ?_) (hf := fun hc0 => ?_))))))))))))))))))
 · exact Y109
 · cases hc0
theorem store_fn2 {st : Nat} {s : St} : ACalls Tryz.prog 91 [.ptr st 0 0, .int .i64 2] s (fun r s' => r = .sl .nil [] ∧ s' = s) := by
 refine go Tryz.func91 (k := fun hwf H => ?_)
 refine rs (k := rg [0, 1] (k := rs (k := rs (k := rg [0, 1, 10] (k := rc (ht := fun hc0 => ?_) (hf := fun hc0 => ?_))))))
 · exact Y108
 · cases hc0
theorem Y110 {p : Prop} (h : p := by
 refine rs (k := rg [8, 9] (k := rR (k := ?_)))
 exact Ret.pure (r' := .tuple [.sl .unk [], .bool false]) Y149 rfl Y162 hwf (fun _ _ => rfl) ⟨rfl, rfl⟩) : p := h
theorem store_gn2 {st : Nat} {a m : Int} {s : St} : ACalls Tryz.prog 49 [.ptr st 0 0, .int .i64 2, .int .i64 a, .int .i64 m] s (fun r s' => r = .tuple [.sl .unk [], .bool false] ∧ s' = s) := by
 refine go Tryz.func49 (k := fun hwf H => ?_)
 refine rs (k := rg [0, 1, 2, 3] (k := rs (k := rr (k := ro (pre := [_, _]) (k := rC (h := store_fn2) (k := rh [0, 2, 3, 10] (k := rs (k := rs (k := rr (k := ro (pre := [_, _, _]) (k := rg0 (k := rg0 (k := rg0 (k := rg0 (k := rg0 (k := rh [2, 3, 10, 22] (k := rc (ht := fun hc0 => ?_) (hf := fun hc0 => ?_))))))))))))))))))
 · exact Y110
 · cases hc0
theorem store_fn3 {st : Nat} {s : St} : ACalls Tryz.prog 91 [.ptr st 0 0, .int .i64 3] s (fun r s' => r = .sl .nil [] ∧ s' = s) := by
 refine go Tryz.func91 (k := fun hwf H => ?_)
 refine rs (k := rg [0, 1] (k := rs (k := rs (k := rg [0, 1, 10] (k := rc (ht := fun hc0 => ?_) (hf := fun hc0 => ?_))))))
 · exact Y108
 · cases hc0
theorem store_gn3 {st : Nat} {a m : Int} {s : St} : ACalls Tryz.prog 49 [.ptr st 0 0, .int .i64 3, .int .i64 a, .int .i64 m] s (fun r s' => r = .tuple [.sl .unk [], .bool false] ∧ s' = s) := by
 refine go Tryz.func49 (k := fun hwf H => ?_)
 refine rs (k := rg [0, 1, 2, 3] (k := rs (k := rr (k := ro (pre := [_, _]) (k := rC (h := store_fn3) (k := rh [0, 2, 3, 10] (k := rs (k := rs (k := rr (k := ro (pre := [_, _, _]) (k := rg0 (k := rg0 (k := rg0 (k := rg0 (k := rg0 (k := rh [2, 3, 10, 22] (k := rc (ht := fun hc0 => ?_) (hf := fun hc0 => ?_))))))))))))))))))
 · exact Y110
 · cases hc0
attribute [local go_sem] weaks_bools
set_option maxRecDepth 100000 in
theorem law9_same {b c : Nat} {D : Dev} (hD : D.ok) {s : St} (hA : DevAt b D s) (hR : RefAt c D s) : ACalls Tryz.prog 17 [.ptr (b + 5) 0 0, .ptr (c + 5) 0 0] s (fun r s' => r = .bool true ∧ s' = s) := by
 refine go Tryz.func17 (k := fun hwf H => ?_)
 have hdv := hA.dv
 unfold devRow at hdv
 have hrv := hR.dv
 unfold refRow at hrv
 have hrs := hR.st
 unfold rstRow at hrs
 have hd2 : D.c0.length ≤ 65536 := hD.h2
 have hd3 := hD.c1
 have hd4 := hD.v0
 have hd5 := hD.v1
 have h1 : (1 : Int) ≤ (D.c0.length : Int) := by have := hD.h1; omega
 have nlen : ∀ {α : Type} (l : List α), l.length = D.c0.length → (cutF l 0 (D.c0.length : Int)).length < 140737488355328 := fun l hl => by have := cutF_len l 0 (D.c0.length : Int); omega
 have H := aj hdv (aj hrv (aj hrs H))
 refine rs (k := rg [0, 1] (k := rs (k := rr (k := ro (pre := [_]) (k := rC (h := device_Counts hA) (k := rh [0, 1, 5, 6] (k := rs (k := rs (k := rr (k := ro (pre := [_, _, _, _, _, _, _, _, _, _, _, _, _, _, _, _]) (k := rG (h := fun hb => device_Store hA) (k := rh [0, 1, 39] (k := rc (ht := fun hc0 => ?_) (hf := fun hc0 => ?_))))))))))))))
 · cases hc0
 · refine rk (k := rs (k := rs (k := rg [0, 1, 7] (k := rb (k := ?_)))))
   refine Run.loop (fun e s' => s' = s ∧ ∃ i : Nat, i ≤ 4 ∧ e = [(0, .ptr (b + 5) 0 0), (1, .ptr (c + 5) 0 0), (7, .int .i64 (i : Int))]) (fun e s' => 4 - ivar e 7) ?_ ?_
   · exact ⟨rfl, 0, Y15, rfl⟩
   rintro e s' ⟨hs, i, hi, rfl⟩
   subst s'
   obtain rfl | rfl | rfl | rfl | rfl : i = 0 ∨ i = 1 ∨ i = 2 ∨ i = 3 ∨ i = 4 := Y14
   · refine rs (k := rs (k := rg [0, 1, 7, 41] (k := rc (ht := fun hc1 => ?_) (hf := fun hc1 => ?_))))
     · refine rk (k := rs (k := rb (k := rs (k := ?_))))
       refine Run.drawC [] [0, 1, 7, 8] Tryz.mixed Y18 ?_
       refine DetC.pre (pre := [_]) au ?_
       refine DetC.call au au au Y18 (device_Store hA) ?_
       refine DetC.pre (pre := [_, _, _, _, _, _, _, _]) au ?_
       refine DetC.call au au au Y18 (store_get0 hA.st hA.c0 rfl hd2 zI h1) ?_
       refine DetC.all au ?_
       refine re (k := rs (k := ?_))
       refine Run.drawC [] [0, 1, 7, 8, 10] Tryz.mixed Y18 ?_
       refine DetC.pre (pre := [_, _, _, _, _, _, _, _, _, _, _, _]) au ?_
       refine DetC.call au au au Y18 (ref8_get0 hR.st hR.c0 rfl hd2 h1) ?_
       refine DetC.all au ?_
       refine re (k := rs (k := ?_))
       refine Run.drawC [] [0, 1, 7, 8, 10, 12] Tryz.mixed Y18 ?_
       refine DetC.pre (pre := [_]) au ?_
       refine DetC.call au au au Y18 (device_Store hA) ?_
       refine DetC.pre (pre := [_, _, _, _, _, _, _, _]) au ?_
       refine DetC.call au au au Y18 (store_gn0) ?_
       refine DetC.all au ?_
       refine re (k := rs (k := ?_))
       refine Run.drawC [] [0, 1, 7, 8, 10, 12, 14] Tryz.mixed Y18 ?_
       refine DetC.pre (pre := [_, _, _, _, _, _, _, _, _, _, _, _]) au ?_
       refine DetC.call au au au Y18 (ref8_no0) ?_
       refine DetC.all au ?_
       refine re (k := rs (k := rr (k := ro (pre := [_, _]) (k := rC (h := book_sameb (nlen _ rfl)) (k := ro (pre := [_, _, _, _]) (k := rG (h := fun hb => book_same16 (xs := []) (ys := []) Y15) (k := rh [0, 1, 7, 113] (k := rc (ht := fun hc2 => ?_) (hf := fun hc2 => ?_)))))))))
       · cases hc2
       · refine rk (k := rB (k := rg [0, 1, 7] (k := ?_)))
         refine Run.lp ⟨⟨rfl, 1, Y15, by rfl⟩, ?_⟩
         simp only [ivar, go_sem, ↓reduceIte, Nat.reduceEqDiff]
         decide
     · cases hc1
   · refine rs (k := rs (k := rg [0, 1, 7, 41] (k := rc (ht := fun hc1 => ?_) (hf := fun hc1 => ?_))))
     · refine rk (k := rs (k := rb (k := rs (k := ?_))))
       refine Run.drawC [] [0, 1, 7, 8] Tryz.mixed Y18 ?_
       refine DetC.pre (pre := [_]) au ?_
       refine DetC.call au au au Y18 (device_Store hA) ?_
       refine DetC.pre (pre := [_, _, _, _, _, _, _, _]) au ?_
       refine DetC.call au au au Y18 (store_get1 hA.st hA.c1 hd3 hd2 zI h1) ?_
       refine DetC.all au ?_
       refine re (k := rs (k := ?_))
       refine Run.drawC [] [0, 1, 7, 8, 10] Tryz.mixed Y18 ?_
       refine DetC.pre (pre := [_, _, _, _, _, _, _, _, _, _, _, _]) au ?_
       refine DetC.call au au au Y18 (ref8_get1 hR.st hR.c1 hd3 hd2 h1) ?_
       refine DetC.all au ?_
       refine re (k := rs (k := ?_))
       refine Run.drawC [] [0, 1, 7, 8, 10, 12] Tryz.mixed Y18 ?_
       refine DetC.pre (pre := [_]) au ?_
       refine DetC.call au au au Y18 (device_Store hA) ?_
       refine DetC.pre (pre := [_, _, _, _, _, _, _, _]) au ?_
       refine DetC.call au au au Y18 (store_gn1) ?_
       refine DetC.all au ?_
       refine re (k := rs (k := ?_))
       refine Run.drawC [] [0, 1, 7, 8, 10, 12, 14] Tryz.mixed Y18 ?_
       refine DetC.pre (pre := [_, _, _, _, _, _, _, _, _, _, _, _]) au ?_
       refine DetC.call au au au Y18 (ref8_no1) ?_
       refine DetC.all au ?_
       refine re (k := rs (k := rr (k := ro (pre := [_, _]) (k := rC (h := book_sameb (nlen _ hd3)) (k := ro (pre := [_, _, _, _]) (k := rG (h := fun hb => book_same16 (xs := []) (ys := []) Y15) (k := rh [0, 1, 7, 113] (k := rc (ht := fun hc2 => ?_) (hf := fun hc2 => ?_)))))))))
       · cases hc2
       · refine rk (k := rB (k := rg [0, 1, 7] (k := ?_)))
         refine Run.lp ⟨⟨rfl, 2, Y15, by rfl⟩, ?_⟩
         simp only [ivar, go_sem, ↓reduceIte, Nat.reduceEqDiff]
         decide
     · cases hc1
   · refine rs (k := rs (k := rg [0, 1, 7, 41] (k := rc (ht := fun hc1 => ?_) (hf := fun hc1 => ?_))))
     · refine rk (k := rs (k := rb (k := rs (k := ?_))))
       refine Run.drawC [] [0, 1, 7, 8] Tryz.mixed Y18 ?_
       refine DetC.pre (pre := [_]) au ?_
       refine DetC.call au au au Y18 (device_Store hA) ?_
       refine DetC.pre (pre := [_, _, _, _, _, _, _, _]) au ?_
       refine DetC.call au au au Y18 (store_gn2) ?_
       refine DetC.all au ?_
       refine re (k := rs (k := ?_))
       refine Run.drawC [] [0, 1, 7, 8, 10] Tryz.mixed Y18 ?_
       refine DetC.pre (pre := [_, _, _, _, _, _, _, _, _, _, _, _]) au ?_
       refine DetC.call au au au Y18 (ref8_no2) ?_
       refine DetC.all au ?_
       refine re (k := rs (k := ?_))
       refine Run.drawC [] [0, 1, 7, 8, 10, 12] Tryz.mixed Y18 ?_
       refine DetC.pre (pre := [_]) au ?_
       refine DetC.call au au au Y18 (device_Store hA) ?_
       refine DetC.pre (pre := [_, _, _, _, _, _, _, _]) au ?_
       refine DetC.call au au au Y18 (store_get2 hA.st hA.v0 hd4 hd2 zI h1) ?_
       refine DetC.all au ?_
       refine re (k := rs (k := ?_))
       refine Run.drawC [] [0, 1, 7, 8, 10, 12, 14] Tryz.mixed Y18 ?_
       refine DetC.pre (pre := [_, _, _, _, _, _, _, _, _, _, _, _]) au ?_
       refine DetC.call au au au Y18 (ref8_get2 hR.st hR.v0 hd4 hd2 h1) ?_
       refine DetC.all au ?_
       refine re (k := rs (k := rr (k := ro (pre := [_, _]) (k := rC (h := book_sameb (xs := []) (ys := []) Y15) (k := ro (pre := [_, _, _, _]) (k := rG (h := fun hb => book_same16 (nlen _ hd4)) (k := rh [0, 1, 7, 113] (k := rc (ht := fun hc2 => ?_) (hf := fun hc2 => ?_)))))))))
       · cases hc2
       · refine rk (k := rB (k := rg [0, 1, 7] (k := ?_)))
         refine Run.lp ⟨⟨rfl, 3, Y15, by rfl⟩, ?_⟩
         simp only [ivar, go_sem, ↓reduceIte, Nat.reduceEqDiff]
         decide
     · cases hc1
   · refine rs (k := rs (k := rg [0, 1, 7, 41] (k := rc (ht := fun hc1 => ?_) (hf := fun hc1 => ?_))))
     · refine rk (k := rs (k := rb (k := rs (k := ?_))))
       refine Run.drawC [] [0, 1, 7, 8] Tryz.mixed Y18 ?_
       refine DetC.pre (pre := [_]) au ?_
       refine DetC.call au au au Y18 (device_Store hA) ?_
       refine DetC.pre (pre := [_, _, _, _, _, _, _, _]) au ?_
       refine DetC.call au au au Y18 (store_gn3) ?_
       refine DetC.all au ?_
       refine re (k := rs (k := ?_))
       refine Run.drawC [] [0, 1, 7, 8, 10] Tryz.mixed Y18 ?_
       refine DetC.pre (pre := [_, _, _, _, _, _, _, _, _, _, _, _]) au ?_
       refine DetC.call au au au Y18 (ref8_no3) ?_
       refine DetC.all au ?_
       refine re (k := rs (k := ?_))
       refine Run.drawC [] [0, 1, 7, 8, 10, 12] Tryz.mixed Y18 ?_
       refine DetC.pre (pre := [_]) au ?_
       refine DetC.call au au au Y18 (device_Store hA) ?_
       refine DetC.pre (pre := [_, _, _, _, _, _, _, _]) au ?_
       refine DetC.call au au au Y18 (store_get3 hA.st hA.v1 hd5 hd2 zI h1) ?_
       refine DetC.all au ?_
       refine re (k := rs (k := ?_))
       refine Run.drawC [] [0, 1, 7, 8, 10, 12, 14] Tryz.mixed Y18 ?_
       refine DetC.pre (pre := [_, _, _, _, _, _, _, _, _, _, _, _]) au ?_
       refine DetC.call au au au Y18 (ref8_get3 hR.st hR.v1 hd5 hd2 h1) ?_
       refine DetC.all au ?_
       refine re (k := rs (k := rr (k := ro (pre := [_, _]) (k := rC (h := book_sameb (xs := []) (ys := []) Y15) (k := ro (pre := [_, _, _, _]) (k := rG (h := fun hb => book_same16 (nlen _ hd5)) (k := rh [0, 1, 7, 113] (k := rc (ht := fun hc2 => ?_) (hf := fun hc2 => ?_)))))))))
       · cases hc2
       · refine rk (k := rB (k := rg [0, 1, 7] (k := ?_)))
         refine Run.lp ⟨⟨rfl, 4, Y15, by rfl⟩, ?_⟩
         simp only [ivar, go_sem, ↓reduceIte, Nat.reduceEqDiff]
         decide
     · cases hc1
   · refine rs (k := rs (k := rg [0, 1, 7, 41] (k := rc (ht := fun hc1 => ?_) (hf := fun hc1 => ?_))))
     · cases hc1
     · refine rX (k := rs (k := rg [4] (k := rR (k := rP (by simp only [Tryz.f17, go_sem]; rfl) hwf ⟨?_, rfl⟩))))
       simp [PV.weak, go_sem]
end Go.Proofs
namespace Go.Proofs
open Go.PM
set_option maxHeartbeats 2000000
theorem law9_tape {k : Int} {s : St} : ACalls Tryz.prog 7 [.int .i64 k] s (fun r s' => ∃ l : List Int, r = .sl .unk (l.map (PV.int .i64)) ∧ l.length ≤ 900 ∧ s' = s) := by
 refine go Tryz.func7 (k := fun hwf H => ?_)
 refine rs (k := rg [0] (k := rs (k := rg [0, 3] (k := rs (k := rs (k := rg [0, 3, 4] (k := rb (k := ?_))))))))
 refine Run.loop (fun e s' => Fr s s' ∧ ∃ (i : Nat) (l : List Int) (kk : SK), e = [(0, .int .i64 k), (3, .sl kk (l.map (PV.int .i64))), (4, .int .i64 (i : Int))] ∧ l.length = i ∧ i ≤ 900 ∧ Grows s' kk l.length (Tryz.prog.cellsOf 3) ∧ (∀ t z, kk = .tok t z → s.nxt ≤ t ∧ t < s'.nxt)) (fun e s' => 900 - ivar e 4) ?_ ?_
 · exact ⟨Fr.refl hwf, 0, [], .nil, rfl, rfl, Y14, .inl ⟨rfl, rfl⟩, fun t z e => Y69⟩
 rintro e s1 ⟨F1, i, l, kk, rfl, hl, hi, hgr, htk⟩
 refine rs (k := rs (k := rg [0, 3, 4, 6] (k := rc (ht := fun hc0 => ?_) (hf := fun hc0 => ?_))))
 · refine rk (k := rs (k := rb (k := ?_)))
   have hil : (i : Int) < 900 := of_decide_eq_true hc0
   have hw : IntKind.i64.wrap ((i : Int) + 1) = ((i + 1 : Nat) : Int) := Y20
   have H := aj hw H
   refine rr (k := ro (pre := [_, _, _, _, _, _, _, _, _, _, _, _, _]) (k := rO (k := ?_)))
   refine RunO.grow au au au Tryz.td25 (by rw [Tryz.zp3]; rfl) (isEls_map (fun a => ⟨rfl, by rw [Tryz.cz3]; rfl⟩) _) (isEls_map (f := PV.int .i64) (fun a => ⟨rfl, by rw [Tryz.cz3]; rfl⟩) [_]) (by rw [Tryz.by3]; decide) (by rw [Tryz.by3]; simp; omega) (by rw [List.length_map]; exact hgr) Y70 ?_
   intro k' s2 hgr' htm
   refine rh [0, 3, 4] (k := rB (k := rg [0, 3, 4] (k := ?_)))
   rw [List.length_map] at hgr'
   refine Run.lp ⟨⟨F1.tm htm (fun t z e => (htk t z e).1), i + 1, l ++ [_], k', by rw [List.map_append]; rfl, by rw [List.length_append, hl]; rfl, Y14, by rw [List.length_append]; exact hgr', fun t z e => ?_⟩, ?_⟩
   · exact Y78
   · exact Y79
 · refine rX (k := rs (k := rg [2] (k := rR (k := ?_))))
   refine Ret.pure (r' := .sl .unk (l.map (PV.int .i64))) (by simp only [Tryz.f7, go_sem, ↓reduceIte] <;> rfl) (by rw [PV.weak, weaks_map_id (PV.int .i64) (fun _ => rfl)]) (by simp only [PV.blw]; exact ⟨fun t z e => Y69, blws_map (PV.int .i64) _ (fun a => Y308) _⟩) hwf F1.blk ⟨l, rfl, Y14, rfl⟩
theorem law9_requests {l : List Int} (hl : l.length * 8 ≤ 140737488351232) {n : Nat} (hn : n ≤ 100) {s : St} : ACalls Tryz.prog 6 [.sl .unk (l.map (PV.int .i64)), .int .i64 (n : Int)] s (fun r s' => ∃ qs : List Req, r = .sl .unk (qs.map Req.pv) ∧ qs.length ≤ n ∧ (∀ q ∈ qs, q.ok) ∧ s' = s) := by
 refine go Tryz.func6 (k := fun hwf H => ?_)
 refine rs (k := rg [0, 1] (k := rs (k := rg [1, 5] (k := rs (k := rg [1, 5, 6] (k := rs (k := rs (k := rg [1, 5, 6, 7] (k := rb (k := ?_))))))))))
 refine Run.loop (fun e s' => ∃ (i : Nat) (T : Tp) (qs : List Req) (kk : SK), e = [(1, .int .i64 (n : Int)), (5, .ptr s.nxt 0 0), (6, .sl kk (qs.map Req.pv)), (7, .int .i64 (i : Int))] ∧ i ≤ n ∧ qs.length = i ∧ T.ok ∧ (∀ q ∈ qs, q.ok) ∧ s'.blk s.nxt = some (.row 51 [T.pv]) ∧ (∀ j, j < s.nxt → s'.blk j = s.blk j) ∧ s.nxt + 1 ≤ s'.nxt ∧ Grows s' kk qs.length (Tryz.prog.cellsOf 33) ∧ (∀ t z, kk = .tok t z → s.nxt + 1 ≤ t ∧ t < s'.nxt)) (fun e s' => n - ivar e 7) ?_ ?_
 · exact ⟨0, ⟨l, 0⟩, [], .nil, rfl, Nat.zero_le _, rfl, ⟨hl, Nat.zero_le _⟩, fun q hq => (List.not_mem_nil hq).elim, by simp only [go_sem, Tp.pv]; rfl, fun j hj => blk_new_ne Y14, Nat.le_refl _, .inl ⟨rfl, rfl⟩, fun t z e => Y69⟩
 rintro e s1 ⟨i, T, qs, kk, rfl, hi, hql, hT, hqs, htp, hlo, hnx, hgr, htk⟩
 refine rs (k := rs (k := rg [1, 5, 6, 7, 13] (k := rc (ht := fun hc0 => ?_) (hf := fun hc0 => ?_))))
 · refine rk (k := rs (k := rb (k := ?_)))
   have hil : i < n := Y133
   have hw : IntKind.i64.wrap ((i : Int) + 1) = ((i + 1 : Nat) : Int) := Y20
   have H := aj hw H
   refine rr (k := ro (pre := [_, _]) (k := ?_))
   refine RunO.callw au au au Y18 ((tape_Request hT htp).mono ?_)
   rintro r s2 ⟨q, T2, rfl, hs, hT2, hqo, _⟩
   subst hs
   refine rO (k := ?_)
   refine RunO.grow (xs := qs.map Req.pv) (ys := [q].map Req.pv) au au (by simp only [go_sem, List.map_cons, List.map_nil, ↓reduceIte, H] <;> rfl) Tryz.td23 (by rw [Tryz.zp33]; rfl) (isEls_map (P := Tryz.prog) (e := 33) (f := Req.pv) (fun a => ⟨rfl, by rw [Tryz.cz33]; rfl⟩) _) (isEls_map (P := Tryz.prog) (e := 33) (f := Req.pv) (fun a => ⟨rfl, by rw [Tryz.cz33]; rfl⟩) [q]) (by rw [Tryz.by33]; decide) (by rw [Tryz.by33, List.length_map, List.length_map]; simp; omega) (by rw [List.length_map]; exact hgr.mono fun t e => blk_set_ne (hgr.ne e _ htp (by intro n e; cases e))) Y70 ?_
   intro k' s3 hgr' htm
   refine rh [1, 5, 6, 7] (k := rB (k := rg [1, 5, 6, 7] (k := ?_)))
   rw [List.length_map] at hgr'
   have htne : ∀ t z, kk = .tok t z → t ≠ s.nxt := fun t z e => by have := (htk t z e).1; omega
   refine Run.lp ⟨⟨i + 1, T2, qs ++ [q], k', by rw [List.map_append]; rfl, Y14, by rw [List.length_append, hql]; rfl, hT2, fun y hy => ?_, ?_, fun j hj => ?_, ?_, by rw [List.length_append]; exact hgr', fun t z e => ?_⟩, ?_⟩
   · rcases List.mem_append.1 hy with hy | hy
     · exact hqs y hy
     · rw [List.mem_singleton.1 hy]; exact hqo
   · rw [htm.rest s.nxt (by show s.nxt < s1.nxt; omega) (fun z e => htne _ _ e rfl)]; exact blk_set_self _ _ _
   · rw [htm.rest j (by show j < s1.nxt; omega) (fun z e => by have := (htk _ _ e).1; omega), blk_set_ne Y14]; exact hlo j hj
   · have h9 : s1.nxt ≤ s3.nxt := htm.nxt
     omega
   · have h9 : s1.nxt ≤ s3.nxt := htm.nxt
     rcases htm.fresh t z e with ⟨z', h⟩ | ⟨h1, h2⟩
     · have := htk t z' h; omega
     · have h1 : s1.nxt ≤ t := h1
       omega
   · exact Y79
 · refine rX (k := rs (k := rg [4] (k := rR (k := ?_))))
   refine Ret.pure (r' := .sl .unk (qs.map Req.pv)) (by simp only [Tryz.f6, go_sem, ↓reduceIte] <;> rfl) (by rw [PV.weak, weaks_map_id Req.pv (fun q => Y360)]) (by simp only [PV.blw]; exact ⟨fun t z e => Y69, blws_map Req.pv _ (fun a => blw_req _ _) _⟩) hwf hlo ⟨qs, rfl, Y14, hqs, rfl⟩
structure PlAt (s0 : St) (b c : Nat) (D : Dev) (S : St) : Prop where
 dev : DevAt b D S
 ref : RefAt c D S
 bc : b + 6 ≤ c
 nx : c + 6 ≤ S.nxt
 lb : s0.nxt ≤ b
 low : ∀ j, j < s0.nxt → S.blk j = s0.blk j
theorem PlAt.mid {s0 : St} {b c : Nat} {D D' : Dev} {S : St} (h : PlAt s0 b c D S) : RefAt c D (putDev b D' S) := by
 have e : ∀ j, b + 5 < j → (putDev b D' S).blk j = S.blk j := fun j hj => putDev_hi hj
 have := h.bc
 exact ⟨by rw [e _ Y14]; exact h.ref.st, by rw [e _ Y14]; exact h.ref.c0, by rw [e _ Y14]; exact h.ref.c1, by rw [e _ Y14]; exact h.ref.v0, by rw [e _ Y14]; exact h.ref.v1, by rw [e _ Y14]; exact h.ref.dv⟩
theorem PlAt.step {s0 : St} {b c : Nat} {D D' : Dev} {S : St} (h : PlAt s0 b c D S) (hl : D'.c0.length = D.c0.length) : PlAt s0 b c D' (putRef c D' (putDev b D' S)) := by
 have := h.bc
 refine ⟨(h.dev.put hl).same fun j hj => putRef_lo Y14, h.mid.put hl, h.bc, h.nx, h.lb, fun j hj => ?_⟩
 have := h.lb
 rw [putRef_lo Y14, putDev_lo Y14]; exact h.low j hj
theorem ref8_DoL {b : Nat} {D D' : Dev} {s : St} {q : Req} {R : Rep} (h : doF D q = (R, D')) (hA : RefAt b D s) (hD : D.ok) (hq : q.ok) : ACalls Tryz.prog 13 [.ptr (b + 5) 0 0, q.pv] s (fun r s' => r = R.pv ∧ s' = putRef b D' s) := by
 have := ref8_Do hA hD hq
 rw [h] at this
 exact this
theorem ref8_PduL {b : Nat} {D D' : Dev} {s : St} {l m : List Int} (h : pduF D l = (m, D')) (hA : RefAt b D s) (hD : D.ok) (hb : OkB l) (hl : l.length ≤ 140737488351232) : ACalls Tryz.prog 15 [.ptr (b + 5) 0 0, .sl .unk (l.map (PV.int .u8))] s (fun r s' => r = .sl .unk (m.map (PV.int .u8)) ∧ s' = putRef b D' s) := by
 have := ref8_Pdu hA hD hb hl
 rw [h] at this
 exact this
theorem bytesF_okB {q : Req} (hq : q.ok) : OkB (bytesF q) := by
 unfold bytesF
 split
 · exact writeF_ok hq ‹_›
 · exact OkB.nil
theorem bytesF_l {q : Req} : (bytesF q).length ≤ 140737488351232 := by
 unfold bytesF
 split
 · rename_i h
   have := writeF_len h
   omega
 · simp
theorem law9_playBad {n : Int} (hn : n < 1 ∨ 65536 < n) {l : List Req} (hlq : ∀ q ∈ l, q.ok) (hln : l.length < 140737488355328) {rows : List (List Int)} (hrn : rows.length < 140737488355328) (hrows : ∀ r ∈ rows, OkB r ∧ r.length ≤ 140737488351232) {s : St} : ACalls Tryz.prog 5 [.int .i64 n, .sl .unk (l.map Req.pv), .sl .unk (rows.map (fun l : List Int => PV.sl .unk (l.map (PV.int .u8))))] s (fun r s' => r = .bool true ∧ s' = s) := by
 refine go Tryz.func5 (k := fun hwf H => ?_)
 refine rs (k := rg [0, 1, 2] (k := rs (k := rr (k := ro (pre := [_]) (k := rC (h := device_NewBad hn) (k := rh [0, 1, 2, 7] (k := rs (k := rs (k := rg [0, 1, 2, 7, 19] (k := rc (ht := fun hc0 => ?_) (hf := fun hc0 => ?_)))))))))))
 · refine rs (k := rg [6] (k := rR (k := rP (by simp only [Tryz.f5, go_sem]; rfl) hwf ⟨?_, rfl⟩)))
   simp [PV.weak, go_sem]
 · exact Y155
attribute [local go_sem] weaks_bools Req.pv Rep.pv
theorem Y166 {p : Prop} (h : p := by intro q0 hq0; rw [List.mem_singleton.1 hq0]; exact device_DoL hX hP.dev oD hqo) : p := h
theorem Y167 {p : Prop} (h : p := by intro q0 hq0; rw [List.mem_singleton.1 hq0]; exact ref8_DoL hX hP.mid oD hqo) : p := h
theorem Y222 {p : Prop} (h : p := by simp at hc1; omega) : p := h
theorem Y223 {p : Prop} (h : p := by have := (doF_ok oD hqo).1; rwa [hX] at this) : p := h
theorem Y224 {p : Prop} (h : p := by have := (doF_ok oD hqo).2; rwa [hX] at this) : p := h
theorem Y225 {p : Prop} (h : p := by have := doF_rep oD hqo; rwa [hX] at this) : p := h
theorem Y282 {p : Prop} (h : p := by rw [← hqe]; exact List.getElem_mem _) : p := h
theorem Y336 {p : Prop} (h : p := by rw [map_get hil, hqe]; rfl) : p := h
theorem Y337 {p : Prop} (h : p := by intro q0 hq0; rw [List.mem_singleton.1 hq0]; exact device_PduL hX2 hP1.dev o1 hro hrl) : p := h
theorem Y338 {p : Prop} (h : p := by intro q0 hq0; rw [List.mem_singleton.1 hq0]; exact ref8_PduL hX2 hP1.mid o1 hro hrl) : p := h
theorem Y365 {p : Prop} (h : p := by rw [List.getElem?_map, List.getElem?_eq_getElem hir, hre]; rfl) : p := h
set_option maxRecDepth 100000 in
theorem law9_playOk {n : Nat} (h1 : 1 ≤ n) (h2 : n ≤ 65536) {l : List Req} (hlq : ∀ q ∈ l, q.ok) (hln : l.length < 140737488355328) {rows : List (List Int)} (hrn : rows.length < 140737488355328) (hrows : ∀ r ∈ rows, OkB r ∧ r.length ≤ 140737488351232) {s : St} : ACalls Tryz.prog 5 [.int .i64 (n : Int), .sl .unk (l.map Req.pv), .sl .unk (rows.map (fun l : List Int => PV.sl .unk (l.map (PV.int .u8))))] s (fun r s' => r = .bool true ∧ s' = s) := by
 refine go Tryz.func5 (k := fun hwf H => ?_)
 obtain ⟨m, hm, hm1, hm2⟩ : ∃ m : Nat, (if (2100 : Int) < (n : Int) then (2100 : Int) else (n : Int)) = (m : Int) ∧ 1 ≤ m ∧ m ≤ 65536 := by
   by_cases h : (2100 : Int) < (n : Int)
   · exact ⟨2100, by rw [if_pos h]; rfl, Y15, Y15⟩
   · exact ⟨n, by rw [if_neg h], h1, h2⟩
 have f3 : ((3 : Int) = 0) = False := eq_false Y15
 have f8 : ((8 : Int) = 0) = False := eq_false Y15
 have H := aj hm (aj f3 (aj f8 H))
 refine rs (k := rg [0, 1, 2] (k := rs (k := rr (k := ro (pre := [_]) (k := ?_)))))
 refine RunO.callw au au au Y18 ((device_New h1 h2).mono ?_)
 rintro r s1 ⟨rfl, hA1, hlo1, hnx1⟩
 refine rh [0, 1, 2, 7] (k := rs (k := rs (k := rg [0, 1, 2, 7, 19] (k := rc (ht := fun hc0 => ?_) (hf := fun hc0 => ?_)))))
 · exact Y325
 refine rk (k := rs (k := rg [0, 1, 2] (k := rs (k := rr (k := ro (pre := [_]) (k := ?_))))))
 refine RunO.callw au au au Y18 ((device_New hm1 hm2).mono ?_)
 rintro r s2 ⟨rfl, hA2, hlo2, hnx2⟩
 refine rh [0, 1, 2, 7] (k := rs (k := rr (k := ro (pre := [_]) (k := ?_))))
 refine RunO.callw au au au Y18 ((ref8_NewDevice hm1 hm2).mono ?_)
 rintro r s3 ⟨rfl, hA3, hlo3, hnx3⟩
 refine rh [1, 2, 7, 8] (k := rs (k := rs (k := ?_)))
 have hP0 : PlAt s s1.nxt s2.nxt (Dev.zero m) s3 := ⟨hA2.same fun j hj => hlo3 j Y14, hA3, Y14, Y14, Y14, fun j hj => by rw [hlo3 j Y14, hlo2 j Y14]; first | exact hlo1 j Y14⟩
 refine rg [1, 2, 7, 8, 9] (k := rb (k := ?_))
 refine Run.loop (fun e s' => ∃ (i : Nat) (D : Dev), e = [(1, .sl .unk (l.map Req.pv)), (2, .sl .unk (rows.map (fun l : List Int => PV.sl .unk (l.map (PV.int .u8))))), (7, .ptr (s1.nxt + 5) 0 0), (8, .ptr (s2.nxt + 5) 0 0), (9, .int .i64 (i : Int))] ∧ i ≤ l.length ∧ D.ok ∧ PlAt s s1.nxt s2.nxt D s') (fun e s' => l.length - ivar e 9) ?_ ?_
 · exact ⟨0, _, rfl, Nat.zero_le _, Dev.zero_ok hm1 hm2, hP0⟩
 rintro e S ⟨i, D, rfl, hi, oD, hP⟩
 obtain ⟨hir, h3⟩ | ⟨hir, h3⟩ | ⟨hir, h3⟩ | ⟨hir, h3⟩ : (i < rows.length ∧ Int.tmod (i : Int) 3 = 0) ∨ (i < rows.length ∧ ¬ Int.tmod (i : Int) 3 = 0) ∨ (¬ i < rows.length ∧ Int.tmod (i : Int) 3 = 0) ∨ (¬ i < rows.length ∧ ¬ Int.tmod (i : Int) 3 = 0) := by
   by_cases h : i < rows.length <;> by_cases k : Int.tmod (i : Int) 3 = 0 <;> simp [h, k]
 have hir2 : (i < rows.length) = True := eq_true hir
 have h33 : (Int.tmod (i : Int) 3 = 0) = True := eq_true h3
 have H := aj hir2 (aj h33 H)
 refine rs (k := rs (k := rg [1, 2, 7, 8, 9, 35] (k := rc (ht := fun hc1 => ?_) (hf := fun hc1 => ?_))))
 refine rk (k := rs (k := rb (k := rs (k := rs (k := ?_)))))
 have hil : i < l.length := Y222
 have hi50 : i < 50 := Y222
 obtain ⟨q, hqe⟩ : ∃ z_, l[i]'hil = z_ := ⟨_, rfl⟩
 have hxq : (l.map Req.pv)[i]? = some (.agg [.int .i64 q.fn, .int .i64 q.at_, .int .i64 q.count, .int .i64 q.wat, .int .i64 q.sub, .sl .unk (q.bits.map PV.bool), .sl .unk (q.vals.map (PV.int .u16)), .int .u16 q.and_, .int .u16 q.or_]) := Y336
 have hqo : q.ok := hlq q Y282
 have hilT : (i < l.length) = True := eq_true hil
 obtain ⟨⟨R, D1⟩, hX⟩ : ∃ Z, doF D q = Z := ⟨_, rfl⟩
 have o1 : D1.ok := Y223
 have n1 : D1.c0.length = D.c0.length := Y224
 have r1 : R.ok := Y225
 have hP1 := hP.step n1
 have hw : IntKind.i64.wrap ((i : Int) + 1) = ((i + 1 : Nat) : Int) := Y20
 have H := aj hxq (aj hilT (aj hw H))
 refine Run.drawH 18 [8, 14] [[false, false], [true, false], [true, true]] [S, (putDev s1.nxt D1 S), (putRef s2.nxt D1 (putDev s1.nxt D1 S))] ((putRef s2.nxt D1 (putDev s1.nxt D1 S))) Tryz.mixed Y18 Y18 Y18 Y18 Y18 rfl Y18 rfl ?_
 refine DetHC.pre (pre := [_, _, _]) (s1 := S) [0] [S] Y18 rfl au ?_
 refine DetHC.eff [(0, 0)] (S) (S) [] Y18 rfl au au au ?_
 refine DetHC.eff [(0, 0)] (S) (S) [] Y18 rfl au au au ?_
 refine DetHC.eff [(0, 0)] (S) (S) [] Y18 rfl au au au ?_
 refine DetHC.eff [(0, 0)] (S) (S) [] Y18 rfl au au au ?_
 refine DetHC.eff [(0, 0)] (S) (S) [] Y18 rfl au au au ?_
 refine DetHC.callE (v := R.pv) [(0, 1)] [(S, (putDev s1.nxt D1 S))] Y18 rfl au au au Y18 Y166 ?_
 refine DetHC.eff [(0, 0), (1, 1)] (S) (S) [((putDev s1.nxt D1 S), (putDev s1.nxt D1 S))] Y18 rfl au au au ?_
 refine DetHC.eff [(0, 0), (1, 1)] (S) (S) [((putDev s1.nxt D1 S), (putDev s1.nxt D1 S))] Y18 rfl au au au ?_
 refine DetHC.eff [(0, 0), (1, 1)] (S) (S) [((putDev s1.nxt D1 S), (putDev s1.nxt D1 S))] Y18 rfl au au au ?_
 refine DetHC.eff [(0, 0), (1, 1)] (S) (S) [((putDev s1.nxt D1 S), (putDev s1.nxt D1 S))] Y18 rfl au au au ?_
 refine DetHC.eff [(0, 0), (1, 1)] (S) (S) [((putDev s1.nxt D1 S), (putDev s1.nxt D1 S))] Y18 rfl au au au ?_
 refine DetHC.callE (v := R.pv) [(1, 2)] [((putDev s1.nxt D1 S), (putRef s2.nxt D1 (putDev s1.nxt D1 S)))] Y18 rfl au au au Y18 Y167 ?_
 refine DetHC.call [2] [(putRef s2.nxt D1 (putDev s1.nxt D1 S))] Y18 rfl au au au Y18 (fun s _ => ref3_Alike (a := R) (b := R) r1 r1) ?_
 refine DetHC.eff [(2, 2)] ((putRef s2.nxt D1 (putDev s1.nxt D1 S))) ((putRef s2.nxt D1 (putDev s1.nxt D1 S))) [] Y18 rfl au au au ?_
 refine DetHC.all (s1 := (putRef s2.nxt D1 (putDev s1.nxt D1 S))) [2] [(putRef s2.nxt D1 (putDev s1.nxt D1 S))] Y18 rfl au ?_
 refine rl [1, 2, 7, 8, 9, 55] (k := rc (ht := fun hc2 => ?_) (hf := fun hc2 => ?_))
 · cases hc2
 refine rk (k := rs (k := rs (k := ?_)))
 obtain ⟨r, hre⟩ : ∃ z_, rows[i]'hir = z_ := ⟨_, rfl⟩
 have hxr : (rows.map (fun l : List Int => PV.sl .unk (l.map (PV.int .u8))))[i]? = some (.sl .unk (r.map (PV.int .u8))) := Y365
 obtain ⟨hro, hrl⟩ := hrows r (by rw [← hre]; exact List.getElem_mem _)
 obtain ⟨⟨P1, D2⟩, hX2⟩ : ∃ Z, pduF D1 r = Z := ⟨_, rfl⟩
 have o2 : D2.ok := by have := (pduF_ok o1 hro hrl).1; rwa [hX2] at this
 have n2 : D2.c0.length = D1.c0.length := by have := (pduF_ok o1 hro hrl).2; rwa [hX2] at this
 have hP2 := hP1.step n2
 have hst1 : ((strB P1).toList == (strB P1).toList) = true := beq_self_eq_true _
 have H := aj hxr (aj hst1 H)
 refine Run.drawH 21 [10, 17] [[false, false], [true, false], [true, true]] [(putRef s2.nxt D1 (putDev s1.nxt D1 S)), (putDev s1.nxt D2 (putRef s2.nxt D1 (putDev s1.nxt D1 S))), (putRef s2.nxt D2 (putDev s1.nxt D2 (putRef s2.nxt D1 (putDev s1.nxt D1 S))))] ((putRef s2.nxt D2 (putDev s1.nxt D2 (putRef s2.nxt D1 (putDev s1.nxt D1 S))))) Tryz.mixed Y18 Y18 Y18 Y18 Y18 rfl Y18 rfl ?_
 refine DetHC.pre (pre := [_, _, _, _, _]) (s1 := (putRef s2.nxt D1 (putDev s1.nxt D1 S))) [0] [(putRef s2.nxt D1 (putDev s1.nxt D1 S))] Y18 rfl au ?_
 refine DetHC.eff [(0, 0)] ((putRef s2.nxt D1 (putDev s1.nxt D1 S))) ((putRef s2.nxt D1 (putDev s1.nxt D1 S))) [] Y18 rfl au au au ?_
 refine DetHC.eff [(0, 0)] ((putRef s2.nxt D1 (putDev s1.nxt D1 S))) ((putRef s2.nxt D1 (putDev s1.nxt D1 S))) [] Y18 rfl au au au ?_
 refine DetHC.eff [(0, 0)] ((putRef s2.nxt D1 (putDev s1.nxt D1 S))) ((putRef s2.nxt D1 (putDev s1.nxt D1 S))) [] Y18 rfl au au au ?_
 refine DetHC.eff [(0, 0)] ((putRef s2.nxt D1 (putDev s1.nxt D1 S))) ((putRef s2.nxt D1 (putDev s1.nxt D1 S))) [] Y18 rfl au au au ?_
 refine DetHC.eff [(0, 0)] ((putRef s2.nxt D1 (putDev s1.nxt D1 S))) ((putRef s2.nxt D1 (putDev s1.nxt D1 S))) [] Y18 rfl au au au ?_
 refine DetHC.callE (v := .sl .unk (P1.map (PV.int .u8))) [(0, 1)] [((putRef s2.nxt D1 (putDev s1.nxt D1 S)), (putDev s1.nxt D2 (putRef s2.nxt D1 (putDev s1.nxt D1 S))))] Y18 rfl au au au Y18 Y337 ?_
 refine DetHC.eff [(1, 1), (2, 2)] ((putDev s1.nxt D2 (putRef s2.nxt D1 (putDev s1.nxt D1 S)))) ((putDev s1.nxt D2 (putRef s2.nxt D1 (putDev s1.nxt D1 S)))) [((putRef s2.nxt D2 (putDev s1.nxt D2 (putRef s2.nxt D1 (putDev s1.nxt D1 S)))), (putRef s2.nxt D2 (putDev s1.nxt D2 (putRef s2.nxt D1 (putDev s1.nxt D1 S)))))] Y18 rfl au au au ?_
 refine DetHC.eff [(0, 0), (1, 1)] ((putRef s2.nxt D1 (putDev s1.nxt D1 S))) ((putRef s2.nxt D1 (putDev s1.nxt D1 S))) [((putDev s1.nxt D2 (putRef s2.nxt D1 (putDev s1.nxt D1 S))), (putDev s1.nxt D2 (putRef s2.nxt D1 (putDev s1.nxt D1 S))))] Y18 rfl au au au ?_
 refine DetHC.eff [(0, 0), (1, 1)] ((putRef s2.nxt D1 (putDev s1.nxt D1 S))) ((putRef s2.nxt D1 (putDev s1.nxt D1 S))) [((putDev s1.nxt D2 (putRef s2.nxt D1 (putDev s1.nxt D1 S))), (putDev s1.nxt D2 (putRef s2.nxt D1 (putDev s1.nxt D1 S))))] Y18 rfl au au au ?_
 refine DetHC.eff [(0, 0), (1, 1)] ((putRef s2.nxt D1 (putDev s1.nxt D1 S))) ((putRef s2.nxt D1 (putDev s1.nxt D1 S))) [((putDev s1.nxt D2 (putRef s2.nxt D1 (putDev s1.nxt D1 S))), (putDev s1.nxt D2 (putRef s2.nxt D1 (putDev s1.nxt D1 S))))] Y18 rfl au au au ?_
 refine DetHC.eff [(0, 0), (1, 1)] ((putRef s2.nxt D1 (putDev s1.nxt D1 S))) ((putRef s2.nxt D1 (putDev s1.nxt D1 S))) [((putDev s1.nxt D2 (putRef s2.nxt D1 (putDev s1.nxt D1 S))), (putDev s1.nxt D2 (putRef s2.nxt D1 (putDev s1.nxt D1 S))))] Y18 rfl au au au ?_
 refine DetHC.eff [(0, 0), (1, 1)] ((putRef s2.nxt D1 (putDev s1.nxt D1 S))) ((putRef s2.nxt D1 (putDev s1.nxt D1 S))) [((putDev s1.nxt D2 (putRef s2.nxt D1 (putDev s1.nxt D1 S))), (putDev s1.nxt D2 (putRef s2.nxt D1 (putDev s1.nxt D1 S))))] Y18 rfl au au au ?_
 refine DetHC.callE (v := .sl .unk (P1.map (PV.int .u8))) [(1, 2)] [((putDev s1.nxt D2 (putRef s2.nxt D1 (putDev s1.nxt D1 S))), (putRef s2.nxt D2 (putDev s1.nxt D2 (putRef s2.nxt D1 (putDev s1.nxt D1 S)))))] Y18 rfl au au au Y18 Y338 ?_
 refine DetHC.eff [(2, 2)] ((putRef s2.nxt D2 (putDev s1.nxt D2 (putRef s2.nxt D1 (putDev s1.nxt D1 S))))) ((putRef s2.nxt D2 (putDev s1.nxt D2 (putRef s2.nxt D1 (putDev s1.nxt D1 S))))) [] Y18 rfl au au au ?_
 refine DetHC.eff [(2, 2)] ((putRef s2.nxt D2 (putDev s1.nxt D2 (putRef s2.nxt D1 (putDev s1.nxt D1 S))))) ((putRef s2.nxt D2 (putDev s1.nxt D2 (putRef s2.nxt D1 (putDev s1.nxt D1 S))))) [] Y18 rfl au au au ?_
 refine DetHC.all (s1 := (putRef s2.nxt D2 (putDev s1.nxt D2 (putRef s2.nxt D1 (putDev s1.nxt D1 S))))) [2] [(putRef s2.nxt D2 (putDev s1.nxt D2 (putRef s2.nxt D1 (putDev s1.nxt D1 S))))] Y18 rfl au ?_
 refine rl [1, 2, 7, 8, 9, 76] (k := rc (ht := fun hc3 => ?_) (hf := fun hc3 => ?_))
 · cases hc3
 refine rk (k := rs (k := rr (k := ro (pre := [_, _, _, _]) (k := rC (h := ref3_Bytes hqo) (k := rh [1, 2, 7, 8, 9, 10] (k := rs (k := rs (k := ?_))))))))
 obtain ⟨⟨P2, D3⟩, hX3⟩ : ∃ Z, pduF D2 (bytesF q) = Z := ⟨_, rfl⟩
 have o3 : D3.ok := by have := (pduF_ok o2 (bytesF_okB hqo) bytesF_l).1; rwa [hX3] at this
 have n3 : D3.c0.length = D2.c0.length := by have := (pduF_ok o2 (bytesF_okB hqo) bytesF_l).2; rwa [hX3] at this
 have hP3 := hP2.step n3
 have hst2 : ((strB P2).toList == (strB P2).toList) = true := beq_self_eq_true _
 have H := aj hst2 H
 refine Run.drawH 14 [6, 10] [[false, false], [true, false], [true, true]] [(putRef s2.nxt D2 (putDev s1.nxt D2 (putRef s2.nxt D1 (putDev s1.nxt D1 S)))), (putDev s1.nxt D3 (putRef s2.nxt D2 (putDev s1.nxt D2 (putRef s2.nxt D1 (putDev s1.nxt D1 S))))), (putRef s2.nxt D3 (putDev s1.nxt D3 (putRef s2.nxt D2 (putDev s1.nxt D2 (putRef s2.nxt D1 (putDev s1.nxt D1 S))))))] ((putRef s2.nxt D3 (putDev s1.nxt D3 (putRef s2.nxt D2 (putDev s1.nxt D2 (putRef s2.nxt D1 (putDev s1.nxt D1 S))))))) Tryz.mixed Y18 Y18 Y18 Y18 Y18 rfl Y18 rfl ?_
 refine DetHC.pre (pre := [_, _, _, _]) (s1 := (putRef s2.nxt D2 (putDev s1.nxt D2 (putRef s2.nxt D1 (putDev s1.nxt D1 S))))) [0] [(putRef s2.nxt D2 (putDev s1.nxt D2 (putRef s2.nxt D1 (putDev s1.nxt D1 S))))] Y18 rfl au ?_
 refine DetHC.eff [(0, 0)] ((putRef s2.nxt D2 (putDev s1.nxt D2 (putRef s2.nxt D1 (putDev s1.nxt D1 S))))) ((putRef s2.nxt D2 (putDev s1.nxt D2 (putRef s2.nxt D1 (putDev s1.nxt D1 S))))) [] Y18 rfl au au au ?_
 refine DetHC.eff [(0, 0)] ((putRef s2.nxt D2 (putDev s1.nxt D2 (putRef s2.nxt D1 (putDev s1.nxt D1 S))))) ((putRef s2.nxt D2 (putDev s1.nxt D2 (putRef s2.nxt D1 (putDev s1.nxt D1 S))))) [] Y18 rfl au au au ?_
 refine DetHC.callE (v := .sl .unk (P2.map (PV.int .u8))) [(0, 1)] [((putRef s2.nxt D2 (putDev s1.nxt D2 (putRef s2.nxt D1 (putDev s1.nxt D1 S)))), (putDev s1.nxt D3 (putRef s2.nxt D2 (putDev s1.nxt D2 (putRef s2.nxt D1 (putDev s1.nxt D1 S))))))] Y18 rfl au au au Y18 (by intro q0 hq0; rw [List.mem_singleton.1 hq0]; exact device_PduL hX3 hP2.dev o2 (bytesF_okB hqo) bytesF_l) ?_
 refine DetHC.eff [(1, 1), (2, 2)] ((putDev s1.nxt D3 (putRef s2.nxt D2 (putDev s1.nxt D2 (putRef s2.nxt D1 (putDev s1.nxt D1 S)))))) ((putDev s1.nxt D3 (putRef s2.nxt D2 (putDev s1.nxt D2 (putRef s2.nxt D1 (putDev s1.nxt D1 S)))))) [((putRef s2.nxt D3 (putDev s1.nxt D3 (putRef s2.nxt D2 (putDev s1.nxt D2 (putRef s2.nxt D1 (putDev s1.nxt D1 S)))))), (putRef s2.nxt D3 (putDev s1.nxt D3 (putRef s2.nxt D2 (putDev s1.nxt D2 (putRef s2.nxt D1 (putDev s1.nxt D1 S)))))))] Y18 rfl au au au ?_
 refine DetHC.eff [(0, 0), (1, 1)] ((putRef s2.nxt D2 (putDev s1.nxt D2 (putRef s2.nxt D1 (putDev s1.nxt D1 S))))) ((putRef s2.nxt D2 (putDev s1.nxt D2 (putRef s2.nxt D1 (putDev s1.nxt D1 S))))) [((putDev s1.nxt D3 (putRef s2.nxt D2 (putDev s1.nxt D2 (putRef s2.nxt D1 (putDev s1.nxt D1 S))))), (putDev s1.nxt D3 (putRef s2.nxt D2 (putDev s1.nxt D2 (putRef s2.nxt D1 (putDev s1.nxt D1 S))))))] Y18 rfl au au au ?_
 refine DetHC.eff [(0, 0), (1, 1)] ((putRef s2.nxt D2 (putDev s1.nxt D2 (putRef s2.nxt D1 (putDev s1.nxt D1 S))))) ((putRef s2.nxt D2 (putDev s1.nxt D2 (putRef s2.nxt D1 (putDev s1.nxt D1 S))))) [((putDev s1.nxt D3 (putRef s2.nxt D2 (putDev s1.nxt D2 (putRef s2.nxt D1 (putDev s1.nxt D1 S))))), (putDev s1.nxt D3 (putRef s2.nxt D2 (putDev s1.nxt D2 (putRef s2.nxt D1 (putDev s1.nxt D1 S))))))] Y18 rfl au au au ?_
 refine DetHC.callE (v := .sl .unk (P2.map (PV.int .u8))) [(1, 2)] [((putDev s1.nxt D3 (putRef s2.nxt D2 (putDev s1.nxt D2 (putRef s2.nxt D1 (putDev s1.nxt D1 S))))), (putRef s2.nxt D3 (putDev s1.nxt D3 (putRef s2.nxt D2 (putDev s1.nxt D2 (putRef s2.nxt D1 (putDev s1.nxt D1 S)))))))] Y18 rfl au au au Y18 (by intro q0 hq0; rw [List.mem_singleton.1 hq0]; exact ref8_PduL hX3 hP2.mid o2 (bytesF_okB hqo) bytesF_l) ?_
 refine DetHC.eff [(2, 2)] ((putRef s2.nxt D3 (putDev s1.nxt D3 (putRef s2.nxt D2 (putDev s1.nxt D2 (putRef s2.nxt D1 (putDev s1.nxt D1 S))))))) ((putRef s2.nxt D3 (putDev s1.nxt D3 (putRef s2.nxt D2 (putDev s1.nxt D2 (putRef s2.nxt D1 (putDev s1.nxt D1 S))))))) [] Y18 rfl au au au ?_
 refine DetHC.eff [(2, 2)] ((putRef s2.nxt D3 (putDev s1.nxt D3 (putRef s2.nxt D2 (putDev s1.nxt D2 (putRef s2.nxt D1 (putDev s1.nxt D1 S))))))) ((putRef s2.nxt D3 (putDev s1.nxt D3 (putRef s2.nxt D2 (putDev s1.nxt D2 (putRef s2.nxt D1 (putDev s1.nxt D1 S))))))) [] Y18 rfl au au au ?_
 refine DetHC.all (s1 := (putRef s2.nxt D3 (putDev s1.nxt D3 (putRef s2.nxt D2 (putDev s1.nxt D2 (putRef s2.nxt D1 (putDev s1.nxt D1 S))))))) [2] [(putRef s2.nxt D3 (putDev s1.nxt D3 (putRef s2.nxt D2 (putDev s1.nxt D2 (putRef s2.nxt D1 (putDev s1.nxt D1 S))))))] Y18 rfl au ?_
 refine jO 1 ?_; rotate_left
 refine jO 2 ?_; rotate_left
 have hir2 : (i < rows.length) = True := eq_true hir
 have h33 : (Int.tmod (i : Int) 3 = 0) = False := eq_false h3
 have H := aj hir2 (aj h33 H)
 refine rs (k := rs (k := rg [1, 2, 7, 8, 9, 35] (k := rc (ht := fun hc1 => ?_) (hf := fun hc1 => ?_))))
 · refine rk (k := rs (k := rb (k := rs (k := rs (k := ?_)))))
   have hil : i < l.length := Y222
   have hi50 : i < 50 := Y222
   obtain ⟨q, hqe⟩ : ∃ z_, l[i]'hil = z_ := ⟨_, rfl⟩
   have hxq : (l.map Req.pv)[i]? = some (.agg [.int .i64 q.fn, .int .i64 q.at_, .int .i64 q.count, .int .i64 q.wat, .int .i64 q.sub, .sl .unk (q.bits.map PV.bool), .sl .unk (q.vals.map (PV.int .u16)), .int .u16 q.and_, .int .u16 q.or_]) := Y336
   have hqo : q.ok := hlq q Y282
   have hilT : (i < l.length) = True := eq_true hil
   obtain ⟨⟨R, D1⟩, hX⟩ : ∃ Z, doF D q = Z := ⟨_, rfl⟩
   have o1 : D1.ok := Y223
   have n1 : D1.c0.length = D.c0.length := Y224
   have r1 : R.ok := Y225
   have hP1 := hP.step n1
   have hw : IntKind.i64.wrap ((i : Int) + 1) = ((i + 1 : Nat) : Int) := Y20
   have H := aj hxq (aj hilT (aj hw H))
   refine Run.drawH 18 [8, 14] [[false, false], [true, false], [true, true]] [S, (putDev s1.nxt D1 S), (putRef s2.nxt D1 (putDev s1.nxt D1 S))] ((putRef s2.nxt D1 (putDev s1.nxt D1 S))) Tryz.mixed Y18 Y18 Y18 Y18 Y18 rfl Y18 rfl ?_
   refine DetHC.pre (pre := [_, _, _]) (s1 := S) [0] [S] Y18 rfl au ?_
   refine DetHC.eff [(0, 0)] (S) (S) [] Y18 rfl au au au ?_
   refine DetHC.eff [(0, 0)] (S) (S) [] Y18 rfl au au au ?_
   refine DetHC.eff [(0, 0)] (S) (S) [] Y18 rfl au au au ?_
   refine DetHC.eff [(0, 0)] (S) (S) [] Y18 rfl au au au ?_
   refine DetHC.eff [(0, 0)] (S) (S) [] Y18 rfl au au au ?_
   refine DetHC.callE (v := R.pv) [(0, 1)] [(S, (putDev s1.nxt D1 S))] Y18 rfl au au au Y18 Y166 ?_
   refine DetHC.eff [(0, 0), (1, 1)] (S) (S) [((putDev s1.nxt D1 S), (putDev s1.nxt D1 S))] Y18 rfl au au au ?_
   refine DetHC.eff [(0, 0), (1, 1)] (S) (S) [((putDev s1.nxt D1 S), (putDev s1.nxt D1 S))] Y18 rfl au au au ?_
   refine DetHC.eff [(0, 0), (1, 1)] (S) (S) [((putDev s1.nxt D1 S), (putDev s1.nxt D1 S))] Y18 rfl au au au ?_
   refine DetHC.eff [(0, 0), (1, 1)] (S) (S) [((putDev s1.nxt D1 S), (putDev s1.nxt D1 S))] Y18 rfl au au au ?_
   refine DetHC.eff [(0, 0), (1, 1)] (S) (S) [((putDev s1.nxt D1 S), (putDev s1.nxt D1 S))] Y18 rfl au au au ?_
   refine DetHC.callE (v := R.pv) [(1, 2)] [((putDev s1.nxt D1 S), (putRef s2.nxt D1 (putDev s1.nxt D1 S)))] Y18 rfl au au au Y18 Y167 ?_
   refine DetHC.call [2] [(putRef s2.nxt D1 (putDev s1.nxt D1 S))] Y18 rfl au au au Y18 (fun s _ => ref3_Alike (a := R) (b := R) r1 r1) ?_
   refine DetHC.eff [(2, 2)] ((putRef s2.nxt D1 (putDev s1.nxt D1 S))) ((putRef s2.nxt D1 (putDev s1.nxt D1 S))) [] Y18 rfl au au au ?_
   refine DetHC.all (s1 := (putRef s2.nxt D1 (putDev s1.nxt D1 S))) [2] [(putRef s2.nxt D1 (putDev s1.nxt D1 S))] Y18 rfl au ?_
   refine rl [1, 2, 7, 8, 9, 55] (k := rc (ht := fun hc2 => ?_) (hf := fun hc2 => ?_))
   · cases hc2
   · refine rk (k := rs (k := rs (k := ?_)))
     obtain ⟨r, hre⟩ : ∃ z_, rows[i]'hir = z_ := ⟨_, rfl⟩
     have hxr : (rows.map (fun l : List Int => PV.sl .unk (l.map (PV.int .u8))))[i]? = some (.sl .unk (r.map (PV.int .u8))) := Y365
     obtain ⟨hro, hrl⟩ := hrows r (by rw [← hre]; exact List.getElem_mem _)
     obtain ⟨⟨P1, D2⟩, hX2⟩ : ∃ Z, pduF D1 r = Z := ⟨_, rfl⟩
     have o2 : D2.ok := by have := (pduF_ok o1 hro hrl).1; rwa [hX2] at this
     have n2 : D2.c0.length = D1.c0.length := by have := (pduF_ok o1 hro hrl).2; rwa [hX2] at this
     have hP2 := hP1.step n2
     have hst1 : ((strB P1).toList == (strB P1).toList) = true := beq_self_eq_true _
     have H := aj hxr (aj hst1 H)
     refine Run.drawH 21 [10, 17] [[false, false], [true, false], [true, true]] [(putRef s2.nxt D1 (putDev s1.nxt D1 S)), (putDev s1.nxt D2 (putRef s2.nxt D1 (putDev s1.nxt D1 S))), (putRef s2.nxt D2 (putDev s1.nxt D2 (putRef s2.nxt D1 (putDev s1.nxt D1 S))))] ((putRef s2.nxt D2 (putDev s1.nxt D2 (putRef s2.nxt D1 (putDev s1.nxt D1 S))))) Tryz.mixed Y18 Y18 Y18 Y18 Y18 rfl Y18 rfl ?_
     refine DetHC.pre (pre := [_, _, _, _, _]) (s1 := (putRef s2.nxt D1 (putDev s1.nxt D1 S))) [0] [(putRef s2.nxt D1 (putDev s1.nxt D1 S))] Y18 rfl au ?_
     refine DetHC.eff [(0, 0)] ((putRef s2.nxt D1 (putDev s1.nxt D1 S))) ((putRef s2.nxt D1 (putDev s1.nxt D1 S))) [] Y18 rfl au au au ?_
     refine DetHC.eff [(0, 0)] ((putRef s2.nxt D1 (putDev s1.nxt D1 S))) ((putRef s2.nxt D1 (putDev s1.nxt D1 S))) [] Y18 rfl au au au ?_
     refine DetHC.eff [(0, 0)] ((putRef s2.nxt D1 (putDev s1.nxt D1 S))) ((putRef s2.nxt D1 (putDev s1.nxt D1 S))) [] Y18 rfl au au au ?_
     refine DetHC.eff [(0, 0)] ((putRef s2.nxt D1 (putDev s1.nxt D1 S))) ((putRef s2.nxt D1 (putDev s1.nxt D1 S))) [] Y18 rfl au au au ?_
     refine DetHC.eff [(0, 0)] ((putRef s2.nxt D1 (putDev s1.nxt D1 S))) ((putRef s2.nxt D1 (putDev s1.nxt D1 S))) [] Y18 rfl au au au ?_
     refine DetHC.callE (v := .sl .unk (P1.map (PV.int .u8))) [(0, 1)] [((putRef s2.nxt D1 (putDev s1.nxt D1 S)), (putDev s1.nxt D2 (putRef s2.nxt D1 (putDev s1.nxt D1 S))))] Y18 rfl au au au Y18 Y337 ?_
     refine DetHC.eff [(1, 1), (2, 2)] ((putDev s1.nxt D2 (putRef s2.nxt D1 (putDev s1.nxt D1 S)))) ((putDev s1.nxt D2 (putRef s2.nxt D1 (putDev s1.nxt D1 S)))) [((putRef s2.nxt D2 (putDev s1.nxt D2 (putRef s2.nxt D1 (putDev s1.nxt D1 S)))), (putRef s2.nxt D2 (putDev s1.nxt D2 (putRef s2.nxt D1 (putDev s1.nxt D1 S)))))] Y18 rfl au au au ?_
     refine DetHC.eff [(0, 0), (1, 1)] ((putRef s2.nxt D1 (putDev s1.nxt D1 S))) ((putRef s2.nxt D1 (putDev s1.nxt D1 S))) [((putDev s1.nxt D2 (putRef s2.nxt D1 (putDev s1.nxt D1 S))), (putDev s1.nxt D2 (putRef s2.nxt D1 (putDev s1.nxt D1 S))))] Y18 rfl au au au ?_
     refine DetHC.eff [(0, 0), (1, 1)] ((putRef s2.nxt D1 (putDev s1.nxt D1 S))) ((putRef s2.nxt D1 (putDev s1.nxt D1 S))) [((putDev s1.nxt D2 (putRef s2.nxt D1 (putDev s1.nxt D1 S))), (putDev s1.nxt D2 (putRef s2.nxt D1 (putDev s1.nxt D1 S))))] Y18 rfl au au au ?_
     refine DetHC.eff [(0, 0), (1, 1)] ((putRef s2.nxt D1 (putDev s1.nxt D1 S))) ((putRef s2.nxt D1 (putDev s1.nxt D1 S))) [((putDev s1.nxt D2 (putRef s2.nxt D1 (putDev s1.nxt D1 S))), (putDev s1.nxt D2 (putRef s2.nxt D1 (putDev s1.nxt D1 S))))] Y18 rfl au au au ?_
     refine DetHC.eff [(0, 0), (1, 1)] ((putRef s2.nxt D1 (putDev s1.nxt D1 S))) ((putRef s2.nxt D1 (putDev s1.nxt D1 S))) [((putDev s1.nxt D2 (putRef s2.nxt D1 (putDev s1.nxt D1 S))), (putDev s1.nxt D2 (putRef s2.nxt D1 (putDev s1.nxt D1 S))))] Y18 rfl au au au ?_
     refine DetHC.eff [(0, 0), (1, 1)] ((putRef s2.nxt D1 (putDev s1.nxt D1 S))) ((putRef s2.nxt D1 (putDev s1.nxt D1 S))) [((putDev s1.nxt D2 (putRef s2.nxt D1 (putDev s1.nxt D1 S))), (putDev s1.nxt D2 (putRef s2.nxt D1 (putDev s1.nxt D1 S))))] Y18 rfl au au au ?_
     refine DetHC.callE (v := .sl .unk (P1.map (PV.int .u8))) [(1, 2)] [((putDev s1.nxt D2 (putRef s2.nxt D1 (putDev s1.nxt D1 S))), (putRef s2.nxt D2 (putDev s1.nxt D2 (putRef s2.nxt D1 (putDev s1.nxt D1 S)))))] Y18 rfl au au au Y18 Y338 ?_
     refine DetHC.eff [(2, 2)] ((putRef s2.nxt D2 (putDev s1.nxt D2 (putRef s2.nxt D1 (putDev s1.nxt D1 S))))) ((putRef s2.nxt D2 (putDev s1.nxt D2 (putRef s2.nxt D1 (putDev s1.nxt D1 S))))) [] Y18 rfl au au au ?_
     refine DetHC.eff [(2, 2)] ((putRef s2.nxt D2 (putDev s1.nxt D2 (putRef s2.nxt D1 (putDev s1.nxt D1 S))))) ((putRef s2.nxt D2 (putDev s1.nxt D2 (putRef s2.nxt D1 (putDev s1.nxt D1 S))))) [] Y18 rfl au au au ?_
     refine DetHC.all (s1 := (putRef s2.nxt D2 (putDev s1.nxt D2 (putRef s2.nxt D1 (putDev s1.nxt D1 S))))) [2] [(putRef s2.nxt D2 (putDev s1.nxt D2 (putRef s2.nxt D1 (putDev s1.nxt D1 S))))] Y18 rfl au ?_
     refine rl [1, 2, 7, 8, 9, 76] (k := rc (ht := fun hc3 => ?_) (hf := fun hc3 => ?_))
     · cases hc3
     · refine rk (k := rs (k := rr (k := ro (pre := [_, _, _, _]) (k := rC (h := ref3_Bytes hqo) (k := rh [1, 2, 7, 8, 9, 10] (k := rs (k := rs (k := ?_))))))))
       refine Run.drawC [] [1, 2, 7, 8, 9, 98] Tryz.mixed Y18 ?_
       refine DetC.pre (pre := [_, _, _, _]) au ?_
       refine DetC.gskip' au ?_
       refine DetC.gskip' au ?_
       refine DetC.gskip' au ?_
       refine DetC.gskip' au ?_
       refine DetC.gskip' au ?_
       refine DetC.gskip' au ?_
       refine DetC.gskip' au ?_
       refine DetC.gskip' au ?_
       refine DetC.gskip' au ?_
       refine DetC.all au ?_
       refine re (k := rc (ht := fun hc4 => ?_) (hf := fun hc4 => ?_))
       · cases hc4
       · refine rk (k := rs (k := rr (k := ro (pre := [_, _, _, _, _, _]) (k := rG (h := fun hb => law9_same o2 hP2.dev hP2.ref) (k := rh [1, 2, 7, 8, 9, 107] (k := rc (ht := fun hc5 => ?_) (hf := fun hc5 => ?_)))))))
         · cases hc5
         · refine rk (k := rB (k := rg [1, 2, 7, 8, 9] (k := ?_)))
           refine Run.lp ⟨⟨i + 1, D2, rfl, Y14, o2, hP2⟩, ?_⟩
           simp only [ivar, go_sem, ↓reduceIte, Nat.reduceEqDiff]
           omega
 refine jO 2 ?_; rotate_left
 have hir2 : (i < rows.length) = False := eq_false hir
 have h33 : (Int.tmod (i : Int) 3 = 0) = True := eq_true h3
 have H := aj hir2 (aj h33 H)
 refine rs (k := rs (k := rg [1, 2, 7, 8, 9, 35] (k := rc (ht := fun hc1 => ?_) (hf := fun hc1 => ?_))))
 refine rk (k := rs (k := rb (k := rs (k := rs (k := ?_)))))
 have hil : i < l.length := Y222
 have hi50 : i < 50 := Y222
 obtain ⟨q, hqe⟩ : ∃ z_, l[i]'hil = z_ := ⟨_, rfl⟩
 have hxq : (l.map Req.pv)[i]? = some (.agg [.int .i64 q.fn, .int .i64 q.at_, .int .i64 q.count, .int .i64 q.wat, .int .i64 q.sub, .sl .unk (q.bits.map PV.bool), .sl .unk (q.vals.map (PV.int .u16)), .int .u16 q.and_, .int .u16 q.or_]) := Y336
 have hqo : q.ok := hlq q Y282
 have hilT : (i < l.length) = True := eq_true hil
 obtain ⟨⟨R, D1⟩, hX⟩ : ∃ Z, doF D q = Z := ⟨_, rfl⟩
 have o1 : D1.ok := Y223
 have n1 : D1.c0.length = D.c0.length := Y224
 have r1 : R.ok := Y225
 have hP1 := hP.step n1
 have hw : IntKind.i64.wrap ((i : Int) + 1) = ((i + 1 : Nat) : Int) := Y20
 have H := aj hxq (aj hilT (aj hw H))
 refine Run.drawH 18 [8, 14] [[false, false], [true, false], [true, true]] [S, (putDev s1.nxt D1 S), (putRef s2.nxt D1 (putDev s1.nxt D1 S))] ((putRef s2.nxt D1 (putDev s1.nxt D1 S))) Tryz.mixed Y18 Y18 Y18 Y18 Y18 rfl Y18 rfl ?_
 refine DetHC.pre (pre := [_, _, _]) (s1 := S) [0] [S] Y18 rfl au ?_
 refine DetHC.eff [(0, 0)] (S) (S) [] Y18 rfl au au au ?_
 refine DetHC.eff [(0, 0)] (S) (S) [] Y18 rfl au au au ?_
 refine DetHC.eff [(0, 0)] (S) (S) [] Y18 rfl au au au ?_
 refine DetHC.eff [(0, 0)] (S) (S) [] Y18 rfl au au au ?_
 refine DetHC.eff [(0, 0)] (S) (S) [] Y18 rfl au au au ?_
 refine DetHC.callE (v := R.pv) [(0, 1)] [(S, (putDev s1.nxt D1 S))] Y18 rfl au au au Y18 Y166 ?_
 refine DetHC.eff [(0, 0), (1, 1)] (S) (S) [((putDev s1.nxt D1 S), (putDev s1.nxt D1 S))] Y18 rfl au au au ?_
 refine DetHC.eff [(0, 0), (1, 1)] (S) (S) [((putDev s1.nxt D1 S), (putDev s1.nxt D1 S))] Y18 rfl au au au ?_
 refine DetHC.eff [(0, 0), (1, 1)] (S) (S) [((putDev s1.nxt D1 S), (putDev s1.nxt D1 S))] Y18 rfl au au au ?_
 refine DetHC.eff [(0, 0), (1, 1)] (S) (S) [((putDev s1.nxt D1 S), (putDev s1.nxt D1 S))] Y18 rfl au au au ?_
 refine DetHC.eff [(0, 0), (1, 1)] (S) (S) [((putDev s1.nxt D1 S), (putDev s1.nxt D1 S))] Y18 rfl au au au ?_
 refine DetHC.callE (v := R.pv) [(1, 2)] [((putDev s1.nxt D1 S), (putRef s2.nxt D1 (putDev s1.nxt D1 S)))] Y18 rfl au au au Y18 Y167 ?_
 refine DetHC.call [2] [(putRef s2.nxt D1 (putDev s1.nxt D1 S))] Y18 rfl au au au Y18 (fun s _ => ref3_Alike (a := R) (b := R) r1 r1) ?_
 refine DetHC.eff [(2, 2)] ((putRef s2.nxt D1 (putDev s1.nxt D1 S))) ((putRef s2.nxt D1 (putDev s1.nxt D1 S))) [] Y18 rfl au au au ?_
 refine DetHC.all (s1 := (putRef s2.nxt D1 (putDev s1.nxt D1 S))) [2] [(putRef s2.nxt D1 (putDev s1.nxt D1 S))] Y18 rfl au ?_
 refine rl [1, 2, 7, 8, 9, 55] (k := rc (ht := fun hc2 => ?_) (hf := fun hc2 => ?_))
 · cases hc2
 refine rk (k := rs (k := rs (k := ?_)))
 refine Run.drawC [] [1, 2, 7, 8, 9, 76] Tryz.mixed Y18 ?_
 refine DetC.pre (pre := [_, _, _, _, _]) au ?_
 refine DetC.gskip' au ?_
 refine DetC.gskip' au ?_
 refine DetC.gskip' au ?_
 refine DetC.gskip' au ?_
 refine DetC.gskip' au ?_
 refine DetC.gskip' au ?_
 refine DetC.gskip' au ?_
 refine DetC.gskip' au ?_
 refine DetC.gskip' au ?_
 refine DetC.gskip' au ?_
 refine DetC.gskip' au ?_
 refine DetC.gskip' au ?_
 refine DetC.gskip' au ?_
 refine DetC.gskip' au ?_
 refine DetC.gskip' au ?_
 refine DetC.all au ?_
 refine re (k := rc (ht := fun hc3 => ?_) (hf := fun hc3 => ?_))
 · cases hc3
 refine rk (k := rs (k := rr (k := ro (pre := [_, _, _, _]) (k := rC (h := ref3_Bytes hqo) (k := rh [1, 2, 7, 8, 9, 10] (k := rs (k := rs (k := ?_))))))))
 obtain ⟨⟨P2, D3⟩, hX3⟩ : ∃ Z, pduF D1 (bytesF q) = Z := ⟨_, rfl⟩
 have o3 : D3.ok := by have := (pduF_ok o1 (bytesF_okB hqo) bytesF_l).1; rwa [hX3] at this
 have n3 : D3.c0.length = D1.c0.length := by have := (pduF_ok o1 (bytesF_okB hqo) bytesF_l).2; rwa [hX3] at this
 have hP3 := hP1.step n3
 have hst2 : ((strB P2).toList == (strB P2).toList) = true := beq_self_eq_true _
 have H := aj hst2 H
 refine Run.drawH 14 [6, 10] [[false, false], [true, false], [true, true]] [(putRef s2.nxt D1 (putDev s1.nxt D1 S)), (putDev s1.nxt D3 (putRef s2.nxt D1 (putDev s1.nxt D1 S))), (putRef s2.nxt D3 (putDev s1.nxt D3 (putRef s2.nxt D1 (putDev s1.nxt D1 S))))] ((putRef s2.nxt D3 (putDev s1.nxt D3 (putRef s2.nxt D1 (putDev s1.nxt D1 S))))) Tryz.mixed Y18 Y18 Y18 Y18 Y18 rfl Y18 rfl ?_
 refine DetHC.pre (pre := [_, _, _, _]) (s1 := (putRef s2.nxt D1 (putDev s1.nxt D1 S))) [0] [(putRef s2.nxt D1 (putDev s1.nxt D1 S))] Y18 rfl au ?_
 refine DetHC.eff [(0, 0)] ((putRef s2.nxt D1 (putDev s1.nxt D1 S))) ((putRef s2.nxt D1 (putDev s1.nxt D1 S))) [] Y18 rfl au au au ?_
 refine DetHC.eff [(0, 0)] ((putRef s2.nxt D1 (putDev s1.nxt D1 S))) ((putRef s2.nxt D1 (putDev s1.nxt D1 S))) [] Y18 rfl au au au ?_
 refine DetHC.callE (v := .sl .unk (P2.map (PV.int .u8))) [(0, 1)] [((putRef s2.nxt D1 (putDev s1.nxt D1 S)), (putDev s1.nxt D3 (putRef s2.nxt D1 (putDev s1.nxt D1 S))))] Y18 rfl au au au Y18 (by intro q0 hq0; rw [List.mem_singleton.1 hq0]; exact device_PduL hX3 hP1.dev o1 (bytesF_okB hqo) bytesF_l) ?_
 refine DetHC.eff [(1, 1), (2, 2)] ((putDev s1.nxt D3 (putRef s2.nxt D1 (putDev s1.nxt D1 S)))) ((putDev s1.nxt D3 (putRef s2.nxt D1 (putDev s1.nxt D1 S)))) [((putRef s2.nxt D3 (putDev s1.nxt D3 (putRef s2.nxt D1 (putDev s1.nxt D1 S)))), (putRef s2.nxt D3 (putDev s1.nxt D3 (putRef s2.nxt D1 (putDev s1.nxt D1 S)))))] Y18 rfl au au au ?_
 refine DetHC.eff [(0, 0), (1, 1)] ((putRef s2.nxt D1 (putDev s1.nxt D1 S))) ((putRef s2.nxt D1 (putDev s1.nxt D1 S))) [((putDev s1.nxt D3 (putRef s2.nxt D1 (putDev s1.nxt D1 S))), (putDev s1.nxt D3 (putRef s2.nxt D1 (putDev s1.nxt D1 S))))] Y18 rfl au au au ?_
 refine DetHC.eff [(0, 0), (1, 1)] ((putRef s2.nxt D1 (putDev s1.nxt D1 S))) ((putRef s2.nxt D1 (putDev s1.nxt D1 S))) [((putDev s1.nxt D3 (putRef s2.nxt D1 (putDev s1.nxt D1 S))), (putDev s1.nxt D3 (putRef s2.nxt D1 (putDev s1.nxt D1 S))))] Y18 rfl au au au ?_
 refine DetHC.callE (v := .sl .unk (P2.map (PV.int .u8))) [(1, 2)] [((putDev s1.nxt D3 (putRef s2.nxt D1 (putDev s1.nxt D1 S))), (putRef s2.nxt D3 (putDev s1.nxt D3 (putRef s2.nxt D1 (putDev s1.nxt D1 S)))))] Y18 rfl au au au Y18 (by intro q0 hq0; rw [List.mem_singleton.1 hq0]; exact ref8_PduL hX3 hP1.mid o1 (bytesF_okB hqo) bytesF_l) ?_
 refine DetHC.eff [(2, 2)] ((putRef s2.nxt D3 (putDev s1.nxt D3 (putRef s2.nxt D1 (putDev s1.nxt D1 S))))) ((putRef s2.nxt D3 (putDev s1.nxt D3 (putRef s2.nxt D1 (putDev s1.nxt D1 S))))) [] Y18 rfl au au au ?_
 refine DetHC.eff [(2, 2)] ((putRef s2.nxt D3 (putDev s1.nxt D3 (putRef s2.nxt D1 (putDev s1.nxt D1 S))))) ((putRef s2.nxt D3 (putDev s1.nxt D3 (putRef s2.nxt D1 (putDev s1.nxt D1 S))))) [] Y18 rfl au au au ?_
 refine DetHC.all (s1 := (putRef s2.nxt D3 (putDev s1.nxt D3 (putRef s2.nxt D1 (putDev s1.nxt D1 S))))) [2] [(putRef s2.nxt D3 (putDev s1.nxt D3 (putRef s2.nxt D1 (putDev s1.nxt D1 S))))] Y18 rfl au ?_
 refine jO 1 ?_; rotate_left
 refine jO 2 ?_; rotate_left
 have hir2 : (i < rows.length) = False := eq_false hir
 have h33 : (Int.tmod (i : Int) 3 = 0) = False := eq_false h3
 have H := aj hir2 (aj h33 H)
 refine rs (k := rs (k := rg [1, 2, 7, 8, 9, 35] (k := rc (ht := fun hc1 => ?_) (hf := fun hc1 => ?_))))
 · refine rk (k := rs (k := rb (k := rs (k := rs (k := ?_)))))
   have hil : i < l.length := Y222
   have hi50 : i < 50 := Y222
   obtain ⟨q, hqe⟩ : ∃ z_, l[i]'hil = z_ := ⟨_, rfl⟩
   have hxq : (l.map Req.pv)[i]? = some (.agg [.int .i64 q.fn, .int .i64 q.at_, .int .i64 q.count, .int .i64 q.wat, .int .i64 q.sub, .sl .unk (q.bits.map PV.bool), .sl .unk (q.vals.map (PV.int .u16)), .int .u16 q.and_, .int .u16 q.or_]) := Y336
   have hqo : q.ok := hlq q Y282
   have hilT : (i < l.length) = True := eq_true hil
   obtain ⟨⟨R, D1⟩, hX⟩ : ∃ Z, doF D q = Z := ⟨_, rfl⟩
   have o1 : D1.ok := Y223
   have n1 : D1.c0.length = D.c0.length := Y224
   have r1 : R.ok := Y225
   have hP1 := hP.step n1
   have hw : IntKind.i64.wrap ((i : Int) + 1) = ((i + 1 : Nat) : Int) := Y20
   have H := aj hxq (aj hilT (aj hw H))
   refine Run.drawH 18 [8, 14] [[false, false], [true, false], [true, true]] [S, (putDev s1.nxt D1 S), (putRef s2.nxt D1 (putDev s1.nxt D1 S))] ((putRef s2.nxt D1 (putDev s1.nxt D1 S))) Tryz.mixed Y18 Y18 Y18 Y18 Y18 rfl Y18 rfl ?_
   refine DetHC.pre (pre := [_, _, _]) (s1 := S) [0] [S] Y18 rfl au ?_
   refine DetHC.eff [(0, 0)] (S) (S) [] Y18 rfl au au au ?_
   refine DetHC.eff [(0, 0)] (S) (S) [] Y18 rfl au au au ?_
   refine DetHC.eff [(0, 0)] (S) (S) [] Y18 rfl au au au ?_
   refine DetHC.eff [(0, 0)] (S) (S) [] Y18 rfl au au au ?_
   refine DetHC.eff [(0, 0)] (S) (S) [] Y18 rfl au au au ?_
   refine DetHC.callE (v := R.pv) [(0, 1)] [(S, (putDev s1.nxt D1 S))] Y18 rfl au au au Y18 Y166 ?_
   refine DetHC.eff [(0, 0), (1, 1)] (S) (S) [((putDev s1.nxt D1 S), (putDev s1.nxt D1 S))] Y18 rfl au au au ?_
   refine DetHC.eff [(0, 0), (1, 1)] (S) (S) [((putDev s1.nxt D1 S), (putDev s1.nxt D1 S))] Y18 rfl au au au ?_
   refine DetHC.eff [(0, 0), (1, 1)] (S) (S) [((putDev s1.nxt D1 S), (putDev s1.nxt D1 S))] Y18 rfl au au au ?_
   refine DetHC.eff [(0, 0), (1, 1)] (S) (S) [((putDev s1.nxt D1 S), (putDev s1.nxt D1 S))] Y18 rfl au au au ?_
   refine DetHC.eff [(0, 0), (1, 1)] (S) (S) [((putDev s1.nxt D1 S), (putDev s1.nxt D1 S))] Y18 rfl au au au ?_
   refine DetHC.callE (v := R.pv) [(1, 2)] [((putDev s1.nxt D1 S), (putRef s2.nxt D1 (putDev s1.nxt D1 S)))] Y18 rfl au au au Y18 Y167 ?_
   refine DetHC.call [2] [(putRef s2.nxt D1 (putDev s1.nxt D1 S))] Y18 rfl au au au Y18 (fun s _ => ref3_Alike (a := R) (b := R) r1 r1) ?_
   refine DetHC.eff [(2, 2)] ((putRef s2.nxt D1 (putDev s1.nxt D1 S))) ((putRef s2.nxt D1 (putDev s1.nxt D1 S))) [] Y18 rfl au au au ?_
   refine DetHC.all (s1 := (putRef s2.nxt D1 (putDev s1.nxt D1 S))) [2] [(putRef s2.nxt D1 (putDev s1.nxt D1 S))] Y18 rfl au ?_
   refine rl [1, 2, 7, 8, 9, 55] (k := rc (ht := fun hc2 => ?_) (hf := fun hc2 => ?_))
   · cases hc2
   · refine rk (k := rs (k := rs (k := ?_)))
     refine Run.drawC [] [1, 2, 7, 8, 9, 76] Tryz.mixed Y18 ?_
     refine DetC.pre (pre := [_, _, _, _, _]) au ?_
     refine DetC.gskip' au ?_
     refine DetC.gskip' au ?_
     refine DetC.gskip' au ?_
     refine DetC.gskip' au ?_
     refine DetC.gskip' au ?_
     refine DetC.gskip' au ?_
     refine DetC.gskip' au ?_
     refine DetC.gskip' au ?_
     refine DetC.gskip' au ?_
     refine DetC.gskip' au ?_
     refine DetC.gskip' au ?_
     refine DetC.gskip' au ?_
     refine DetC.gskip' au ?_
     refine DetC.gskip' au ?_
     refine DetC.gskip' au ?_
     refine DetC.all au ?_
     refine re (k := rc (ht := fun hc3 => ?_) (hf := fun hc3 => ?_))
     · cases hc3
     · refine rk (k := rs (k := rr (k := ro (pre := [_, _, _, _]) (k := rC (h := ref3_Bytes hqo) (k := rh [1, 2, 7, 8, 9, 10] (k := rs (k := rs (k := ?_))))))))
       refine Run.drawC [] [1, 2, 7, 8, 9, 98] Tryz.mixed Y18 ?_
       refine DetC.pre (pre := [_, _, _, _]) au ?_
       refine DetC.gskip' au ?_
       refine DetC.gskip' au ?_
       refine DetC.gskip' au ?_
       refine DetC.gskip' au ?_
       refine DetC.gskip' au ?_
       refine DetC.gskip' au ?_
       refine DetC.gskip' au ?_
       refine DetC.gskip' au ?_
       refine DetC.gskip' au ?_
       refine DetC.all au ?_
       refine re (k := rc (ht := fun hc4 => ?_) (hf := fun hc4 => ?_))
       · cases hc4
       · refine rk (k := rs (k := rr (k := ro (pre := [_, _, _, _, _, _]) (k := rG (h := fun hb => law9_same o1 hP1.dev hP1.ref) (k := rh [1, 2, 7, 8, 9, 107] (k := rc (ht := fun hc5 => ?_) (hf := fun hc5 => ?_)))))))
         · cases hc5
         · refine rk (k := rB (k := rg [1, 2, 7, 8, 9] (k := ?_)))
           refine Run.lp ⟨⟨i + 1, D1, rfl, Y14, o1, hP1⟩, ?_⟩
           simp only [ivar, go_sem, ↓reduceIte, Nat.reduceEqDiff]
           omega
 refine jO 2 ?_; rotate_left
 any_goals
   refine jI 1 ?_
   refine rl [1, 2, 7, 8, 9, 98] (k := rc (ht := fun hc4 => ?_) (hf := fun hc4 => ?_))
   · cases hc4
   refine jO 3 ?_; rotate_left
 any_goals
   refine jI 3 ?_
   refine rk (k := rs (k := rr (k := ro (pre := [_, _, _, _, _, _]) (k := rG (h := fun hb => law9_same o3 hP3.dev hP3.ref) (k := rh [1, 2, 7, 8, 9, 107] (k := rc (ht := fun hc5 => ?_) (hf := fun hc5 => ?_)))))))
   · cases hc5
   refine jO 4 ?_; rotate_left
 any_goals
   refine jI 2 ?_
   refine rX (k := rs (k := rr (k := ro (pre := [_, _, _, _, _]) (k := rG (h := fun hb => law9_same oD hP.dev hP.ref) (k := rh [6] (k := rR (k := ?_)))))))
   refine jO 5 ?_; rotate_left
 any_goals
   refine jI 5 ?_
   exact Ret.pure (r' := .bool true) (by simp only [Tryz.f5, go_sem, ↓reduceIte] <;> rfl) (by simp only [PV.weak]) Y308 hwf (fun i hi => hP.low i Y14) ⟨rfl, rfl⟩
 any_goals
   refine jI 4 ?_
   refine rk (k := rB (k := rg [1, 2, 7, 8, 9] (k := ?_)))
   refine jO 6 ?_; rotate_left
 any_goals
   refine jI 6 ?_
   refine Run.lp ⟨⟨i + 1, D3, rfl, Y14, o3, hP3⟩, ?_⟩
   simp only [ivar, go_sem, ↓reduceIte, Nat.reduceEqDiff]
   omega
theorem law9_play {n : Int} {l : List Req} (hlq : ∀ q ∈ l, q.ok) (hln : l.length < 140737488355328) {rows : List (List Int)} (hrn : rows.length < 140737488355328) (hrows : ∀ r ∈ rows, OkB r ∧ r.length ≤ 140737488351232) {s : St} : ACalls Tryz.prog 5 [.int .i64 n, .sl .unk (l.map Req.pv), .sl .unk (rows.map (fun l : List Int => PV.sl .unk (l.map (PV.int .u8))))] s (fun r s' => r = .bool true ∧ s' = s) := by
 by_cases h : n < 1 ∨ 65536 < n
 · exact law9_playBad h hlq hln hrn hrows
 · obtain ⟨m, rfl⟩ : ∃ m : Nat, n = m := ⟨n.toNat, Y14⟩
   exact law9_playOk Y14 Y14 hlq hln hrn hrows
end Go.Proofs
namespace Go.Proofs
open Go.PM
set_option maxHeartbeats 2000000
theorem isEls_snoc {P : Program} {e : TypeId} {a b : List PV} (h : isEls P e a) (k : isEls P e b) : isEls P e (a ++ b) := fun p hp => (List.mem_append.1 hp).elim (h p) (k p)
theorem weaks_snoc {a b : List PV} : PV.weaks (a ++ b) = PV.weaks a ++ PV.weaks b := by
 induction a with
 | nil => rfl
 | cons x l ih => simp only [List.cons_append, PV.weaks, ih]
theorem weaks_reqs (qs : List Req) : PV.weaks (qs.map Req.pv) = qs.map Req.pv := weaks_map_id Req.pv weak_req _
theorem weaks_rows (rows : List (List Int)) : PV.weaks (rows.map (fun l : List Int => PV.sl .unk (l.map (PV.int .u8)))) = rows.map (fun l : List Int => PV.sl .unk (l.map (PV.int .u8))) := weaks_map_id _ (fun l => by simp only [PV.weak, weaks_u8]) _
structure ReqsAt (s0 s' : St) (kk : SK) (els : List PV) (qs : List Req) : Prop where
 wk : PV.weaks els = qs.map Req.pv
 el : isEls Tryz.prog 33 els
 ln : els.length = qs.length
 ok : ∀ q ∈ qs, q.ok
 fr : Fr s0 s'
 gr : Grows s' kk els.length (Tryz.prog.cellsOf 33)
 tk : ∀ t z, kk = .tok t z → s0.nxt ≤ t ∧ t < s'.nxt
theorem ReqsAt.snoc {s0 s1 s2 s3 : St} {kk k' : SK} {els : List PV} {qs : List Req} {el : PV} {q : Req} (h : ReqsAt s0 s1 kk els qs) (hel : isEls Tryz.prog 33 [el]) (hw : el.weak = q.pv) (hq : q.ok) (h12 : s1.nxt ≤ s2.nxt) (f2 : Fr s0 s2)
   (hg : Grows s3 k' (els.length + [el].length) (Tryz.prog.cellsOf 33)) (htm : TMoves s2 s3 kk k') : ReqsAt s0 s3 k' (els ++ [el]) (qs ++ [q]) := by
 refine ⟨by rw [weaks_snoc, h.wk, List.map_append]; simp only [PV.weaks, hw, List.map_cons, List.map_nil], isEls_snoc h.el hel, by rw [List.length_append, List.length_append, h.ln]; rfl, fun y hy => ?_, f2.tm htm (fun t z e => (h.tk t z e).1), by rw [List.length_append]; exact hg, fun t z e => ?_⟩
 · rcases List.mem_append.1 hy with hy | hy
   · exact h.ok y hy
   · rw [List.mem_singleton.1 hy]; exact hq
 · have h9 := htm.nxt
   have h8 := f2.nxt
   rcases htm.fresh t z e with ⟨z', h'⟩ | ⟨h1, h2⟩
   · have := h.tk t z' h'; omega
   · omega
theorem Grows.over {s s' : St} {k : SK} {n z : Nat} (h : Grows s k n z) (f : ∀ t, k = .tok t z → s'.blk t = s.blk t) : Grows s' k n z := h.mono f
attribute [local go_sem] set_set weaks_reqs weaks_rows weaks_bools weaks_u16 Req.pv
end Go.Proofs
namespace Go.Proofs
open Go.PM
set_option maxHeartbeats 2000000
def nsA : List Int := [0, 1, 121, 122, 123, 124, 125, 126, 1968, 1969, 2000, 2001]
theorem Y168 {p : Prop} (h : p := by rw [List.getElem?_map, List.getElem?_eq_getElem h2, Int.toNat_of_nonneg h4.1]; rfl) : p := h
theorem nsA_get {u : Nat} (h : u < 12) : ∃ f : Nat, (nsA.map (PV.int .i64))[u]? = some (.int .i64 (f : Int)) ∧ f ≤ 2001 := by
 have h2 : u < nsA.length := by show u < 12; omega
 have h3 : ∀ x ∈ nsA, 0 ≤ x ∧ x ≤ 2001 := Y15
 have h4 := h3 _ (List.getElem_mem h2)
 exact ⟨(nsA[u]).toNat, Y168, Y14⟩
def nsB : List Int := [1, 2, 3, 4]
theorem nsB_get {u : Nat} (h : u < 4) : ∃ f : Nat, (nsB.map (PV.int .i64))[u]? = some (.int .i64 (f : Int)) ∧ f ≤ 2001 := by
 have h2 : u < nsB.length := by show u < 4; omega
 have h3 : ∀ x ∈ nsB, 0 ≤ x ∧ x ≤ 2001 := Y15
 have h4 := h3 _ (List.getElem_mem h2)
 exact ⟨(nsB[u]).toNat, Y168, Y14⟩
def nsC : List Int := [0, 1, 121, 122, 123, 124, 1968, 1969]
theorem nsC_get {u : Nat} (h : u < 8) : ∃ f : Nat, (nsC.map (PV.int .i64))[u]? = some (.int .i64 (f : Int)) ∧ f ≤ 2001 := by
 have h2 : u < nsC.length := by show u < 8; omega
 have h3 : ∀ x ∈ nsC, 0 ≤ x ∧ x ≤ 2001 := Y15
 have h4 := h3 _ (List.getElem_mem h2)
 exact ⟨(nsC[u]).toNat, Y168, Y14⟩
theorem weaks_repB (n : Nat) : PV.weaks (List.replicate n (.bool false)) = List.replicate n (.bool false) := by
 have := weaks_bools (List.replicate n false)
 rwa [List.map_replicate] at this
theorem weaks_repU (n : Nat) : PV.weaks (List.replicate n (.int .u16 0)) = List.replicate n (.int .u16 0) := by
 have := weaks_u16 (List.replicate n 0)
 rwa [List.map_replicate] at this
theorem qn_ok {fn count : Int} {bits : List Bool} {vals : List Int} (h1 : 0 ≤ fn ∧ fn ≤ 255) (h2 : 0 ≤ count ∧ count ≤ 2001) (h3 : bits.length ≤ 2001) (h4 : vals.length ≤ 2001) (h5 : OkW vals) : (⟨fn, 0, count, 0, 0, bits, vals, 0, 0⟩ : Req).ok :=
 ⟨by show I64 fn; constructor <;> omega, zI, by show I64 count; constructor <;> omega, zI, zI, h5, zU, zU, by show bits.length ≤ _; omega, Y357⟩
theorem okW_rep (n : Nat) : OkW (List.replicate n 0) := fun x hx => by rw [(List.mem_replicate.1 hx).2]; exact zU
attribute [local go_sem] weaks_repB weaks_repU weaks_reqs weaks_bools weaks_u16 Req.pv List.map_cons List.map_nil List.map_replicate
set_option maxRecDepth 100000 in
theorem law9_Numbers {s : St} : ACalls Tryz.prog 3 [] s (fun r s' => r = .bool true ∧ s' = s) := by
 refine go Tryz.func3 (k := fun hwf H => ?_)
 have hone : ∀ el : PV, el.ok = true → el.cells.length = 9 → isEls Tryz.prog 33 [el] := fun el h1 h2 p hp => by rw [List.mem_singleton.1 hp]; exact ⟨h1, by rw [Tryz.cz33]; exact h2⟩
 refine rs (k := rg [] (k := rs (k := rs (k := rg [1] (k := rb (k := ?_))))))
 refine Run.loop (fun e s' => s' = s ∧ ∃ k : Nat, e = [(1, .int .i64 (k : Int))] ∧ 1 ≤ k ∧ k ≤ 30) (fun e s' => 30 - ivar e 1) ?_ ?_
 · exact ⟨rfl, 1, rfl, Y15, Y15⟩
 rintro e s' ⟨hs, k, rfl, hk1, hk⟩
 subst s'
 refine rs (k := rs (k := rg [1, 10] (k := rc (ht := fun hc0 => ?_) (hf := fun hc0 => ?_))))
 · refine rk (k := rs (k := rb (k := rs (k := ?_))))
   have hkl : (k : Int) < 30 := of_decide_eq_true hc0
   have hw : IntKind.i64.wrap ((k : Int) + 1) = ((k + 1 : Nat) : Int) := Y20
   have hwk : IntKind.u8.wrap (k : Int) = k := Y141
   have hwk2 : (k : Int) % 256 = k := Y14
   have hw128 : IntKind.i64.wrap (128 + (k : Int)) = 128 + k := wrap_i64 Y14
   have hu128 : IntKind.u8.wrap (128 + (k : Int)) = 128 + k := Y141
   have hu129 : (128 + (k : Int)) % 256 = 128 + k := Y14
   have hrw : ∀ r ∈ [[(k : Int)], [], [1, 2, 3], [128 + (k : Int), 0]], OkB r ∧ r.length ≤ 140737488351232 := by
     intro r hr
     simp only [List.mem_cons, List.not_mem_nil, or_false] at hr
     rcases hr with rfl | rfl | rfl | rfl
     · exact ⟨OkB.cons ⟨Y14, Y14⟩ OkB.nil, Y70⟩
     · exact ⟨OkB.nil, Y70⟩
     · exact ⟨by intro x hx; simp only [List.mem_cons, List.not_mem_nil, or_false] at hx; rcases hx with rfl | rfl | rfl <;> constructor <;> omega, Y70⟩
     · exact ⟨OkB.cons ⟨Y14, Y14⟩ (OkB.cons ⟨Y14, Y14⟩ OkB.nil), Y70⟩
   have H := aj hw (aj hwk (aj hwk2 (aj hw128 (aj hu128 (aj hu129 H)))))
   refine rr (k := ro (pre := [_, _, _]) (k := ?_))
   refine RunO.callw au au au Y18 ((law9_tape).mono ?_)
   rintro r s9 ⟨t0, rfl, ht0, hs⟩
   subst s9
   refine RunO.callw au au au Y18 ((law9_requests (n := 30) Y14 Y15).mono ?_)
   rintro r s9 ⟨qs1, rfl, hq1, ho1, hs⟩
   subst s9
   refine ro (pre := [_, _]) (k := rO (k := rO (k := ro (pre := [_, _, _]) (k := rO (k := rO (k := ?_))))))
   refine RunO.callw au au au Y18 ((law9_play (rows := [[(k : Int)], [], [1, 2, 3], [128 + (k : Int), 0]]) ho1 Y14 Y70 hrw).mono ?_)
   rintro r s9 ⟨rfl, hs⟩
   subst s9
   refine rh [1, 28] (k := rc (ht := fun hc1 => ?_) (hf := fun hc1 => ?_))
   · cases hc1
   · refine rk (k := rB (k := rg [1] (k := ?_)))
     refine Run.lp ⟨⟨rfl, k + 1, rfl, Y14, Y14⟩, ?_⟩
     simp only [ivar, go_sem, ↓reduceIte, Nat.reduceEqDiff]
     omega
 · refine rX (k := rs (k := rg [2] (k := rs (k := rs (k := rr (k := rO (k := rh [2, 29, 30, 31] (k := rb (k := ?_)))))))))
   refine Run.loop (fun e s' => ∃ (i : Nat) (qs : List Req) (els : List PV) (kk : SK), e = [(2, .sl kk els), (29, .sl .clip [.int .i64 0, .int .i64 1, .int .i64 121, .int .i64 122, .int .i64 123, .int .i64 124, .int .i64 125, .int .i64 126, .int .i64 1968, .int .i64 1969, .int .i64 2000, .int .i64 2001]), (30, .int .i64 12), (31, .int .i64 (i : Int))] ∧ i ≤ 12 ∧ qs.length = 4 * i ∧ ReqsAt s s' kk els qs) (fun e s' => 12 - ivar e 31) ?_ ?_
   · exact ⟨0, [], [], .nil, rfl, Y15, rfl, rfl, (fun p hp => by cases hp), rfl, fun q hq => (List.not_mem_nil hq).elim, Fr.refl hwf, .inl ⟨rfl, rfl⟩, fun t z e => Y69⟩
   rintro e s1 ⟨i, qs, els, kk, rfl, hi, hql, hF⟩
   refine rs (k := rg [2, 29, 30, 31, 32] (k := rs (k := rc (ht := fun hc2 => ?_) (hf := fun hc2 => ?_))))
   · refine rk (k := rs (k := rb (k := rs (k := ?_))))
     have hil : (i : Int) < 12 := of_decide_eq_true hc2
     have hwi : IntKind.i64.wrap ((i : Int) + 1) = ((i + 1 : Nat) : Int) := Y20
     obtain ⟨n, hv, hn⟩ := nsA_get (u := i) Y14
     simp only [nsA, List.map_cons, List.map_nil] at hv
     have hi12 : ((i : Int) < 12) = True := eq_true hil
     have H := aj hwi (aj hv (aj hi12 H))
     refine rg [2, 4, 29, 30, 31] (k := rs (k := rr (k := rO (k := rh [2, 4, 29, 30, 31, 35, 36, 37] (k := rb (k := ?_))))))
     refine Run.loop (fun e s' => ∃ (j : Nat) (qs : List Req) (els : List PV) (kk : SK), e = [(2, .sl kk els), (4, .int .i64 (n : Int)), (29, .sl .clip [.int .i64 0, .int .i64 1, .int .i64 121, .int .i64 122, .int .i64 123, .int .i64 124, .int .i64 125, .int .i64 126, .int .i64 1968, .int .i64 1969, .int .i64 2000, .int .i64 2001]), (30, .int .i64 12), (31, .int .i64 (i : Int)), (35, .sl .clip [.int .i64 1, .int .i64 2, .int .i64 3, .int .i64 4]), (36, .int .i64 4), (37, .int .i64 (j : Int))] ∧ j ≤ 4 ∧ qs.length = 4 * i + j ∧ ReqsAt s s' kk els qs) (fun e s' => 4 - ivar e 37) ?_ ?_
     · exact ⟨0, qs, els, kk, rfl, Y15, hql, hF⟩
     rintro e s1 ⟨j, qs, els, kk, rfl, hj, hql, hF⟩
     refine rs (k := rg [2, 4, 29, 30, 31, 35, 36, 37, 38] (k := rs (k := rc (ht := fun hc3 => ?_) (hf := fun hc3 => ?_))))
     · refine rk (k := rs (k := rb (k := rs (k := ?_))))
       have hjl : (j : Int) < 4 := of_decide_eq_true hc3
       have hwj : IntKind.i64.wrap ((j : Int) + 1) = ((j + 1 : Nat) : Int) := Y20
       obtain ⟨f, hvf, hfn⟩ := nsB_get (u := j) Y14
       simp only [nsB, List.map_cons, List.map_nil] at hvf
       have hf4 : f ≤ 4 := by
         have hj : j = 0 ∨ j = 1 ∨ j = 2 ∨ j = 3 := Y14
         rcases hj with rfl | rfl | rfl | rfl <;> simp at hvf <;> omega
       have hj4 : ((j : Int) < 4) = True := eq_true hjl
       have H := aj hwj (aj hvf (aj hj4 H))
       refine rg [2, 4, 6, 29, 30, 31, 35, 36, 37] (k := rr (k := ro (pre := [_, _, _, _]) (k := rO (k := ?_))))
       refine RunO.grow (xs := els) (ys := [_]) au au au Tryz.td23 (by rw [Tryz.zp33]; rfl) hF.el (hone _ (by rfl) (by rfl)) (by rw [Tryz.by33]; decide) (by rw [Tryz.by33]; simp; have := hF.ln; omega) (hF.gr.mono fun t e => by have := hF.tk _ _ e; simp (disch := first | omega | (simp only [nxt_set, nxt_new] <;> omega) | fail) only [go_sem]) Y70 ?_
       intro k' s3 hgr' htm
       refine rh [2, 4, 29, 30, 31, 35, 36, 37] (k := rB (k := rg [2, 4, 29, 30, 31, 35, 36, 37] (k := ?_)))
       refine Run.lp ⟨⟨j + 1, qs ++ [⟨(f : Int), 0, (n : Int), 0, 0, [], [], 0, 0⟩], _, k', rfl, Y14, by rw [List.length_append]; simp; omega, hF.snoc (hone _ (by rfl) (by rfl)) (by simp only [PV.weak, PV.weaks, Req.pv, List.map_nil]) (qn_ok Y14 Y14 Y70 Y70 zW) (Nat.le_refl _) hF.fr hgr' htm⟩, ?_⟩
       simp only [ivar, go_sem, ↓reduceIte, Nat.reduceEqDiff]
       omega
     · refine rX (k := rB (k := rg [2, 29, 30, 31] (k := ?_)))
       have hj4 : j = 4 := by have := of_decide_eq_false hc3; omega
       refine Run.lp ⟨⟨i + 1, qs, els, kk, rfl, Y14, Y14, hF⟩, ?_⟩
       simp only [ivar, go_sem, ↓reduceIte, Nat.reduceEqDiff]
       omega
   · refine rX (k := rs (k := rs (k := rr (k := rO (k := rh [2, 49, 50, 51] (k := rb (k := ?_)))))))
     refine Run.loop (fun e s' => s' = s1 ∧ ∃ w : Nat, e = [(2, .sl kk els), (49, .sl .clip [.int .i64 0, .int .i64 1, .int .i64 121, .int .i64 122, .int .i64 123, .int .i64 124, .int .i64 1968, .int .i64 1969]), (50, .int .i64 8), (51, .int .i64 (w : Int))] ∧ w ≤ 8) (fun e s' => 8 - ivar e 51) ?_ ?_
     · exact ⟨rfl, 0, rfl, Y15⟩
     rintro e s' ⟨hs, w, rfl, hw8⟩
     subst s'
     refine rs (k := rg [2, 49, 50, 51, 52] (k := rs (k := rc (ht := fun hc4 => ?_) (hf := fun hc4 => ?_))))
     · refine rk (k := rs (k := rb (k := rs (k := ?_))))
       have hwl : (w : Int) < 8 := of_decide_eq_true hc4
       have hww : IntKind.i64.wrap ((w : Int) + 1) = ((w + 1 : Nat) : Int) := Y20
       obtain ⟨n, hv, hn⟩ := nsC_get (u := w) Y14
       simp only [nsC, List.map_cons, List.map_nil] at hv
       have hi8 : ((w : Int) < 8) = True := eq_true hwl
       obtain ⟨m, hm, hm1⟩ : ∃ m : Nat, (if (127 : Int) < (n : Int) then (127 : Int) else (n : Int)) = (m : Int) ∧ m ≤ 127 := by
         by_cases h : (127 : Int) < (n : Int)
         · exact ⟨127, by rw [if_pos h]; rfl, Y15⟩
         · exact ⟨n, by rw [if_neg h], Y14⟩
       have H := aj hww (aj hv (aj hi8 (aj hm H)))
       refine rg [2, 8, 49, 50, 51] (k := rs (k := ?_))
       refine Run.drawCut 16 [] Tryz.mixed Y18 Y18 ?_
       refine DetC.pre (pre := [_, _]) au ?_
       refine DetC.makeL (n := n) au au au Tryz.td29 Y345 Y14 Y254 ?_
       refine DetC.pre (pre := [_, _, _]) au ?_
       refine DetC.makeL (n := n) au au au Tryz.td30 Y253 Y14 Y192 ?_
       refine DetC.pre (pre := [_, _, _]) au ?_
       refine DetC.makeL (n := m) au au au Tryz.td30 Y253 Y14 Y192 ?_
       refine DetC.pre (pre := [_, _]) au ?_
       refine DetC.makeL (n := 1) au au au Tryz.td30 Y253 Y14 Y192 ?_
       refine DetC.all au ?_
       refine RunO.callw au au au Y18 ((law9_play (l := [⟨15, 0, (n : Int), 0, 0, List.replicate n false, [], 0, 0⟩, ⟨16, 0, (n : Int), 0, 0, [], List.replicate n 0, 0, 0⟩, ⟨23, 0, 1, 0, 0, [], List.replicate m 0, 0, 0⟩, ⟨23, 0, (n : Int), 0, 0, [], List.replicate 1 0, 0, 0⟩]) (rows := []) (by intro q hq; simp only [List.mem_cons, List.not_mem_nil, or_false] at hq; rcases hq with rfl | rfl | rfl | rfl <;> exact qn_ok Y15 (by first | decide | omega) Y335 Y335 (by first | exact zW | exact okW_rep _)) Y70 Y15 (fun r hr => (List.not_mem_nil hr).elim)).mono ?_)
       rintro r s9 ⟨rfl, hs⟩
       subst s9
       refine rh [2, 49, 50, 51, 72] (k := rc (ht := fun hc5 => ?_) (hf := fun hc5 => ?_))
       · cases hc5
       · refine rk (k := rB (k := rg [2, 49, 50, 51] (k := ?_)))
         refine Run.lp ⟨⟨rfl, w + 1, rfl, Y14⟩, ?_⟩
         simp only [ivar, go_sem, ↓reduceIte, Nat.reduceEqDiff]
         omega
     · refine rX (k := rs (k := rr (k := ro (pre := [_]) (k := ?_))))
       have hwk0 := hF.wk
       have H := aj hwk0 H
       refine RunO.callw au au au Y18 ((law9_play (l := qs) (rows := []) hF.ok Y14 Y15 (fun r hr => (List.not_mem_nil hr).elim)).mono ?_)
       rintro r s9 ⟨rfl, hs⟩
       subst s9
       refine ro (pre := [_]) (k := rQ 76 (ht := fun hg2 => ?_) (hf := fun hg2 => ?_))
       · refine RunO.callw au au au Y18 ((law9_play (l := []) (rows := []) (fun q hq => (List.not_mem_nil hq).elim) Y15 Y15 (fun r hr => (List.not_mem_nil hr).elim)).mono ?_)
         rintro r s9 ⟨rfl, hs⟩
         subst s9
         refine ro (pre := [_, _]) (k := rQ 79 (ht := fun hg5 => ?_) (hf := fun hg5 => ?_))
         · refine RunO.callw au au au Y18 ((law9_known).mono ?_)
           rintro r s9 ⟨rfl, hs⟩
           subst s9
           refine rh [0] (k := rR (k := ?_))
           refine Ret.pure (by simp only [Tryz.f3, go_sem] <;> rfl) rfl (by simp only [go_sem, reduceCtorEq, false_implies, implies_true]) hwf (by first | exact (hF.fr).blk) ⟨?_, rfl⟩
           · rfl
         · cases hg5
       · cases hg2
end Go.Proofs

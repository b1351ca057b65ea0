import Derived.Test.YtaojhcbodijpbaaGreatB4
import Derived.Test.YtaojhcbodijpbaaGreatB1
set_option linter.unusedVariables false
set_option linter.unusedSimpArgs false
namespace Go.Proofs
open Go.PM
set_option maxHeartbeats 2000000
theorem store_NewBad {n : Int} (h : n < 1 ∨ 65536 < n) {s : St} : ACalls Tryz.prog 24 [.int .i64 n] s (fun r s' => r = .nilp ∧ s' = s) := by
 refine go Tryz.func24 (k := fun hwf H => ?_)
 refine rs (k := rg [0] (k := rs (k := rs (k := rg [0, 10] (k := rc (ht := fun hc0 => ?_) (hf := fun hc0 => ?_))))))
 · exact Y273
 · exact Y154
theorem device_NewBad {n : Int} (h : n < 1 ∨ 65536 < n) {s : St} : ACalls Tryz.prog 9 [.int .i64 n] s (fun r s' => r = .nilp ∧ s' = s) := by
 refine go Tryz.func9 (k := fun hwf H => ?_)
 refine rs (k := rg [0] (k := rs (k := rr (k := ro (pre := [_]) (k := rC (h := store_NewBad h) (k := rh [3] (k := rs (k := rs (k := rg [3, 7] (k := rc (ht := fun hc0 => ?_) (hf := fun hc0 => ?_)))))))))))
 · exact Y274
 · cases hc0
theorem Y109 {p : Prop} (h : p := by
 refine rs (k := rg [4] (k := rR (k := ?_)))
 refine Ret.pureK (r := .sl .nil []) au Y82 hwf (fun _ _ => rfl) ⟨rfl, rfl⟩) : p := h
theorem store_fn0 {st : Nat} {s : St} : ACalls Tryz.prog 53 [.ptr st 0 0, .int .i64 0] s (fun r s' => r = .sl .nil [] ∧ s' = s) := by
 refine go Tryz.func53 (k := fun hwf H => ?_)
 refine rs (k := rg [0, 1] (k := rs (k := rs (k := rg [0, 1, 10] (k := rc (ht := fun hc0 => ?_) (hf := fun hc0 => ?_))))))
 · exact Y109
 · cases hc0
theorem Y110 {p : Prop} (h : p := by
 refine rs (k := rg [8, 9] (k := rR (k := ?_)))
 exact Ret.pure (r' := .tuple [.sl .unk [], .bool false]) Y149 rfl Y161 hwf (fun _ _ => rfl) ⟨rfl, rfl⟩) : p := h
theorem store_gn0 {st : Nat} {a m : Int} {s : St} : ACalls Tryz.prog 20 [.ptr st 0 0, .int .i64 0, .int .i64 a, .int .i64 m] s (fun r s' => r = .tuple [.sl .unk [], .bool false] ∧ s' = s) := by
 refine go Tryz.func20 (k := fun hwf H => ?_)
 refine rs (k := rg [0, 1, 2, 3] (k := rs (k := rr (k := ro (pre := [_, _]) (k := rC (h := store_fn0) (k := rh [0, 2, 3, 10] (k := rs (k := rs (k := rr (k := ro (pre := [_, _, _]) (k := rg0 (k := rg0 (k := rg0 (k := rg0 (k := rg0 (k := rh [2, 3, 10, 22] (k := rc (ht := fun hc0 => ?_) (hf := fun hc0 => ?_))))))))))))))))))
 · exact Y110
 · cases hc0
theorem store_fn1 {st : Nat} {s : St} : ACalls Tryz.prog 53 [.ptr st 0 0, .int .i64 1] s (fun r s' => r = .sl .nil [] ∧ s' = s) := by
 refine go Tryz.func53 (k := fun hwf H => ?_)
 refine rs (k := rg [0, 1] (k := rs (k := rs (k := rg [0, 1, 10] (k := rc (ht := fun hc0 => ?_) (hf := fun hc0 => ?_))))))
 · exact Y109
 · cases hc0
theorem store_gn1 {st : Nat} {a m : Int} {s : St} : ACalls Tryz.prog 20 [.ptr st 0 0, .int .i64 1, .int .i64 a, .int .i64 m] s (fun r s' => r = .tuple [.sl .unk [], .bool false] ∧ s' = s) := by
 refine go Tryz.func20 (k := fun hwf H => ?_)
 refine rs (k := rg [0, 1, 2, 3] (k := rs (k := rr (k := ro (pre := [_, _]) (k := rC (h := store_fn1) (k := rh [0, 2, 3, 10] (k := rs (k := rs (k := rr (k := ro (pre := [_, _, _]) (k := rg0 (k := rg0 (k := rg0 (k := rg0 (k := rg0 (k := rh [2, 3, 10, 22] (k := rc (ht := fun hc0 => ?_) (hf := fun hc0 => ?_))))))))))))))))))
 · exact Y110
 · cases hc0
theorem store_fn2 {st : Nat} {s : St} : ACalls Tryz.prog 91 [.ptr st 0 0, .int .i64 2] s (fun r s' => r = .sl .nil [] ∧ s' = s) := by
 refine go Tryz.func91 (k := fun hwf H => ?_)
 refine rs (k := rg [0, 1] (k := rs (k := rs (k := rg [0, 1, 10] (k := rc (ht := fun hc0 => ?_) (hf := fun hc0 => ?_))))))
 · exact Y109
 · cases hc0
theorem Y111 {p : Prop} (h : p := by
 refine rs (k := rg [8, 9] (k := rR (k := ?_)))
 exact Ret.pure (r' := .tuple [.sl .unk [], .bool false]) Y148 rfl Y161 hwf (fun _ _ => rfl) ⟨rfl, rfl⟩) : p := h
theorem store_gn2 {st : Nat} {a m : Int} {s : St} : ACalls Tryz.prog 49 [.ptr st 0 0, .int .i64 2, .int .i64 a, .int .i64 m] s (fun r s' => r = .tuple [.sl .unk [], .bool false] ∧ s' = s) := by
 refine go Tryz.func49 (k := fun hwf H => ?_)
 refine rs (k := rg [0, 1, 2, 3] (k := rs (k := rr (k := ro (pre := [_, _]) (k := rC (h := store_fn2) (k := rh [0, 2, 3, 10] (k := rs (k := rs (k := rr (k := ro (pre := [_, _, _]) (k := rg0 (k := rg0 (k := rg0 (k := rg0 (k := rg0 (k := rh [2, 3, 10, 22] (k := rc (ht := fun hc0 => ?_) (hf := fun hc0 => ?_))))))))))))))))))
 · exact Y111
 · cases hc0
theorem store_fn3 {st : Nat} {s : St} : ACalls Tryz.prog 91 [.ptr st 0 0, .int .i64 3] s (fun r s' => r = .sl .nil [] ∧ s' = s) := by
 refine go Tryz.func91 (k := fun hwf H => ?_)
 refine rs (k := rg [0, 1] (k := rs (k := rs (k := rg [0, 1, 10] (k := rc (ht := fun hc0 => ?_) (hf := fun hc0 => ?_))))))
 · exact Y109
 · cases hc0
theorem store_gn3 {st : Nat} {a m : Int} {s : St} : ACalls Tryz.prog 49 [.ptr st 0 0, .int .i64 3, .int .i64 a, .int .i64 m] s (fun r s' => r = .tuple [.sl .unk [], .bool false] ∧ s' = s) := by
 refine go Tryz.func49 (k := fun hwf H => ?_)
 refine rs (k := rg [0, 1, 2, 3] (k := rs (k := rr (k := ro (pre := [_, _]) (k := rC (h := store_fn3) (k := rh [0, 2, 3, 10] (k := rs (k := rs (k := rr (k := ro (pre := [_, _, _]) (k := rg0 (k := rg0 (k := rg0 (k := rg0 (k := rg0 (k := rh [2, 3, 10, 22] (k := rc (ht := fun hc0 => ?_) (hf := fun hc0 => ?_))))))))))))))))))
 · exact Y111
 · cases hc0
attribute [local go_sem] weaks_bools
set_option maxRecDepth 100000 in
theorem law9_same {b c : Nat} {D : Dev} (hD : D.ok) {s : St} (hA : DevAt b D s) (hR : RefAt c D s) : ACalls Tryz.prog 17 [.ptr (b + 5) 0 0, .ptr (c + 5) 0 0] s (fun r s' => r = .bool true ∧ s' = s) := by
 refine go Tryz.func17 (k := fun hwf H => ?_)
 have hdv := hA.dv
 unfold devRow at hdv
 have hrv := hR.dv
 unfold refRow at hrv
 have hrs := hR.st
 unfold rstRow at hrs
 have hd2 : D.c0.length ≤ 65536 := hD.h2
 have hd3 := hD.c1
 have hd4 := hD.v0
 have hd5 := hD.v1
 have h1 : (1 : Int) ≤ (D.c0.length : Int) := by have := hD.h1; omega
 have nlen : ∀ {α : Type} (l : List α), l.length = D.c0.length → (cutF l 0 (D.c0.length : Int)).length < 140737488355328 := fun l hl => by have := cutF_len l 0 (D.c0.length : Int); omega
 have H := aj hdv (aj hrv (aj hrs H))
 refine rs (k := rg [0, 1] (k := rs (k := rr (k := ro (pre := [_]) (k := rC (h := device_Counts hA) (k := rh [0, 1, 5, 6] (k := rs (k := rs (k := rr (k := ro (pre := [_, _, _, _, _, _, _, _, _, _, _, _, _, _, _, _]) (k := rG (h := fun hb => device_Store hA) (k := rh [0, 1, 39] (k := rc (ht := fun hc0 => ?_) (hf := fun hc0 => ?_))))))))))))))
 · cases hc0
 · refine rk (k := rs (k := rs (k := rg [0, 1, 7] (k := rb (k := ?_)))))
   refine Run.loop (fun e s' => s' = s ∧ ∃ i : Nat, i ≤ 4 ∧ e = [(0, .ptr (b + 5) 0 0), (1, .ptr (c + 5) 0 0), (7, .int .i64 (i : Int))]) (fun e s' => 4 - ivar e 7) ?_ ?_
   · exact ⟨rfl, 0, Y15, rfl⟩
   rintro e s' ⟨hs, i, hi, rfl⟩
   subst s'
   obtain rfl | rfl | rfl | rfl | rfl : i = 0 ∨ i = 1 ∨ i = 2 ∨ i = 3 ∨ i = 4 := Y14
   · refine rs (k := rs (k := rg [0, 1, 7, 41] (k := rc (ht := fun hc1 => ?_) (hf := fun hc1 => ?_))))
     · refine rk (k := rs (k := rb (k := rs (k := ?_))))
       refine Run.drawC [] [0, 1, 7, 8] Tryz.mixed Y18 ?_
       refine DetC.pre (pre := [_]) au ?_
       refine DetC.call au au au Y18 (device_Store hA) ?_
       refine DetC.pre (pre := [_, _, _, _, _, _, _, _]) au ?_
       refine DetC.call au au au Y18 (store_get0 hA.st hA.c0 rfl hd2 zI h1) ?_
       refine DetC.all au ?_
       refine re (k := rs (k := ?_))
       refine Run.drawC [] [0, 1, 7, 8, 10] Tryz.mixed Y18 ?_
       refine DetC.pre (pre := [_, _, _, _, _, _, _, _, _, _, _, _]) au ?_
       refine DetC.call au au au Y18 (ref8_get0 hR.st hR.c0 rfl hd2 h1) ?_
       refine DetC.all au ?_
       refine re (k := rs (k := ?_))
       refine Run.drawC [] [0, 1, 7, 8, 10, 12] Tryz.mixed Y18 ?_
       refine DetC.pre (pre := [_]) au ?_
       refine DetC.call au au au Y18 (device_Store hA) ?_
       refine DetC.pre (pre := [_, _, _, _, _, _, _, _]) au ?_
       refine DetC.call au au au Y18 (store_gn0) ?_
       refine DetC.all au ?_
       refine re (k := rs (k := ?_))
       refine Run.drawC [] [0, 1, 7, 8, 10, 12, 14] Tryz.mixed Y18 ?_
       refine DetC.pre (pre := [_, _, _, _, _, _, _, _, _, _, _, _]) au ?_
       refine DetC.call au au au Y18 (ref8_no0) ?_
       refine DetC.all au ?_
       refine re (k := rs (k := rr (k := ro (pre := [_, _]) (k := rC (h := book_sameb (nlen _ rfl)) (k := ro (pre := [_, _, _, _]) (k := rG (h := fun hb => book_same16 (xs := []) (ys := []) Y15) (k := rh [0, 1, 7, 113] (k := rc (ht := fun hc2 => ?_) (hf := fun hc2 => ?_)))))))))
       · cases hc2
       · refine rk (k := rB (k := rg [0, 1, 7] (k := ?_)))
         refine Run.lp ⟨⟨rfl, 1, Y15, by rfl⟩, ?_⟩
         simp only [ivar, go_sem, ↓reduceIte, Nat.reduceEqDiff]
         decide
     · cases hc1
   · refine rs (k := rs (k := rg [0, 1, 7, 41] (k := rc (ht := fun hc1 => ?_) (hf := fun hc1 => ?_))))
     · refine rk (k := rs (k := rb (k := rs (k := ?_))))
       refine Run.drawC [] [0, 1, 7, 8] Tryz.mixed Y18 ?_
       refine DetC.pre (pre := [_]) au ?_
       refine DetC.call au au au Y18 (device_Store hA) ?_
       refine DetC.pre (pre := [_, _, _, _, _, _, _, _]) au ?_
       refine DetC.call au au au Y18 (store_get1 hA.st hA.c1 hd3 hd2 zI h1) ?_
       refine DetC.all au ?_
       refine re (k := rs (k := ?_))
       refine Run.drawC [] [0, 1, 7, 8, 10] Tryz.mixed Y18 ?_
       refine DetC.pre (pre := [_, _, _, _, _, _, _, _, _, _, _, _]) au ?_
       refine DetC.call au au au Y18 (ref8_get1 hR.st hR.c1 hd3 hd2 h1) ?_
       refine DetC.all au ?_
       refine re (k := rs (k := ?_))
       refine Run.drawC [] [0, 1, 7, 8, 10, 12] Tryz.mixed Y18 ?_
       refine DetC.pre (pre := [_]) au ?_
       refine DetC.call au au au Y18 (device_Store hA) ?_
       refine DetC.pre (pre := [_, _, _, _, _, _, _, _]) au ?_
       refine DetC.call au au au Y18 (store_gn1) ?_
       refine DetC.all au ?_
       refine re (k := rs (k := ?_))
       refine Run.drawC [] [0, 1, 7, 8, 10, 12, 14] Tryz.mixed Y18 ?_
       refine DetC.pre (pre := [_, _, _, _, _, _, _, _, _, _, _, _]) au ?_
       refine DetC.call au au au Y18 (ref8_no1) ?_
       refine DetC.all au ?_
       refine re (k := rs (k := rr (k := ro (pre := [_, _]) (k := rC (h := book_sameb (nlen _ hd3)) (k := ro (pre := [_, _, _, _]) (k := rG (h := fun hb => book_same16 (xs := []) (ys := []) Y15) (k := rh [0, 1, 7, 113] (k := rc (ht := fun hc2 => ?_) (hf := fun hc2 => ?_)))))))))
       · cases hc2
       · refine rk (k := rB (k := rg [0, 1, 7] (k := ?_)))
         refine Run.lp ⟨⟨rfl, 2, Y15, by rfl⟩, ?_⟩
         simp only [ivar, go_sem, ↓reduceIte, Nat.reduceEqDiff]
         decide
     · cases hc1
   · refine rs (k := rs (k := rg [0, 1, 7, 41] (k := rc (ht := fun hc1 => ?_) (hf := fun hc1 => ?_))))
     · refine rk (k := rs (k := rb (k := rs (k := ?_))))
       refine Run.drawC [] [0, 1, 7, 8] Tryz.mixed Y18 ?_
       refine DetC.pre (pre := [_]) au ?_
       refine DetC.call au au au Y18 (device_Store hA) ?_
       refine DetC.pre (pre := [_, _, _, _, _, _, _, _]) au ?_
       refine DetC.call au au au Y18 (store_gn2) ?_
       refine DetC.all au ?_
       refine re (k := rs (k := ?_))
       refine Run.drawC [] [0, 1, 7, 8, 10] Tryz.mixed Y18 ?_
       refine DetC.pre (pre := [_, _, _, _, _, _, _, _, _, _, _, _]) au ?_
       refine DetC.call au au au Y18 (ref8_no2) ?_
       refine DetC.all au ?_
       refine re (k := rs (k := ?_))
       refine Run.drawC [] [0, 1, 7, 8, 10, 12] Tryz.mixed Y18 ?_
       refine DetC.pre (pre := [_]) au ?_
       refine DetC.call au au au Y18 (device_Store hA) ?_
       refine DetC.pre (pre := [_, _, _, _, _, _, _, _]) au ?_
       refine DetC.call au au au Y18 (store_get2 hA.st hA.v0 hd4 hd2 zI h1) ?_
       refine DetC.all au ?_
       refine re (k := rs (k := ?_))
       refine Run.drawC [] [0, 1, 7, 8, 10, 12, 14] Tryz.mixed Y18 ?_
       refine DetC.pre (pre := [_, _, _, _, _, _, _, _, _, _, _, _]) au ?_
       refine DetC.call au au au Y18 (ref8_get2 hR.st hR.v0 hd4 hd2 h1) ?_
       refine DetC.all au ?_
       refine re (k := rs (k := rr (k := ro (pre := [_, _]) (k := rC (h := book_sameb (xs := []) (ys := []) Y15) (k := ro (pre := [_, _, _, _]) (k := rG (h := fun hb => book_same16 (nlen _ hd4)) (k := rh [0, 1, 7, 113] (k := rc (ht := fun hc2 => ?_) (hf := fun hc2 => ?_)))))))))
       · cases hc2
       · refine rk (k := rB (k := rg [0, 1, 7] (k := ?_)))
         refine Run.lp ⟨⟨rfl, 3, Y15, by rfl⟩, ?_⟩
         simp only [ivar, go_sem, ↓reduceIte, Nat.reduceEqDiff]
         decide
     · cases hc1
   · refine rs (k := rs (k := rg [0, 1, 7, 41] (k := rc (ht := fun hc1 => ?_) (hf := fun hc1 => ?_))))
     · refine rk (k := rs (k := rb (k := rs (k := ?_))))
       refine Run.drawC [] [0, 1, 7, 8] Tryz.mixed Y18 ?_
       refine DetC.pre (pre := [_]) au ?_
       refine DetC.call au au au Y18 (device_Store hA) ?_
       refine DetC.pre (pre := [_, _, _, _, _, _, _, _]) au ?_
       refine DetC.call au au au Y18 (store_gn3) ?_
       refine DetC.all au ?_
       refine re (k := rs (k := ?_))
       refine Run.drawC [] [0, 1, 7, 8, 10] Tryz.mixed Y18 ?_
       refine DetC.pre (pre := [_, _, _, _, _, _, _, _, _, _, _, _]) au ?_
       refine DetC.call au au au Y18 (ref8_no3) ?_
       refine DetC.all au ?_
       refine re (k := rs (k := ?_))
       refine Run.drawC [] [0, 1, 7, 8, 10, 12] Tryz.mixed Y18 ?_
       refine DetC.pre (pre := [_]) au ?_
       refine DetC.call au au au Y18 (device_Store hA) ?_
       refine DetC.pre (pre := [_, _, _, _, _, _, _, _]) au ?_
       refine DetC.call au au au Y18 (store_get3 hA.st hA.v1 hd5 hd2 zI h1) ?_
       refine DetC.all au ?_
       refine re (k := rs (k := ?_))
       refine Run.drawC [] [0, 1, 7, 8, 10, 12, 14] Tryz.mixed Y18 ?_
       refine DetC.pre (pre := [_, _, _, _, _, _, _, _, _, _, _, _]) au ?_
       refine DetC.call au au au Y18 (ref8_get3 hR.st hR.v1 hd5 hd2 h1) ?_
       refine DetC.all au ?_
       refine re (k := rs (k := rr (k := ro (pre := [_, _]) (k := rC (h := book_sameb (xs := []) (ys := []) Y15) (k := ro (pre := [_, _, _, _]) (k := rG (h := fun hb => book_same16 (nlen _ hd5)) (k := rh [0, 1, 7, 113] (k := rc (ht := fun hc2 => ?_) (hf := fun hc2 => ?_)))))))))
       · cases hc2
       · refine rk (k := rB (k := rg [0, 1, 7] (k := ?_)))
         refine Run.lp ⟨⟨rfl, 4, Y15, by rfl⟩, ?_⟩
         simp only [ivar, go_sem, ↓reduceIte, Nat.reduceEqDiff]
         decide
     · cases hc1
   · refine rs (k := rs (k := rg [0, 1, 7, 41] (k := rc (ht := fun hc1 => ?_) (hf := fun hc1 => ?_))))
     · cases hc1
     · refine rX (k := rs (k := rg [4] (k := rR (k := rP (by simp only [Tryz.f17, go_sem]; rfl) hwf ⟨?_, rfl⟩))))
       simp [PV.weak, go_sem]
end Go.Proofs
namespace Go.Proofs
open Go.PM
set_option maxHeartbeats 2000000
theorem law9_requests {l : List Int} (hl : l.length * 8 ≤ 140737488351232) {n : Nat} (hn : n ≤ 100) {s : St} : ACalls Tryz.prog 6 [.sl .unk (l.map (PV.int .i64)), .int .i64 (n : Int)] s (fun r s' => ∃ qs : List Req, r = .sl .unk (qs.map Req.pv) ∧ qs.length ≤ n ∧ (∀ q ∈ qs, q.ok) ∧ s' = s) := by
 refine go Tryz.func6 (k := fun hwf H => ?_)
 refine rs (k := rg [0, 1] (k := rs (k := rg [1, 5] (k := rs (k := rg [1, 5, 6] (k := rs (k := rs (k := rg [1, 5, 6, 7] (k := rb (k := ?_))))))))))
 refine Run.loop (fun e s' => ∃ (i : Nat) (T : Tp) (qs : List Req) (kk : SK), e = [(1, .int .i64 (n : Int)), (5, .ptr s.nxt 0 0), (6, .sl kk (qs.map Req.pv)), (7, .int .i64 (i : Int))] ∧ i ≤ n ∧ qs.length = i ∧ T.ok ∧ (∀ q ∈ qs, q.ok) ∧ s'.blk s.nxt = some (.row 51 [T.pv]) ∧ (∀ j, j < s.nxt → s'.blk j = s.blk j) ∧ s.nxt + 1 ≤ s'.nxt ∧ Grows s' kk qs.length (Tryz.prog.cellsOf 33) ∧ (∀ t z, kk = .tok t z → s.nxt + 1 ≤ t ∧ t < s'.nxt)) (fun e s' => n - ivar e 7) ?_ ?_
 · exact ⟨0, ⟨l, 0⟩, [], .nil, rfl, Nat.zero_le _, rfl, ⟨hl, Nat.zero_le _⟩, fun q hq => (List.not_mem_nil hq).elim, by simp only [go_sem, Tp.pv]; rfl, fun j hj => blk_new_ne Y14, Nat.le_refl _, .inl ⟨rfl, rfl⟩, fun t z e => Y70⟩
 rintro e s1 ⟨i, T, qs, kk, rfl, hi, hql, hT, hqs, htp, hlo, hnx, hgr, htk⟩
 refine rs (k := rs (k := rg [1, 5, 6, 7, 13] (k := rc (ht := fun hc0 => ?_) (hf := fun hc0 => ?_))))
 · refine rk (k := rs (k := rb (k := ?_)))
   have hil : i < n := Y133
   have hw : IntKind.i64.wrap ((i : Int) + 1) = ((i + 1 : Nat) : Int) := Y20
   have H := aj hw H
   refine rr (k := ro (pre := [_, _]) (k := ?_))
   refine RunO.callw au au au Y18 ((tape_Request hT htp).mono ?_)
   rintro r s2 ⟨q, T2, rfl, hs, hT2, hqo, _⟩
   subst hs
   refine rO (k := ?_)
   refine RunO.grow (xs := qs.map Req.pv) (ys := [q].map Req.pv) au au (by simp only [go_sem, List.map_cons, List.map_nil, ↓reduceIte, H] <;> rfl) Tryz.td23 (by rw [Tryz.zp33]; rfl) (isEls_map (P := Tryz.prog) (e := 33) (f := Req.pv) (fun a => ⟨rfl, by rw [Tryz.cz33]; rfl⟩) _) (isEls_map (P := Tryz.prog) (e := 33) (f := Req.pv) (fun a => ⟨rfl, by rw [Tryz.cz33]; rfl⟩) [q]) (by rw [Tryz.by33]; decide) (by rw [Tryz.by33, List.length_map, List.length_map]; simp; omega) (by rw [List.length_map]; exact hgr.mono fun t e => blk_set_ne (hgr.ne e _ htp (by intro n e; cases e))) Y71 ?_
   intro k' s3 hgr' htm
   refine rh [1, 5, 6, 7] (k := rB (k := rg [1, 5, 6, 7] (k := ?_)))
   rw [List.length_map] at hgr'
   have htne : ∀ t z, kk = .tok t z → t ≠ s.nxt := fun t z e => by have := (htk t z e).1; omega
   refine Run.lp ⟨⟨i + 1, T2, qs ++ [q], k', by rw [List.map_append]; rfl, Y14, by rw [List.length_append, hql]; rfl, hT2, fun y hy => ?_, ?_, fun j hj => ?_, ?_, by rw [List.length_append]; exact hgr', fun t z e => ?_⟩, ?_⟩
   · rcases List.mem_append.1 hy with hy | hy
     · exact hqs y hy
     · rw [List.mem_singleton.1 hy]; exact hqo
   · rw [htm.rest s.nxt (by show s.nxt < s1.nxt; omega) (fun z e => htne _ _ e rfl)]; exact blk_set_self _ _ _
   · rw [htm.rest j (by show j < s1.nxt; omega) (fun z e => by have := (htk _ _ e).1; omega), blk_set_ne Y14]; exact hlo j hj
   · have h9 : s1.nxt ≤ s3.nxt := htm.nxt
     omega
   · have h9 : s1.nxt ≤ s3.nxt := htm.nxt
     rcases htm.fresh t z e with ⟨z', h⟩ | ⟨h1, h2⟩
     · have := htk t z' h; omega
     · have h1 : s1.nxt ≤ t := h1
       omega
   · exact Y81
 · refine rX (k := rs (k := rg [4] (k := rR (k := ?_))))
   refine Ret.pure (r' := .sl .unk (qs.map Req.pv)) (by simp only [Tryz.f6, go_sem, ↓reduceIte] <;> rfl) (by rw [PV.weak, weaks_map_id Req.pv (fun q => Y356)]) (by simp only [PV.blw]; exact ⟨fun t z e => Y70, blws_map Req.pv _ (fun a => blw_req _ _) _⟩) hwf hlo ⟨qs, rfl, Y14, hqs, rfl⟩
structure PlAt (s0 : St) (b c : Nat) (D : Dev) (S : St) : Prop where
 dev : DevAt b D S
 ref : RefAt c D S
 bc : b + 6 ≤ c
 nx : c + 6 ≤ S.nxt
 lb : s0.nxt ≤ b
 low : ∀ j, j < s0.nxt → S.blk j = s0.blk j
theorem PlAt.mid {s0 : St} {b c : Nat} {D D' : Dev} {S : St} (h : PlAt s0 b c D S) : RefAt c D (putDev b D' S) := by
 have e : ∀ j, b + 5 < j → (putDev b D' S).blk j = S.blk j := fun j hj => putDev_hi hj
 have := h.bc
 exact ⟨by rw [e _ Y14]; exact h.ref.st, by rw [e _ Y14]; exact h.ref.c0, by rw [e _ Y14]; exact h.ref.c1, by rw [e _ Y14]; exact h.ref.v0, by rw [e _ Y14]; exact h.ref.v1, by rw [e _ Y14]; exact h.ref.dv⟩
theorem PlAt.step {s0 : St} {b c : Nat} {D D' : Dev} {S : St} (h : PlAt s0 b c D S) (hl : D'.c0.length = D.c0.length) : PlAt s0 b c D' (putRef c D' (putDev b D' S)) := by
 have := h.bc
 refine ⟨(h.dev.put hl).same fun j hj => putRef_lo Y14, h.mid.put hl, h.bc, h.nx, h.lb, fun j hj => ?_⟩
 have := h.lb
 rw [putRef_lo Y14, putDev_lo Y14]; exact h.low j hj
theorem ref8_DoL {b : Nat} {D D' : Dev} {s : St} {q : Req} {R : Rep} (h : doF D q = (R, D')) (hA : RefAt b D s) (hD : D.ok) (hq : q.ok) : ACalls Tryz.prog 13 [.ptr (b + 5) 0 0, q.pv] s (fun r s' => r = R.pv ∧ s' = putRef b D' s) := by
 have := ref8_Do hA hD hq
 rw [h] at this
 exact this
theorem ref8_PduL {b : Nat} {D D' : Dev} {s : St} {l m : List Int} (h : pduF D l = (m, D')) (hA : RefAt b D s) (hD : D.ok) (hb : OkB l) (hl : l.length ≤ 140737488351232) : ACalls Tryz.prog 15 [.ptr (b + 5) 0 0, .sl .unk (l.map (PV.int .u8))] s (fun r s' => r = .sl .unk (m.map (PV.int .u8)) ∧ s' = putRef b D' s) := by
 have := ref8_Pdu hA hD hb hl
 rw [h] at this
 exact this
theorem bytesF_okB {q : Req} (hq : q.ok) : OkB (bytesF q) := by
 unfold bytesF
 split
 · exact writeF_ok hq ‹_›
 · exact OkB.nil
theorem bytesF_l {q : Req} : (bytesF q).length ≤ 140737488351232 := by
 unfold bytesF
 split
 · rename_i h
   have := writeF_len h
   omega
 · simp
theorem law9_playBad {n : Int} (hn : n < 1 ∨ 65536 < n) {l : List Req} (hlq : ∀ q ∈ l, q.ok) (hln : l.length < 140737488355328) {rows : List (List Int)} (hrn : rows.length < 140737488355328) (hrows : ∀ r ∈ rows, OkB r ∧ r.length ≤ 140737488351232) {s : St} : ACalls Tryz.prog 5 [.int .i64 n, .sl .unk (l.map Req.pv), .sl .unk (rows.map (fun l : List Int => PV.sl .unk (l.map (PV.int .u8))))] s (fun r s' => r = .bool true ∧ s' = s) := by
 refine go Tryz.func5 (k := fun hwf H => ?_)
 refine rs (k := rg [0, 1, 2] (k := rs (k := rr (k := ro (pre := [_]) (k := rC (h := device_NewBad hn) (k := rh [0, 1, 2, 7] (k := rs (k := rs (k := rg [0, 1, 2, 7, 19] (k := rc (ht := fun hc0 => ?_) (hf := fun hc0 => ?_)))))))))))
 · refine rs (k := rg [6] (k := rR (k := rP (by simp only [Tryz.f5, go_sem]; rfl) hwf ⟨?_, rfl⟩)))
   simp [PV.weak, go_sem]
 · exact Y154
attribute [local go_sem] weaks_bools Req.pv Rep.pv
theorem Y165 {p : Prop} (h : p := by rw [← hqe]; exact List.getElem_mem _) : p := h
theorem Y166 {p : Prop} (h : p := by intro q0 hq0; rw [List.mem_singleton.1 hq0]; exact device_DoL hX hP.dev oD hqo) : p := h
theorem Y167 {p : Prop} (h : p := by intro q0 hq0; rw [List.mem_singleton.1 hq0]; exact ref8_DoL hX hP.mid oD hqo) : p := h
theorem Y221 {p : Prop} (h : p := by simp at hc1; omega) : p := h
theorem Y222 {p : Prop} (h : p := by have := (doF_ok oD hqo).1; rwa [hX] at this) : p := h
theorem Y223 {p : Prop} (h : p := by have := (doF_ok oD hqo).2; rwa [hX] at this) : p := h
theorem Y224 {p : Prop} (h : p := by have := doF_rep oD hqo; rwa [hX] at this) : p := h
theorem Y280 {p : Prop} (h : p := by rw [map_get hil, hqe]; rfl) : p := h
theorem Y281 {p : Prop} (h : p := by intro q0 hq0; rw [List.mem_singleton.1 hq0]; exact device_PduL hX2 hP1.dev o1 hro hrl) : p := h
theorem Y338 {p : Prop} (h : p := by intro q0 hq0; rw [List.mem_singleton.1 hq0]; exact ref8_PduL hX2 hP1.mid o1 hro hrl) : p := h
theorem Y360 {p : Prop} (h : p := by rw [List.getElem?_map, List.getElem?_eq_getElem hir, hre]; rfl) : p := h
set_option maxRecDepth 100000 in
theorem law9_playOk {n : Nat} (h1 : 1 ≤ n) (h2 : n ≤ 65536) {l : List Req} (hlq : ∀ q ∈ l, q.ok) (hln : l.length < 140737488355328) {rows : List (List Int)} (hrn : rows.length < 140737488355328) (hrows : ∀ r ∈ rows, OkB r ∧ r.length ≤ 140737488351232) {s : St} : ACalls Tryz.prog 5 [.int .i64 (n : Int), .sl .unk (l.map Req.pv), .sl .unk (rows.map (fun l : List Int => PV.sl .unk (l.map (PV.int .u8))))] s (fun r s' => r = .bool true ∧ s' = s) := by
 refine go Tryz.func5 (k := fun hwf H => ?_)
 obtain ⟨m, hm, hm1, hm2⟩ : ∃ m : Nat, (if (2100 : Int) < (n : Int) then (2100 : Int) else (n : Int)) = (m : Int) ∧ 1 ≤ m ∧ m ≤ 65536 := by
   by_cases h : (2100 : Int) < (n : Int)
   · exact ⟨2100, by rw [if_pos h]; rfl, Y15, Y15⟩
   · exact ⟨n, by rw [if_neg h], h1, h2⟩
 have f3 : ((3 : Int) = 0) = False := eq_false Y15
 have f8 : ((8 : Int) = 0) = False := eq_false Y15
 have H := aj hm (aj f3 (aj f8 H))
 refine rs (k := rg [0, 1, 2] (k := rs (k := rr (k := ro (pre := [_]) (k := ?_)))))
 refine RunO.callw au au au Y18 ((device_New h1 h2).mono ?_)
 rintro r s1 ⟨rfl, hA1, hlo1, hnx1⟩
 refine rh [0, 1, 2, 7] (k := rs (k := rs (k := rg [0, 1, 2, 7, 19] (k := rc (ht := fun hc0 => ?_) (hf := fun hc0 => ?_)))))
 · exact Y326
 refine rk (k := rs (k := rg [0, 1, 2] (k := rs (k := rr (k := ro (pre := [_]) (k := ?_))))))
 refine RunO.callw au au au Y18 ((device_New hm1 hm2).mono ?_)
 rintro r s2 ⟨rfl, hA2, hlo2, hnx2⟩
 refine rh [0, 1, 2, 7] (k := rs (k := rr (k := ro (pre := [_]) (k := ?_))))
 refine RunO.callw au au au Y18 ((ref8_NewDevice hm1 hm2).mono ?_)
 rintro r s3 ⟨rfl, hA3, hlo3, hnx3⟩
 refine rh [1, 2, 7, 8] (k := rs (k := rs (k := ?_)))
 have hP0 : PlAt s s1.nxt s2.nxt (Dev.zero m) s3 := ⟨hA2.same fun j hj => hlo3 j Y14, hA3, Y14, Y14, Y14, fun j hj => by rw [hlo3 j Y14, hlo2 j Y14]; first | exact hlo1 j Y14⟩
 refine rg [1, 2, 7, 8, 9] (k := rb (k := ?_))
 refine Run.loop (fun e s' => ∃ (i : Nat) (D : Dev), e = [(1, .sl .unk (l.map Req.pv)), (2, .sl .unk (rows.map (fun l : List Int => PV.sl .unk (l.map (PV.int .u8))))), (7, .ptr (s1.nxt + 5) 0 0), (8, .ptr (s2.nxt + 5) 0 0), (9, .int .i64 (i : Int))] ∧ i ≤ l.length ∧ D.ok ∧ PlAt s s1.nxt s2.nxt D s') (fun e s' => l.length - ivar e 9) ?_ ?_
 · exact ⟨0, _, rfl, Nat.zero_le _, Dev.zero_ok hm1 hm2, hP0⟩
 rintro e S ⟨i, D, rfl, hi, oD, hP⟩
 obtain ⟨hir, h3⟩ | ⟨hir, h3⟩ | ⟨hir, h3⟩ | ⟨hir, h3⟩ : (i < rows.length ∧ Int.tmod (i : Int) 3 = 0) ∨ (i < rows.length ∧ ¬ Int.tmod (i : Int) 3 = 0) ∨ (¬ i < rows.length ∧ Int.tmod (i : Int) 3 = 0) ∨ (¬ i < rows.length ∧ ¬ Int.tmod (i : Int) 3 = 0) := by
   by_cases h : i < rows.length <;> by_cases k : Int.tmod (i : Int) 3 = 0 <;> simp [h, k]
 have hir2 : (i < rows.length) = True := eq_true hir
 have h33 : (Int.tmod (i : Int) 3 = 0) = True := eq_true h3
 have H := aj hir2 (aj h33 H)
 refine rs (k := rs (k := rg [1, 2, 7, 8, 9, 35] (k := rc (ht := fun hc1 => ?_) (hf := fun hc1 => ?_))))
 refine rk (k := rs (k := rb (k := rs (k := rs (k := ?_)))))
 have hil : i < l.length := Y221
 have hi50 : i < 50 := Y221
 obtain ⟨q, hqe⟩ : ∃ z_, l[i]'hil = z_ := ⟨_, rfl⟩
 have hxq : (l.map Req.pv)[i]? = some (.agg [.int .i64 q.fn, .int .i64 q.at_, .int .i64 q.count, .int .i64 q.wat, .int .i64 q.sub, .sl .unk (q.bits.map PV.bool), .sl .unk (q.vals.map (PV.int .u16)), .int .u16 q.and_, .int .u16 q.or_]) := Y280
 have hqo : q.ok := hlq q Y165
 have hilT : (i < l.length) = True := eq_true hil
 obtain ⟨⟨R, D1⟩, hX⟩ : ∃ Z, doF D q = Z := ⟨_, rfl⟩
 have o1 : D1.ok := Y222
 have n1 : D1.c0.length = D.c0.length := Y223
 have r1 : R.ok := Y224
 have hP1 := hP.step n1
 have hw : IntKind.i64.wrap ((i : Int) + 1) = ((i + 1 : Nat) : Int) := Y20
 have H := aj hxq (aj hilT (aj hw H))
 refine Run.drawH 18 [8, 14] [[false, false], [true, false], [true, true]] [S, (putDev s1.nxt D1 S), (putRef s2.nxt D1 (putDev s1.nxt D1 S))] ((putRef s2.nxt D1 (putDev s1.nxt D1 S))) Tryz.mixed Y18 Y18 Y18 Y18 Y18 rfl Y18 rfl ?_
 refine DetHC.pre (pre := [_, _, _]) (s1 := S) [0] [S] Y18 rfl au ?_
 refine DetHC.eff [(0, 0)] (S) (S) [] Y18 rfl au au au ?_
 refine DetHC.eff [(0, 0)] (S) (S) [] Y18 rfl au au au ?_
 refine DetHC.eff [(0, 0)] (S) (S) [] Y18 rfl au au au ?_
 refine DetHC.eff [(0, 0)] (S) (S) [] Y18 rfl au au au ?_
 refine DetHC.eff [(0, 0)] (S) (S) [] Y18 rfl au au au ?_
 refine DetHC.callE (v := R.pv) [(0, 1)] [(S, (putDev s1.nxt D1 S))] Y18 rfl au au au Y18 Y166 ?_
 refine DetHC.eff [(0, 0), (1, 1)] (S) (S) [((putDev s1.nxt D1 S), (putDev s1.nxt D1 S))] Y18 rfl au au au ?_
 refine DetHC.eff [(0, 0), (1, 1)] (S) (S) [((putDev s1.nxt D1 S), (putDev s1.nxt D1 S))] Y18 rfl au au au ?_
 refine DetHC.eff [(0, 0), (1, 1)] (S) (S) [((putDev s1.nxt D1 S), (putDev s1.nxt D1 S))] Y18 rfl au au au ?_
 refine DetHC.eff [(0, 0), (1, 1)] (S) (S) [((putDev s1.nxt D1 S), (putDev s1.nxt D1 S))] Y18 rfl au au au ?_
 refine DetHC.eff [(0, 0), (1, 1)] (S) (S) [((putDev s1.nxt D1 S), (putDev s1.nxt D1 S))] Y18 rfl au au au ?_
 refine DetHC.callE (v := R.pv) [(1, 2)] [((putDev s1.nxt D1 S), (putRef s2.nxt D1 (putDev s1.nxt D1 S)))] Y18 rfl au au au Y18 Y167 ?_
 refine DetHC.call [2] [(putRef s2.nxt D1 (putDev s1.nxt D1 S))] Y18 rfl au au au Y18 (fun s _ => ref3_Alike (a := R) (b := R) r1 r1) ?_
 refine DetHC.eff [(2, 2)] ((putRef s2.nxt D1 (putDev s1.nxt D1 S))) ((putRef s2.nxt D1 (putDev s1.nxt D1 S))) [] Y18 rfl au au au ?_
 refine DetHC.all (s1 := (putRef s2.nxt D1 (putDev s1.nxt D1 S))) [2] [(putRef s2.nxt D1 (putDev s1.nxt D1 S))] Y18 rfl au ?_
 refine rl [1, 2, 7, 8, 9, 55] (k := rc (ht := fun hc2 => ?_) (hf := fun hc2 => ?_))
 · cases hc2
 refine rk (k := rs (k := rs (k := ?_)))
 obtain ⟨r, hre⟩ : ∃ z_, rows[i]'hir = z_ := ⟨_, rfl⟩
 have hxr : (rows.map (fun l : List Int => PV.sl .unk (l.map (PV.int .u8))))[i]? = some (.sl .unk (r.map (PV.int .u8))) := Y360
 obtain ⟨hro, hrl⟩ := hrows r (by rw [← hre]; exact List.getElem_mem _)
 obtain ⟨⟨P1, D2⟩, hX2⟩ : ∃ Z, pduF D1 r = Z := ⟨_, rfl⟩
 have o2 : D2.ok := by have := (pduF_ok o1 hro hrl).1; rwa [hX2] at this
 have n2 : D2.c0.length = D1.c0.length := by have := (pduF_ok o1 hro hrl).2; rwa [hX2] at this
 have hP2 := hP1.step n2
 have hst1 : ((strB P1).toList == (strB P1).toList) = true := beq_self_eq_true _
 have H := aj hxr (aj hst1 H)
 refine Run.drawH 21 [10, 17] [[false, false], [true, false], [true, true]] [(putRef s2.nxt D1 (putDev s1.nxt D1 S)), (putDev s1.nxt D2 (putRef s2.nxt D1 (putDev s1.nxt D1 S))), (putRef s2.nxt D2 (putDev s1.nxt D2 (putRef s2.nxt D1 (putDev s1.nxt D1 S))))] ((putRef s2.nxt D2 (putDev s1.nxt D2 (putRef s2.nxt D1 (putDev s1.nxt D1 S))))) Tryz.mixed Y18 Y18 Y18 Y18 Y18 rfl Y18 rfl ?_
 refine DetHC.pre (pre := [_, _, _, _, _]) (s1 := (putRef s2.nxt D1 (putDev s1.nxt D1 S))) [0] [(putRef s2.nxt D1 (putDev s1.nxt D1 S))] Y18 rfl au ?_
 refine DetHC.eff [(0, 0)] ((putRef s2.nxt D1 (putDev s1.nxt D1 S))) ((putRef s2.nxt D1 (putDev s1.nxt D1 S))) [] Y18 rfl au au au ?_
 refine DetHC.eff [(0, 0)] ((putRef s2.nxt D1 (putDev s1.nxt D1 S))) ((putRef s2.nxt D1 (putDev s1.nxt D1 S))) [] Y18 rfl au au au ?_
 refine DetHC.eff [(0, 0)] ((putRef s2.nxt D1 (putDev s1.nxt D1 S))) ((putRef s2.nxt D1 (putDev s1.nxt D1 S))) [] Y18 rfl au au au ?_
 refine DetHC.eff [(0, 0)] ((putRef s2.nxt D1 (putDev s1.nxt D1 S))) ((putRef s2.nxt D1 (putDev s1.nxt D1 S))) [] Y18 rfl au au au ?_
 refine DetHC.eff [(0, 0)] ((putRef s2.nxt D1 (putDev s1.nxt D1 S))) ((putRef s2.nxt D1 (putDev s1.nxt D1 S))) [] Y18 rfl au au au ?_
 refine DetHC.callE (v := .sl .unk (P1.map (PV.int .u8))) [(0, 1)] [((putRef s2.nxt D1 (putDev s1.nxt D1 S)), (putDev s1.nxt D2 (putRef s2.nxt D1 (putDev s1.nxt D1 S))))] Y18 rfl au au au Y18 Y281 ?_
 refine DetHC.eff [(1, 1), (2, 2)] ((putDev s1.nxt D2 (putRef s2.nxt D1 (putDev s1.nxt D1 S)))) ((putDev s1.nxt D2 (putRef s2.nxt D1 (putDev s1.nxt D1 S)))) [((putRef s2.nxt D2 (putDev s1.nxt D2 (putRef s2.nxt D1 (putDev s1.nxt D1 S)))), (putRef s2.nxt D2 (putDev s1.nxt D2 (putRef s2.nxt D1 (putDev s1.nxt D1 S)))))] Y18 rfl au au au ?_
 refine DetHC.eff [(0, 0), (1, 1)] ((putRef s2.nxt D1 (putDev s1.nxt D1 S))) ((putRef s2.nxt D1 (putDev s1.nxt D1 S))) [((putDev s1.nxt D2 (putRef s2.nxt D1 (putDev s1.nxt D1 S))), (putDev s1.nxt D2 (putRef s2.nxt D1 (putDev s1.nxt D1 S))))] Y18 rfl au au au ?_
 refine DetHC.eff [(0, 0), (1, 1)] ((putRef s2.nxt D1 (putDev s1.nxt D1 S))) ((putRef s2.nxt D1 (putDev s1.nxt D1 S))) [((putDev s1.nxt D2 (putRef s2.nxt D1 (putDev s1.nxt D1 S))), (putDev s1.nxt D2 (putRef s2.nxt D1 (putDev s1.nxt D1 S))))] Y18 rfl au au au ?_
 refine DetHC.eff [(0, 0), (1, 1)] ((putRef s2.nxt D1 (putDev s1.nxt D1 S))) ((putRef s2.nxt D1 (putDev s1.nxt D1 S))) [((putDev s1.nxt D2 (putRef s2.nxt D1 (putDev s1.nxt D1 S))), (putDev s1.nxt D2 (putRef s2.nxt D1 (putDev s1.nxt D1 S))))] Y18 rfl au au au ?_
 refine DetHC.eff [(0, 0), (1, 1)] ((putRef s2.nxt D1 (putDev s1.nxt D1 S))) ((putRef s2.nxt D1 (putDev s1.nxt D1 S))) [((putDev s1.nxt D2 (putRef s2.nxt D1 (putDev s1.nxt D1 S))), (putDev s1.nxt D2 (putRef s2.nxt D1 (putDev s1.nxt D1 S))))] Y18 rfl au au au ?_
 refine DetHC.eff [(0, 0), (1, 1)] ((putRef s2.nxt D1 (putDev s1.nxt D1 S))) ((putRef s2.nxt D1 (putDev s1.nxt D1 S))) [((putDev s1.nxt D2 (putRef s2.nxt D1 (putDev s1.nxt D1 S))), (putDev s1.nxt D2 (putRef s2.nxt D1 (putDev s1.nxt D1 S))))] Y18 rfl au au au ?_
 refine DetHC.callE (v := .sl .unk (P1.map (PV.int .u8))) [(1, 2)] [((putDev s1.nxt D2 (putRef s2.nxt D1 (putDev s1.nxt D1 S))), (putRef s2.nxt D2 (putDev s1.nxt D2 (putRef s2.nxt D1 (putDev s1.nxt D1 S)))))] Y18 rfl au au au Y18 Y338 ?_
 refine DetHC.eff [(2, 2)] ((putRef s2.nxt D2 (putDev s1.nxt D2 (putRef s2.nxt D1 (putDev s1.nxt D1 S))))) ((putRef s2.nxt D2 (putDev s1.nxt D2 (putRef s2.nxt D1 (putDev s1.nxt D1 S))))) [] Y18 rfl au au au ?_
 refine DetHC.eff [(2, 2)] ((putRef s2.nxt D2 (putDev s1.nxt D2 (putRef s2.nxt D1 (putDev s1.nxt D1 S))))) ((putRef s2.nxt D2 (putDev s1.nxt D2 (putRef s2.nxt D1 (putDev s1.nxt D1 S))))) [] Y18 rfl au au au ?_
 refine DetHC.all (s1 := (putRef s2.nxt D2 (putDev s1.nxt D2 (putRef s2.nxt D1 (putDev s1.nxt D1 S))))) [2] [(putRef s2.nxt D2 (putDev s1.nxt D2 (putRef s2.nxt D1 (putDev s1.nxt D1 S))))] Y18 rfl au ?_
 refine rl [1, 2, 7, 8, 9, 76] (k := rc (ht := fun hc3 => ?_) (hf := fun hc3 => ?_))
 · cases hc3
 refine rk (k := rs (k := rr (k := ro (pre := [_, _, _, _]) (k := rC (h := ref3_Bytes hqo) (k := rh [1, 2, 7, 8, 9, 10] (k := rs (k := rs (k := ?_))))))))
 obtain ⟨⟨P2, D3⟩, hX3⟩ : ∃ Z, pduF D2 (bytesF q) = Z := ⟨_, rfl⟩
 have o3 : D3.ok := by have := (pduF_ok o2 (bytesF_okB hqo) bytesF_l).1; rwa [hX3] at this
 have n3 : D3.c0.length = D2.c0.length := by have := (pduF_ok o2 (bytesF_okB hqo) bytesF_l).2; rwa [hX3] at this
 have hP3 := hP2.step n3
 have hst2 : ((strB P2).toList == (strB P2).toList) = true := beq_self_eq_true _
 have H := aj hst2 H
 refine Run.drawH 14 [6, 10] [[false, false], [true, false], [true, true]] [(putRef s2.nxt D2 (putDev s1.nxt D2 (putRef s2.nxt D1 (putDev s1.nxt D1 S)))), (putDev s1.nxt D3 (putRef s2.nxt D2 (putDev s1.nxt D2 (putRef s2.nxt D1 (putDev s1.nxt D1 S))))), (putRef s2.nxt D3 (putDev s1.nxt D3 (putRef s2.nxt D2 (putDev s1.nxt D2 (putRef s2.nxt D1 (putDev s1.nxt D1 S))))))] ((putRef s2.nxt D3 (putDev s1.nxt D3 (putRef s2.nxt D2 (putDev s1.nxt D2 (putRef s2.nxt D1 (putDev s1.nxt D1 S))))))) Tryz.mixed Y18 Y18 Y18 Y18 Y18 rfl Y18 rfl ?_
 refine DetHC.pre (pre := [_, _, _, _]) (s1 := (putRef s2.nxt D2 (putDev s1.nxt D2 (putRef s2.nxt D1 (putDev s1.nxt D1 S))))) [0] [(putRef s2.nxt D2 (putDev s1.nxt D2 (putRef s2.nxt D1 (putDev s1.nxt D1 S))))] Y18 rfl au ?_
 refine DetHC.eff [(0, 0)] ((putRef s2.nxt D2 (putDev s1.nxt D2 (putRef s2.nxt D1 (putDev s1.nxt D1 S))))) ((putRef s2.nxt D2 (putDev s1.nxt D2 (putRef s2.nxt D1 (putDev s1.nxt D1 S))))) [] Y18 rfl au au au ?_
 refine DetHC.eff [(0, 0)] ((putRef s2.nxt D2 (putDev s1.nxt D2 (putRef s2.nxt D1 (putDev s1.nxt D1 S))))) ((putRef s2.nxt D2 (putDev s1.nxt D2 (putRef s2.nxt D1 (putDev s1.nxt D1 S))))) [] Y18 rfl au au au ?_
 refine DetHC.callE (v := .sl .unk (P2.map (PV.int .u8))) [(0, 1)] [((putRef s2.nxt D2 (putDev s1.nxt D2 (putRef s2.nxt D1 (putDev s1.nxt D1 S)))), (putDev s1.nxt D3 (putRef s2.nxt D2 (putDev s1.nxt D2 (putRef s2.nxt D1 (putDev s1.nxt D1 S))))))] Y18 rfl au au au Y18 (by intro q0 hq0; rw [List.mem_singleton.1 hq0]; exact device_PduL hX3 hP2.dev o2 (bytesF_okB hqo) bytesF_l) ?_
 refine DetHC.eff [(1, 1), (2, 2)] ((putDev s1.nxt D3 (putRef s2.nxt D2 (putDev s1.nxt D2 (putRef s2.nxt D1 (putDev s1.nxt D1 S)))))) ((putDev s1.nxt D3 (putRef s2.nxt D2 (putDev s1.nxt D2 (putRef s2.nxt D1 (putDev s1.nxt D1 S)))))) [((putRef s2.nxt D3 (putDev s1.nxt D3 (putRef s2.nxt D2 (putDev s1.nxt D2 (putRef s2.nxt D1 (putDev s1.nxt D1 S)))))), (putRef s2.nxt D3 (putDev s1.nxt D3 (putRef s2.nxt D2 (putDev s1.nxt D2 (putRef s2.nxt D1 (putDev s1.nxt D1 S)))))))] Y18 rfl au au au ?_
 refine DetHC.eff [(0, 0), (1, 1)] ((putRef s2.nxt D2 (putDev s1.nxt D2 (putRef s2.nxt D1 (putDev s1.nxt D1 S))))) ((putRef s2.nxt D2 (putDev s1.nxt D2 (putRef s2.nxt D1 (putDev s1.nxt D1 S))))) [((putDev s1.nxt D3 (putRef s2.nxt D2 (putDev s1.nxt D2 (putRef s2.nxt D1 (putDev s1.nxt D1 S))))), (putDev s1.nxt D3 (putRef s2.nxt D2 (putDev s1.nxt D2 (putRef s2.nxt D1 (putDev s1.nxt D1 S))))))] Y18 rfl au au au ?_
 refine DetHC.eff [(0, 0), (1, 1)] ((putRef s2.nxt D2 (putDev s1.nxt D2 (putRef s2.nxt D1 (putDev s1.nxt D1 S))))) ((putRef s2.nxt D2 (putDev s1.nxt D2 (putRef s2.nxt D1 (putDev s1.nxt D1 S))))) [((putDev s1.nxt D3 (putRef s2.nxt D2 (putDev s1.nxt D2 (putRef s2.nxt D1 (putDev s1.nxt D1 S))))), (putDev s1.nxt D3 (putRef s2.nxt D2 (putDev s1.nxt D2 (putRef s2.nxt D1 (putDev s1.nxt D1 S))))))] Y18 rfl au au au ?_
 refine DetHC.callE (v := .sl .unk (P2.map (PV.int .u8))) [(1, 2)] [((putDev s1.nxt D3 (putRef s2.nxt D2 (putDev s1.nxt D2 (putRef s2.nxt D1 (putDev s1.nxt D1 S))))), (putRef s2.nxt D3 (putDev s1.nxt D3 (putRef s2.nxt D2 (putDev s1.nxt D2 (putRef s2.nxt D1 (putDev s1.nxt D1 S)))))))] Y18 rfl au au au Y18 (by intro q0 hq0; rw [List.mem_singleton.1 hq0]; exact ref8_PduL hX3 hP2.mid o2 (bytesF_okB hqo) bytesF_l) ?_
 refine DetHC.eff [(2, 2)] ((putRef s2.nxt D3 (putDev s1.nxt D3 (putRef s2.nxt D2 (putDev s1.nxt D2 (putRef s2.nxt D1 (putDev s1.nxt D1 S))))))) ((putRef s2.nxt D3 (putDev s1.nxt D3 (putRef s2.nxt D2 (putDev s1.nxt D2 (putRef s2.nxt D1 (putDev s1.nxt D1 S))))))) [] Y18 rfl au au au ?_
 refine DetHC.eff [(2, 2)] ((putRef s2.nxt D3 (putDev s1.nxt D3 (putRef s2.nxt D2 (putDev s1.nxt D2 (putRef s2.nxt D1 (putDev s1.nxt D1 S))))))) ((putRef s2.nxt D3 (putDev s1.nxt D3 (putRef s2.nxt D2 (putDev s1.nxt D2 (putRef s2.nxt D1 (putDev s1.nxt D1 S))))))) [] Y18 rfl au au au ?_
 refine DetHC.all (s1 := (putRef s2.nxt D3 (putDev s1.nxt D3 (putRef s2.nxt D2 (putDev s1.nxt D2 (putRef s2.nxt D1 (putDev s1.nxt D1 S))))))) [2] [(putRef s2.nxt D3 (putDev s1.nxt D3 (putRef s2.nxt D2 (putDev s1.nxt D2 (putRef s2.nxt D1 (putDev s1.nxt D1 S))))))] Y18 rfl au ?_
 refine jO 1 ?_; rotate_left
 refine jO 2 ?_; rotate_left
 have hir2 : (i < rows.length) = True := eq_true hir
 have h33 : (Int.tmod (i : Int) 3 = 0) = False := eq_false h3
 have H := aj hir2 (aj h33 H)
 refine rs (k := rs (k := rg [1, 2, 7, 8, 9, 35] (k := rc (ht := fun hc1 => ?_) (hf := fun hc1 => ?_))))
 · refine rk (k := rs (k := rb (k := rs (k := rs (k := ?_)))))
   have hil : i < l.length := Y221
   have hi50 : i < 50 := Y221
   obtain ⟨q, hqe⟩ : ∃ z_, l[i]'hil = z_ := ⟨_, rfl⟩
   have hxq : (l.map Req.pv)[i]? = some (.agg [.int .i64 q.fn, .int .i64 q.at_, .int .i64 q.count, .int .i64 q.wat, .int .i64 q.sub, .sl .unk (q.bits.map PV.bool), .sl .unk (q.vals.map (PV.int .u16)), .int .u16 q.and_, .int .u16 q.or_]) := Y280
   have hqo : q.ok := hlq q Y165
   have hilT : (i < l.length) = True := eq_true hil
   obtain ⟨⟨R, D1⟩, hX⟩ : ∃ Z, doF D q = Z := ⟨_, rfl⟩
   have o1 : D1.ok := Y222
   have n1 : D1.c0.length = D.c0.length := Y223
   have r1 : R.ok := Y224
   have hP1 := hP.step n1
   have hw : IntKind.i64.wrap ((i : Int) + 1) = ((i + 1 : Nat) : Int) := Y20
   have H := aj hxq (aj hilT (aj hw H))
   refine Run.drawH 18 [8, 14] [[false, false], [true, false], [true, true]] [S, (putDev s1.nxt D1 S), (putRef s2.nxt D1 (putDev s1.nxt D1 S))] ((putRef s2.nxt D1 (putDev s1.nxt D1 S))) Tryz.mixed Y18 Y18 Y18 Y18 Y18 rfl Y18 rfl ?_
   refine DetHC.pre (pre := [_, _, _]) (s1 := S) [0] [S] Y18 rfl au ?_
   refine DetHC.eff [(0, 0)] (S) (S) [] Y18 rfl au au au ?_
   refine DetHC.eff [(0, 0)] (S) (S) [] Y18 rfl au au au ?_
   refine DetHC.eff [(0, 0)] (S) (S) [] Y18 rfl au au au ?_
   refine DetHC.eff [(0, 0)] (S) (S) [] Y18 rfl au au au ?_
   refine DetHC.eff [(0, 0)] (S) (S) [] Y18 rfl au au au ?_
   refine DetHC.callE (v := R.pv) [(0, 1)] [(S, (putDev s1.nxt D1 S))] Y18 rfl au au au Y18 Y166 ?_
   refine DetHC.eff [(0, 0), (1, 1)] (S) (S) [((putDev s1.nxt D1 S), (putDev s1.nxt D1 S))] Y18 rfl au au au ?_
   refine DetHC.eff [(0, 0), (1, 1)] (S) (S) [((putDev s1.nxt D1 S), (putDev s1.nxt D1 S))] Y18 rfl au au au ?_
   refine DetHC.eff [(0, 0), (1, 1)] (S) (S) [((putDev s1.nxt D1 S), (putDev s1.nxt D1 S))] Y18 rfl au au au ?_
   refine DetHC.eff [(0, 0), (1, 1)] (S) (S) [((putDev s1.nxt D1 S), (putDev s1.nxt D1 S))] Y18 rfl au au au ?_
   refine DetHC.eff [(0, 0), (1, 1)] (S) (S) [((putDev s1.nxt D1 S), (putDev s1.nxt D1 S))] Y18 rfl au au au ?_
   refine DetHC.callE (v := R.pv) [(1, 2)] [((putDev s1.nxt D1 S), (putRef s2.nxt D1 (putDev s1.nxt D1 S)))] Y18 rfl au au au Y18 Y167 ?_
   refine DetHC.call [2] [(putRef s2.nxt D1 (putDev s1.nxt D1 S))] Y18 rfl au au au Y18 (fun s _ => ref3_Alike (a := R) (b := R) r1 r1) ?_
   refine DetHC.eff [(2, 2)] ((putRef s2.nxt D1 (putDev s1.nxt D1 S))) ((putRef s2.nxt D1 (putDev s1.nxt D1 S))) [] Y18 rfl au au au ?_
   refine DetHC.all (s1 := (putRef s2.nxt D1 (putDev s1.nxt D1 S))) [2] [(putRef s2.nxt D1 (putDev s1.nxt D1 S))] Y18 rfl au ?_
   refine rl [1, 2, 7, 8, 9, 55] (k := rc (ht := fun hc2 => ?_) (hf := fun hc2 => ?_))
   · cases hc2
   · refine rk (k := rs (k := rs (k := ?_)))
     obtain ⟨r, hre⟩ : ∃ z_, rows[i]'hir = z_ := ⟨_, rfl⟩
     have hxr : (rows.map (fun l : List Int => PV.sl .unk (l.map (PV.int .u8))))[i]? = some (.sl .unk (r.map (PV.int .u8))) := Y360
     obtain ⟨hro, hrl⟩ := hrows r (by rw [← hre]; exact List.getElem_mem _)
     obtain ⟨⟨P1, D2⟩, hX2⟩ : ∃ Z, pduF D1 r = Z := ⟨_, rfl⟩
     have o2 : D2.ok := by have := (pduF_ok o1 hro hrl).1; rwa [hX2] at this
     have n2 : D2.c0.length = D1.c0.length := by have := (pduF_ok o1 hro hrl).2; rwa [hX2] at this
     have hP2 := hP1.step n2
     have hst1 : ((strB P1).toList == (strB P1).toList) = true := beq_self_eq_true _
     have H := aj hxr (aj hst1 H)
     refine Run.drawH 21 [10, 17] [[false, false], [true, false], [true, true]] [(putRef s2.nxt D1 (putDev s1.nxt D1 S)), (putDev s1.nxt D2 (putRef s2.nxt D1 (putDev s1.nxt D1 S))), (putRef s2.nxt D2 (putDev s1.nxt D2 (putRef s2.nxt D1 (putDev s1.nxt D1 S))))] ((putRef s2.nxt D2 (putDev s1.nxt D2 (putRef s2.nxt D1 (putDev s1.nxt D1 S))))) Tryz.mixed Y18 Y18 Y18 Y18 Y18 rfl Y18 rfl ?_
     refine DetHC.pre (pre := [_, _, _, _, _]) (s1 := (putRef s2.nxt D1 (putDev s1.nxt D1 S))) [0] [(putRef s2.nxt D1 (putDev s1.nxt D1 S))] Y18 rfl au ?_
     refine DetHC.eff [(0, 0)] ((putRef s2.nxt D1 (putDev s1.nxt D1 S))) ((putRef s2.nxt D1 (putDev s1.nxt D1 S))) [] Y18 rfl au au au ?_
     refine DetHC.eff [(0, 0)] ((putRef s2.nxt D1 (putDev s1.nxt D1 S))) ((putRef s2.nxt D1 (putDev s1.nxt D1 S))) [] Y18 rfl au au au ?_
     refine DetHC.eff [(0, 0)] ((putRef s2.nxt D1 (putDev s1.nxt D1 S))) ((putRef s2.nxt D1 (putDev s1.nxt D1 S))) [] Y18 rfl au au au ?_
     refine DetHC.eff [(0, 0)] ((putRef s2.nxt D1 (putDev s1.nxt D1 S))) ((putRef s2.nxt D1 (putDev s1.nxt D1 S))) [] Y18 rfl au au au ?_
     refine DetHC.eff [(0, 0)] ((putRef s2.nxt D1 (putDev s1.nxt D1 S))) ((putRef s2.nxt D1 (putDev s1.nxt D1 S))) [] Y18 rfl au au au ?_
     refine DetHC.callE (v := .sl .unk (P1.map (PV.int .u8))) [(0, 1)] [((putRef s2.nxt D1 (putDev s1.nxt D1 S)), (putDev s1.nxt D2 (putRef s2.nxt D1 (putDev s1.nxt D1 S))))] Y18 rfl au au au Y18 Y281 ?_
     refine DetHC.eff [(1, 1), (2, 2)] ((putDev s1.nxt D2 (putRef s2.nxt D1 (putDev s1.nxt D1 S)))) ((putDev s1.nxt D2 (putRef s2.nxt D1 (putDev s1.nxt D1 S)))) [((putRef s2.nxt D2 (putDev s1.nxt D2 (putRef s2.nxt D1 (putDev s1.nxt D1 S)))), (putRef s2.nxt D2 (putDev s1.nxt D2 (putRef s2.nxt D1 (putDev s1.nxt D1 S)))))] Y18 rfl au au au ?_
     refine DetHC.eff [(0, 0), (1, 1)] ((putRef s2.nxt D1 (putDev s1.nxt D1 S))) ((putRef s2.nxt D1 (putDev s1.nxt D1 S))) [((putDev s1.nxt D2 (putRef s2.nxt D1 (putDev s1.nxt D1 S))), (putDev s1.nxt D2 (putRef s2.nxt D1 (putDev s1.nxt D1 S))))] Y18 rfl au au au ?_
     refine DetHC.eff [(0, 0), (1, 1)] ((putRef s2.nxt D1 (putDev s1.nxt D1 S))) ((putRef s2.nxt D1 (putDev s1.nxt D1 S))) [((putDev s1.nxt D2 (putRef s2.nxt D1 (putDev s1.nxt D1 S))), (putDev s1.nxt D2 (putRef s2.nxt D1 (putDev s1.nxt D1 S))))] Y18 rfl au au au ?_
     refine DetHC.eff [(0, 0), (1, 1)] ((putRef s2.nxt D1 (putDev s1.nxt D1 S))) ((putRef s2.nxt D1 (putDev s1.nxt D1 S))) [((putDev s1.nxt D2 (putRef s2.nxt D1 (putDev s1.nxt D1 S))), (putDev s1.nxt D2 (putRef s2.nxt D1 (putDev s1.nxt D1 S))))] Y18 rfl au au au ?_
     refine DetHC.eff [(0, 0), (1, 1)] ((putRef s2.nxt D1 (putDev s1.nxt D1 S))) ((putRef s2.nxt D1 (putDev s1.nxt D1 S))) [((putDev s1.nxt D2 (putRef s2.nxt D1 (putDev s1.nxt D1 S))), (putDev s1.nxt D2 (putRef s2.nxt D1 (putDev s1.nxt D1 S))))] Y18 rfl au au au ?_
     refine DetHC.eff [(0, 0), (1, 1)] ((putRef s2.nxt D1 (putDev s1.nxt D1 S))) ((putRef s2.nxt D1 (putDev s1.nxt D1 S))) [((putDev s1.nxt D2 (putRef s2.nxt D1 (putDev s1.nxt D1 S))), (putDev s1.nxt D2 (putRef s2.nxt D1 (putDev s1.nxt D1 S))))] Y18 rfl au au au ?_
     refine DetHC.callE (v := .sl .unk (P1.map (PV.int .u8))) [(1, 2)] [((putDev s1.nxt D2 (putRef s2.nxt D1 (putDev s1.nxt D1 S))), (putRef s2.nxt D2 (putDev s1.nxt D2 (putRef s2.nxt D1 (putDev s1.nxt D1 S)))))] Y18 rfl au au au Y18 Y338 ?_
     refine DetHC.eff [(2, 2)] ((putRef s2.nxt D2 (putDev s1.nxt D2 (putRef s2.nxt D1 (putDev s1.nxt D1 S))))) ((putRef s2.nxt D2 (putDev s1.nxt D2 (putRef s2.nxt D1 (putDev s1.nxt D1 S))))) [] Y18 rfl au au au ?_
     refine DetHC.eff [(2, 2)] ((putRef s2.nxt D2 (putDev s1.nxt D2 (putRef s2.nxt D1 (putDev s1.nxt D1 S))))) ((putRef s2.nxt D2 (putDev s1.nxt D2 (putRef s2.nxt D1 (putDev s1.nxt D1 S))))) [] Y18 rfl au au au ?_
     refine DetHC.all (s1 := (putRef s2.nxt D2 (putDev s1.nxt D2 (putRef s2.nxt D1 (putDev s1.nxt D1 S))))) [2] [(putRef s2.nxt D2 (putDev s1.nxt D2 (putRef s2.nxt D1 (putDev s1.nxt D1 S))))] Y18 rfl au ?_
     refine rl [1, 2, 7, 8, 9, 76] (k := rc (ht := fun hc3 => ?_) (hf := fun hc3 => ?_))
     · cases hc3
     · refine rk (k := rs (k := rr (k := ro (pre := [_, _, _, _]) (k := rC (h := ref3_Bytes hqo) (k := rh [1, 2, 7, 8, 9, 10] (k := rs (k := rs (k := ?_))))))))
       refine Run.drawC [] [1, 2, 7, 8, 9, 98] Tryz.mixed Y18 ?_
       refine DetC.pre (pre := [_, _, _, _]) au ?_
       refine DetC.gskip' au ?_
       refine DetC.gskip' au ?_
       refine DetC.gskip' au ?_
       refine DetC.gskip' au ?_
       refine DetC.gskip' au ?_
       refine DetC.gskip' au ?_
       refine DetC.gskip' au ?_
       refine DetC.gskip' au ?_
       refine DetC.gskip' au ?_
       refine DetC.all au ?_
       refine re (k := rc (ht := fun hc4 => ?_) (hf := fun hc4 => ?_))
       · cases hc4
       · refine rk (k := rs (k := rr (k := ro (pre := [_, _, _, _, _, _]) (k := rG (h := fun hb => law9_same o2 hP2.dev hP2.ref) (k := rh [1, 2, 7, 8, 9, 107] (k := rc (ht := fun hc5 => ?_) (hf := fun hc5 => ?_)))))))
         · cases hc5
         · refine rk (k := rB (k := rg [1, 2, 7, 8, 9] (k := ?_)))
           refine Run.lp ⟨⟨i + 1, D2, rfl, Y14, o2, hP2⟩, ?_⟩
           simp only [ivar, go_sem, ↓reduceIte, Nat.reduceEqDiff]
           omega
 refine jO 2 ?_; rotate_left
 have hir2 : (i < rows.length) = False := eq_false hir
 have h33 : (Int.tmod (i : Int) 3 = 0) = True := eq_true h3
 have H := aj hir2 (aj h33 H)
 refine rs (k := rs (k := rg [1, 2, 7, 8, 9, 35] (k := rc (ht := fun hc1 => ?_) (hf := fun hc1 => ?_))))
 refine rk (k := rs (k := rb (k := rs (k := rs (k := ?_)))))
 have hil : i < l.length := Y221
 have hi50 : i < 50 := Y221
 obtain ⟨q, hqe⟩ : ∃ z_, l[i]'hil = z_ := ⟨_, rfl⟩
 have hxq : (l.map Req.pv)[i]? = some (.agg [.int .i64 q.fn, .int .i64 q.at_, .int .i64 q.count, .int .i64 q.wat, .int .i64 q.sub, .sl .unk (q.bits.map PV.bool), .sl .unk (q.vals.map (PV.int .u16)), .int .u16 q.and_, .int .u16 q.or_]) := Y280
 have hqo : q.ok := hlq q Y165
 have hilT : (i < l.length) = True := eq_true hil
 obtain ⟨⟨R, D1⟩, hX⟩ : ∃ Z, doF D q = Z := ⟨_, rfl⟩
 have o1 : D1.ok := Y222
 have n1 : D1.c0.length = D.c0.length := Y223
 have r1 : R.ok := Y224
 have hP1 := hP.step n1
 have hw : IntKind.i64.wrap ((i : Int) + 1) = ((i + 1 : Nat) : Int) := Y20
 have H := aj hxq (aj hilT (aj hw H))
 refine Run.drawH 18 [8, 14] [[false, false], [true, false], [true, true]] [S, (putDev s1.nxt D1 S), (putRef s2.nxt D1 (putDev s1.nxt D1 S))] ((putRef s2.nxt D1 (putDev s1.nxt D1 S))) Tryz.mixed Y18 Y18 Y18 Y18 Y18 rfl Y18 rfl ?_
 refine DetHC.pre (pre := [_, _, _]) (s1 := S) [0] [S] Y18 rfl au ?_
 refine DetHC.eff [(0, 0)] (S) (S) [] Y18 rfl au au au ?_
 refine DetHC.eff [(0, 0)] (S) (S) [] Y18 rfl au au au ?_
 refine DetHC.eff [(0, 0)] (S) (S) [] Y18 rfl au au au ?_
 refine DetHC.eff [(0, 0)] (S) (S) [] Y18 rfl au au au ?_
 refine DetHC.eff [(0, 0)] (S) (S) [] Y18 rfl au au au ?_
 refine DetHC.callE (v := R.pv) [(0, 1)] [(S, (putDev s1.nxt D1 S))] Y18 rfl au au au Y18 Y166 ?_
 refine DetHC.eff [(0, 0), (1, 1)] (S) (S) [((putDev s1.nxt D1 S), (putDev s1.nxt D1 S))] Y18 rfl au au au ?_
 refine DetHC.eff [(0, 0), (1, 1)] (S) (S) [((putDev s1.nxt D1 S), (putDev s1.nxt D1 S))] Y18 rfl au au au ?_
 refine DetHC.eff [(0, 0), (1, 1)] (S) (S) [((putDev s1.nxt D1 S), (putDev s1.nxt D1 S))] Y18 rfl au au au ?_
 refine DetHC.eff [(0, 0), (1, 1)] (S) (S) [((putDev s1.nxt D1 S), (putDev s1.nxt D1 S))] Y18 rfl au au au ?_
 refine DetHC.eff [(0, 0), (1, 1)] (S) (S) [((putDev s1.nxt D1 S), (putDev s1.nxt D1 S))] Y18 rfl au au au ?_
 refine DetHC.callE (v := R.pv) [(1, 2)] [((putDev s1.nxt D1 S), (putRef s2.nxt D1 (putDev s1.nxt D1 S)))] Y18 rfl au au au Y18 Y167 ?_
 refine DetHC.call [2] [(putRef s2.nxt D1 (putDev s1.nxt D1 S))] Y18 rfl au au au Y18 (fun s _ => ref3_Alike (a := R) (b := R) r1 r1) ?_
 refine DetHC.eff [(2, 2)] ((putRef s2.nxt D1 (putDev s1.nxt D1 S))) ((putRef s2.nxt D1 (putDev s1.nxt D1 S))) [] Y18 rfl au au au ?_
 refine DetHC.all (s1 := (putRef s2.nxt D1 (putDev s1.nxt D1 S))) [2] [(putRef s2.nxt D1 (putDev s1.nxt D1 S))] Y18 rfl au ?_
 refine rl [1, 2, 7, 8, 9, 55] (k := rc (ht := fun hc2 => ?_) (hf := fun hc2 => ?_))
 · cases hc2
 refine rk (k := rs (k := rs (k := ?_)))
 refine Run.drawC [] [1, 2, 7, 8, 9, 76] Tryz.mixed Y18 ?_
 refine DetC.pre (pre := [_, _, _, _, _]) au ?_
 refine DetC.gskip' au ?_
 refine DetC.gskip' au ?_
 refine DetC.gskip' au ?_
 refine DetC.gskip' au ?_
 refine DetC.gskip' au ?_
 refine DetC.gskip' au ?_
 refine DetC.gskip' au ?_
 refine DetC.gskip' au ?_
 refine DetC.gskip' au ?_
 refine DetC.gskip' au ?_
 refine DetC.gskip' au ?_
 refine DetC.gskip' au ?_
 refine DetC.gskip' au ?_
 refine DetC.gskip' au ?_
 refine DetC.gskip' au ?_
 refine DetC.all au ?_
 refine re (k := rc (ht := fun hc3 => ?_) (hf := fun hc3 => ?_))
 · cases hc3
 refine rk (k := rs (k := rr (k := ro (pre := [_, _, _, _]) (k := rC (h := ref3_Bytes hqo) (k := rh [1, 2, 7, 8, 9, 10] (k := rs (k := rs (k := ?_))))))))
 obtain ⟨⟨P2, D3⟩, hX3⟩ : ∃ Z, pduF D1 (bytesF q) = Z := ⟨_, rfl⟩
 have o3 : D3.ok := by have := (pduF_ok o1 (bytesF_okB hqo) bytesF_l).1; rwa [hX3] at this
 have n3 : D3.c0.length = D1.c0.length := by have := (pduF_ok o1 (bytesF_okB hqo) bytesF_l).2; rwa [hX3] at this
 have hP3 := hP1.step n3
 have hst2 : ((strB P2).toList == (strB P2).toList) = true := beq_self_eq_true _
 have H := aj hst2 H
 refine Run.drawH 14 [6, 10] [[false, false], [true, false], [true, true]] [(putRef s2.nxt D1 (putDev s1.nxt D1 S)), (putDev s1.nxt D3 (putRef s2.nxt D1 (putDev s1.nxt D1 S))), (putRef s2.nxt D3 (putDev s1.nxt D3 (putRef s2.nxt D1 (putDev s1.nxt D1 S))))] ((putRef s2.nxt D3 (putDev s1.nxt D3 (putRef s2.nxt D1 (putDev s1.nxt D1 S))))) Tryz.mixed Y18 Y18 Y18 Y18 Y18 rfl Y18 rfl ?_
 refine DetHC.pre (pre := [_, _, _, _]) (s1 := (putRef s2.nxt D1 (putDev s1.nxt D1 S))) [0] [(putRef s2.nxt D1 (putDev s1.nxt D1 S))] Y18 rfl au ?_
 refine DetHC.eff [(0, 0)] ((putRef s2.nxt D1 (putDev s1.nxt D1 S))) ((putRef s2.nxt D1 (putDev s1.nxt D1 S))) [] Y18 rfl au au au ?_
 refine DetHC.eff [(0, 0)] ((putRef s2.nxt D1 (putDev s1.nxt D1 S))) ((putRef s2.nxt D1 (putDev s1.nxt D1 S))) [] Y18 rfl au au au ?_
 refine DetHC.callE (v := .sl .unk (P2.map (PV.int .u8))) [(0, 1)] [((putRef s2.nxt D1 (putDev s1.nxt D1 S)), (putDev s1.nxt D3 (putRef s2.nxt D1 (putDev s1.nxt D1 S))))] Y18 rfl au au au Y18 (by intro q0 hq0; rw [List.mem_singleton.1 hq0]; exact device_PduL hX3 hP1.dev o1 (bytesF_okB hqo) bytesF_l) ?_
 refine DetHC.eff [(1, 1), (2, 2)] ((putDev s1.nxt D3 (putRef s2.nxt D1 (putDev s1.nxt D1 S)))) ((putDev s1.nxt D3 (putRef s2.nxt D1 (putDev s1.nxt D1 S)))) [((putRef s2.nxt D3 (putDev s1.nxt D3 (putRef s2.nxt D1 (putDev s1.nxt D1 S)))), (putRef s2.nxt D3 (putDev s1.nxt D3 (putRef s2.nxt D1 (putDev s1.nxt D1 S)))))] Y18 rfl au au au ?_
 refine DetHC.eff [(0, 0), (1, 1)] ((putRef s2.nxt D1 (putDev s1.nxt D1 S))) ((putRef s2.nxt D1 (putDev s1.nxt D1 S))) [((putDev s1.nxt D3 (putRef s2.nxt D1 (putDev s1.nxt D1 S))), (putDev s1.nxt D3 (putRef s2.nxt D1 (putDev s1.nxt D1 S))))] Y18 rfl au au au ?_
 refine DetHC.eff [(0, 0), (1, 1)] ((putRef s2.nxt D1 (putDev s1.nxt D1 S))) ((putRef s2.nxt D1 (putDev s1.nxt D1 S))) [((putDev s1.nxt D3 (putRef s2.nxt D1 (putDev s1.nxt D1 S))), (putDev s1.nxt D3 (putRef s2.nxt D1 (putDev s1.nxt D1 S))))] Y18 rfl au au au ?_
 refine DetHC.callE (v := .sl .unk (P2.map (PV.int .u8))) [(1, 2)] [((putDev s1.nxt D3 (putRef s2.nxt D1 (putDev s1.nxt D1 S))), (putRef s2.nxt D3 (putDev s1.nxt D3 (putRef s2.nxt D1 (putDev s1.nxt D1 S)))))] Y18 rfl au au au Y18 (by intro q0 hq0; rw [List.mem_singleton.1 hq0]; exact ref8_PduL hX3 hP1.mid o1 (bytesF_okB hqo) bytesF_l) ?_
 refine DetHC.eff [(2, 2)] ((putRef s2.nxt D3 (putDev s1.nxt D3 (putRef s2.nxt D1 (putDev s1.nxt D1 S))))) ((putRef s2.nxt D3 (putDev s1.nxt D3 (putRef s2.nxt D1 (putDev s1.nxt D1 S))))) [] Y18 rfl au au au ?_
 refine DetHC.eff [(2, 2)] ((putRef s2.nxt D3 (putDev s1.nxt D3 (putRef s2.nxt D1 (putDev s1.nxt D1 S))))) ((putRef s2.nxt D3 (putDev s1.nxt D3 (putRef s2.nxt D1 (putDev s1.nxt D1 S))))) [] Y18 rfl au au au ?_
 refine DetHC.all (s1 := (putRef s2.nxt D3 (putDev s1.nxt D3 (putRef s2.nxt D1 (putDev s1.nxt D1 S))))) [2] [(putRef s2.nxt D3 (putDev s1.nxt D3 (putRef s2.nxt D1 (putDev s1.nxt D1 S))))] Y18 rfl au ?_
 refine jO 1 ?_; rotate_left
 refine jO 2 ?_; rotate_left
 have hir2 : (i < rows.length) = False := eq_false hir
 have h33 : (Int.tmod (i : Int) 3 = 0) = False := eq_false h3
 have H := aj hir2 (aj h33 H)
 refine rs (k := rs (k := rg [1, 2, 7, 8, 9, 35] (k := rc (ht := fun hc1 => ?_) (hf := fun hc1 => ?_))))
 · refine rk (k := rs (k := rb (k := rs (k := rs (k := ?_)))))
   have hil : i < l.length := Y221
   have hi50 : i < 50 := Y221
   obtain ⟨q, hqe⟩ : ∃ z_, l[i]'hil = z_ := ⟨_, rfl⟩
   have hxq : (l.map Req.pv)[i]? = some (.agg [.int .i64 q.fn, .int .i64 q.at_, .int .i64 q.count, .int .i64 q.wat, .int .i64 q.sub, .sl .unk (q.bits.map PV.bool), .sl .unk (q.vals.map (PV.int .u16)), .int .u16 q.and_, .int .u16 q.or_]) := Y280
   have hqo : q.ok := hlq q Y165
   have hilT : (i < l.length) = True := eq_true hil
   obtain ⟨⟨R, D1⟩, hX⟩ : ∃ Z, doF D q = Z := ⟨_, rfl⟩
   have o1 : D1.ok := Y222
   have n1 : D1.c0.length = D.c0.length := Y223
   have r1 : R.ok := Y224
   have hP1 := hP.step n1
   have hw : IntKind.i64.wrap ((i : Int) + 1) = ((i + 1 : Nat) : Int) := Y20
   have H := aj hxq (aj hilT (aj hw H))
   refine Run.drawH 18 [8, 14] [[false, false], [true, false], [true, true]] [S, (putDev s1.nxt D1 S), (putRef s2.nxt D1 (putDev s1.nxt D1 S))] ((putRef s2.nxt D1 (putDev s1.nxt D1 S))) Tryz.mixed Y18 Y18 Y18 Y18 Y18 rfl Y18 rfl ?_
   refine DetHC.pre (pre := [_, _, _]) (s1 := S) [0] [S] Y18 rfl au ?_
   refine DetHC.eff [(0, 0)] (S) (S) [] Y18 rfl au au au ?_
   refine DetHC.eff [(0, 0)] (S) (S) [] Y18 rfl au au au ?_
   refine DetHC.eff [(0, 0)] (S) (S) [] Y18 rfl au au au ?_
   refine DetHC.eff [(0, 0)] (S) (S) [] Y18 rfl au au au ?_
   refine DetHC.eff [(0, 0)] (S) (S) [] Y18 rfl au au au ?_
   refine DetHC.callE (v := R.pv) [(0, 1)] [(S, (putDev s1.nxt D1 S))] Y18 rfl au au au Y18 Y166 ?_
   refine DetHC.eff [(0, 0), (1, 1)] (S) (S) [((putDev s1.nxt D1 S), (putDev s1.nxt D1 S))] Y18 rfl au au au ?_
   refine DetHC.eff [(0, 0), (1, 1)] (S) (S) [((putDev s1.nxt D1 S), (putDev s1.nxt D1 S))] Y18 rfl au au au ?_
   refine DetHC.eff [(0, 0), (1, 1)] (S) (S) [((putDev s1.nxt D1 S), (putDev s1.nxt D1 S))] Y18 rfl au au au ?_
   refine DetHC.eff [(0, 0), (1, 1)] (S) (S) [((putDev s1.nxt D1 S), (putDev s1.nxt D1 S))] Y18 rfl au au au ?_
   refine DetHC.eff [(0, 0), (1, 1)] (S) (S) [((putDev s1.nxt D1 S), (putDev s1.nxt D1 S))] Y18 rfl au au au ?_
   refine DetHC.callE (v := R.pv) [(1, 2)] [((putDev s1.nxt D1 S), (putRef s2.nxt D1 (putDev s1.nxt D1 S)))] Y18 rfl au au au Y18 Y167 ?_
   refine DetHC.call [2] [(putRef s2.nxt D1 (putDev s1.nxt D1 S))] Y18 rfl au au au Y18 (fun s _ => ref3_Alike (a := R) (b := R) r1 r1) ?_
   refine DetHC.eff [(2, 2)] ((putRef s2.nxt D1 (putDev s1.nxt D1 S))) ((putRef s2.nxt D1 (putDev s1.nxt D1 S))) [] Y18 rfl au au au ?_
   refine DetHC.all (s1 := (putRef s2.nxt D1 (putDev s1.nxt D1 S))) [2] [(putRef s2.nxt D1 (putDev s1.nxt D1 S))] Y18 rfl au ?_
   refine rl [1, 2, 7, 8, 9, 55] (k := rc (ht := fun hc2 => ?_) (hf := fun hc2 => ?_))
   · cases hc2
   · refine rk (k := rs (k := rs (k := ?_)))
     refine Run.drawC [] [1, 2, 7, 8, 9, 76] Tryz.mixed Y18 ?_
     refine DetC.pre (pre := [_, _, _, _, _]) au ?_
     refine DetC.gskip' au ?_
     refine DetC.gskip' au ?_
     refine DetC.gskip' au ?_
     refine DetC.gskip' au ?_
     refine DetC.gskip' au ?_
     refine DetC.gskip' au ?_
     refine DetC.gskip' au ?_
     refine DetC.gskip' au ?_
     refine DetC.gskip' au ?_
     refine DetC.gskip' au ?_
     refine DetC.gskip' au ?_
     refine DetC.gskip' au ?_
     refine DetC.gskip' au ?_
     refine DetC.gskip' au ?_
     refine DetC.gskip' au ?_
     refine DetC.all au ?_
     refine re (k := rc (ht := fun hc3 => ?_) (hf := fun hc3 => ?_))
     · cases hc3
     · refine rk (k := rs (k := rr (k := ro (pre := [_, _, _, _]) (k := rC (h := ref3_Bytes hqo) (k := rh [1, 2, 7, 8, 9, 10] (k := rs (k := rs (k := ?_))))))))
       refine Run.drawC [] [1, 2, 7, 8, 9, 98] Tryz.mixed Y18 ?_
       refine DetC.pre (pre := [_, _, _, _]) au ?_
       refine DetC.gskip' au ?_
       refine DetC.gskip' au ?_
       refine DetC.gskip' au ?_
       refine DetC.gskip' au ?_
       refine DetC.gskip' au ?_
       refine DetC.gskip' au ?_
       refine DetC.gskip' au ?_
       refine DetC.gskip' au ?_
       refine DetC.gskip' au ?_
       refine DetC.all au ?_
       refine re (k := rc (ht := fun hc4 => ?_) (hf := fun hc4 => ?_))
       · cases hc4
       · refine rk (k := rs (k := rr (k := ro (pre := [_, _, _, _, _, _]) (k := rG (h := fun hb => law9_same o1 hP1.dev hP1.ref) (k := rh [1, 2, 7, 8, 9, 107] (k := rc (ht := fun hc5 => ?_) (hf := fun hc5 => ?_)))))))
         · cases hc5
         · refine rk (k := rB (k := rg [1, 2, 7, 8, 9] (k := ?_)))
           refine Run.lp ⟨⟨i + 1, D1, rfl, Y14, o1, hP1⟩, ?_⟩
           simp only [ivar, go_sem, ↓reduceIte, Nat.reduceEqDiff]
           omega
 refine jO 2 ?_; rotate_left
 any_goals
   refine jI 1 ?_
   refine rl [1, 2, 7, 8, 9, 98] (k := rc (ht := fun hc4 => ?_) (hf := fun hc4 => ?_))
   · cases hc4
   refine jO 3 ?_; rotate_left
 any_goals
   refine jI 3 ?_
   refine rk (k := rs (k := rr (k := ro (pre := [_, _, _, _, _, _]) (k := rG (h := fun hb => law9_same o3 hP3.dev hP3.ref) (k := rh [1, 2, 7, 8, 9, 107] (k := rc (ht := fun hc5 => ?_) (hf := fun hc5 => ?_)))))))
   · cases hc5
   refine jO 4 ?_; rotate_left
 any_goals
   refine jI 2 ?_
   refine rX (k := rs (k := rr (k := ro (pre := [_, _, _, _, _]) (k := rG (h := fun hb => law9_same oD hP.dev hP.ref) (k := rh [6] (k := rR (k := ?_)))))))
   refine jO 5 ?_; rotate_left
 any_goals
   refine jI 5 ?_
   exact Ret.pure (r' := .bool true) (by simp only [Tryz.f5, go_sem, ↓reduceIte] <;> rfl) (by simp only [PV.weak]) (by simp only [PV.blw]) hwf (fun i hi => hP.low i Y14) ⟨rfl, rfl⟩
 any_goals
   refine jI 4 ?_
   refine rk (k := rB (k := rg [1, 2, 7, 8, 9] (k := ?_)))
   refine jO 6 ?_; rotate_left
 any_goals
   refine jI 6 ?_
   refine Run.lp ⟨⟨i + 1, D3, rfl, Y14, o3, hP3⟩, ?_⟩
   simp only [ivar, go_sem, ↓reduceIte, Nat.reduceEqDiff]
   omega
theorem law9_play {n : Int} {l : List Req} (hlq : ∀ q ∈ l, q.ok) (hln : l.length < 140737488355328) {rows : List (List Int)} (hrn : rows.length < 140737488355328) (hrows : ∀ r ∈ rows, OkB r ∧ r.length ≤ 140737488351232) {s : St} : ACalls Tryz.prog 5 [.int .i64 n, .sl .unk (l.map Req.pv), .sl .unk (rows.map (fun l : List Int => PV.sl .unk (l.map (PV.int .u8))))] s (fun r s' => r = .bool true ∧ s' = s) := by
 by_cases h : n < 1 ∨ 65536 < n
 · exact law9_playBad h hlq hln hrn hrows
 · obtain ⟨m, rfl⟩ : ∃ m : Nat, n = m := ⟨n.toNat, Y14⟩
   exact law9_playOk Y14 Y14 hlq hln hrn hrows
end Go.Proofs
namespace Go.Proofs
open Go.PM
set_option maxHeartbeats 2000000
theorem rd_rows : Rd Tryz.prog 28 false fun p => ∃ rows : List (List Int), p = .sl .unk (rows.map (fun l : List Int => PV.sl .unk (l.map (PV.int .u8)))) ∧ rows.length < 140737488355328 ∧ ∀ r ∈ rows, OkB r ∧ r.length ≤ 140737488351232 :=
 Rd.mono (rd_slice (e := 27) Y18 (by rw [Tryz.cz27]; decide) (rd_slice (e := 5) Y18 (by rw [Tryz.cz5]; decide) (rd_int (k := .u8) Y18))) (by
   rintro p ⟨els, rfl, h, hb⟩
   obtain ⟨rows, rfl, k⟩ := choose_list (f := (fun l : List Int => PV.sl .unk (l.map (PV.int .u8)))) (q := fun r => OkB r ∧ r.length ≤ 140737488351232) (l := els) fun x hx => by
     obtain ⟨bs, rfl, hbs, bb⟩ := h x hx
     obtain ⟨l, rfl, kl⟩ := choose_list (f := PV.int .u8) (q := fun n => U8 n) (l := bs) fun y hy => by
       obtain ⟨n, rfl, hn⟩ := hbs y hy
       exact ⟨n, rfl, wf_u8 hn⟩
     rw [List.length_map, Tryz.by5] at bb
     have hr : reachBytes = 140737488351232 := rfl
     exact ⟨l, rfl, kl, Y14⟩
   rw [List.length_map, Tryz.by27] at hb
   have hr : reachBytes = 140737488351232 := rfl
   exact ⟨rows, rfl, Y14, k⟩)
end Go.Proofs
namespace Go.Proofs
open Go.PM
set_option maxHeartbeats 2000000
theorem Req.few_ok {q : Req} (h : q.ok) (m k : Nat) : ({ q with bits := q.bits.take m, vals := q.vals.take k } : Req).ok :=
 ⟨h.fn, h.at_, h.count, h.wat, h.sub, fun x hx => h.vals x (List.mem_of_mem_take hx), h.and_, h.or_, by have := h.nb; show (q.bits.take m).length ≤ _; rw [List.length_take]; omega, by have := h.nv; show (q.vals.take k).length * 2 ≤ _; rw [List.length_take]; omega⟩
theorem isEls_snoc {P : Program} {e : TypeId} {a b : List PV} (h : isEls P e a) (k : isEls P e b) : isEls P e (a ++ b) := fun p hp => (List.mem_append.1 hp).elim (h p) (k p)
theorem weaks_snoc {a b : List PV} : PV.weaks (a ++ b) = PV.weaks a ++ PV.weaks b := by
 induction a with
 | nil => rfl
 | cons x l ih => simp only [List.cons_append, PV.weaks, ih]
theorem weaks_reqs (qs : List Req) : PV.weaks (qs.map Req.pv) = qs.map Req.pv := weaks_map_id Req.pv weak_req _
theorem weaks_rows (rows : List (List Int)) : PV.weaks (rows.map (fun l : List Int => PV.sl .unk (l.map (PV.int .u8)))) = rows.map (fun l : List Int => PV.sl .unk (l.map (PV.int .u8))) := weaks_map_id _ (fun l => by simp only [PV.weak, weaks_u8]) _
structure ReqsAt (s0 s' : St) (kk : SK) (els : List PV) (qs : List Req) : Prop where
 wk : PV.weaks els = qs.map Req.pv
 el : isEls Tryz.prog 33 els
 ln : els.length = qs.length
 ok : ∀ q ∈ qs, q.ok
 fr : Fr s0 s'
 gr : Grows s' kk els.length (Tryz.prog.cellsOf 33)
 tk : ∀ t z, kk = .tok t z → s0.nxt ≤ t ∧ t < s'.nxt
theorem ReqsAt.snoc {s0 s1 s2 s3 : St} {kk k' : SK} {els : List PV} {qs : List Req} {el : PV} {q : Req} (h : ReqsAt s0 s1 kk els qs) (hel : isEls Tryz.prog 33 [el]) (hw : el.weak = q.pv) (hq : q.ok) (h12 : s1.nxt ≤ s2.nxt) (f2 : Fr s0 s2)
   (hg : Grows s3 k' (els.length + [el].length) (Tryz.prog.cellsOf 33)) (htm : TMoves s2 s3 kk k') : ReqsAt s0 s3 k' (els ++ [el]) (qs ++ [q]) := by
 refine ⟨by rw [weaks_snoc, h.wk, List.map_append]; simp only [PV.weaks, hw, List.map_cons, List.map_nil], isEls_snoc h.el hel, by rw [List.length_append, List.length_append, h.ln]; rfl, fun y hy => ?_, f2.tm htm (fun t z e => (h.tk t z e).1), by rw [List.length_append]; exact hg, fun t z e => ?_⟩
 · rcases List.mem_append.1 hy with hy | hy
   · exact h.ok y hy
   · rw [List.mem_singleton.1 hy]; exact hq
 · have h9 := htm.nxt
   have h8 := f2.nxt
   rcases htm.fresh t z e with ⟨z', h'⟩ | ⟨h1, h2⟩
   · have := h.tk t z' h'; omega
   · omega
theorem Grows.over {s s' : St} {k : SK} {n z : Nat} (h : Grows s k n z) (f : ∀ t, k = .tok t z → s'.blk t = s.blk t) : Grows s' k n z := h.mono f
attribute [local go_sem] set_set weaks_reqs weaks_rows weaks_bools weaks_u16 Req.pv
set_option maxRecDepth 100000 in
theorem law9_Plays {l : List Int} (hl : l.length * 8 ≤ 140737488351232) {cells : Int} {raw : List Req} (hro : ∀ q ∈ raw, q.ok) (hrl : raw.length < 140737488355328) {rows : List (List Int)} (hrn : rows.length < 140737488355328) (hrows : ∀ r ∈ rows, OkB r ∧ r.length ≤ 140737488351232) {s : St} : ACalls Tryz.prog 4 [.sl .unk (l.map (PV.int .i64)), .int .i64 cells, .sl .unk (raw.map Req.pv), .sl .unk (rows.map (fun l : List Int => PV.sl .unk (l.map (PV.int .u8))))] s (fun r s' => r = .bool true ∧ s' = s) := by
 refine go Tryz.func4 (k := fun hwf H => ?_)
 have hone : ∀ el : PV, el.ok = true → el.cells.length = 9 → isEls Tryz.prog 33 [el] := fun el h1 h2 p hp => by rw [List.mem_singleton.1 hp]; exact ⟨h1, by rw [Tryz.cz33]; exact h2⟩
 refine rs (k := rg [0, 1, 2, 3] (k := rs (k := rg [0, 1, 2, 3, 9] (k := rs (k := rs (k := rg [0, 1, 2, 3, 9, 10] (k := rb (k := ?_))))))))
 refine Run.loop (fun e s' => ∃ (i : Nat) (qs : List Req) (els : List PV) (kk : SK), e = [(0, .sl .unk (l.map (PV.int .i64))), (1, .int .i64 cells), (2, .sl .unk (raw.map Req.pv)), (3, .sl .unk (rows.map (fun l : List Int => PV.sl .unk (l.map (PV.int .u8))))), (9, .sl kk els), (10, .int .i64 (i : Int))] ∧ i ≤ 20 ∧ qs.length = i ∧ ReqsAt s s' kk els qs) (fun e s' => 20 - ivar e 10) ?_ ?_
 · exact ⟨0, [], [], .nil, rfl, Nat.zero_le _, rfl, rfl, (fun p hp => by cases hp), rfl, fun q hq => (List.not_mem_nil hq).elim, Fr.refl hwf, .inl ⟨rfl, rfl⟩, fun t z e => Y70⟩
 rintro e s1 ⟨i, qs, els, kk, rfl, hi, hql, hF⟩
 have hFn := hF.fr.nxt
 refine rs (k := rs (k := rg [0, 1, 2, 3, 9, 10, 19] (k := rc (ht := fun hc0 => ?_) (hf := fun hc0 => ?_))))
 · refine rk (k := rs (k := rb (k := rs (k := ?_))))
   have hil : i < raw.length := Y76
   have hi20 : i < 20 := Y76
   obtain ⟨q, hqe⟩ : ∃ z_, raw[i]'hil = z_ := ⟨_, rfl⟩
   have hxq : (raw.map Req.pv)[i]? = some (.agg [.int .i64 q.fn, .int .i64 q.at_, .int .i64 q.count, .int .i64 q.wat, .int .i64 q.sub, .sl .unk (q.bits.map PV.bool), .sl .unk (q.vals.map (PV.int .u16)), .int .u16 q.and_, .int .u16 q.or_]) := Y280
   have hqo : q.ok := hro q Y165
   have hilT : (i < raw.length) = True := eq_true hil
   have hw : IntKind.i64.wrap ((i : Int) + 1) = ((i + 1 : Nat) : Int) := Y20
   obtain ⟨mb, hmb, hmb2⟩ : ∃ m : Nat, (if (30 : Int) < (q.bits.length : Int) then (30 : Int) else (q.bits.length : Int)) = (m : Int) ∧ m ≤ q.bits.length := by
     by_cases h : (30 : Int) < (q.bits.length : Int)
     · exact ⟨30, by rw [if_pos h]; rfl, Y14⟩
     · exact ⟨q.bits.length, by rw [if_neg h], Nat.le_refl _⟩
   obtain ⟨mv, hmv, hmv2⟩ : ∃ m : Nat, (if (30 : Int) < (q.vals.length : Int) then (30 : Int) else (q.vals.length : Int)) = (m : Int) ∧ m ≤ q.vals.length := by
     by_cases h : (30 : Int) < (q.vals.length : Int)
     · exact ⟨30, by rw [if_pos h]; rfl, Y14⟩
     · exact ⟨q.vals.length, by rw [if_neg h], Nat.le_refl _⟩
   have hmb3 : ((mb : Int) ≤ (q.bits.length : Int)) = True := eq_true Y14
   have hmv3 : ((mv : Int) ≤ (q.vals.length : Int)) = True := eq_true Y14
   have htb : (q.bits.map PV.bool).take mb = (q.bits.take mb).map PV.bool := List.map_take.symm
   have htv : (q.vals.map (PV.int .u16)).take mv = (q.vals.take mv).map (PV.int .u16) := List.map_take.symm
   have H := aj hxq (aj hilT (aj hw (aj hmb (aj hmv (aj hmb3 (aj hmv3 (aj htb (aj htv H))))))))
   refine rg [0, 1, 2, 3, 9, 10, 11] (k := rs (k := ?_))
   refine Run.drawH 18 [15, 17] [[false, false], [true, false], [true, true]] [(s1.new (.row 33 [.agg [.int .i64 q.fn, .int .i64 q.at_, .int .i64 q.count, .int .i64 q.wat, .int .i64 q.sub, .sl .unk (q.bits.map PV.bool), .sl .unk (q.vals.map (PV.int .u16)), .int .u16 q.and_, .int .u16 q.or_]])), (s1.new (.row 33 [.agg [.int .i64 q.fn, .int .i64 q.at_, .int .i64 q.count, .int .i64 q.wat, .int .i64 q.sub, .sl .unk ((q.bits.take mb).map PV.bool), .sl .unk (q.vals.map (PV.int .u16)), .int .u16 q.and_, .int .u16 q.or_]])), (s1.new (.row 33 [.agg [.int .i64 q.fn, .int .i64 q.at_, .int .i64 q.count, .int .i64 q.wat, .int .i64 q.sub, .sl .unk ((q.bits.take mb).map PV.bool), .sl .unk ((q.vals.take mv).map (PV.int .u16)), .int .u16 q.and_, .int .u16 q.or_]]))] ((s1.new (.row 33 [.agg [.int .i64 q.fn, .int .i64 q.at_, .int .i64 q.count, .int .i64 q.wat, .int .i64 q.sub, .sl .unk ((q.bits.take mb).map PV.bool), .sl .unk ((q.vals.take mv).map (PV.int .u16)), .int .u16 q.and_, .int .u16 q.or_]]))) Tryz.mixed Y18 Y18 Y18 Y18 Y18 rfl Y18 rfl ?_
   refine DetHC.pre (pre := [_, _, _, _, _, _]) (s1 := (s1.new (.row 33 [.agg [.int .i64 q.fn, .int .i64 q.at_, .int .i64 q.count, .int .i64 q.wat, .int .i64 q.sub, .sl .unk (q.bits.map PV.bool), .sl .unk (q.vals.map (PV.int .u16)), .int .u16 q.and_, .int .u16 q.or_]]))) [0] [(s1.new (.row 33 [.agg [.int .i64 q.fn, .int .i64 q.at_, .int .i64 q.count, .int .i64 q.wat, .int .i64 q.sub, .sl .unk (q.bits.map PV.bool), .sl .unk (q.vals.map (PV.int .u16)), .int .u16 q.and_, .int .u16 q.or_]]))] Y18 rfl au ?_
   refine DetHC.pre (pre := [_, _, _, _, _]) (s1 := (s1.new (.row 33 [.agg [.int .i64 q.fn, .int .i64 q.at_, .int .i64 q.count, .int .i64 q.wat, .int .i64 q.sub, .sl .unk (q.bits.map PV.bool), .sl .unk (q.vals.map (PV.int .u16)), .int .u16 q.and_, .int .u16 q.or_]]))) [0] [(s1.new (.row 33 [.agg [.int .i64 q.fn, .int .i64 q.at_, .int .i64 q.count, .int .i64 q.wat, .int .i64 q.sub, .sl .unk (q.bits.map PV.bool), .sl .unk (q.vals.map (PV.int .u16)), .int .u16 q.and_, .int .u16 q.or_]]))] Y18 rfl au ?_
   refine DetHC.pre (pre := [_, _, _]) (s1 := (s1.new (.row 33 [.agg [.int .i64 q.fn, .int .i64 q.at_, .int .i64 q.count, .int .i64 q.wat, .int .i64 q.sub, .sl .unk (q.bits.map PV.bool), .sl .unk (q.vals.map (PV.int .u16)), .int .u16 q.and_, .int .u16 q.or_]]))) [0, 1] [(s1.new (.row 33 [.agg [.int .i64 q.fn, .int .i64 q.at_, .int .i64 q.count, .int .i64 q.wat, .int .i64 q.sub, .sl .unk (q.bits.map PV.bool), .sl .unk (q.vals.map (PV.int .u16)), .int .u16 q.and_, .int .u16 q.or_]])), (s1.new (.row 33 [.agg [.int .i64 q.fn, .int .i64 q.at_, .int .i64 q.count, .int .i64 q.wat, .int .i64 q.sub, .sl .unk ((q.bits.take mb).map PV.bool), .sl .unk (q.vals.map (PV.int .u16)), .int .u16 q.and_, .int .u16 q.or_]]))] Y18 rfl au ?_
   refine DetHC.pre (pre := [_]) (s1 := (s1.new (.row 33 [.agg [.int .i64 q.fn, .int .i64 q.at_, .int .i64 q.count, .int .i64 q.wat, .int .i64 q.sub, .sl .unk (q.bits.map PV.bool), .sl .unk (q.vals.map (PV.int .u16)), .int .u16 q.and_, .int .u16 q.or_]]))) [0] [(s1.new (.row 33 [.agg [.int .i64 q.fn, .int .i64 q.at_, .int .i64 q.count, .int .i64 q.wat, .int .i64 q.sub, .sl .unk (q.bits.map PV.bool), .sl .unk (q.vals.map (PV.int .u16)), .int .u16 q.and_, .int .u16 q.or_]]))] Y18 rfl au ?_
   refine DetHC.eff [(0, 1)] ((s1.new (.row 33 [.agg [.int .i64 q.fn, .int .i64 q.at_, .int .i64 q.count, .int .i64 q.wat, .int .i64 q.sub, .sl .unk (q.bits.map PV.bool), .sl .unk (q.vals.map (PV.int .u16)), .int .u16 q.and_, .int .u16 q.or_]]))) ((s1.new (.row 33 [.agg [.int .i64 q.fn, .int .i64 q.at_, .int .i64 q.count, .int .i64 q.wat, .int .i64 q.sub, .sl .unk ((q.bits.take mb).map PV.bool), .sl .unk (q.vals.map (PV.int .u16)), .int .u16 q.and_, .int .u16 q.or_]]))) [] Y18 rfl au au au ?_
   refine DetHC.pre (pre := [_]) (s1 := (s1.new (.row 33 [.agg [.int .i64 q.fn, .int .i64 q.at_, .int .i64 q.count, .int .i64 q.wat, .int .i64 q.sub, .sl .unk ((q.bits.take mb).map PV.bool), .sl .unk (q.vals.map (PV.int .u16)), .int .u16 q.and_, .int .u16 q.or_]]))) [1] [(s1.new (.row 33 [.agg [.int .i64 q.fn, .int .i64 q.at_, .int .i64 q.count, .int .i64 q.wat, .int .i64 q.sub, .sl .unk ((q.bits.take mb).map PV.bool), .sl .unk (q.vals.map (PV.int .u16)), .int .u16 q.and_, .int .u16 q.or_]]))] Y18 rfl au ?_
   refine DetHC.eff [(1, 2)] ((s1.new (.row 33 [.agg [.int .i64 q.fn, .int .i64 q.at_, .int .i64 q.count, .int .i64 q.wat, .int .i64 q.sub, .sl .unk ((q.bits.take mb).map PV.bool), .sl .unk (q.vals.map (PV.int .u16)), .int .u16 q.and_, .int .u16 q.or_]]))) ((s1.new (.row 33 [.agg [.int .i64 q.fn, .int .i64 q.at_, .int .i64 q.count, .int .i64 q.wat, .int .i64 q.sub, .sl .unk ((q.bits.take mb).map PV.bool), .sl .unk ((q.vals.take mv).map (PV.int .u16)), .int .u16 q.and_, .int .u16 q.or_]]))) [] Y18 rfl au au au ?_
   refine DetHC.nil ?_
   refine rl [0, 1, 2, 3, 9, 10, 11] (k := rr (k := ro (pre := [_, _]) (k := rO (k := ?_))))
   refine RunO.grow (xs := els) (ys := [_]) au au au Tryz.td23 (by rw [Tryz.zp33]; rfl) hF.el (hone _ (by rfl) (by rfl)) (by rw [Tryz.by33]; decide) (by rw [Tryz.by33]; simp; have := hF.ln; omega) (hF.gr.mono fun t e => by have := hF.tk _ _ e; simp (disch := first | omega | (simp only [nxt_set, nxt_new] <;> omega) | fail) only [go_sem]) Y71 ?_
   intro k' s3 hgr' htm
   refine rh [0, 1, 2, 3, 9, 10] (k := rB (k := rg [0, 1, 2, 3, 9, 10] (k := ?_)))
   refine Run.lp ⟨⟨i + 1, qs ++ [{ q with bits := q.bits.take mb, vals := q.vals.take mv }], _, k', rfl, Y14, by rw [List.length_append, hql]; rfl, hF.snoc (hone _ (by rfl) (by rfl)) (by simp only [PV.weak, PV.weaks, weaks_bools, weaks_u16, Req.pv]) (Req.few_ok hqo _ _) (by simp only [nxt_set, nxt_new] <;> omega) (hF.fr.new _) hgr' htm⟩, ?_⟩
   simp only [ivar, go_sem, ↓reduceIte, Nat.reduceEqDiff]
   omega
 · refine rX (k := rs (k := rr (k := ro (pre := [_, _, _, _]) (k := ?_))))
   refine RunO.callw au au au Y18 ((law9_requests hl (n := 25) Y15).mono ?_)
   rintro r s9 ⟨qs1, rfl, hq1, ho1, hs⟩
   subst s9
   refine ro (pre := [_]) (k := ?_)
   refine RunO.callw au au au Y18 ((law9_play ho1 Y14 hrn hrows).mono ?_)
   rintro r s9 ⟨rfl, hs⟩
   subst s9
   refine ro (pre := [_]) (k := rQ 53 (ht := fun hg7 => ?_) (hf := fun hg7 => ?_))
   · refine rg1 (k := rg1 (k := rg1 (k := rg1 (k := rg1 (k := ?_)))))
     have hwk := hF.wk
     have H := aj hwk H
     refine RunO.callw au au au Y18 ((law9_play (l := qs) (rows := rows) hF.ok Y14 hrn hrows).mono ?_)
     rintro r s9 ⟨rfl, hs⟩
     subst s9
     refine ro (pre := [_, _]) (k := rQ 61 (ht := fun hg15 => ?_) (hf := fun hg15 => ?_))
     · refine rg1 (k := rg1 (k := ?_))
       refine RunO.callw au au au Y18 ((law9_requests hl (n := 5) Y15).mono ?_)
       rintro r s9 ⟨qs2, rfl, hq2, ho2, hs⟩
       subst s9
       refine RunO.callw au au au Y18 ((law9_play (rows := []) ho2 Y14 Y15 (fun r hr => (List.not_mem_nil hr).elim)).mono ?_)
       rintro r s9 ⟨rfl, hs⟩
       subst s9
       refine ro (pre := [_, _]) (k := rQ 67 (ht := fun hg21 => ?_) (hf := fun hg21 => ?_))
       · refine RunO.callw au au au Y18 ((law9_known).mono ?_)
         rintro r s9 ⟨rfl, hs⟩
         subst s9
         refine rh [8] (k := rR (k := ?_))
         refine Ret.pure (by simp only [Tryz.f4, go_sem] <;> rfl) rfl (by simp only [go_sem, reduceCtorEq, false_implies, implies_true]) hwf (by first | exact (hF.fr).blk) ⟨?_, rfl⟩
         · rfl
       · cases hg21
     · cases hg15
   · cases hg7
theorem rd_req : Rd Tryz.prog 33 true fun p => ∃ q : Req, p = q.pv ∧ q.ok :=
 Rd.mono (rd_struct (fs := [(0, 3, 1), (1, 3, 1), (2, 3, 1), (3, 3, 1), (4, 3, 1), (5, 29, 1), (6, 30, 1), (7, 31, 1), (8, 31, 1)]) Y18 (.cons (rd_int Y18) (.cons (rd_int Y18) (.cons (rd_int Y18) (.cons (rd_int Y18) (.cons (rd_int Y18)
   (.cons (rd_slice (e := 4) Y18 (by rw [Tryz.cz4]; decide) (rd_bool Y18)) (.cons (rd_slice (e := 31) Y18 (by rw [Tryz.cz31]; decide) (rd_int (k := .u16) Y18)) (.cons (rd_int Y18) (.cons (rd_int Y18) (.nil _))))))))))) (by
   rintro p ⟨ps, rfl, _, _, rfl, ⟨a, rfl, ha⟩, _, _, rfl, ⟨b, rfl, hb⟩, _, _, rfl, ⟨c, rfl, hc⟩, _, _, rfl, ⟨d, rfl, hd⟩, _, _, rfl, ⟨e, rfl, he⟩, _, _, rfl, ⟨bs, rfl, hbs, bb⟩, _, _, rfl, ⟨vs, rfl, hvs, bv⟩, _, _, rfl, ⟨f, rfl, hf⟩, _, _, rfl, ⟨g, rfl, hg⟩, rfl⟩
   obtain ⟨lb, rfl, kb⟩ := choose_list (f := PV.bool) (q := fun _ => True) (l := bs) fun x hx => by
     obtain ⟨y, rfl⟩ := hbs x hx
     exact ⟨y, rfl, trivial⟩
   obtain ⟨lv, rfl, kv⟩ := choose_list (f := PV.int .u16) (q := fun n => U16 n) (l := vs) fun x hx => by
     obtain ⟨y, rfl, hy⟩ := hvs x hx
     exact ⟨y, rfl, wf_u16 hy⟩
   rw [List.length_map, Tryz.by4] at bb
   rw [List.length_map, Tryz.by31] at bv
   have hr : reachBytes = 140737488351232 := rfl
   exact ⟨⟨a, b, c, d, e, lb, lv, f, g⟩, rfl, wf_i64 ha, wf_i64 hb, wf_i64 hc, wf_i64 hd, wf_i64 he, kv, wf_u16 hf, wf_u16 hg, by show lb.length ≤ _; omega, by show lv.length * 2 ≤ _; omega⟩)
theorem rd_reqs : Rd Tryz.prog 23 false fun p => ∃ qs : List Req, p = .sl .unk (qs.map Req.pv) ∧ qs.length < 140737488355328 ∧ ∀ q ∈ qs, q.ok :=
 Rd.mono (rd_slice (e := 33) Y18 (by rw [Tryz.cz33]; decide) rd_req) (by
   rintro p ⟨els, rfl, h, hb⟩
   obtain ⟨qs, rfl, k⟩ := choose_list (f := Req.pv) (q := Req.ok) h
   rw [List.length_map, Tryz.by33] at hb
   have hr : reachBytes = 140737488351232 := rfl
   exact ⟨qs, rfl, Y14, k⟩)
end Go.Proofs

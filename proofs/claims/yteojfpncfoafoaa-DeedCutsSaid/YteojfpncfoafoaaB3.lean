import Derived.Test.YteojfpncfoafoaaB2
set_option linter.unusedVariables false
set_option linter.unusedSimpArgs false
namespace Go.Proofs
open Go.PM
set_option maxHeartbeats 2000000
theorem Slt.ok.sp {s : Slt} (h : s.ok) : s.sp.ok := ⟨h.pos, h.len⟩
theorem table_slot {a : Slt} {s : St} : ACalls Try.prog 66 [a.pv] s (fun r s' => r = a.sp.pv ∧ s' = s) := by
  refine go Try.func66 (k := fun hwf H => ?_)
  refine rs (k := rg [1, 2] (k := rs (k := rg [2] (k := rR (k := rP (by simp only [Try.f66, go_sem]; rfl) hwf ⟨?_, rfl⟩)))))
  rfl
theorem index_Slt {xs : List Slt} {k : FuncId} {cap : List PV} {p : Slt → Bool} {s : St} (hsz : xs.length < 140737488355328) (hcal : callable Try.prog k = true) (hcap : PV.weaks cap = cap) (hf : ∀ x ∈ xs, ACalls Try.prog k (x.pv :: cap) s (fun r s' => r = .bool (p x) ∧ s' = s)) :
    ACalls Try.prog 80 [.sl .unk (xs.map Slt.pv), .fn (.func k) [] cap] s (fun r s' => r = .int .i64 (idxF p xs 0) ∧ s' = s) := by
  refine go Try.func80 (k := fun hwf H => ?_)
  have H := aj hcap H
  refine rs (k := rg [0, 1] (k := rs (k := rs (k := rg [0, 1, 7, 8] (k := rb (k := ?_))))))
  refine Run.loop (fun e s' => s' = s ∧ ∃ i : Nat, e = [(0, .sl .unk (xs.map Slt.pv)), (1, .fn (.func k) [] cap), (7, .int .i64 xs.length), (8, .int .i64 i)] ∧ i ≤ xs.length ∧ idxF p xs 0 = idxF p (xs.drop i) i) (fun e s' => xs.length - ivar e 8) ?_ ?_
  · exact ⟨rfl, 0, rfl, by omega, rfl⟩
  rintro e s' ⟨hs, i, rfl, hi, hidx⟩
  subst s'
  refine rs (k := rg [0, 1, 7, 8, 9] (k := rs (k := rc (ht := fun hc0 => ?_) (hf := fun hc0 => ?_))))
  · refine rk (k := rs (k := rb (k := rs (k := ?_))))
    have hil : i < xs.length := by have := of_decide_eq_true hc0; omega
    obtain ⟨x, hxe⟩ : ∃ z_, xs[i]'hil = z_ := ⟨_, rfl⟩
    have hxx : (xs.map Slt.pv)[i]? = some (.agg [.int .i64 (x).pos, .int .i64 (x).len]) := by rw [map_get hil, hxe]; rfl
    have hw : IntKind.i64.wrap ((i : Int) + 1) = ((i + 1 : Nat) : Int) := by rw [wrap_i64 (by omega)]; omega
    have H := aj hxx (aj hw H)
    refine rg [0, 1, 5, 7, 8] (k := rs (k := rr (k := ro (pre := [_, _, _, _, _]) (k := ?_))))
    refine RunO.callw au au au hcal ((hf x (by rw [← hxe]; exact List.getElem_mem _)).mono ?_)
    rintro r1 s1 ⟨rfl, hs⟩
    subst s1
    refine rl [0, 1, 5, 7, 8, 16] (k := rc (ht := fun hc1 => ?_) (hf := fun hc1 => ?_))
    · refine rs (k := rg [4] (k := rR (k := rP (by simp only [Try.f80, go_sem]; rfl) hwf ⟨?_, rfl⟩)))
      first
        | (rw [idxF_step p hil, hxe, if_pos hc1] at hidx
           rw [hidx]; rfl)
        | (have : i = xs.length := by have := of_decide_eq_false hc0; omega
           rw [this, List.drop_length] at hidx
           rw [hidx]; rfl)
    · refine rk (k := rB (k := rg [0, 1, 7, 8] (k := ?_)))
      rw [idxF_step p hil, hxe, if_neg (by rw [hc1]; simp)] at hidx
      refine Run.lp ⟨⟨rfl, i + 1, rfl, by omega, hidx⟩, ?_⟩
      simp only [ivar, go_sem, ↓reduceIte, Nat.reduceEqDiff]
      omega
  · refine rX (k := rs (k := rg [4] (k := rR (k := rP (by simp only [Try.f80, go_sem]; rfl) hwf ⟨?_, rfl⟩))))
    first
      | (rw [idxF_step p hil, hxe, if_pos hc1] at hidx
         rw [hidx]; rfl)
      | (have : i = xs.length := by have := of_decide_eq_false hc0; omega
         rw [this, List.drop_length] at hidx
         rw [hidx]; rfl)
theorem contains_Slt {xs : List Slt} {k : FuncId} {cap : List PV} {p : Slt → Bool} {s : St} (hsz : xs.length < 140737488355328) (hcal : callable Try.prog k = true) (hcap : PV.weaks cap = cap) (hf : ∀ x ∈ xs, ACalls Try.prog k (x.pv :: cap) s (fun r s' => r = .bool (p x) ∧ s' = s)) :
    ACalls Try.prog 63 [.sl .unk (xs.map Slt.pv), .fn (.func k) [] cap] s (fun r s' => r = .bool (xs.any p) ∧ s' = s) := by
  refine go Try.func63 (k := fun hwf H => ?_)
  have H := aj hcap H
  refine rs (k := rg [0, 1] (k := rs (k := rr (k := ro (pre := [_, _]) (k := rC (h := index_Slt hsz hcal hcap hf) (k := rh [4] (k := rR (k := rP (by simp only [Try.f63, go_sem]; rfl) hwf ⟨?_, rfl⟩))))))))
  rw [idxF_any]; rfl
theorem index_Ten {xs : List Ten} {k : FuncId} {cap : List PV} {p : Ten → Bool} {s : St} (hsz : xs.length < 140737488355328) (hcal : callable Try.prog k = true) (hcap : PV.weaks cap = cap) (hf : ∀ x ∈ xs, ACalls Try.prog k (x.pv :: cap) s (fun r s' => r = .bool (p x) ∧ s' = s)) :
    ACalls Try.prog 81 [.sl .unk (xs.map Ten.pv), .fn (.func k) [] cap] s (fun r s' => r = .int .i64 (idxF p xs 0) ∧ s' = s) := by
  refine go Try.func81 (k := fun hwf H => ?_)
  have H := aj hcap H
  refine rs (k := rg [0, 1] (k := rs (k := rs (k := rg [0, 1, 7, 8] (k := rb (k := ?_))))))
  refine Run.loop (fun e s' => s' = s ∧ ∃ i : Nat, e = [(0, .sl .unk (xs.map Ten.pv)), (1, .fn (.func k) [] cap), (7, .int .i64 xs.length), (8, .int .i64 i)] ∧ i ≤ xs.length ∧ idxF p xs 0 = idxF p (xs.drop i) i) (fun e s' => xs.length - ivar e 8) ?_ ?_
  · exact ⟨rfl, 0, rfl, by omega, rfl⟩
  rintro e s' ⟨hs, i, rfl, hi, hidx⟩
  subst s'
  refine rs (k := rg [0, 1, 7, 8, 9] (k := rs (k := rc (ht := fun hc0 => ?_) (hf := fun hc0 => ?_))))
  · refine rk (k := rs (k := rb (k := rs (k := ?_))))
    have hil : i < xs.length := by have := of_decide_eq_true hc0; omega
    obtain ⟨x, hxe⟩ : ∃ z_, xs[i]'hil = z_ := ⟨_, rfl⟩
    have hxx : (xs.map Ten.pv)[i]? = some (.agg [.int .i64 (x).unit, .int .u32 (x).fns, .int .i64 (x).queue, .sl .unk ((x).wins.map Win.pv), .sl .unk ((x).slts.map Slt.pv)]) := by rw [map_get hil, hxe]; rfl
    have hw : IntKind.i64.wrap ((i : Int) + 1) = ((i + 1 : Nat) : Int) := by rw [wrap_i64 (by omega)]; omega
    have H := aj hxx (aj hw H)
    refine rg [0, 1, 5, 7, 8] (k := rs (k := rr (k := ro (pre := [_, _, _, _, _]) (k := ?_))))
    refine RunO.callw au au au hcal ((hf x (by rw [← hxe]; exact List.getElem_mem _)).mono ?_)
    rintro r1 s1 ⟨rfl, hs⟩
    subst s1
    refine rl [0, 1, 5, 7, 8, 16] (k := rc (ht := fun hc1 => ?_) (hf := fun hc1 => ?_))
    · refine rs (k := rg [4] (k := rR (k := rP (by simp only [Try.f81, go_sem]; rfl) hwf ⟨?_, rfl⟩)))
      first
        | (rw [idxF_step p hil, hxe, if_pos hc1] at hidx
           rw [hidx]; rfl)
        | (have : i = xs.length := by have := of_decide_eq_false hc0; omega
           rw [this, List.drop_length] at hidx
           rw [hidx]; rfl)
    · refine rk (k := rB (k := rg [0, 1, 7, 8] (k := ?_)))
      rw [idxF_step p hil, hxe, if_neg (by rw [hc1]; simp)] at hidx
      refine Run.lp ⟨⟨rfl, i + 1, rfl, by omega, hidx⟩, ?_⟩
      simp only [ivar, go_sem, ↓reduceIte, Nat.reduceEqDiff]
      omega
  · refine rX (k := rs (k := rg [4] (k := rR (k := rP (by simp only [Try.f81, go_sem]; rfl) hwf ⟨?_, rfl⟩))))
    first
      | (rw [idxF_step p hil, hxe, if_pos hc1] at hidx
         rw [hidx]; rfl)
      | (have : i = xs.length := by have := of_decide_eq_false hc0; omega
         rw [this, List.drop_length] at hidx
         rw [hidx]; rfl)
theorem contains_Ten {xs : List Ten} {k : FuncId} {cap : List PV} {p : Ten → Bool} {s : St} (hsz : xs.length < 140737488355328) (hcal : callable Try.prog k = true) (hcap : PV.weaks cap = cap) (hf : ∀ x ∈ xs, ACalls Try.prog k (x.pv :: cap) s (fun r s' => r = .bool (p x) ∧ s' = s)) :
    ACalls Try.prog 67 [.sl .unk (xs.map Ten.pv), .fn (.func k) [] cap] s (fun r s' => r = .bool (xs.any p) ∧ s' = s) := by
  refine go Try.func67 (k := fun hwf H => ?_)
  have H := aj hcap H
  refine rs (k := rg [0, 1] (k := rs (k := rr (k := ro (pre := [_, _]) (k := rC (h := index_Ten hsz hcal hcap hf) (k := rh [4] (k := rR (k := rP (by simp only [Try.f67, go_sem]; rfl) hwf ⟨?_, rfl⟩))))))))
  rw [idxF_any]; rfl
theorem table_tenant1 {w : Win} (hw : w.ok) {s : St} : ACalls Try.prog 60 [w.pv] s (fun r s' => r = .bool (!winRight w) ∧ s' = s) := by
  refine go Try.func60 (k := fun hwf H => ?_)
  refine rs (k := rg [1] (k := rs (k := rr (k := ro (pre := [_]) (k := rC (h := window_Right hw) (k := rh [2] (k := rR (k := rP (by simp only [Try.f60, go_sem]; rfl) hwf ⟨?_, rfl⟩))))))))
  rfl
theorem table_tenant2 {a : Slt} (ha : a.ok) {frame : Int} (hf : 0 ≤ frame ∧ frame ≤ 4611686018427387904) {s : St} {kb : Nat} (hkb_ : s.blk kb = some (.row 3 [.int .i64 frame])) : ACalls Try.prog 64 [a.pv, .ptr kb 0 0] s (fun r s' => r = .bool (!sltRight frame a) ∧ s' = s) := by
  refine go Try.func64 (k := fun hwf H => ?_)
  have hkb := hkb_
  have hlt_kb : kb < s.nxt := lt_blk hwf hkb_
  have hkb0 : (kb = s.nxt) = False := eq_false (by omega)
  have hkb1 : (kb = s.nxt + 1) = False := eq_false (by omega)
  have H := aj hkb (aj hkb0 (aj hkb1 H))
  refine rs (k := rg [1, 2] (k := rs (k := ?_)))
  refine Run.drawC [] [3] Try.mixed (by kernel_rfl) ?_
  refine DetC.pre (pre := [_, _, _, _]) au ?_
  rcases hd3 : (decide (a.len < 72)) with _ | _
  · have H := aj hd3 H
    refine DetC.gdo au au ?_
    refine DetC.call au au au (by kernel_rfl) (table_slot (a := a)) ?_
    refine DetC.gdo au au ?_
    refine DetC.call au au au (by kernel_rfl) (span_Right (a := a.sp) ha.sp hf) ?_
    refine DetC.gdo au au ?_
    refine DetC.all au ?_
    refine re (k := rR (k := rP (by simp only [Try.f64, go_sem]; rfl) hwf ⟨?_, rfl⟩))
    unfold sltRight
    first
      | (have h := of_decide_eq_true hd3
         rw [decide_eq_false (by omega : ¬ (72 ≤ a.len))]; rfl)
      | (have h := of_decide_eq_false hd3
         rw [decide_eq_true (by omega : 72 ≤ a.len)]; rfl)
  · have H := aj hd3 H
    refine DetC.gskip' au ?_
    refine DetC.gskip' au ?_
    refine DetC.gskip' au ?_
    refine DetC.gskip' au ?_
    refine DetC.gskip' au ?_
    refine DetC.all au ?_
    refine re (k := rR (k := rP (by simp only [Try.f64, go_sem]; rfl) hwf ⟨?_, rfl⟩))
    unfold sltRight
    first
      | (have h := of_decide_eq_true hd3
         rw [decide_eq_false (by omega : ¬ (72 ≤ a.len))]; rfl)
      | (have h := of_decide_eq_false hd3
         rw [decide_eq_true (by omega : 72 ≤ a.len)]; rfl)
theorem table_tenant {x : Ten} (hx : x.ok) {frame : Int} (hf : 0 ≤ frame ∧ frame ≤ 4611686018427387904) {s : St} : ACalls Try.prog 42 [x.pv, .int .i64 frame] s (fun r s' => r = .int .i64 (tenWhy x frame) ∧ s' = s) := by
  refine go Try.func42 (k := fun hwf H => ?_)
  refine rs (k := rg [2, 3] (k := rs (k := rb (k := rs (k := rg [2, 3, 5] (k := rc (ht := fun hc0 => ?_) (hf := fun hc0 => ?_)))))))
  · refine rs (k := rg [4] (k := rR (k := rP (by simp only [Try.f42, go_sem]; rfl) hwf ⟨?_, rfl⟩)))
    first
      | (rw [tenWhy, if_pos (by simpa using hc0)]; rfl)
      | (rw [tenWhy, if_neg (by simpa using hc0), if_pos (by simpa using hc1)]; rfl)
      | (rw [tenWhy, if_neg (by simpa using hc0), if_neg (by simpa using hc1), if_pos (by simp at hc2; omega)]; rfl)
      | (have h0 : ¬ (x.unit < 1 ∨ 247 < x.unit) := by simpa using hc0
         have h1 : ¬ (x.queue < 1 ∨ 6 < x.queue) := by simpa using hc1
         have h2 : ¬ (6 < x.wins.length ∨ x.slts.length < 1 ∨ 3 < x.slts.length) := by simp at hc2; omega
         rw [tenWhy, if_neg h0, if_neg h1, if_neg h2]
         first
           | (rw [show x.wins.any (fun w => !winRight w) = true from hg3]; rfl)
           | (rw [show x.wins.any (fun w => !winRight w) = false from hg3, show (!winsOwn x.wins) = true from hc3]; rfl)
           | (rw [show x.wins.any (fun w => !winRight w) = false from hg3, show (!winsOwn x.wins) = false from hc3, Bool.or_self, if_neg (by decide)]
              first
                | (rw [if_pos hc4]; rfl)
                | (rw [if_neg (by rw [hc4]; decide)]; rfl)))
  · refine rs (k := rg [2, 3, 14] (k := rc (ht := fun hc1 => ?_) (hf := fun hc1 => ?_)))
    · refine rs (k := rg [4] (k := rR (k := rP (by simp only [Try.f42, go_sem]; rfl) hwf ⟨?_, rfl⟩)))
      first
        | (rw [tenWhy, if_pos (by simpa using hc0)]; rfl)
        | (rw [tenWhy, if_neg (by simpa using hc0), if_pos (by simpa using hc1)]; rfl)
        | (rw [tenWhy, if_neg (by simpa using hc0), if_neg (by simpa using hc1), if_pos (by simp at hc2; omega)]; rfl)
        | (have h0 : ¬ (x.unit < 1 ∨ 247 < x.unit) := by simpa using hc0
           have h1 : ¬ (x.queue < 1 ∨ 6 < x.queue) := by simpa using hc1
           have h2 : ¬ (6 < x.wins.length ∨ x.slts.length < 1 ∨ 3 < x.slts.length) := by simp at hc2; omega
           rw [tenWhy, if_neg h0, if_neg h1, if_neg h2]
           first
             | (rw [show x.wins.any (fun w => !winRight w) = true from hg3]; rfl)
             | (rw [show x.wins.any (fun w => !winRight w) = false from hg3, show (!winsOwn x.wins) = true from hc3]; rfl)
             | (rw [show x.wins.any (fun w => !winRight w) = false from hg3, show (!winsOwn x.wins) = false from hc3, Bool.or_self, if_neg (by decide)]
                first
                  | (rw [if_pos hc4]; rfl)
                  | (rw [if_neg (by rw [hc4]; decide)]; rfl)))
    · refine rs (k := rg [2, 3, 23] (k := rc (ht := fun hc2 => ?_) (hf := fun hc2 => ?_)))
      · refine rs (k := rg [4] (k := rR (k := rP (by simp only [Try.f42, go_sem]; rfl) hwf ⟨?_, rfl⟩)))
        first
          | (rw [tenWhy, if_pos (by simpa using hc0)]; rfl)
          | (rw [tenWhy, if_neg (by simpa using hc0), if_pos (by simpa using hc1)]; rfl)
          | (rw [tenWhy, if_neg (by simpa using hc0), if_neg (by simpa using hc1), if_pos (by simp at hc2; omega)]; rfl)
          | (have h0 : ¬ (x.unit < 1 ∨ 247 < x.unit) := by simpa using hc0
             have h1 : ¬ (x.queue < 1 ∨ 6 < x.queue) := by simpa using hc1
             have h2 : ¬ (6 < x.wins.length ∨ x.slts.length < 1 ∨ 3 < x.slts.length) := by simp at hc2; omega
             rw [tenWhy, if_neg h0, if_neg h1, if_neg h2]
             first
               | (rw [show x.wins.any (fun w => !winRight w) = true from hg3]; rfl)
               | (rw [show x.wins.any (fun w => !winRight w) = false from hg3, show (!winsOwn x.wins) = true from hc3]; rfl)
               | (rw [show x.wins.any (fun w => !winRight w) = false from hg3, show (!winsOwn x.wins) = false from hc3, Bool.or_self, if_neg (by decide)]
                  first
                    | (rw [if_pos hc4]; rfl)
                    | (rw [if_neg (by rw [hc4]; decide)]; rfl)))
      · refine rs (k := rr (k := ro (pre := [_, _]) (k := rC (h := contains_Win (p := fun w => !winRight w) hx.nw (by kernel_rfl) rfl (fun w hw => table_tenant1 (hx.wins w hw))) (k := ro (pre := [_]) (k := rQ 44 (ht := fun hg3 => ?_) (hf := fun hg3 => ?_))))))
        · refine rg0 (k := rg0 (k := rg0 (k := rg0 (k := rh [2, 3, 40] (k := rc (ht := fun hc3 => ?_) (hf := fun hc3 => ?_))))))
          · refine rs (k := rg [4] (k := rR (k := rP (by simp only [Try.f42, go_sem]; rfl) hwf ⟨?_, rfl⟩)))
            first
              | (rw [tenWhy, if_pos (by simpa using hc0)]; rfl)
              | (rw [tenWhy, if_neg (by simpa using hc0), if_pos (by simpa using hc1)]; rfl)
              | (rw [tenWhy, if_neg (by simpa using hc0), if_neg (by simpa using hc1), if_pos (by simp at hc2; omega)]; rfl)
              | (have h0 : ¬ (x.unit < 1 ∨ 247 < x.unit) := by simpa using hc0
                 have h1 : ¬ (x.queue < 1 ∨ 6 < x.queue) := by simpa using hc1
                 have h2 : ¬ (6 < x.wins.length ∨ x.slts.length < 1 ∨ 3 < x.slts.length) := by simp at hc2; omega
                 rw [tenWhy, if_neg h0, if_neg h1, if_neg h2]
                 first
                   | (rw [show x.wins.any (fun w => !winRight w) = true from hg3]; rfl)
                   | (rw [show x.wins.any (fun w => !winRight w) = false from hg3, show (!winsOwn x.wins) = true from hc3]; rfl)
                   | (rw [show x.wins.any (fun w => !winRight w) = false from hg3, show (!winsOwn x.wins) = false from hc3, Bool.or_self, if_neg (by decide)]
                      first
                        | (rw [if_pos hc4]; rfl)
                        | (rw [if_neg (by rw [hc4]; decide)]; rfl)))
          · cases hc3
        · refine rg1 (k := rg1 (k := rC (h := window_Own hx.wins hx.nw) (k := rg1 (k := rh [2, 3, 40] (k := rc (ht := fun hc3 => ?_) (hf := fun hc3 => ?_))))))
          · refine rs (k := rg [4] (k := rR (k := rP (by simp only [Try.f42, go_sem]; rfl) hwf ⟨?_, rfl⟩)))
            first
              | (rw [tenWhy, if_pos (by simpa using hc0)]; rfl)
              | (rw [tenWhy, if_neg (by simpa using hc0), if_pos (by simpa using hc1)]; rfl)
              | (rw [tenWhy, if_neg (by simpa using hc0), if_neg (by simpa using hc1), if_pos (by simp at hc2; omega)]; rfl)
              | (have h0 : ¬ (x.unit < 1 ∨ 247 < x.unit) := by simpa using hc0
                 have h1 : ¬ (x.queue < 1 ∨ 6 < x.queue) := by simpa using hc1
                 have h2 : ¬ (6 < x.wins.length ∨ x.slts.length < 1 ∨ 3 < x.slts.length) := by simp at hc2; omega
                 rw [tenWhy, if_neg h0, if_neg h1, if_neg h2]
                 first
                   | (rw [show x.wins.any (fun w => !winRight w) = true from hg3]; rfl)
                   | (rw [show x.wins.any (fun w => !winRight w) = false from hg3, show (!winsOwn x.wins) = true from hc3]; rfl)
                   | (rw [show x.wins.any (fun w => !winRight w) = false from hg3, show (!winsOwn x.wins) = false from hc3, Bool.or_self, if_neg (by decide)]
                      first
                        | (rw [if_pos hc4]; rfl)
                        | (rw [if_neg (by rw [hc4]; decide)]; rfl)))
          · refine rs (k := rr (k := ro (pre := [_, _, _]) (k := rC (h := contains_Slt (p := fun a => !sltRight frame a) hx.ns (by kernel_rfl) rfl (fun a ha => table_tenant2 (hx.slts a ha) hf (by simp only [go_sem, ↓reduceIte]))) (k := rh [50] (k := rc (ht := fun hc4 => ?_) (hf := fun hc4 => ?_))))))
            · refine rs (k := rg [4] (k := rR (k := rP (by simp only [Try.f42, go_sem]; rfl) hwf ⟨?_, rfl⟩)))
              first
                | (rw [tenWhy, if_pos (by simpa using hc0)]; rfl)
                | (rw [tenWhy, if_neg (by simpa using hc0), if_pos (by simpa using hc1)]; rfl)
                | (rw [tenWhy, if_neg (by simpa using hc0), if_neg (by simpa using hc1), if_pos (by simp at hc2; omega)]; rfl)
                | (have h0 : ¬ (x.unit < 1 ∨ 247 < x.unit) := by simpa using hc0
                   have h1 : ¬ (x.queue < 1 ∨ 6 < x.queue) := by simpa using hc1
                   have h2 : ¬ (6 < x.wins.length ∨ x.slts.length < 1 ∨ 3 < x.slts.length) := by simp at hc2; omega
                   rw [tenWhy, if_neg h0, if_neg h1, if_neg h2]
                   first
                     | (rw [show x.wins.any (fun w => !winRight w) = true from hg3]; rfl)
                     | (rw [show x.wins.any (fun w => !winRight w) = false from hg3, show (!winsOwn x.wins) = true from hc3]; rfl)
                     | (rw [show x.wins.any (fun w => !winRight w) = false from hg3, show (!winsOwn x.wins) = false from hc3, Bool.or_self, if_neg (by decide)]
                        first
                          | (rw [if_pos hc4]; rfl)
                          | (rw [if_neg (by rw [hc4]; decide)]; rfl)))
            · refine rk (k := rB (k := rs (k := rg [4] (k := rR (k := rP (by simp only [Try.f42, go_sem]; rfl) hwf ⟨?_, rfl⟩)))))
              first
                | (rw [tenWhy, if_pos (by simpa using hc0)]; rfl)
                | (rw [tenWhy, if_neg (by simpa using hc0), if_pos (by simpa using hc1)]; rfl)
                | (rw [tenWhy, if_neg (by simpa using hc0), if_neg (by simpa using hc1), if_pos (by simp at hc2; omega)]; rfl)
                | (have h0 : ¬ (x.unit < 1 ∨ 247 < x.unit) := by simpa using hc0
                   have h1 : ¬ (x.queue < 1 ∨ 6 < x.queue) := by simpa using hc1
                   have h2 : ¬ (6 < x.wins.length ∨ x.slts.length < 1 ∨ 3 < x.slts.length) := by simp at hc2; omega
                   rw [tenWhy, if_neg h0, if_neg h1, if_neg h2]
                   first
                     | (rw [show x.wins.any (fun w => !winRight w) = true from hg3]; rfl)
                     | (rw [show x.wins.any (fun w => !winRight w) = false from hg3, show (!winsOwn x.wins) = true from hc3]; rfl)
                     | (rw [show x.wins.any (fun w => !winRight w) = false from hg3, show (!winsOwn x.wins) = false from hc3, Bool.or_self, if_neg (by decide)]
                        first
                          | (rw [if_pos hc4]; rfl)
                          | (rw [if_neg (by rw [hc4]; decide)]; rfl)))
theorem table_meets1 {a b : Slt} (ha : a.ok) (hb : b.ok) {s : St} {kb : Nat} (hkb_ : s.blk kb = some (.row 60 [a.pv])) : ACalls Try.prog 83 [b.pv, .ptr kb 0 0] s (fun r s' => r = .bool (sltMeet a b) ∧ s' = s) := by
  refine go Try.func83 (k := fun hwf H => ?_)
  have hkb := hkb_
  rw [Slt.pv] at hkb
  have hlt_kb : kb < s.nxt := lt_blk hwf hkb_
  have hkb0 : (kb = s.nxt) = False := eq_false (by omega)
  have hkb1 : (kb = s.nxt + 1) = False := eq_false (by omega)
  have H := aj hkb (aj hkb0 (aj hkb1 H))
  refine rs (k := rg [1, 2] (k := rs (k := ?_)))
  refine Run.drawNew 10 8 9 100 (.agg [.int .i64 0, .int .i64 0]) (.agg [.int .i64 (spMeet a.sp b.sp).pos, .int .i64 (spMeet a.sp b.sp).cnt]) Try.mixed (by kernel_rfl) (by kernel_rfl) ?_
  refine DetBC.pre (pre := [_]) (by decide) in1 au ?_
  refine DetBC.call (by decide) au au au (by kernel_rfl) in1 (fun s _ => table_slot (a := a)) ?_
  refine DetBC.pre (pre := [_]) (by decide) in1 au ?_
  refine DetBC.call (by decide) au au au (by kernel_rfl) in1 (fun s _ => table_slot (a := b)) ?_
  refine DetBC.call (by decide) au au au (by kernel_rfl) in1 (fun s _ => span_Meet (a := a.sp) (b := b.sp) ha.sp hb.sp) ?_
  refine DetBC.pre (pre := [_, _, _]) (by decide) in1 au ?_
  refine DetBC.eff (by decide) in1 au au ?_
  refine DetBC.eff (by decide) in2 au au ?_
  refine DetBC.nil in3 ?_
  refine rh [5] (k := rs (k := rg [3] (k := rR (k := rP (by simp only [Try.f83, go_sem]; rfl) hwf ⟨?_, rfl⟩))))
  rfl
theorem table_meets {a : Slt} (ha : a.ok) {l : List Slt} (hl : ∀ b ∈ l, b.ok) (nl : l.length < 140737488355328) {s : St} : ACalls Try.prog 70 [a.pv, .sl .unk (l.map Slt.pv)] s (fun r s' => r = .bool (sltMeets a l) ∧ s' = s) := by
  refine go Try.func70 (k := fun hwf H => ?_)
  refine rs (k := rg [1, 2] (k := rs (k := rr (k := ro (pre := [_, _]) (k := rC (h := contains_Slt (p := fun b => sltMeet a b) nl (by kernel_rfl) rfl (fun b hb => table_meets1 ha (hl b hb) (by simp only [go_sem, ↓reduceIte] <;> rfl))) (k := rh [4] (k := rR (k := rP (by simp only [Try.f70, go_sem]; rfl) hwf ⟨?_, rfl⟩))))))))
  rfl
theorem table_beside1 {a b : Ten} (ha : a.ok) (hb : b.ok) {s : St} {kb : Nat} (hkb_ : s.blk kb = some (.row 53 [a.pv])) : ACalls Try.prog 68 [b.pv, .ptr kb 0 0] s (fun r s' => r = .bool (winsMeet a.wins b.wins) ∧ s' = s) := by
  refine go Try.func68 (k := fun hwf H => ?_)
  have hkb := hkb_
  rw [Ten.pv] at hkb
  have hlt_kb : kb < s.nxt := lt_blk hwf hkb_
  have hkb0 : (kb = s.nxt) = False := eq_false (by omega)
  have hkb1 : (kb = s.nxt + 1) = False := eq_false (by omega)
  have H := aj hkb (aj hkb0 (aj hkb1 H))
  refine rs (k := rg [1, 2] (k := rs (k := rr (k := ro (pre := [_, _, _, _]) (k := rC (h := window_Meets (a := a.wins) (b := b.wins) ha.wins hb.wins ha.nw hb.nw) (k := rh [3] (k := rR (k := rP (by simp only [Try.f68, go_sem]; rfl) hwf ⟨?_, rfl⟩))))))))
  rfl
theorem table_beside2 {a : Slt} {b : Ten} (ha : a.ok) (hb : b.ok) {s : St} {kb : Nat} (hkb_ : s.blk kb = some (.row 60 [a.pv])) : ACalls Try.prog 71 [b.pv, .ptr kb 0 0] s (fun r s' => r = .bool (sltMeets a b.slts) ∧ s' = s) := by
  refine go Try.func71 (k := fun hwf H => ?_)
  have hkb := hkb_
  rw [Slt.pv] at hkb
  have hlt_kb : kb < s.nxt := lt_blk hwf hkb_
  have hkb0 : (kb = s.nxt) = False := eq_false (by omega)
  have hkb1 : (kb = s.nxt + 1) = False := eq_false (by omega)
  have H := aj hkb (aj hkb0 (aj hkb1 H))
  refine rs (k := rg [1, 2] (k := rs (k := rr (k := ro (pre := [_, _, _]) (k := rC (h := table_meets (a := a) ha (l := b.slts) hb.slts hb.ns) (k := rh [3] (k := rR (k := rP (by simp only [Try.f71, go_sem]; rfl) hwf ⟨?_, rfl⟩))))))))
  rfl
theorem table_beside {x : Ten} (hx : x.ok) {l : List Ten} (hl : ∀ y ∈ l, y.ok) (nl : l.length < 140737488355328) {s : St} : ACalls Try.prog 43 [x.pv, .sl .unk (l.map Ten.pv)] s (fun r s' => r = .int .i64 (tenBeside x l) ∧ s' = s) := by
  refine go Try.func43 (k := fun hwf H => ?_)
  refine rs (k := rg [1, 2] (k := rs (k := rs (k := rr (k := ro (pre := [_, _]) (k := rC (h := contains_Ten (p := fun y => winsMeet x.wins y.wins) nl (by kernel_rfl) rfl (fun y hy => table_beside1 hx (hl y hy) (by simp only [go_sem, ↓reduceIte] <;> rfl))) (k := rl [1, 2, 9] (k := rc (ht := fun hc0 => ?_) (hf := fun hc0 => ?_)))))))))
  · refine rs (k := rg [4] (k := rR (k := ?_)))
    refine Ret.pure (by simp only [Try.f43, go_sem] <;> rfl) rfl (by simp only [go_sem, reduceCtorEq, false_implies, implies_true]) hwf (by first | exact ((Fr.refl hwf).new _).blk | exact (F1).blk | exact (F1.new _).blk) ⟨?_, rfl⟩
    · first
        | (rw [tenBeside, if_pos hc0]; rfl)
        | (rw [tenBeside, if_neg (by rw [hc0]; decide)]
           first
             | (rw [sltsBadA_step hil, hae, show sltMeets a (x.slts.take i) = true from hd6, Bool.true_or, Bool.true_or] at hidx
                rw [hidx]; rfl)
             | (rw [sltsBadA_step hil, hae, show l.any (fun y => sltMeets a y.slts) = true from hc2, Bool.or_true, Bool.true_or] at hidx
                rw [hidx]; rfl)
             | (have : i = x.slts.length := by have := of_decide_eq_false hc1; omega
                rw [this, List.drop_length] at hidx
                rw [hidx]; rfl))
  · refine rk (k := rs (k := rs (k := rg [1, 2, 11, 12, 13] (k := rb (k := ?_)))))
    refine Run.loop (fun e s' => Fr s s' ∧ ∃ i : Nat, e = [(1, .sl .unk (l.map Ten.pv)), (2, .ptr s.nxt 0 0), (11, .sl .unk (x.slts.map Slt.pv)), (12, .int .i64 x.slts.length), (13, .int .i64 i)] ∧ i ≤ x.slts.length ∧ s.nxt < s'.nxt ∧ s'.blk s.nxt = some (.row 53 [.agg [.int .i64 (x).unit, .int .u32 (x).fns, .int .i64 (x).queue, .sl .unk ((x).wins.map Win.pv), .sl .unk ((x).slts.map Slt.pv)]]) ∧ sltsBadA l [] x.slts = sltsBadA l (x.slts.take i) (x.slts.drop i)) (fun e s' => x.slts.length - ivar e 13) ?_ ?_
    · exact ⟨(Fr.refl hwf).new _, 0, rfl, by omega, by simp only [go_sem]; omega, by simp only [go_sem, ↓reduceIte], rfl⟩
    rintro e s1 ⟨F1, i, rfl, hi, hsn, hX, hidx⟩
    refine rs (k := rg [1, 2, 11, 12, 13, 14] (k := rs (k := rc (ht := fun hc1 => ?_) (hf := fun hc1 => ?_))))
    · refine rk (k := rs (k := rb (k := rs (k := ?_))))
      have hil : i < x.slts.length := by have := of_decide_eq_true hc1; omega
      have hns := hx.ns
      obtain ⟨a, hae⟩ : ∃ z_, x.slts[i]'hil = z_ := ⟨_, rfl⟩
      have hxa : (x.slts.map Slt.pv)[i]? = some (.agg [.int .i64 (a).pos, .int .i64 (a).len]) := by rw [map_get hil, hae]; rfl
      have hw : IntKind.i64.wrap ((i : Int) + 1) = ((i + 1 : Nat) : Int) := by rw [wrap_i64 (by omega)]; omega
      have haok : a.ok := by rw [← hae]; exact hx.slts _ (List.getElem_mem _)
      have hsl : (x.slts.map Slt.pv).take i = (x.slts.take i).map Slt.pv := List.map_take.symm
      have hile : ((i : Int) ≤ (x.slts.length : Int)) = True := eq_true (by omega)
      have hXn : (s.nxt = s1.nxt) = False := eq_false (by omega)
      have H := aj hxa (aj hw (aj hsl (aj hile (aj hX (aj hXn H)))))
      refine rg [1, 2, 5, 6, 11, 12, 13] (k := rs (k := ?_))
      refine Run.drawC [] [1, 2, 11, 12, 13, 28] Try.mixed (by kernel_rfl) ?_
      refine DetC.pre (pre := [_, _, _, _, _]) au ?_
      refine DetC.call au au au (by kernel_rfl) (table_meets haok (l := x.slts.take i) (fun b hb => hx.slts b (List.mem_of_mem_take hb)) (by have := hx.ns; simp; omega)) ?_
      refine DetC.pre (pre := [_]) au ?_
      rcases hd6 : (sltMeets a (x.slts.take i)) with _ | _
      · have H := aj hd6 H
        refine DetC.gdo au au ?_
        refine DetC.gdo au au ?_
        refine DetC.call au au au (by kernel_rfl) (contains_Ten (p := fun y => sltMeets a y.slts) nl (by kernel_rfl) rfl (fun y hy => table_beside2 haok (hl y hy) (by simp only [go_sem, ↓reduceIte] <;> rfl))) ?_
        refine DetC.all au ?_
        refine re (k := rc (ht := fun hc2 => ?_) (hf := fun hc2 => ?_))
        · refine rs (k := rg [4] (k := rR (k := ?_)))
          refine Ret.pure (by simp only [Try.f43, go_sem] <;> rfl) rfl (by simp only [go_sem, reduceCtorEq, false_implies, implies_true]) hwf (by first | exact ((Fr.refl hwf).new _).blk | exact (F1).blk | exact (F1.new _).blk) ⟨?_, rfl⟩
          · first
              | (rw [tenBeside, if_pos hc0]; rfl)
              | (rw [tenBeside, if_neg (by rw [hc0]; decide)]
                 first
                   | (rw [sltsBadA_step hil, hae, show sltMeets a (x.slts.take i) = true from hd6, Bool.true_or, Bool.true_or] at hidx
                      rw [hidx]; rfl)
                   | (rw [sltsBadA_step hil, hae, show l.any (fun y => sltMeets a y.slts) = true from hc2, Bool.or_true, Bool.true_or] at hidx
                      rw [hidx]; rfl)
                   | (have : i = x.slts.length := by have := of_decide_eq_false hc1; omega
                      rw [this, List.drop_length] at hidx
                      rw [hidx]; rfl))
        · refine rk (k := rB (k := rg [1, 2, 11, 12, 13] (k := ?_)))
          rw [sltsBadA_step hil, hae, show sltMeets a (x.slts.take i) = false from hd6, show l.any (fun y => sltMeets a y.slts) = false from hc2, Bool.or_self, Bool.false_or] at hidx
          refine Run.lp ⟨⟨F1.new _, i + 1, rfl, by omega, by simp only [go_sem]; omega, by simp only [go_sem, hX, hXn, ↓reduceIte], hidx⟩, ?_⟩
          simp only [ivar, go_sem, ↓reduceIte, Nat.reduceEqDiff]
          omega
      · have H := aj hd6 H
        refine DetC.gskip' au ?_
        refine DetC.gskip' au ?_
        refine DetC.gskip' au ?_
        refine DetC.all au ?_
        refine re (k := rc (ht := fun hc2 => ?_) (hf := fun hc2 => ?_))
        · refine rs (k := rg [4] (k := rR (k := ?_)))
          refine Ret.pure (by simp only [Try.f43, go_sem] <;> rfl) rfl (by simp only [go_sem, reduceCtorEq, false_implies, implies_true]) hwf (by first | exact ((Fr.refl hwf).new _).blk | exact (F1).blk | exact (F1.new _).blk) ⟨?_, rfl⟩
          · first
              | (rw [tenBeside, if_pos hc0]; rfl)
              | (rw [tenBeside, if_neg (by rw [hc0]; decide)]
                 first
                   | (rw [sltsBadA_step hil, hae, show sltMeets a (x.slts.take i) = true from hd6, Bool.true_or, Bool.true_or] at hidx
                      rw [hidx]; rfl)
                   | (rw [sltsBadA_step hil, hae, show l.any (fun y => sltMeets a y.slts) = true from hc2, Bool.or_true, Bool.true_or] at hidx
                      rw [hidx]; rfl)
                   | (have : i = x.slts.length := by have := of_decide_eq_false hc1; omega
                      rw [this, List.drop_length] at hidx
                      rw [hidx]; rfl))
        · cases hc2
    · refine rX (k := rs (k := rg [4] (k := rR (k := ?_))))
      refine Ret.pure (by simp only [Try.f43, go_sem] <;> rfl) rfl (by simp only [go_sem, reduceCtorEq, false_implies, implies_true]) hwf (by first | exact ((Fr.refl hwf).new _).blk | exact (F1).blk | exact (F1.new _).blk) ⟨?_, rfl⟩
      · first
          | (rw [tenBeside, if_pos hc0]; rfl)
          | (rw [tenBeside, if_neg (by rw [hc0]; decide)]
             first
               | (rw [sltsBadA_step hil, hae, show sltMeets a (x.slts.take i) = true from hd6, Bool.true_or, Bool.true_or] at hidx
                  rw [hidx]; rfl)
               | (rw [sltsBadA_step hil, hae, show l.any (fun y => sltMeets a y.slts) = true from hc2, Bool.or_true, Bool.true_or] at hidx
                  rw [hidx]; rfl)
               | (have : i = x.slts.length := by have := of_decide_eq_false hc1; omega
                  rw [this, List.drop_length] at hidx
                  rw [hidx]; rfl))
theorem table_Where {t : Tab} (ht : t.ok) {s : St} : ACalls Try.prog 28 [t.pv] s (fun r s' => r = .tuple [.int .i64 (tabWhere t).1, .int .i64 (tabWhere t).2] ∧ s' = s) := by
  refine go Try.func28 (k := fun hwf H => ?_)
  refine rs (k := rg [1] (k := rs (k := rb (k := rs (k := rg [1, 8] (k := rc (ht := fun hc0 => ?_) (hf := fun hc0 => ?_)))))))
  · refine rs (k := rg [2, 3] (k := rR (k := ?_)))
    refine Ret.pure (by simp only [Try.f28, go_sem] <;> rfl) rfl (by simp only [go_sem, reduceCtorEq, false_implies, implies_true]) hwf (by first | exact ((Fr.refl hwf).new _).blk | exact (F1).blk | exact (F1.new _).blk) ⟨?_, rfl⟩
    · first
        | (rw [tabWhere, if_pos (by simpa using hc0)]; rfl)
        | (rw [tabWhere, if_neg (by simpa using hc0), if_pos (by simp at hc1; omega)]; rfl)
        | (have h0 : ¬ (t.frame < 1 ∨ 2000 < t.frame) := by simpa using hc0
           have h1 : ¬ (t.tens.length < 1 ∨ 4 < t.tens.length) := by simp at hc1; omega
           rw [tabWhere, if_neg h0, if_neg h1]
           first
             | (have e1 : tenWhy x t.frame ≠ 0 := by simpa using hc3
                rw [tabWhereA_step hil, hxe, if_pos e1] at hidx
                rw [hidx]; rfl)
             | (have e1 : tenWhy x t.frame = 0 := by simpa using hc3
                have e2 : tenBeside x (t.tens.take i) ≠ 0 := by simpa using hc4
                rw [tabWhereA_step hil, hxe, if_neg (by simp [e1]), if_pos e2] at hidx
                rw [hidx]; rfl)
             | (have : i = t.tens.length := by have := of_decide_eq_false hc2; omega
                rw [this, List.drop_length] at hidx
                rw [hidx]; rfl))
  · refine rs (k := rg [1, 17] (k := rc (ht := fun hc1 => ?_) (hf := fun hc1 => ?_)))
    · refine rs (k := rg [2, 3] (k := rR (k := ?_)))
      refine Ret.pure (by simp only [Try.f28, go_sem] <;> rfl) rfl (by simp only [go_sem, reduceCtorEq, false_implies, implies_true]) hwf (by first | exact ((Fr.refl hwf).new _).blk | exact (F1).blk | exact (F1.new _).blk) ⟨?_, rfl⟩
      · first
          | (rw [tabWhere, if_pos (by simpa using hc0)]; rfl)
          | (rw [tabWhere, if_neg (by simpa using hc0), if_pos (by simp at hc1; omega)]; rfl)
          | (have h0 : ¬ (t.frame < 1 ∨ 2000 < t.frame) := by simpa using hc0
             have h1 : ¬ (t.tens.length < 1 ∨ 4 < t.tens.length) := by simp at hc1; omega
             rw [tabWhere, if_neg h0, if_neg h1]
             first
               | (have e1 : tenWhy x t.frame ≠ 0 := by simpa using hc3
                  rw [tabWhereA_step hil, hxe, if_pos e1] at hidx
                  rw [hidx]; rfl)
               | (have e1 : tenWhy x t.frame = 0 := by simpa using hc3
                  have e2 : tenBeside x (t.tens.take i) ≠ 0 := by simpa using hc4
                  rw [tabWhereA_step hil, hxe, if_neg (by simp [e1]), if_pos e2] at hidx
                  rw [hidx]; rfl)
               | (have : i = t.tens.length := by have := of_decide_eq_false hc2; omega
                  rw [this, List.drop_length] at hidx
                  rw [hidx]; rfl))
    · refine rk (k := rB (k := rs (k := rs (k := rg [1, 29, 30, 31] (k := rb (k := ?_))))))
      refine Run.loop (fun e s' => Fr s s' ∧ ∃ i : Nat, e = [(1, .ptr s.nxt 0 0), (29, .sl .unk (t.tens.map Ten.pv)), (30, .int .i64 t.tens.length), (31, .int .i64 i)] ∧ i ≤ t.tens.length ∧ s.nxt < s'.nxt ∧ s'.blk s.nxt = some (.row 24 [.agg [.int .i64 (t).frame, .sl .unk ((t).tens.map Ten.pv)]]) ∧ tabWhereA t.frame [] t.tens = tabWhereA t.frame (t.tens.take i) (t.tens.drop i)) (fun e s' => t.tens.length - ivar e 31) ?_ ?_
      · exact ⟨(Fr.refl hwf).new _, 0, rfl, by omega, by simp only [go_sem]; omega, by simp only [go_sem, ↓reduceIte], rfl⟩
      rintro e s1 ⟨F1, i, rfl, hi, hsn, hX, hidx⟩
      refine rs (k := rg [1, 29, 30, 31, 32] (k := rs (k := rc (ht := fun hc2 => ?_) (hf := fun hc2 => ?_))))
      · refine rk (k := rs (k := rb (k := rs (k := ?_))))
        have hil : i < t.tens.length := by have := of_decide_eq_true hc2; omega
        have hnt := ht.nt
        obtain ⟨x, hxe⟩ : ∃ z_, t.tens[i]'hil = z_ := ⟨_, rfl⟩
        have hxx : (t.tens.map Ten.pv)[i]? = some (.agg [.int .i64 (x).unit, .int .u32 (x).fns, .int .i64 (x).queue, .sl .unk ((x).wins.map Win.pv), .sl .unk ((x).slts.map Slt.pv)]) := by rw [map_get hil, hxe]; rfl
        have hw : IntKind.i64.wrap ((i : Int) + 1) = ((i + 1 : Nat) : Int) := by rw [wrap_i64 (by omega)]; omega
        have hxok : x.ok := by rw [← hxe]; exact ht.tens _ (List.getElem_mem _)
        have hsl : (t.tens.map Ten.pv).take i = (t.tens.take i).map Ten.pv := List.map_take.symm
        have hile : ((i : Int) ≤ (t.tens.length : Int)) = True := eq_true (by omega)
        have hXn : (s.nxt = s1.nxt) = False := eq_false (by omega)
        have hfr : 0 ≤ t.frame ∧ t.frame ≤ 4611686018427387904 := by simp at hc0; omega
        have H := aj hxx (aj hw (aj hsl (aj hile (aj hX (aj hXn H)))))
        refine rg [1, 4, 5, 29, 30, 31] (k := rs (k := rs (k := rr (k := ro (pre := [_, _, _]) (k := rC (h := table_tenant hxok hfr) (k := rh [1, 4, 5, 6, 29, 30, 31] (k := rs (k := rg [1, 4, 5, 6, 29, 30, 31, 41] (k := rc (ht := fun hc3 => ?_) (hf := fun hc3 => ?_))))))))))
        · refine rs (k := rg [2, 3] (k := rR (k := ?_)))
          refine Ret.pure (by simp only [Try.f28, go_sem] <;> rfl) rfl (by simp only [go_sem, reduceCtorEq, false_implies, implies_true]) hwf (by first | exact ((Fr.refl hwf).new _).blk | exact (F1).blk | exact (F1.new _).blk) ⟨?_, rfl⟩
          · first
              | (rw [tabWhere, if_pos (by simpa using hc0)]; rfl)
              | (rw [tabWhere, if_neg (by simpa using hc0), if_pos (by simp at hc1; omega)]; rfl)
              | (have h0 : ¬ (t.frame < 1 ∨ 2000 < t.frame) := by simpa using hc0
                 have h1 : ¬ (t.tens.length < 1 ∨ 4 < t.tens.length) := by simp at hc1; omega
                 rw [tabWhere, if_neg h0, if_neg h1]
                 first
                   | (have e1 : tenWhy x t.frame ≠ 0 := by simpa using hc3
                      rw [tabWhereA_step hil, hxe, if_pos e1] at hidx
                      rw [hidx]; rfl)
                   | (have e1 : tenWhy x t.frame = 0 := by simpa using hc3
                      have e2 : tenBeside x (t.tens.take i) ≠ 0 := by simpa using hc4
                      rw [tabWhereA_step hil, hxe, if_neg (by simp [e1]), if_pos e2] at hidx
                      rw [hidx]; rfl)
                   | (have : i = t.tens.length := by have := of_decide_eq_false hc2; omega
                      rw [this, List.drop_length] at hidx
                      rw [hidx]; rfl))
        · refine rk (k := rs (k := ?_))
          refine Run.drawC [] [1, 4, 7, 29, 30, 31] Try.mixed (by kernel_rfl) ?_
          refine DetC.pre (pre := [_, _, _, _, _]) au ?_
          refine DetC.call au au au (by kernel_rfl) (table_beside hxok (l := t.tens.take i) (fun y hy => ht.tens y (List.mem_of_mem_take hy)) (by have := ht.nt; simp; omega)) ?_
          refine DetC.all au ?_
          refine re (k := rs (k := rg [1, 4, 7, 29, 30, 31, 51] (k := rc (ht := fun hc4 => ?_) (hf := fun hc4 => ?_))))
          · refine rs (k := rg [2, 3] (k := rR (k := ?_)))
            refine Ret.pure (by simp only [Try.f28, go_sem] <;> rfl) rfl (by simp only [go_sem, reduceCtorEq, false_implies, implies_true]) hwf (by first | exact ((Fr.refl hwf).new _).blk | exact (F1).blk | exact (F1.new _).blk) ⟨?_, rfl⟩
            · first
                | (rw [tabWhere, if_pos (by simpa using hc0)]; rfl)
                | (rw [tabWhere, if_neg (by simpa using hc0), if_pos (by simp at hc1; omega)]; rfl)
                | (have h0 : ¬ (t.frame < 1 ∨ 2000 < t.frame) := by simpa using hc0
                   have h1 : ¬ (t.tens.length < 1 ∨ 4 < t.tens.length) := by simp at hc1; omega
                   rw [tabWhere, if_neg h0, if_neg h1]
                   first
                     | (have e1 : tenWhy x t.frame ≠ 0 := by simpa using hc3
                        rw [tabWhereA_step hil, hxe, if_pos e1] at hidx
                        rw [hidx]; rfl)
                     | (have e1 : tenWhy x t.frame = 0 := by simpa using hc3
                        have e2 : tenBeside x (t.tens.take i) ≠ 0 := by simpa using hc4
                        rw [tabWhereA_step hil, hxe, if_neg (by simp [e1]), if_pos e2] at hidx
                        rw [hidx]; rfl)
                     | (have : i = t.tens.length := by have := of_decide_eq_false hc2; omega
                        rw [this, List.drop_length] at hidx
                        rw [hidx]; rfl))
          · refine rk (k := rB (k := rg [1, 29, 30, 31] (k := ?_)))
            have e1 : tenWhy x t.frame = 0 := by simpa using hc3
            have e2 : tenBeside x (t.tens.take i) = 0 := by simpa using hc4
            rw [tabWhereA_step hil, hxe, if_neg (by simp [e1]), if_neg (by simp [e2])] at hidx
            refine Run.lp ⟨⟨F1.new _, i + 1, rfl, by omega, by simp only [go_sem]; omega, by simp only [go_sem, hX, hXn, ↓reduceIte], hidx⟩, ?_⟩
            simp only [ivar, go_sem, ↓reduceIte, Nat.reduceEqDiff]
            omega
      · refine rX (k := rs (k := rg [2, 3] (k := rR (k := ?_))))
        refine Ret.pure (by simp only [Try.f28, go_sem] <;> rfl) rfl (by simp only [go_sem, reduceCtorEq, false_implies, implies_true]) hwf (by first | exact ((Fr.refl hwf).new _).blk | exact (F1).blk | exact (F1.new _).blk) ⟨?_, rfl⟩
        · first
            | (rw [tabWhere, if_pos (by simpa using hc0)]; rfl)
            | (rw [tabWhere, if_neg (by simpa using hc0), if_pos (by simp at hc1; omega)]; rfl)
            | (have h0 : ¬ (t.frame < 1 ∨ 2000 < t.frame) := by simpa using hc0
               have h1 : ¬ (t.tens.length < 1 ∨ 4 < t.tens.length) := by simp at hc1; omega
               rw [tabWhere, if_neg h0, if_neg h1]
               first
                 | (have e1 : tenWhy x t.frame ≠ 0 := by simpa using hc3
                    rw [tabWhereA_step hil, hxe, if_pos e1] at hidx
                    rw [hidx]; rfl)
                 | (have e1 : tenWhy x t.frame = 0 := by simpa using hc3
                    have e2 : tenBeside x (t.tens.take i) ≠ 0 := by simpa using hc4
                    rw [tabWhereA_step hil, hxe, if_neg (by simp [e1]), if_pos e2] at hidx
                    rw [hidx]; rfl)
                 | (have : i = t.tens.length := by have := of_decide_eq_false hc2; omega
                    rw [this, List.drop_length] at hidx
                    rw [hidx]; rfl))
theorem Win.ext4 {a b : Win} (h1 : a.space = b.space) (h2 : a.virt = b.virt) (h3 : a.phys = b.phys) (h4 : a.cnt = b.cnt) : a = b := by
  cases a; cases b; simp at *; exact ⟨h1, h2, h3, h4⟩
theorem Slt.ext2 {a b : Slt} (h1 : a.pos = b.pos) (h2 : a.len = b.len) : a = b := by
  cases a; cases b; simp at *; exact ⟨h1, h2⟩
theorem clip_Win {xs : List Win} {s : St} : ACalls Try.prog 49 [.sl .unk (xs.map Win.pv)] s (fun r s' => r = .sl .unc (xs.map Win.pv) ∧ s' = s) := by
  refine go Try.func49 (k := fun hwf H => ?_)
  have hfull : (xs.map Win.pv).take xs.length = xs.map Win.pv := by rw [← List.length_map (f := Win.pv), List.take_length]
  have H := aj hfull H
  refine rs (k := rg [0] (k := rs (k := rg [2] (k := rR (k := ?_)))))
  refine Ret.pureK (r := .sl .unc (xs.map Win.pv)) au (by simp only [PV.blw]; exact ⟨fun t z e => (by cases e), blws_wins _ _⟩) hwf (fun _ _ => rfl) ⟨rfl, rfl⟩
theorem clip_Slt {xs : List Slt} {s : St} : ACalls Try.prog 51 [.sl .unk (xs.map Slt.pv)] s (fun r s' => r = .sl .unc (xs.map Slt.pv) ∧ s' = s) := by
  refine go Try.func51 (k := fun hwf H => ?_)
  have hfull : (xs.map Slt.pv).take xs.length = xs.map Slt.pv := by rw [← List.length_map (f := Slt.pv), List.take_length]
  have H := aj hfull H
  refine rs (k := rg [0] (k := rs (k := rg [2] (k := rR (k := ?_)))))
  refine Ret.pureK (r := .sl .unc (xs.map Slt.pv)) au (by simp only [PV.blw]; exact ⟨fun t z e => (by cases e), blws_slts _ _⟩) hwf (fun _ _ => rfl) ⟨rfl, rfl⟩
theorem clip_Ten {xs : List Ten} {s : St} : ACalls Try.prog 53 [.sl .unk (xs.map Ten.pv)] s (fun r s' => r = .sl .unc (xs.map Ten.pv) ∧ s' = s) := by
  refine go Try.func53 (k := fun hwf H => ?_)
  have hfull : (xs.map Ten.pv).take xs.length = xs.map Ten.pv := by rw [← List.length_map (f := Ten.pv), List.take_length]
  have H := aj hfull H
  refine rs (k := rg [0] (k := rs (k := rg [2] (k := rR (k := ?_)))))
  refine Ret.pureK (r := .sl .unc (xs.map Ten.pv)) au (by simp only [PV.blw]; exact ⟨fun t z e => (by cases e), blws_tens _ _⟩) hwf (fun _ _ => rfl) ⟨rfl, rfl⟩
theorem clone_Win_nil {s : St} : ACalls Try.prog 50 [.sl .nil []] s (fun r s' => r = .sl .unk [] ∧ s' = s) := by
  refine go Try.func50 (k := fun hwf H => ?_)
  refine rs (k := rg [0] (k := rs (k := rs (k := rg [0, 4] (k := rc (ht := fun hc0 => ?_) (hf := fun hc0 => ?_))))))
  · refine rs (k := rg [2] (k := rR (k := rP (by simp only [Try.f50, go_sem]; rfl) hwf ⟨?_, rfl⟩)))
    rfl
  · cases hc0
theorem clone_Win_any {xs : List Win} (hb : xs.length * 32 ≤ 140737488355328) {s : St} : ACalls Try.prog 50 [.sl .any (xs.map Win.pv)] s (fun r s' => r = .sl .unk (xs.map Win.pv) ∧ s' = s) := by
  refine go Try.func50 (k := fun hwf H => ?_)
  refine rs (k := rg [0] (k := rs (k := rs (k := rg [0, 4] (k := rc (ht := fun hc0 => ?_) (hf := fun hc0 => ?_))))))
  · cases hc0
  · refine rk (k := rs (k := rr (k := rO (k := ro (pre := [_]) (k := ?_)))))
    refine RunO.grow' au au au Try.td50 (by rw [Try.zp65]; rfl) (by intro el hel; cases hel) (isEls_map (P := Try.prog) (e := 65) (f := Win.pv) (fun a => ⟨rfl, by rw [Try.cz65]; rfl⟩) _) (by rw [Try.by65]; decide) (by rw [Try.by65]; simp; omega) (.inr (.inl (.inl rfl))) ?_
    intro k1 s1 hgr htm
    refine rh [2] (k := rR (k := ?_))
    refine Ret.pure (by simp only [Try.f50, go_sem] <;> rfl) (r' := .sl .unk (xs.map Win.pv)) (by rw [PV.weak, weaks_wins]) (by simp only [PV.blw]; exact ⟨fun t z e => (by cases e), blws_wins _ _⟩) hwf (by first | exact ((Fr.refl hwf).tm htm (fun t z e => by cases e)).blk) ⟨?_, rfl⟩
    · rfl
theorem clone_Win {xs : List Win} (hb : xs.length * 32 ≤ 140737488355328) {s : St} : ACalls Try.prog 50 [.sl .unk (xs.map Win.pv)] s (fun r s' => r = .sl .unk (xs.map Win.pv) ∧ s' = s) :=
  ACalls.unk1 (fun h => by rw [h]; exact clone_Win_nil) (clone_Win_any hb)
theorem clone_Slt_nil {s : St} : ACalls Try.prog 52 [.sl .nil []] s (fun r s' => r = .sl .unk [] ∧ s' = s) := by
  refine go Try.func52 (k := fun hwf H => ?_)
  refine rs (k := rg [0] (k := rs (k := rs (k := rg [0, 4] (k := rc (ht := fun hc0 => ?_) (hf := fun hc0 => ?_))))))
  · refine rs (k := rg [2] (k := rR (k := rP (by simp only [Try.f52, go_sem]; rfl) hwf ⟨?_, rfl⟩)))
    rfl
  · cases hc0
theorem clone_Slt_any {xs : List Slt} (hb : xs.length * 16 ≤ 140737488355328) {s : St} : ACalls Try.prog 52 [.sl .any (xs.map Slt.pv)] s (fun r s' => r = .sl .unk (xs.map Slt.pv) ∧ s' = s) := by
  refine go Try.func52 (k := fun hwf H => ?_)
  refine rs (k := rg [0] (k := rs (k := rs (k := rg [0, 4] (k := rc (ht := fun hc0 => ?_) (hf := fun hc0 => ?_))))))
  · cases hc0
  · refine rk (k := rs (k := rr (k := rO (k := ro (pre := [_]) (k := ?_)))))
    refine RunO.grow' au au au Try.td51 (by rw [Try.zp60]; rfl) (by intro el hel; cases hel) (isEls_map (P := Try.prog) (e := 60) (f := Slt.pv) (fun a => ⟨rfl, by rw [Try.cz60]; rfl⟩) _) (by rw [Try.by60]; decide) (by rw [Try.by60]; simp; omega) (.inr (.inl (.inl rfl))) ?_
    intro k1 s1 hgr htm
    refine rh [2] (k := rR (k := ?_))
    refine Ret.pure (by simp only [Try.f52, go_sem] <;> rfl) (r' := .sl .unk (xs.map Slt.pv)) (by rw [PV.weak, weaks_slts]) (by simp only [PV.blw]; exact ⟨fun t z e => (by cases e), blws_slts _ _⟩) hwf (by first | exact ((Fr.refl hwf).tm htm (fun t z e => by cases e)).blk) ⟨?_, rfl⟩
    · rfl
theorem clone_Slt {xs : List Slt} (hb : xs.length * 16 ≤ 140737488355328) {s : St} : ACalls Try.prog 52 [.sl .unk (xs.map Slt.pv)] s (fun r s' => r = .sl .unk (xs.map Slt.pv) ∧ s' = s) :=
  ACalls.unk1 (fun h => by rw [h]; exact clone_Slt_nil) (clone_Slt_any hb)
attribute [local go_sem] weaks_tensc
theorem table_Copy {t : Tab} (ht : t.ok) {s : St} : ACalls Try.prog 36 [t.pv] s (fun r s' => r = t.pv ∧ s' = s) := by
  refine go Try.func36 (k := fun hwf H => ?_)
  refine rs (k := rg [1, 2] (k := rs (k := rg [1, 2, 3] (k := rs (k := rs (k := rg [2, 3, 10, 11, 12] (k := rb (k := ?_))))))))
  refine Run.loop (fun e s' => Fr s s' ∧ ∃ (i : Nat) (k : SK), e = [(2, .ptr (s.nxt + 1) 0 0), (3, .ptr (s.nxt + 2) 0 0), (10, .sl .unk (t.tens.map Ten.pv)), (11, .int .i64 t.tens.length), (12, .int .i64 i)] ∧ i ≤ t.tens.length ∧ s.nxt + 2 < s'.nxt ∧ s'.blk (s.nxt + 1) = some (.row 24 [.agg [.int .i64 0, .sl .nil []]]) ∧ s'.blk (s.nxt + 2) = some (.row 24 [.agg [.int .i64 t.frame, .sl k ((t.tens.take i).map Ten.pvc)]]) ∧ Grows s' k i (Try.prog.cellsOf 53) ∧ (∀ t z, k = .tok t z → s.nxt + 2 < t ∧ t < s'.nxt)) (fun e s' => t.tens.length - ivar e 12) ?_ ?_
  · exact ⟨(((Fr.refl hwf).new _).new _).newset _ _ rfl, 0, .nil, rfl, by omega, by simp only [go_sem]; omega, by simp only [go_sem, ↓reduceIte], by simp only [go_sem, ↓reduceIte, Nat.add_assoc, Nat.reduceAdd], .inl ⟨rfl, rfl⟩, by simp⟩
  rintro e s1 ⟨F1, i, k, rfl, hi, hsn, hR, hO, hgr, htk⟩
  refine rs (k := rg [2, 3, 10, 11, 12, 13] (k := rs (k := rc (ht := fun hc0 => ?_) (hf := fun hc0 => ?_))))
  · refine rk (k := rs (k := rb (k := rs (k := ?_))))
    have hil : i < t.tens.length := by have := of_decide_eq_true hc0; omega
    have hbt := ht.bt
    obtain ⟨x, hxe⟩ : ∃ z_, t.tens[i]'hil = z_ := ⟨_, rfl⟩
    have hxx : (t.tens.map Ten.pv)[i]? = some (.agg [.int .i64 (x).unit, .int .u32 (x).fns, .int .i64 (x).queue, .sl .unk ((x).wins.map Win.pv), .sl .unk ((x).slts.map Slt.pv)]) := by rw [map_get hil, hxe]; rfl
    have hw : IntKind.i64.wrap ((i : Int) + 1) = ((i + 1 : Nat) : Int) := by rw [wrap_i64 (by omega)]; omega
    have hxok : x.ok := by rw [← hxe]; exact ht.tens _ (List.getElem_mem _)
    have hXn : (s.nxt + 2 = s1.nxt) = False := eq_false (by omega)
    have hXn1 : (s.nxt + 1 = s1.nxt) = False := eq_false (by omega)
    have htl : (t.tens.take i).length = i := by simp; omega
    have H := aj hxx (aj hw (aj hO (aj hXn (aj hXn1 H))))
    refine rg [2, 3, 5, 10, 11, 12] (k := rs (k := ?_))
    refine Run.drawC [9, 11] [2, 3, 5, 10, 11, 12] Try.mixed (by kernel_rfl) ?_
    refine DetC.pre (pre := [_, _]) au ?_
    refine DetC.call au au au (by kernel_rfl) (clone_Win (xs := x.wins) (by have := hxok.bw; omega)) ?_
    refine DetC.call au au au (by kernel_rfl) (clip_Win (xs := x.wins)) ?_
    refine DetC.pre (pre := [_, _]) au ?_
    refine DetC.call au au au (by kernel_rfl) (clone_Slt (xs := x.slts) (by have := hxok.bs; omega)) ?_
    refine DetC.call au au au (by kernel_rfl) (clip_Slt (xs := x.slts)) ?_
    refine DetC.pre (pre := [_]) au ?_
    refine DetC.eff (by decide) au au ?_
    refine DetC.pre (pre := [_]) au ?_
    refine DetC.eff (by decide) au au ?_
    refine DetC.nil ?_
    refine re (k := ?_)
    have hgr2 : Grows (s1.new (.row 53 [.agg [.int .i64 (x).unit, .int .u32 (x).fns, .int .i64 (x).queue, .sl .unc ((x).wins.map Win.pv), .sl .unc ((x).slts.map Slt.pv)]])) k (t.tens.take i).length (Try.prog.cellsOf 53) := by
      rw [htl]
      exact hgr.mono fun t ht => by
        rw [blk_new, if_neg (by have := (htk t _ ht).2; omega)]
    refine rr (k := ro (pre := [_, _, _]) (k := rO (k := ?_)))
    refine RunO.grow au au au Try.td22 (by rw [Try.zp53]; rfl) (isEls_map (fun a => ⟨rfl, by rw [Try.cz53]; rfl⟩) _) (isEls_map (f := Ten.pvc) (fun a => ⟨rfl, by rw [Try.cz53]; rfl⟩) [x]) (by rw [Try.by53]; decide) (by rw [Try.by53]; simp; omega) (by rw [List.length_map]; exact hgr2) (by simp) ?_
    intro k' s2 hgr' htm
    have hn2 := htm.nxt
    rw [nxt_new] at hn2
    have hO2 : s2.blk (s.nxt + 2) = some (.row 24 [.agg [.int .i64 t.frame, .sl k ((t.tens.take i).map Ten.pvc)]]) := by
      rw [htm.rest _ (by rw [nxt_new]; omega) (fun z e => hgr.ne e _ hO (by simp) rfl), blk_new, if_neg (by omega)]; exact hO
    have hR2 : s2.blk (s.nxt + 1) = some (.row 24 [.agg [.int .i64 0, .sl .nil []]]) := by
      rw [htm.rest _ (by rw [nxt_new]; omega) (fun z e => hgr.ne e _ hR (by simp) rfl), blk_new, if_neg (by omega)]; exact hR
    have H := aj hO2 (aj hR2 H)
    refine rh [2, 3, 10, 11, 12] (k := rB (k := rg [2, 3, 10, 11, 12] (k := ?_)))
    rw [List.length_map, htl] at hgr'
    refine Run.lp ⟨⟨((F1.new _).tm htm (fun t z e => by have := htk t z e; omega)).set (by omega) (by omega) _, i + 1, k', rfl, by omega, by rw [nxt_set]; omega, ?_, ?_, ?_, fun t' z e => ?_⟩, ?_⟩
    · rw [blk_set, if_neg (by omega)]; exact hR2
    · rw [blk_set, if_pos rfl, take_get hil, hxe, List.map_append]; rfl
    · refine (show Grows s2 k' (i + 1) _ from hgr').mono fun t' ht => ?_
      rw [blk_set, if_neg (hgr'.ne ht _ hO2 (by simp))]
    · rw [nxt_set]
      rcases htm.fresh t' z e with ⟨z2, h⟩ | ⟨h1, h2⟩
      · have := htk t' z2 h; omega
      · rw [nxt_new] at h1; omega
    · simp only [ivar, go_sem, ↓reduceIte, Nat.reduceEqDiff]
      omega
  · refine rX (k := rs (k := ?_))
    have hi2 : i = t.tens.length := by have := of_decide_eq_false hc0; omega
    have htl : t.tens.take i = t.tens := by rw [hi2, List.take_length]
    have H := aj hO (aj hR H)
    refine rr (k := ro (pre := [_, _]) (k := rC (h := clip_Ten (xs := t.tens.take i)) (k := rh [2, 3] (k := rs (k := rg [2] (k := rR (k := ?_)))))))
    refine Ret.pure (r' := t.pv) (by simp only [Try.f36, go_sem, ↓reduceIte, htl] <;> rfl) ?_ (blw_tab _ _) hwf ((F1.set (by omega) (by omega) _).set (by omega) (by rw [nxt_set]; omega) _).blk ⟨rfl, rfl⟩
    simp only [Tab.pv, PV.weak, PV.weaks, weaks_tens]
end Go.Proofs
namespace Go.Proofs
open Go.PM
set_option maxHeartbeats 2000000
theorem ref7_Right {a : Sp} {most : Int} (ha : a.ok) (hm : 0 ≤ most ∧ most ≤ 4611686018427387904) {s : St} : ACalls Try.prog 84 [a.pv, .int .i64 most] s (fun r s' => r = .bool (spRight a most) ∧ s' = s) := by
  refine go Try.func84 (k := fun hwf H => ?_)
  refine rs (k := rg [1, 2] (k := rs (k := rg [4] (k := rR (k := rP (by simp only [Try.f84, go_sem]; rfl) hwf ⟨?_, rfl⟩)))))
  simp only [spRight]
  have hw : 0 ≤ a.pos → a.pos ≤ most → IntKind.i64.wrap (most - a.pos) = most - a.pos := fun h h' => wrap_i64 (by omega)
  by_cases h1 : 0 ≤ a.pos <;> by_cases h2 : 1 ≤ a.cnt <;> by_cases h3 : a.pos ≤ most <;> simp [h1, h2, h3, PV.weak]
  rw [hw h1 h3]
theorem ref7_Meet {a b : Sp} (ha : a.ok) (hb : b.ok) {s : St} : ACalls Try.prog 74 [a.pv, b.pv] s (fun r s' => r = .tuple [(spMeet a b).pv, .bool (spMeets a b)] ∧ s' = s) := by
  refine go Try.func74 (k := fun hwf H => ?_)
  refine rs (k := rg [2, 3, 4] (k := rs (k := rs (k := rr (k := ro (pre := [_]) (k := rC (h := ref7_Right (a := a) (most := great) ha (by decide)) (k := ro (pre := [_, _]) (k := rQ 11 (ht := fun hg3 => ?_) (hf := fun hg3 => ?_)))))))))
  · refine rg0 (k := rg0 (k := rg0 (k := rh [2, 3, 4, 15] (k := rc (ht := fun hc0 => ?_) (hf := fun hc0 => ?_)))))
    · refine rs (k := rg [4, 5] (k := rR (k := rP (by simp only [Try.f74, go_sem]; rfl) hwf ⟨?_, rfl⟩)))
      first
        | (have h := spMeets_l (b := b) hg3
           rw [h.1, h.2]; rfl)
        | (have h := spMeets_r (a := a) hc0
           rw [h.1, h.2]; rfl)
        | (have h := spMeets_not hg3 hc0 hc1
           rw [h.1, h.2]; rfl)
        | (have h := spMeets_yes hg3 hc0 hc1
           rw [h.1, h.2]; rfl)
    · cases hc0
  · refine rg1 (k := rC (h := ref7_Right (a := b) (most := great) hb (by decide)) (k := rg1 (k := rh [2, 3, 4, 15] (k := rc (ht := fun hc0 => ?_) (hf := fun hc0 => ?_)))))
    · refine rs (k := rg [4, 5] (k := rR (k := rP (by simp only [Try.f74, go_sem]; rfl) hwf ⟨?_, rfl⟩)))
      first
        | (have h := spMeets_l (b := b) hg3
           rw [h.1, h.2]; rfl)
        | (have h := spMeets_r (a := a) hc0
           rw [h.1, h.2]; rfl)
        | (have h := spMeets_not hg3 hc0 hc1
           rw [h.1, h.2]; rfl)
        | (have h := spMeets_yes hg3 hc0 hc1
           rw [h.1, h.2]; rfl)
    · refine rk (k := rs (k := ?_))
      refine Run.drawC [] [4, 6, 7] Try.mixed (by kernel_rfl) ?_
      refine DetC.all au ?_
      refine re (k := rs (k := rs (k := rg [4, 6, 7, 35] (k := rc (ht := fun hc1 => ?_) (hf := fun hc1 => ?_)))))
      · refine rs (k := rg [4, 5] (k := rR (k := rP (by simp only [Try.f74, go_sem]; rfl) hwf ⟨?_, rfl⟩)))
        first
          | (have h := spMeets_l (b := b) hg3
             rw [h.1, h.2]; rfl)
          | (have h := spMeets_r (a := a) hc0
             rw [h.1, h.2]; rfl)
          | (have h := spMeets_not hg3 hc0 hc1
             rw [h.1, h.2]; rfl)
          | (have h := spMeets_yes hg3 hc0 hc1
             rw [h.1, h.2]; rfl)
      · refine rk (k := rs (k := rg [4, 5] (k := rR (k := rP (by simp only [Try.f74, go_sem]; rfl) hwf ⟨?_, rfl⟩))))
        first
          | (have h := spMeets_l (b := b) hg3
             rw [h.1, h.2]; rfl)
          | (have h := spMeets_r (a := a) hc0
             rw [h.1, h.2]; rfl)
          | (have h := spMeets_not hg3 hc0 hc1
             rw [h.1, h.2]; rfl)
          | (have h := spMeets_yes hg3 hc0 hc1
             rw [h.1, h.2]; rfl)
theorem ref7_Window {w : Win} (hw : w.ok) {s : St} : ACalls Try.prog 72 [w.pv] s (fun r s' => r = .bool (winRight w) ∧ s' = s) := by
  refine go Try.func72 (k := fun hwf H => ?_)
  refine rs (k := rg [1] (k := rs (k := rr (k := ro (pre := [_, _, _, _, _, _, _, _, _]) (k := rQ 11 (ht := fun hg8 => ?_) (hf := fun hg8 => ?_))))))
  · refine rg1 (k := rg1 (k := rg1 (k := rg1 (k := rg1 (k := rC (h := ref7_Right (a := w.v) (most := 65536) hw.v (by decide)) (k := ro (pre := [_, _]) (k := rQ 19 (ht := fun hg16 => ?_) (hf := fun hg16 => ?_))))))))
    · refine rg1 (k := rg1 (k := rg1 (k := rg1 (k := rg1 (k := rC (h := ref7_Right (a := w.p) (most := 512) hw.p (by decide)) (k := rh [2] (k := rR (k := rP (by simp only [Try.f72, go_sem]; rfl) hwf ⟨?_, rfl⟩))))))))
      have e : winRight w = (decide (0 ≤ w.space) && decide (w.space ≤ 3) && spRight w.v 65536 && spRight w.p 512) := by simp [winRight]
      rw [e]
      first
        | (rw [show (decide (0 ≤ w.space) && decide (w.space ≤ 3)) = true from hg8, show spRight w.v 65536 = true from hg16]; simp [PV.weak]; done)
        | (rw [show (decide (0 ≤ w.space) && decide (w.space ≤ 3)) = true from hg8, show spRight w.v 65536 = false from hg16]; rfl)
        | (rw [show (decide (0 ≤ w.space) && decide (w.space ≤ 3)) = false from hg8]; rfl)
    · refine rg0 (k := rg0 (k := rg0 (k := rg0 (k := rg0 (k := rg0 (k := rh [2] (k := rR (k := rP (by simp only [Try.f72, go_sem]; rfl) hwf ⟨?_, rfl⟩))))))))
      have e : winRight w = (decide (0 ≤ w.space) && decide (w.space ≤ 3) && spRight w.v 65536 && spRight w.p 512) := by simp [winRight]
      rw [e]
      first
        | (rw [show (decide (0 ≤ w.space) && decide (w.space ≤ 3)) = true from hg8, show spRight w.v 65536 = true from hg16]; simp [PV.weak]; done)
        | (rw [show (decide (0 ≤ w.space) && decide (w.space ≤ 3)) = true from hg8, show spRight w.v 65536 = false from hg16]; rfl)
        | (rw [show (decide (0 ≤ w.space) && decide (w.space ≤ 3)) = false from hg8]; rfl)
  · refine rg0 (k := rg0 (k := rg0 (k := rg0 (k := rg0 (k := rg0 (k := ro (pre := [_, _]) (k := rQ 19 (ht := fun hg16 => ?_) (hf := fun hg16 => ?_))))))))
    · cases hg16
    · refine rg0 (k := rg0 (k := rg0 (k := rg0 (k := rg0 (k := rg0 (k := rh [2] (k := rR (k := rP (by simp only [Try.f72, go_sem]; rfl) hwf ⟨?_, rfl⟩))))))))
      have e : winRight w = (decide (0 ≤ w.space) && decide (w.space ≤ 3) && spRight w.v 65536 && spRight w.p 512) := by simp [winRight]
      rw [e]
      first
        | (rw [show (decide (0 ≤ w.space) && decide (w.space ≤ 3)) = true from hg8, show spRight w.v 65536 = true from hg16]; simp [PV.weak]; done)
        | (rw [show (decide (0 ≤ w.space) && decide (w.space ≤ 3)) = true from hg8, show spRight w.v 65536 = false from hg16]; rfl)
        | (rw [show (decide (0 ≤ w.space) && decide (w.space ≤ 3)) = false from hg8]; rfl)
theorem winMeet_com (a b : Win) : (spMeets a.p b.p && winRight a && winRight b && decide (a.space = b.space)) = winMeet a b := by
  unfold winMeet
  cases spMeets a.p b.p <;> cases winRight a <;> cases winRight b <;> simp
theorem ref7_Meets {a b : List Win} (ha : ∀ w ∈ a, w.ok) (hb : ∀ w ∈ b, w.ok) (na : a.length < 140737488355328) (nb : b.length < 140737488355328) {s : St} : ACalls Try.prog 56 [.sl .unk (a.map Win.pv), .sl .unk (b.map Win.pv)] s (fun r s' => r = .bool (winsMeet a b) ∧ s' = s) := by
  refine go Try.func56 (k := fun hwf H => ?_)
  refine rs (k := rg [0, 1] (k := rs (k := rs (k := rg [1, 11, 12, 13] (k := rb (k := ?_))))))
  refine Run.loop (fun e s' => Fr s s' ∧ ∃ i : Nat, e = [(1, .sl .unk (b.map Win.pv)), (11, .sl .unk (a.map Win.pv)), (12, .int .i64 a.length), (13, .int .i64 i)] ∧ i ≤ a.length ∧ winsMeet a b = winsMeet (a.drop i) b) (fun e s' => a.length - ivar e 13) ?_ ?_
  · exact ⟨Fr.refl hwf, 0, rfl, by omega, rfl⟩
  rintro e s1 ⟨F1, i, rfl, hi, hidx⟩
  refine rs (k := rg [1, 11, 12, 13, 14] (k := rs (k := rc (ht := fun hc0 => ?_) (hf := fun hc0 => ?_))))
  · refine rk (k := rs (k := rb (k := rs (k := ?_))))
    have hxl : i < a.length := by have := of_decide_eq_true hc0; omega
    obtain ⟨x, hxe⟩ : ∃ z_, a[i]'hxl = z_ := ⟨_, rfl⟩
    have hxx : (a.map Win.pv)[i]? = some (.agg [.int .i64 (x).space, .int .i64 (x).virt, .int .i64 (x).phys, .int .i64 (x).cnt]) := by rw [map_get hxl, hxe]; rfl
    have hwx : IntKind.i64.wrap ((i : Int) + 1) = ((i + 1 : Nat) : Int) := by rw [wrap_i64 (by omega)]; omega
    have hxok : x.ok := by rw [← hxe]; exact ha _ (List.getElem_mem _)
    have H := aj hxx (aj hwx H)
    refine rg [1, 6, 11, 12, 13] (k := rs (k := rg [1, 6, 11, 12, 13, 17, 18, 19] (k := rb (k := ?_))))
    refine Run.loop (fun e s' => Fr s s' ∧ ∃ j : Nat, e = [(1, .sl .unk (b.map Win.pv)), (6, .ptr s1.nxt 0 0), (11, .sl .unk (a.map Win.pv)), (12, .int .i64 a.length), (13, .int .i64 i), (17, .sl .unk (b.map Win.pv)), (18, .int .i64 b.length), (19, .int .i64 j)] ∧ j ≤ b.length ∧ (b.take j).any (fun y => winMeet x y) = false ∧ s1.nxt < s'.nxt ∧ s'.blk s1.nxt = some (.row 65 [.agg [.int .i64 (x).space, .int .i64 (x).virt, .int .i64 (x).phys, .int .i64 (x).cnt]])) (fun e s' => b.length - ivar e 19) ?_ ?_
    · exact ⟨F1.new _, 0, rfl, by omega, rfl, by simp only [go_sem]; omega, by rw [blk_new, if_pos rfl]⟩
    rintro e s2 ⟨F2, j, rfl, hj, hall, hXl, hX⟩
    refine rs (k := rg [1, 6, 11, 12, 13, 17, 18, 19, 20] (k := rs (k := rc (ht := fun hc1 => ?_) (hf := fun hc1 => ?_))))
    · refine rk (k := rs (k := rb (k := rs (k := ?_))))
      have hyl : j < b.length := by have := of_decide_eq_true hc1; omega
      obtain ⟨y, hye⟩ : ∃ z_, b[j]'hyl = z_ := ⟨_, rfl⟩
      have hxy : (b.map Win.pv)[j]? = some (.agg [.int .i64 (y).space, .int .i64 (y).virt, .int .i64 (y).phys, .int .i64 (y).cnt]) := by rw [map_get hyl, hye]; rfl
      have hwy : IntKind.i64.wrap ((j : Int) + 1) = ((j + 1 : Nat) : Int) := by rw [wrap_i64 (by omega)]; omega
      have hyok : y.ok := by rw [← hye]; exact hb _ (List.getElem_mem _)
      have hXn : (s1.nxt = s2.nxt) = False := eq_false (by omega)
      have hXn1 : (s1.nxt = s2.nxt + 1) = False := eq_false (by omega)
      have hYn : (s2.nxt = s2.nxt + 1) = False := eq_false (by omega)
      have H := aj hxy (aj hwy (aj hX (aj hXn (aj hXn1 H))))
      refine rg [1, 6, 8, 11, 12, 13, 17, 18, 19] (k := rs (k := rr (k := ro (pre := [_, _, _, _, _, _, _, _, _, _]) (k := rC (h := ref7_Meet (a := x.p) (b := y.p) hxok.p hyok.p) (k := rh [1, 6, 8, 10, 11, 12, 13, 17, 18, 19] (k := rs (k := ?_)))))))
      generalize hm : spMeets x.p y.p = m
      have F3 := (F2.new (.row 65 [.agg [.int .i64 (y).space, .int .i64 (y).virt, .int .i64 (y).phys, .int .i64 (y).cnt]])).newset (.row 106 [.agg [.int .i64 0, .int .i64 0]]) (some (.row 106 [.agg [.int .i64 (spMeet x.p y.p).pos, .int .i64 (spMeet x.p y.p).cnt]])) (id := s2.nxt + 1) rfl
      refine rr (k := ro (pre := [_, _]) (k := rQ 38 (ht := fun hg1 => ?_) (hf := fun hg1 => ?_)))
      · refine rg1 (k := rC (h := ref7_Window hxok) (k := ro (pre := [_, _]) (k := rQ 42 (ht := fun hg5 => ?_) (hf := fun hg5 => ?_))))
        · refine rg1 (k := rC (h := ref7_Window hyok) (k := rh [1, 6, 11, 12, 13, 17, 18, 19, 52] (k := rc (ht := fun hc2 => ?_) (hf := fun hc2 => ?_))))
          · refine rs (k := rg [4] (k := rR (k := ?_)))
            refine Ret.pure (by simp only [Try.f56, go_sem] <;> rfl) rfl (by simp only [go_sem, reduceCtorEq, false_implies, implies_true]) hwf (by first | exact (F1).blk | exact (F3).blk) ⟨?_, rfl⟩
            · first
                | (have : i = a.length := by have := of_decide_eq_false hc0; omega
                   rw [hidx, this, List.drop_length]; rfl)
                | (have hbad : winMeet x y = true := by
                     rw [← winMeet_com, hm]
                     first
                       | (simp [hg1, hg5, hc2]; done)
                       | (simp at hg5 hc2; simp [hg1, hg5, hc2]; done)
                   have : winsMeet (a.drop i) b = true := by
                     rw [drop_get hxl, hxe]
                     show (b.any (fun y => winMeet x y) || winsMeet (a.drop (i + 1)) b) = _
                     rw [show b.any (fun y => winMeet x y) = true from List.any_eq_true.2 ⟨y, by rw [← hye]; exact List.getElem_mem _, hbad⟩, Bool.true_or]
                   rw [hidx, this]; rfl)
          · refine rk (k := rB (k := rg [1, 6, 11, 12, 13, 17, 18, 19] (k := ?_)))
            have hbad : winMeet x y = false := by
              rw [← winMeet_com, hm]
              first
                | (simp [hg1, hg5, hc2]; done)
                | (simp [hg1, hg5]; done)
                | (simp [hg1]; done)
                | (simp [hg1, hc2]; simpa using hg5)
                | (simp at hg5 hc2; simp [hg1, hg5, hc2]; done)
            refine Run.lp ⟨⟨F3, j + 1, rfl, by omega, ?_, by simp only [go_sem]; omega, by simp only [go_sem, hX, hXn, hXn1, ↓reduceIte]⟩, ?_⟩
            · rw [take_get hyl, List.any_append, hall, hye]
              simp [hbad]
            · simp only [ivar, go_sem, ↓reduceIte, Nat.reduceEqDiff]
              omega
        · refine rg0 (k := rg0 (k := rh [1, 6, 11, 12, 13, 17, 18, 19, 52] (k := rc (ht := fun hc2 => ?_) (hf := fun hc2 => ?_))))
          · cases hc2
          · refine rk (k := rB (k := rg [1, 6, 11, 12, 13, 17, 18, 19] (k := ?_)))
            have hbad : winMeet x y = false := by
              rw [← winMeet_com, hm]
              first
                | (simp [hg1, hg5, hc2]; done)
                | (simp [hg1, hg5]; done)
                | (simp [hg1]; done)
                | (simp [hg1, hc2]; simpa using hg5)
                | (simp at hg5 hc2; simp [hg1, hg5, hc2]; done)
            refine Run.lp ⟨⟨F3, j + 1, rfl, by omega, ?_, by simp only [go_sem]; omega, by simp only [go_sem, hX, hXn, hXn1, ↓reduceIte]⟩, ?_⟩
            · rw [take_get hyl, List.any_append, hall, hye]
              simp [hbad]
            · simp only [ivar, go_sem, ↓reduceIte, Nat.reduceEqDiff]
              omega
      · refine rg0 (k := rg0 (k := ro (pre := [_, _]) (k := rQ 42 (ht := fun hg5 => ?_) (hf := fun hg5 => ?_))))
        · cases hg5
        · refine rg0 (k := rg0 (k := rh [1, 6, 11, 12, 13, 17, 18, 19, 52] (k := rc (ht := fun hc2 => ?_) (hf := fun hc2 => ?_))))
          · cases hc2
          · refine rk (k := rB (k := rg [1, 6, 11, 12, 13, 17, 18, 19] (k := ?_)))
            have hbad : winMeet x y = false := by
              rw [← winMeet_com, hm]
              first
                | (simp [hg1, hg5, hc2]; done)
                | (simp [hg1, hg5]; done)
                | (simp [hg1]; done)
                | (simp [hg1, hc2]; simpa using hg5)
                | (simp at hg5 hc2; simp [hg1, hg5, hc2]; done)
            refine Run.lp ⟨⟨F3, j + 1, rfl, by omega, ?_, by simp only [go_sem]; omega, by simp only [go_sem, hX, hXn, hXn1, ↓reduceIte]⟩, ?_⟩
            · rw [take_get hyl, List.any_append, hall, hye]
              simp [hbad]
            · simp only [ivar, go_sem, ↓reduceIte, Nat.reduceEqDiff]
              omega
    · refine rX (k := rB (k := rg [1, 11, 12, 13] (k := ?_)))
      have hj : j = b.length := by have := of_decide_eq_false hc1; omega
      have hidx2 : winsMeet a b = winsMeet (a.drop (i + 1)) b := by
        rw [hidx, drop_get hxl, hxe]
        show (b.any (fun y => winMeet x y) || winsMeet (a.drop (i + 1)) b) = _
        rw [hj, List.take_length] at hall
        rw [hall, Bool.false_or]
      refine Run.lp ⟨⟨F2, i + 1, rfl, by omega, hidx2⟩, ?_⟩
      simp only [ivar, go_sem, ↓reduceIte, Nat.reduceEqDiff]
      omega
  · refine rX (k := rs (k := rg [4] (k := rR (k := ?_))))
    refine Ret.pure (by simp only [Try.f56, go_sem] <;> rfl) rfl (by simp only [go_sem, reduceCtorEq, false_implies, implies_true]) hwf (by first | exact (F1).blk | exact (F3).blk) ⟨?_, rfl⟩
    · first
        | (have : i = a.length := by have := of_decide_eq_false hc0; omega
           rw [hidx, this, List.drop_length]; rfl)
        | (have hbad : winMeet x y = true := by
             rw [← winMeet_com, hm]
             first
               | (simp [hg1, hg5, hc2]; done)
               | (simp at hg5 hc2; simp [hg1, hg5, hc2]; done)
           have : winsMeet (a.drop i) b = true := by
             rw [drop_get hxl, hxe]
             show (b.any (fun y => winMeet x y) || winsMeet (a.drop (i + 1)) b) = _
             rw [show b.any (fun y => winMeet x y) = true from List.any_eq_true.2 ⟨y, by rw [← hye]; exact List.getElem_mem _, hbad⟩, Bool.true_or]
           rw [hidx, this]; rfl)
theorem winBad_com (a b : Win) : winBad a b = (decide (a.space = b.space) && winRight a && winRight b && (spMeets a.p b.p || spMeets a.v b.v)) := by
  unfold winBad winMeet winMeetV
  cases spMeets a.p b.p <;> cases spMeets a.v b.v <;> cases winRight a <;> cases winRight b <;> simp
theorem ref7_Own {l : List Win} (ha : ∀ w ∈ l, w.ok) (na : l.length < 140737488355328) {s : St} : ACalls Try.prog 73 [.sl .unk (l.map Win.pv)] s (fun r s' => r = .bool (winsOwn l) ∧ s' = s) := by
  refine go Try.func73 (k := fun hwf H => ?_)
  refine rs (k := rg [0] (k := rs (k := rs (k := rg [0, 11, 12, 13] (k := rb (k := ?_))))))
  refine Run.loop (fun e s' => Fr s s' ∧ ∃ i : Nat, e = [(0, .sl .unk (l.map Win.pv)), (11, .sl .unk (l.map Win.pv)), (12, .int .i64 l.length), (13, .int .i64 i)] ∧ i ≤ l.length ∧ winsOwn l = winsOwnA (l.take i) (l.drop i)) (fun e s' => l.length - ivar e 13) ?_ ?_
  · exact ⟨Fr.refl hwf, 0, rfl, by omega, rfl⟩
  rintro e s1 ⟨F1, i, rfl, hi, hidx⟩
  refine rs (k := rg [0, 11, 12, 13, 14] (k := rs (k := rc (ht := fun hc0 => ?_) (hf := fun hc0 => ?_))))
  · refine rk (k := rs (k := rb (k := rs (k := ?_))))
    have hil : i < l.length := by have := of_decide_eq_true hc0; omega
    obtain ⟨a, hae⟩ : ∃ z_, l[i]'hil = z_ := ⟨_, rfl⟩
    have hxa : (l.map Win.pv)[i]? = some (.agg [.int .i64 (a).space, .int .i64 (a).virt, .int .i64 (a).phys, .int .i64 (a).cnt]) := by rw [map_get hil, hae]; rfl
    have hw : IntKind.i64.wrap ((i : Int) + 1) = ((i + 1 : Nat) : Int) := by rw [wrap_i64 (by omega)]; omega
    have haok : a.ok := by rw [← hae]; exact ha _ (List.getElem_mem _)
    have hsl : (l.map Win.pv).take i = (l.take i).map Win.pv := List.map_take.symm
    have hile : ((i : Int) ≤ (l.length : Int)) = True := eq_true (by omega)
    have htl : (l.take i).length = i := by simp; omega
    have H := aj hxa (aj hw (aj hsl (aj hile (aj htl H))))
    refine rg [0, 3, 4, 11, 12, 13] (k := rs (k := rg [0, 4, 11, 12, 13, 20, 21, 22] (k := rb (k := ?_))))
    refine Run.loop (fun e s' => Fr s s' ∧ ∃ j : Nat, e = [(0, .sl .unk (l.map Win.pv)), (4, .ptr s1.nxt 0 0), (11, .sl .unk (l.map Win.pv)), (12, .int .i64 l.length), (13, .int .i64 i), (20, .sl .unk ((l.take i).map Win.pv)), (21, .int .i64 i), (22, .int .i64 j)] ∧ j ≤ i ∧ ((l.take i).take j).all (fun y => !winBad a y) = true ∧ s1.nxt < s'.nxt ∧ s'.blk s1.nxt = some (.row 65 [.agg [.int .i64 (a).space, .int .i64 (a).virt, .int .i64 (a).phys, .int .i64 (a).cnt]])) (fun e s' => i - ivar e 22) ?_ ?_
    · exact ⟨F1.new _, 0, rfl, by omega, rfl, by simp only [go_sem]; omega, by rw [blk_new, if_pos rfl]⟩
    rintro e s2 ⟨F2, j, rfl, hj, hall, hXl, hX⟩
    refine rs (k := rg [0, 4, 11, 12, 13, 20, 21, 22, 23] (k := rs (k := rc (ht := fun hc1 => ?_) (hf := fun hc1 => ?_))))
    · refine rk (k := rs (k := rb (k := rs (k := ?_))))
      have hjl : j < (l.take i).length := by have := of_decide_eq_true hc1; omega
      obtain ⟨b, hbe⟩ : ∃ z_, (l.take i)[j]'hjl = z_ := ⟨_, rfl⟩
      have hxb : ((l.take i).map Win.pv)[j]? = some (.agg [.int .i64 (b).space, .int .i64 (b).virt, .int .i64 (b).phys, .int .i64 (b).cnt]) := by rw [map_get hjl, hbe]; rfl
      have hwj : IntKind.i64.wrap ((j : Int) + 1) = ((j + 1 : Nat) : Int) := by rw [wrap_i64 (by omega)]; omega
      have hbok : b.ok := by rw [← hbe]; exact ha _ (List.mem_of_mem_take (List.getElem_mem _))
      have hXn : (s1.nxt = s2.nxt) = False := eq_false (by omega)
      have hXn1 : (s1.nxt = s2.nxt + 1) = False := eq_false (by omega)
      have hXn2 : (s1.nxt = s2.nxt + 2) = False := eq_false (by omega)
      have hXn3 : (s1.nxt = s2.nxt + 1 + 1) = False := eq_false (by omega)
      have hYn3 : (s2.nxt = s2.nxt + 1 + 1) = False := eq_false (by omega)
      have H := aj hxb (aj hwj (aj hX (aj hXn (aj hXn1 (aj hXn2 (aj hXn3 (aj hYn3 H)))))))
      refine rg [0, 4, 6, 11, 12, 13, 20, 21, 22] (k := rs (k := rr (k := ro (pre := [_, _, _, _, _, _, _, _, _, _]) (k := rC (h := ref7_Meet (a := a.p) (b := b.p) haok.p hbok.p) (k := rh [0, 4, 6, 8, 11, 12, 13, 20, 21, 22] (k := rs (k := rr (k := ro (pre := [_, _, _, _, _, _, _, _, _, _]) (k := rC (h := ref7_Meet (a := a.v) (b := b.v) haok.v hbok.v) (k := ra (k := ?_)))))))))))
      refine rl [0, 4, 6, 8, 10, 11, 12, 13, 20, 21, 22] (k := rs (k := ?_))
      generalize hm1 : spMeets a.p b.p = m1
      generalize hm2 : spMeets a.v b.v = m2
      have F3 := ((F2.new (.row 65 [.agg [.int .i64 (b).space, .int .i64 (b).virt, .int .i64 (b).phys, .int .i64 (b).cnt]])).newset (.row 106 [.agg [.int .i64 0, .int .i64 0]]) (some (.row 106 [.agg [.int .i64 (spMeet a.p b.p).pos, .int .i64 (spMeet a.p b.p).cnt]])) (id := s2.nxt + 1) rfl).newset (.row 106 [.agg [.int .i64 0, .int .i64 0]]) (some (.row 106 [.agg [.int .i64 (spMeet a.v b.v).pos, .int .i64 (spMeet a.v b.v).cnt]])) (id := s2.nxt + 1 + 1) rfl
      refine rr (k := ro (pre := [_, _, _, _, _, _]) (k := rQ 59 (ht := fun hg5 => ?_) (hf := fun hg5 => ?_)))
      · refine rg1 (k := rC (h := ref7_Window haok) (k := ro (pre := [_, _]) (k := rQ 63 (ht := fun hg9 => ?_) (hf := fun hg9 => ?_))))
        · refine rg1 (k := rC (h := ref7_Window hbok) (k := ro (pre := [_, _]) (k := rQ 67 (ht := fun hg13 => ?_) (hf := fun hg13 => ?_))))
          · refine rg1 (k := rg1 (k := rQ 69 (ht := fun hg15 => ?_) (hf := fun hg15 => ?_)))
            · refine rg0 (k := rg1 (k := rh [0, 4, 11, 12, 13, 20, 21, 22, 72] (k := rc (ht := fun hc2 => ?_) (hf := fun hc2 => ?_))))
              · refine rs (k := rg [2] (k := rR (k := ?_)))
                refine Ret.pure (by simp only [Try.f73, go_sem] <;> rfl) rfl (by simp only [go_sem, reduceCtorEq, false_implies, implies_true]) hwf (by first | exact (F1).blk | exact (F3).blk) ⟨?_, rfl⟩
                · first
                    | (have : i = l.length := by have := of_decide_eq_false hc0; omega
                       rw [this, List.drop_length] at hidx
                       rw [hidx]; rfl)
                    | (have hbad : winBad a b = true := by
                         rw [winBad_com, hm1, hm2]
                         first
                           | (simp [hg5, hg9, hg13, hg15]; done)
                           | (simp [hg5, hg9, hg13, hg15, hc2]; done)
                           | (simp at hg5 hg9 hg13 hg15; simp [hg5, hg9, hg13, hg15]; done)
                           | (simp at hg13; simp [hg13, hg15]; done)
                           | (simp at hg13; simp [hg13, hg15, hc2]; done)
                       have : winsOwn l = false := by
                         rw [hidx, winsOwnA_step hil, hae]
                         have hin : b ∈ l.take i := by rw [← hbe]; exact List.getElem_mem _
                         have : (l.take i).all (fun y => !winBad a y) = false := List.all_eq_false.2 ⟨b, hin, by simp [hbad]⟩
                         rw [this, Bool.false_and]
                       rw [this]; rfl)
              · cases hc2
            · refine rg1 (k := rg1 (k := rh [0, 4, 11, 12, 13, 20, 21, 22, 72] (k := rc (ht := fun hc2 => ?_) (hf := fun hc2 => ?_))))
              · refine rs (k := rg [2] (k := rR (k := ?_)))
                refine Ret.pure (by simp only [Try.f73, go_sem] <;> rfl) rfl (by simp only [go_sem, reduceCtorEq, false_implies, implies_true]) hwf (by first | exact (F1).blk | exact (F3).blk) ⟨?_, rfl⟩
                · first
                    | (have : i = l.length := by have := of_decide_eq_false hc0; omega
                       rw [this, List.drop_length] at hidx
                       rw [hidx]; rfl)
                    | (have hbad : winBad a b = true := by
                         rw [winBad_com, hm1, hm2]
                         first
                           | (simp [hg5, hg9, hg13, hg15]; done)
                           | (simp [hg5, hg9, hg13, hg15, hc2]; done)
                           | (simp at hg5 hg9 hg13 hg15; simp [hg5, hg9, hg13, hg15]; done)
                           | (simp at hg13; simp [hg13, hg15]; done)
                           | (simp at hg13; simp [hg13, hg15, hc2]; done)
                       have : winsOwn l = false := by
                         rw [hidx, winsOwnA_step hil, hae]
                         have hin : b ∈ l.take i := by rw [← hbe]; exact List.getElem_mem _
                         have : (l.take i).all (fun y => !winBad a y) = false := List.all_eq_false.2 ⟨b, hin, by simp [hbad]⟩
                         rw [this, Bool.false_and]
                       rw [this]; rfl)
              · refine rk (k := rB (k := rg [0, 4, 11, 12, 13, 20, 21, 22] (k := ?_)))
                have hbad : winBad a b = false := by
                  rw [winBad_com, hm1, hm2]
                  first
                    | (simp at hg5 hg9 hg13 hg15 hc2; simp [hg5, hg9, hg13, hg15, hc2]; done)
                    | (simp at hg5 hg9 hg13; simp [hg5, hg9, hg13]; done)
                    | (simp at hg5 hg9; simp [hg5, hg9]; done)
                    | (simp at hg5; simp [hg5]; done)
                refine Run.lp ⟨⟨F3, j + 1, rfl, by omega, ?_, by simp only [go_sem]; omega, by simp only [go_sem, hX, hXn, hXn1, hXn2, hXn3, ↓reduceIte]⟩, ?_⟩
                · rw [take_get hjl, List.all_append, hall, hbe]
                  simp [hbad]
                · simp only [ivar, go_sem, ↓reduceIte, Nat.reduceEqDiff]
                  omega
          · refine rg0 (k := rg0 (k := rgU (k := rg0 (k := rh [0, 4, 11, 12, 13, 20, 21, 22, 72] (k := rc (ht := fun hc2 => ?_) (hf := fun hc2 => ?_))))))
            · cases hc2
            · refine rk (k := rB (k := rg [0, 4, 11, 12, 13, 20, 21, 22] (k := ?_)))
              have hbad : winBad a b = false := by
                rw [winBad_com, hm1, hm2]
                first
                  | (simp at hg5 hg9 hg13 hg15 hc2; simp [hg5, hg9, hg13, hg15, hc2]; done)
                  | (simp at hg5 hg9 hg13; simp [hg5, hg9, hg13]; done)
                  | (simp at hg5 hg9; simp [hg5, hg9]; done)
                  | (simp at hg5; simp [hg5]; done)
              refine Run.lp ⟨⟨F3, j + 1, rfl, by omega, ?_, by simp only [go_sem]; omega, by simp only [go_sem, hX, hXn, hXn1, hXn2, hXn3, ↓reduceIte]⟩, ?_⟩
              · rw [take_get hjl, List.all_append, hall, hbe]
                simp [hbad]
              · simp only [ivar, go_sem, ↓reduceIte, Nat.reduceEqDiff]
                omega
        · refine rg0 (k := rg0 (k := ro (pre := [_, _]) (k := rQ 67 (ht := fun hg13 => ?_) (hf := fun hg13 => ?_))))
          · cases hg13
          · refine rg0 (k := rg0 (k := rgU (k := rg0 (k := rh [0, 4, 11, 12, 13, 20, 21, 22, 72] (k := rc (ht := fun hc2 => ?_) (hf := fun hc2 => ?_))))))
            · cases hc2
            · refine rk (k := rB (k := rg [0, 4, 11, 12, 13, 20, 21, 22] (k := ?_)))
              have hbad : winBad a b = false := by
                rw [winBad_com, hm1, hm2]
                first
                  | (simp at hg5 hg9 hg13 hg15 hc2; simp [hg5, hg9, hg13, hg15, hc2]; done)
                  | (simp at hg5 hg9 hg13; simp [hg5, hg9, hg13]; done)
                  | (simp at hg5 hg9; simp [hg5, hg9]; done)
                  | (simp at hg5; simp [hg5]; done)
              refine Run.lp ⟨⟨F3, j + 1, rfl, by omega, ?_, by simp only [go_sem]; omega, by simp only [go_sem, hX, hXn, hXn1, hXn2, hXn3, ↓reduceIte]⟩, ?_⟩
              · rw [take_get hjl, List.all_append, hall, hbe]
                simp [hbad]
              · simp only [ivar, go_sem, ↓reduceIte, Nat.reduceEqDiff]
                omega
      · refine rg0 (k := rg0 (k := ro (pre := [_, _]) (k := rQ 63 (ht := fun hg9 => ?_) (hf := fun hg9 => ?_))))
        · cases hg9
        · refine rg0 (k := rg0 (k := ro (pre := [_, _]) (k := rQ 67 (ht := fun hg13 => ?_) (hf := fun hg13 => ?_))))
          · cases hg13
          · refine rg0 (k := rg0 (k := rgU (k := rg0 (k := rh [0, 4, 11, 12, 13, 20, 21, 22, 72] (k := rc (ht := fun hc2 => ?_) (hf := fun hc2 => ?_))))))
            · cases hc2
            · refine rk (k := rB (k := rg [0, 4, 11, 12, 13, 20, 21, 22] (k := ?_)))
              have hbad : winBad a b = false := by
                rw [winBad_com, hm1, hm2]
                first
                  | (simp at hg5 hg9 hg13 hg15 hc2; simp [hg5, hg9, hg13, hg15, hc2]; done)
                  | (simp at hg5 hg9 hg13; simp [hg5, hg9, hg13]; done)
                  | (simp at hg5 hg9; simp [hg5, hg9]; done)
                  | (simp at hg5; simp [hg5]; done)
              refine Run.lp ⟨⟨F3, j + 1, rfl, by omega, ?_, by simp only [go_sem]; omega, by simp only [go_sem, hX, hXn, hXn1, hXn2, hXn3, ↓reduceIte]⟩, ?_⟩
              · rw [take_get hjl, List.all_append, hall, hbe]
                simp [hbad]
              · simp only [ivar, go_sem, ↓reduceIte, Nat.reduceEqDiff]
                omega
    · refine rX (k := rB (k := rg [0, 11, 12, 13] (k := ?_)))
      have hj : j = i := by have := of_decide_eq_false hc1; omega
      have hidx2 : winsOwn l = winsOwnA (l.take (i + 1)) (l.drop (i + 1)) := by
        rw [hidx, winsOwnA_step hil, hae]
        rw [hj, List.take_take, Nat.min_self] at hall
        rw [hall, Bool.true_and]
      refine Run.lp ⟨⟨F2, i + 1, rfl, by omega, hidx2⟩, ?_⟩
      simp only [ivar, go_sem, ↓reduceIte, Nat.reduceEqDiff]
      omega
  · refine rX (k := rs (k := rg [2] (k := rR (k := ?_))))
    refine Ret.pure (by simp only [Try.f73, go_sem] <;> rfl) rfl (by simp only [go_sem, reduceCtorEq, false_implies, implies_true]) hwf (by first | exact (F1).blk | exact (F3).blk) ⟨?_, rfl⟩
    · first
        | (have : i = l.length := by have := of_decide_eq_false hc0; omega
           rw [this, List.drop_length] at hidx
           rw [hidx]; rfl)
        | (have hbad : winBad a b = true := by
             rw [winBad_com, hm1, hm2]
             first
               | (simp [hg5, hg9, hg13, hg15]; done)
               | (simp [hg5, hg9, hg13, hg15, hc2]; done)
               | (simp at hg5 hg9 hg13 hg15; simp [hg5, hg9, hg13, hg15]; done)
               | (simp at hg13; simp [hg13, hg15]; done)
               | (simp at hg13; simp [hg13, hg15, hc2]; done)
           have : winsOwn l = false := by
             rw [hidx, winsOwnA_step hil, hae]
             have hin : b ∈ l.take i := by rw [← hbe]; exact List.getElem_mem _
             have : (l.take i).all (fun y => !winBad a y) = false := List.all_eq_false.2 ⟨b, hin, by simp [hbad]⟩
             rw [this, Bool.false_and]
           rw [this]; rfl)
end Go.Proofs
namespace Go.Proofs
open Go.PM
set_option maxHeartbeats 2000000
theorem ref11_windows {l : List Win} (ha : ∀ w ∈ l, w.ok) (na : l.length < 140737488355328) {s : St} : ACalls Try.prog 54 [.sl .unk (l.map Win.pv)] s (fun r s' => r = .bool (!l.any (fun w => !winRight w) && winsOwn l) ∧ s' = s) := by
  refine go Try.func54 (k := fun hwf H => ?_)
  refine rs (k := rg [0] (k := rs (k := rs (k := rg [0, 5, 6, 7] (k := rb (k := ?_))))))
  refine Run.loop (fun e s' => Fr s s' ∧ ∃ i : Nat, e = [(0, .sl .unk (l.map Win.pv)), (5, .sl .unk (l.map Win.pv)), (6, .int .i64 l.length), (7, .int .i64 i)] ∧ i ≤ l.length ∧ (l.take i).any (fun w => !winRight w) = false) (fun e s' => (l).length - ivar e 7) ?_ ?_
  · exact ⟨Fr.refl hwf, 0, rfl, by omega, rfl⟩
  rintro e s1 ⟨F1, i, rfl, hi, hall⟩
  refine rs (k := rg [0, 5, 6, 7, 8] (k := rs (k := rc (ht := fun hc0 => ?_) (hf := fun hc0 => ?_))))
  · refine rk (k := rs (k := rb (k := rs (k := ?_))))
    have hxl : i < (l).length := by have := of_decide_eq_true hc0; omega
    obtain ⟨x, hxe⟩ : ∃ z_, (l)[i]'hxl = z_ := ⟨_, rfl⟩
    have hxx : ((l).map Win.pv)[i]? = some (.agg [.int .i64 (x).space, .int .i64 (x).virt, .int .i64 (x).phys, .int .i64 (x).cnt]) := by rw [map_get hxl, hxe]; rfl
    have hwx : IntKind.i64.wrap ((i : Int) + 1) = ((i + 1 : Nat) : Int) := by rw [wrap_i64 (by omega)]; omega
    have hxok : x.ok := by rw [← hxe]; exact ha _ (List.getElem_mem _)
    have H := aj hxx (aj hwx (aj hxl H))
    refine rg [0, 4, 5, 6, 7] (k := rs (k := rr (k := ro (pre := [_]) (k := rC (h := ref7_Window hxok) (k := rh [0, 5, 6, 7, 13] (k := rc (ht := fun hc1 => ?_) (hf := fun hc1 => ?_)))))))
    · refine rs (k := rg [2] (k := rR (k := ?_)))
      refine Ret.pure (by simp only [Try.f54, go_sem] <;> rfl) rfl (by simp only [go_sem, reduceCtorEq, false_implies, implies_true]) hwf (by first | exact (F1).blk | exact (F1.new _).blk) ⟨?_, rfl⟩
      · first
          | (have := any_get (p := fun w => !winRight w) hxl (by rw [hxe]; exact hc1)
             rw [this]; rfl)
          | (rw [any_take_all (by have := of_decide_eq_false hc0; omega) hall]; rfl)
    · refine rk (k := rB (k := rg [0, 5, 6, 7] (k := ?_)))
      refine Run.lp ⟨⟨F1.new _, i + 1, rfl, by omega, any_take_step hxl (by rw [hxe]; exact hc1) hall⟩, ?_⟩
      simp only [ivar, go_sem, ↓reduceIte, Nat.reduceEqDiff]
      omega
  · refine rX (k := rs (k := rr (k := ro (pre := [_]) (k := rC (h := ref7_Own ha na) (k := rh [2] (k := rR (k := ?_)))))))
    refine Ret.pure (by simp only [Try.f54, go_sem] <;> rfl) rfl (by simp only [go_sem, reduceCtorEq, false_implies, implies_true]) hwf (by first | exact (F1).blk | exact (F1.new _).blk) ⟨?_, rfl⟩
    · first
        | (have := any_get (p := fun w => !winRight w) hxl (by rw [hxe]; exact hc1)
           rw [this]; rfl)
        | (rw [any_take_all (by have := of_decide_eq_false hc0; omega) hall]; rfl)
theorem ref11_slot {a : Slt} (ha : a.ok) {frame : Int} (hf : 0 ≤ frame ∧ frame ≤ 4611686018427387904) {s : St} : ACalls Try.prog 55 [a.pv, .int .i64 frame] s (fun r s' => r = .bool (sltRight frame a) ∧ s' = s) := by
  refine go Try.func55 (k := fun hwf H => ?_)
  refine rs (k := rg [1, 2] (k := rs (k := rg [4] (k := rR (k := rP (by simp only [Try.f55, go_sem]; rfl) hwf ⟨?_, rfl⟩)))))
  rw [sltRight_eq]
  have hw : 0 ≤ a.pos → a.pos ≤ frame → IntKind.i64.wrap (frame - a.pos) = frame - a.pos := fun h h' => wrap_i64 (by omega)
  by_cases h1 : 0 ≤ a.pos <;> by_cases h2 : 72 ≤ a.len <;> by_cases h3 : a.pos ≤ frame <;> simp [h1, h2, h3, PV.weak]
  rw [hw h1 h3]
theorem ref11_meet {a b : Slt} (ha : a.ok) (hb : b.ok) {s : St} : ACalls Try.prog 57 [a.pv, b.pv] s (fun r s' => r = .bool (sltMeet a b) ∧ s' = s) := by
  refine go Try.func57 (k := fun hwf H => ?_)
  refine rs (k := rg [2, 3] (k := rs (k := rr (k := ro (pre := [_, _, _, _, _, _, _, _, _, _]) (k := rC (h := ref7_Meet (a := a.sp) (b := b.sp) ha.sp hb.sp) (k := rh [6] (k := rs (k := rg [4] (k := rR (k := rP (by simp only [Try.f57, go_sem]; rfl) hwf ⟨?_, rfl⟩))))))))))
  rfl
set_option maxRecDepth 100000 in
theorem ref11_tenant {t : Tab} (ht : t.ok) (hf : 0 ≤ t.frame ∧ t.frame ≤ 4611686018427387904) {i : Nat} {x : Ten} (hi : i < t.tens.length) (hx : t.tens[i] = x) {s : St} : ACalls Try.prog 38 [t.pv, .int .i64 i] s (fun r s' => r = .int .i64 (tenAt t x i) ∧ s' = s) := by
  refine go Try.func38 (k := fun hwf H => ?_)
  have hxok : x.ok := by rw [← hx]; exact ht.tens _ (List.getElem_mem _)
  have hbt := ht.bt
  have hxx : (t.tens.map Ten.pv)[i]? = some (.agg [.int .i64 (x).unit, .int .u32 (x).fns, .int .i64 (x).queue, .sl .unk ((x).wins.map Win.pv), .sl .unk ((x).slts.map Slt.pv)]) := by rw [map_get hi, hx]; rfl
  have hii : ((i : Int) < (t.tens.length : Int)) = True := eq_true (by omega)
  have hile : ((i : Int) ≤ (t.tens.length : Int)) = True := eq_true (by omega)
  have hsl : (t.tens.map Ten.pv).take i = (t.tens.take i).map Ten.pv := List.map_take.symm
  have hbs := hxok.bs
  have H := aj hxx (aj hi (aj hii (aj hile (aj hsl H))))
  refine rs (k := rg [1, 2] (k := rs (k := rg [1, 2, 5] (k := rs (k := rb (k := rs (k := rg [1, 2, 5, 23] (k := rc (ht := fun hc0 => ?_) (hf := fun hc0 => ?_)))))))))
  · refine rs (k := rg [4] (k := rR (k := ?_)))
    refine Ret.pure (by simp only [Try.f38, go_sem] <;> rfl) rfl (by simp only [go_sem, reduceCtorEq, false_implies, implies_true]) hwf (by first | exact (((Fr.refl hwf).new _).newset _ _ rfl).blk | exact (K1.fr).blk | exact ((K1.new _).fr).blk | exact ((K2.new _).fr).blk | exact ((K4.new _).fr).blk) ⟨?_, rfl⟩
    · first
        | (have e : tenWhy x t.frame = 21 := by rw [tenWhy, if_pos (by simpa using hc0)]
           rw [tenAt, e, if_pos (by decide)]; rfl)
        | (have e : tenWhy x t.frame = 22 := by rw [tenWhy, if_neg (by simpa using hc0), if_pos (by simpa using hc1)]
           rw [tenAt, e, if_pos (by decide)]; rfl)
        | (have e : tenWhy x t.frame = 26 := by
             rw [tenWhy, if_neg (by simpa using hc0), if_neg (by simpa using hc1), if_pos (by simp only [Bool.or_eq_true, decide_eq_true_eq] at hc2; omega)]
           rw [tenAt, e, if_pos (by decide)]; rfl)
        | (have h2 : ¬ (6 < x.wins.length ∨ x.slts.length < 1 ∨ 3 < x.slts.length) := by simp only [Bool.or_eq_false_iff, decide_eq_false_iff_not] at hc2; omega
           have h3 : (x.wins.any (fun w => !winRight w) || !winsOwn x.wins) = true := by
             have := hc3
             revert this
             cases x.wins.any (fun w => !winRight w) <;> cases winsOwn x.wins <;> simp
           have e : tenWhy x t.frame = 23 := by rw [tenWhy, if_neg (by simpa using hc0), if_neg (by simpa using hc1), if_neg h2, if_pos h3]
           rw [tenAt, e, if_pos (by decide)]; rfl)
        | (have hr : x.slts.any (fun a => !sltRight t.frame a) = true := any_get hal (by rw [hae]; exact hc5)
           have e : tenWhy x t.frame = 25 := by rw [tenWhy, if_neg h0, if_neg h1, if_neg h2, if_neg (by rw [h3]; decide), if_pos hr]
           rw [tenAt, e, if_pos (by decide)]; rfl)
        | (rw [tenAt, if_neg (by rw [hwhy]; decide), tenBeside, if_pos (any_get hyl (by rw [hye]; exact hc7))]; rfl)
        | (rw [tenAt, if_neg (by rw [hwhy]; decide), tenBeside, if_neg (by rw [hsh]; decide), hidx]
           first
             | (rw [show x.slts.drop k = [] from by rw [show k = x.slts.length by have := of_decide_eq_false hc8; omega, List.drop_length]]; rfl)
             | (rw [sltsBadA_step hal, hae, show sltMeets a (x.slts.take k) = true from any_get hbl (by rw [hbe]; exact hc10)]; rfl)
             | (rw [sltsBadA_step hal, hae, show (t.tens.take i).any (fun y => sltMeets a y.slts) = true from any_get hyl (by rw [hye]; exact any_get hbl (by rw [hbe]; exact hc13)), Bool.or_true]; rfl))
  · refine rs (k := rg [1, 2, 5, 32] (k := rc (ht := fun hc1 => ?_) (hf := fun hc1 => ?_)))
    · refine rs (k := rg [4] (k := rR (k := ?_)))
      refine Ret.pure (by simp only [Try.f38, go_sem] <;> rfl) rfl (by simp only [go_sem, reduceCtorEq, false_implies, implies_true]) hwf (by first | exact (((Fr.refl hwf).new _).newset _ _ rfl).blk | exact (K1.fr).blk | exact ((K1.new _).fr).blk | exact ((K2.new _).fr).blk | exact ((K4.new _).fr).blk) ⟨?_, rfl⟩
      · first
          | (have e : tenWhy x t.frame = 21 := by rw [tenWhy, if_pos (by simpa using hc0)]
             rw [tenAt, e, if_pos (by decide)]; rfl)
          | (have e : tenWhy x t.frame = 22 := by rw [tenWhy, if_neg (by simpa using hc0), if_pos (by simpa using hc1)]
             rw [tenAt, e, if_pos (by decide)]; rfl)
          | (have e : tenWhy x t.frame = 26 := by
               rw [tenWhy, if_neg (by simpa using hc0), if_neg (by simpa using hc1), if_pos (by simp only [Bool.or_eq_true, decide_eq_true_eq] at hc2; omega)]
             rw [tenAt, e, if_pos (by decide)]; rfl)
          | (have h2 : ¬ (6 < x.wins.length ∨ x.slts.length < 1 ∨ 3 < x.slts.length) := by simp only [Bool.or_eq_false_iff, decide_eq_false_iff_not] at hc2; omega
             have h3 : (x.wins.any (fun w => !winRight w) || !winsOwn x.wins) = true := by
               have := hc3
               revert this
               cases x.wins.any (fun w => !winRight w) <;> cases winsOwn x.wins <;> simp
             have e : tenWhy x t.frame = 23 := by rw [tenWhy, if_neg (by simpa using hc0), if_neg (by simpa using hc1), if_neg h2, if_pos h3]
             rw [tenAt, e, if_pos (by decide)]; rfl)
          | (have hr : x.slts.any (fun a => !sltRight t.frame a) = true := any_get hal (by rw [hae]; exact hc5)
             have e : tenWhy x t.frame = 25 := by rw [tenWhy, if_neg h0, if_neg h1, if_neg h2, if_neg (by rw [h3]; decide), if_pos hr]
             rw [tenAt, e, if_pos (by decide)]; rfl)
          | (rw [tenAt, if_neg (by rw [hwhy]; decide), tenBeside, if_pos (any_get hyl (by rw [hye]; exact hc7))]; rfl)
          | (rw [tenAt, if_neg (by rw [hwhy]; decide), tenBeside, if_neg (by rw [hsh]; decide), hidx]
             first
               | (rw [show x.slts.drop k = [] from by rw [show k = x.slts.length by have := of_decide_eq_false hc8; omega, List.drop_length]]; rfl)
               | (rw [sltsBadA_step hal, hae, show sltMeets a (x.slts.take k) = true from any_get hbl (by rw [hbe]; exact hc10)]; rfl)
               | (rw [sltsBadA_step hal, hae, show (t.tens.take i).any (fun y => sltMeets a y.slts) = true from any_get hyl (by rw [hye]; exact any_get hbl (by rw [hbe]; exact hc13)), Bool.or_true]; rfl))
    · refine rs (k := rg [1, 2, 5, 41] (k := rc (ht := fun hc2 => ?_) (hf := fun hc2 => ?_)))
      · refine rs (k := rg [4] (k := rR (k := ?_)))
        refine Ret.pure (by simp only [Try.f38, go_sem] <;> rfl) rfl (by simp only [go_sem, reduceCtorEq, false_implies, implies_true]) hwf (by first | exact (((Fr.refl hwf).new _).newset _ _ rfl).blk | exact (K1.fr).blk | exact ((K1.new _).fr).blk | exact ((K2.new _).fr).blk | exact ((K4.new _).fr).blk) ⟨?_, rfl⟩
        · first
            | (have e : tenWhy x t.frame = 21 := by rw [tenWhy, if_pos (by simpa using hc0)]
               rw [tenAt, e, if_pos (by decide)]; rfl)
            | (have e : tenWhy x t.frame = 22 := by rw [tenWhy, if_neg (by simpa using hc0), if_pos (by simpa using hc1)]
               rw [tenAt, e, if_pos (by decide)]; rfl)
            | (have e : tenWhy x t.frame = 26 := by
                 rw [tenWhy, if_neg (by simpa using hc0), if_neg (by simpa using hc1), if_pos (by simp only [Bool.or_eq_true, decide_eq_true_eq] at hc2; omega)]
               rw [tenAt, e, if_pos (by decide)]; rfl)
            | (have h2 : ¬ (6 < x.wins.length ∨ x.slts.length < 1 ∨ 3 < x.slts.length) := by simp only [Bool.or_eq_false_iff, decide_eq_false_iff_not] at hc2; omega
               have h3 : (x.wins.any (fun w => !winRight w) || !winsOwn x.wins) = true := by
                 have := hc3
                 revert this
                 cases x.wins.any (fun w => !winRight w) <;> cases winsOwn x.wins <;> simp
               have e : tenWhy x t.frame = 23 := by rw [tenWhy, if_neg (by simpa using hc0), if_neg (by simpa using hc1), if_neg h2, if_pos h3]
               rw [tenAt, e, if_pos (by decide)]; rfl)
            | (have hr : x.slts.any (fun a => !sltRight t.frame a) = true := any_get hal (by rw [hae]; exact hc5)
               have e : tenWhy x t.frame = 25 := by rw [tenWhy, if_neg h0, if_neg h1, if_neg h2, if_neg (by rw [h3]; decide), if_pos hr]
               rw [tenAt, e, if_pos (by decide)]; rfl)
            | (rw [tenAt, if_neg (by rw [hwhy]; decide), tenBeside, if_pos (any_get hyl (by rw [hye]; exact hc7))]; rfl)
            | (rw [tenAt, if_neg (by rw [hwhy]; decide), tenBeside, if_neg (by rw [hsh]; decide), hidx]
               first
                 | (rw [show x.slts.drop k = [] from by rw [show k = x.slts.length by have := of_decide_eq_false hc8; omega, List.drop_length]]; rfl)
                 | (rw [sltsBadA_step hal, hae, show sltMeets a (x.slts.take k) = true from any_get hbl (by rw [hbe]; exact hc10)]; rfl)
                 | (rw [sltsBadA_step hal, hae, show (t.tens.take i).any (fun y => sltMeets a y.slts) = true from any_get hyl (by rw [hye]; exact any_get hbl (by rw [hbe]; exact hc13)), Bool.or_true]; rfl))
      · refine rs (k := rr (k := ro (pre := [_, _]) (k := rC (h := ref11_windows hxok.wins hxok.nw) (k := rh [1, 2, 5, 58] (k := rc (ht := fun hc3 => ?_) (hf := fun hc3 => ?_))))))
        · refine rs (k := rg [4] (k := rR (k := ?_)))
          refine Ret.pure (by simp only [Try.f38, go_sem] <;> rfl) rfl (by simp only [go_sem, reduceCtorEq, false_implies, implies_true]) hwf (by first | exact (((Fr.refl hwf).new _).newset _ _ rfl).blk | exact (K1.fr).blk | exact ((K1.new _).fr).blk | exact ((K2.new _).fr).blk | exact ((K4.new _).fr).blk) ⟨?_, rfl⟩
          · first
              | (have e : tenWhy x t.frame = 21 := by rw [tenWhy, if_pos (by simpa using hc0)]
                 rw [tenAt, e, if_pos (by decide)]; rfl)
              | (have e : tenWhy x t.frame = 22 := by rw [tenWhy, if_neg (by simpa using hc0), if_pos (by simpa using hc1)]
                 rw [tenAt, e, if_pos (by decide)]; rfl)
              | (have e : tenWhy x t.frame = 26 := by
                   rw [tenWhy, if_neg (by simpa using hc0), if_neg (by simpa using hc1), if_pos (by simp only [Bool.or_eq_true, decide_eq_true_eq] at hc2; omega)]
                 rw [tenAt, e, if_pos (by decide)]; rfl)
              | (have h2 : ¬ (6 < x.wins.length ∨ x.slts.length < 1 ∨ 3 < x.slts.length) := by simp only [Bool.or_eq_false_iff, decide_eq_false_iff_not] at hc2; omega
                 have h3 : (x.wins.any (fun w => !winRight w) || !winsOwn x.wins) = true := by
                   have := hc3
                   revert this
                   cases x.wins.any (fun w => !winRight w) <;> cases winsOwn x.wins <;> simp
                 have e : tenWhy x t.frame = 23 := by rw [tenWhy, if_neg (by simpa using hc0), if_neg (by simpa using hc1), if_neg h2, if_pos h3]
                 rw [tenAt, e, if_pos (by decide)]; rfl)
              | (have hr : x.slts.any (fun a => !sltRight t.frame a) = true := any_get hal (by rw [hae]; exact hc5)
                 have e : tenWhy x t.frame = 25 := by rw [tenWhy, if_neg h0, if_neg h1, if_neg h2, if_neg (by rw [h3]; decide), if_pos hr]
                 rw [tenAt, e, if_pos (by decide)]; rfl)
              | (rw [tenAt, if_neg (by rw [hwhy]; decide), tenBeside, if_pos (any_get hyl (by rw [hye]; exact hc7))]; rfl)
              | (rw [tenAt, if_neg (by rw [hwhy]; decide), tenBeside, if_neg (by rw [hsh]; decide), hidx]
                 first
                   | (rw [show x.slts.drop k = [] from by rw [show k = x.slts.length by have := of_decide_eq_false hc8; omega, List.drop_length]]; rfl)
                   | (rw [sltsBadA_step hal, hae, show sltMeets a (x.slts.take k) = true from any_get hbl (by rw [hbe]; exact hc10)]; rfl)
                   | (rw [sltsBadA_step hal, hae, show (t.tens.take i).any (fun y => sltMeets a y.slts) = true from any_get hyl (by rw [hye]; exact any_get hbl (by rw [hbe]; exact hc13)), Bool.or_true]; rfl))
        · refine rk (k := rB (k := rs (k := rs (k := ?_))))
          have K0 := ((Kp.nil (Fr.refl hwf)).push (.row 24 [.agg [.int .i64 (t).frame, .sl .unk ((t).tens.map Ten.pv)]])).pushset (id := s.nxt + 1) (.row 53 [.agg [.int .i64 0, .int .u32 0, .int .i64 0, .sl .nil [], .sl .nil []]]) (.row 53 [.agg [.int .i64 (x).unit, .int .u32 (x).fns, .int .i64 (x).queue, .sl .unk ((x).wins.map Win.pv), .sl .unk ((x).slts.map Slt.pv)]]) rfl
          have h0 : ¬ (x.unit < 1 ∨ 247 < x.unit) := by simpa using hc0
          have h1 : ¬ (x.queue < 1 ∨ 6 < x.queue) := by simpa using hc1
          have h2 : ¬ (6 < x.wins.length ∨ x.slts.length < 1 ∨ 3 < x.slts.length) := by simp only [Bool.or_eq_false_iff, decide_eq_false_iff_not] at hc2; omega
          have h3 : (x.wins.any (fun w => !winRight w) || !winsOwn x.wins) = false := by
            have : (!x.wins.any (fun w => !winRight w) && winsOwn x.wins) = true := by simpa using hc3
            revert this
            cases x.wins.any (fun w => !winRight w) <;> cases winsOwn x.wins <;> simp
          refine rg [1, 2, 5, 64, 65, 66] (k := rb (k := ?_))
          refine Run.loop (fun e s' => Kp s s' [(s.nxt + 1, .row 53 [.agg [.int .i64 (x).unit, .int .u32 (x).fns, .int .i64 (x).queue, .sl .unk ((x).wins.map Win.pv), .sl .unk ((x).slts.map Slt.pv)]]), (s.nxt, .row 24 [.agg [.int .i64 (t).frame, .sl .unk ((t).tens.map Ten.pv)]])] ∧ ∃ q : Nat, e = [(1, .int .i64 i), (2, .ptr s.nxt 0 0), (5, .ptr (s.nxt + 1) 0 0), (64, .sl .unk (x.slts.map Slt.pv)), (65, .int .i64 x.slts.length), (66, .int .i64 q)] ∧ q ≤ x.slts.length ∧ (x.slts.take q).any (fun a => !sltRight t.frame a) = false) (fun e s' => (x.slts).length - ivar e 66) ?_ ?_
          · exact ⟨K0, 0, rfl, by omega, rfl⟩
          rintro e s1 ⟨K1, q, rfl, hq, hall⟩
          refine rs (k := rg [1, 2, 5, 64, 65, 66, 67] (k := rs (k := rc (ht := fun hc4 => ?_) (hf := fun hc4 => ?_))))
          · refine rk (k := rs (k := rb (k := rs (k := ?_))))
            have hal : q < (x.slts).length := by have := of_decide_eq_true hc4; omega
            obtain ⟨a, hae⟩ : ∃ z_, (x.slts)[q]'hal = z_ := ⟨_, rfl⟩
            have hxa : ((x.slts).map Slt.pv)[q]? = some (.agg [.int .i64 (a).pos, .int .i64 (a).len]) := by rw [map_get hal, hae]; rfl
            have hwa : IntKind.i64.wrap ((q : Int) + 1) = ((q + 1 : Nat) : Int) := by rw [wrap_i64 (by omega)]; omega
            have haok : a.ok := by rw [← hae]; exact hxok.slts _ (List.getElem_mem _)
            have hX : s1.blk (s.nxt + 1) = some (.row 53 [.agg [.int .i64 (x).unit, .int .u32 (x).fns, .int .i64 (x).queue, .sl .unk ((x).wins.map Win.pv), .sl .unk ((x).slts.map Slt.pv)]]) := K1.hd
            have hXn0 : (s.nxt + 1 = s1.nxt) = False := K1.ne 0
            have hXn1 : (s.nxt + 1 = s1.nxt + 1) = False := K1.ne 1
            have hXn2 : (s.nxt + 1 = s1.nxt + 2) = False := K1.ne 2
            have hXn3 : (s.nxt + 1 = s1.nxt + 3) = False := K1.ne 3
            have hXp2 : (s.nxt + 1 = s1.nxt + 1 + 1) = False := K1.ne 2
            have hXp3 : (s.nxt + 1 = s1.nxt + 1 + 1 + 1) = False := K1.ne 3
            have hT : s1.blk (s.nxt) = some (.row 24 [.agg [.int .i64 (t).frame, .sl .unk ((t).tens.map Ten.pv)]]) := K1.tl.hd
            have hTn0 : (s.nxt = s1.nxt) = False := K1.tl.ne 0
            have hTn1 : (s.nxt = s1.nxt + 1) = False := K1.tl.ne 1
            have hTn2 : (s.nxt = s1.nxt + 2) = False := K1.tl.ne 2
            have hTn3 : (s.nxt = s1.nxt + 3) = False := K1.tl.ne 3
            have hTp2 : (s.nxt = s1.nxt + 1 + 1) = False := K1.tl.ne 2
            have hTp3 : (s.nxt = s1.nxt + 1 + 1 + 1) = False := K1.tl.ne 3
            have H := aj hxa (aj hwa (aj hal (aj hX (aj hXn0 (aj hXn1 (aj hXn2 (aj hXn3 (aj hXp2 (aj hXp3 (aj hT (aj hTn0 (aj hTn1 (aj hTn2 (aj hTn3 (aj hTp2 (aj hTp3 H))))))))))))))))
            refine rg [1, 2, 5, 7, 64, 65, 66] (k := rs (k := rr (k := ro (pre := [_, _, _]) (k := rC (h := ref11_slot haok hf) (k := rh [1, 2, 5, 64, 65, 66, 74] (k := rc (ht := fun hc5 => ?_) (hf := fun hc5 => ?_)))))))
            · refine rs (k := rg [4] (k := rR (k := ?_)))
              refine Ret.pure (by simp only [Try.f38, go_sem] <;> rfl) rfl (by simp only [go_sem, reduceCtorEq, false_implies, implies_true]) hwf (by first | exact (((Fr.refl hwf).new _).newset _ _ rfl).blk | exact (K1.fr).blk | exact ((K1.new _).fr).blk | exact ((K2.new _).fr).blk | exact ((K4.new _).fr).blk) ⟨?_, rfl⟩
              · first
                  | (have e : tenWhy x t.frame = 21 := by rw [tenWhy, if_pos (by simpa using hc0)]
                     rw [tenAt, e, if_pos (by decide)]; rfl)
                  | (have e : tenWhy x t.frame = 22 := by rw [tenWhy, if_neg (by simpa using hc0), if_pos (by simpa using hc1)]
                     rw [tenAt, e, if_pos (by decide)]; rfl)
                  | (have e : tenWhy x t.frame = 26 := by
                       rw [tenWhy, if_neg (by simpa using hc0), if_neg (by simpa using hc1), if_pos (by simp only [Bool.or_eq_true, decide_eq_true_eq] at hc2; omega)]
                     rw [tenAt, e, if_pos (by decide)]; rfl)
                  | (have h2 : ¬ (6 < x.wins.length ∨ x.slts.length < 1 ∨ 3 < x.slts.length) := by simp only [Bool.or_eq_false_iff, decide_eq_false_iff_not] at hc2; omega
                     have h3 : (x.wins.any (fun w => !winRight w) || !winsOwn x.wins) = true := by
                       have := hc3
                       revert this
                       cases x.wins.any (fun w => !winRight w) <;> cases winsOwn x.wins <;> simp
                     have e : tenWhy x t.frame = 23 := by rw [tenWhy, if_neg (by simpa using hc0), if_neg (by simpa using hc1), if_neg h2, if_pos h3]
                     rw [tenAt, e, if_pos (by decide)]; rfl)
                  | (have hr : x.slts.any (fun a => !sltRight t.frame a) = true := any_get hal (by rw [hae]; exact hc5)
                     have e : tenWhy x t.frame = 25 := by rw [tenWhy, if_neg h0, if_neg h1, if_neg h2, if_neg (by rw [h3]; decide), if_pos hr]
                     rw [tenAt, e, if_pos (by decide)]; rfl)
                  | (rw [tenAt, if_neg (by rw [hwhy]; decide), tenBeside, if_pos (any_get hyl (by rw [hye]; exact hc7))]; rfl)
                  | (rw [tenAt, if_neg (by rw [hwhy]; decide), tenBeside, if_neg (by rw [hsh]; decide), hidx]
                     first
                       | (rw [show x.slts.drop k = [] from by rw [show k = x.slts.length by have := of_decide_eq_false hc8; omega, List.drop_length]]; rfl)
                       | (rw [sltsBadA_step hal, hae, show sltMeets a (x.slts.take k) = true from any_get hbl (by rw [hbe]; exact hc10)]; rfl)
                       | (rw [sltsBadA_step hal, hae, show (t.tens.take i).any (fun y => sltMeets a y.slts) = true from any_get hyl (by rw [hye]; exact any_get hbl (by rw [hbe]; exact hc13)), Bool.or_true]; rfl))
            · refine rk (k := rB (k := rg [1, 2, 5, 64, 65, 66] (k := ?_)))
              refine Run.lp ⟨⟨K1.new _, q + 1, rfl, by omega, any_take_step hal (by rw [hae]; exact hc5) hall⟩, ?_⟩
              simp only [ivar, go_sem, ↓reduceIte, Nat.reduceEqDiff]
              omega
          · refine rX (k := rs (k := rs (k := ?_)))
            have hr0 : x.slts.any (fun a => !sltRight t.frame a) = false := any_take_all (by have := of_decide_eq_false hc4; omega) hall
            have hwhy : tenWhy x t.frame = 0 := by rw [tenWhy, if_neg h0, if_neg h1, if_neg h2, if_neg (by rw [h3]; decide), if_neg (by rw [hr0]; decide)]
            have htl : (t.tens.take i).length = i := by simp; omega
            have hX : s1.blk (s.nxt + 1) = some (.row 53 [.agg [.int .i64 (x).unit, .int .u32 (x).fns, .int .i64 (x).queue, .sl .unk ((x).wins.map Win.pv), .sl .unk ((x).slts.map Slt.pv)]]) := K1.hd
            have hXn0 : (s.nxt + 1 = s1.nxt) = False := K1.ne 0
            have hXn1 : (s.nxt + 1 = s1.nxt + 1) = False := K1.ne 1
            have hXn2 : (s.nxt + 1 = s1.nxt + 2) = False := K1.ne 2
            have hXn3 : (s.nxt + 1 = s1.nxt + 3) = False := K1.ne 3
            have hXp2 : (s.nxt + 1 = s1.nxt + 1 + 1) = False := K1.ne 2
            have hXp3 : (s.nxt + 1 = s1.nxt + 1 + 1 + 1) = False := K1.ne 3
            have hT : s1.blk (s.nxt) = some (.row 24 [.agg [.int .i64 (t).frame, .sl .unk ((t).tens.map Ten.pv)]]) := K1.tl.hd
            have hTn0 : (s.nxt = s1.nxt) = False := K1.tl.ne 0
            have hTn1 : (s.nxt = s1.nxt + 1) = False := K1.tl.ne 1
            have hTn2 : (s.nxt = s1.nxt + 2) = False := K1.tl.ne 2
            have hTn3 : (s.nxt = s1.nxt + 3) = False := K1.tl.ne 3
            have hTp2 : (s.nxt = s1.nxt + 1 + 1) = False := K1.tl.ne 2
            have hTp3 : (s.nxt = s1.nxt + 1 + 1 + 1) = False := K1.tl.ne 3
            have H := aj hX (aj hXn0 (aj hXn1 (aj hXn2 (aj hXn3 (aj hXp2 (aj hXp3 (aj hT (aj hTn0 (aj hTn1 (aj hTn2 (aj hTn3 (aj hTp2 (aj hTp3 (aj htl H))))))))))))))
            refine rg [1, 2, 5, 79, 80, 81] (k := rb (k := ?_))
            refine Run.loop (fun e s' => Kp s s' [(s.nxt + 1, .row 53 [.agg [.int .i64 (x).unit, .int .u32 (x).fns, .int .i64 (x).queue, .sl .unk ((x).wins.map Win.pv), .sl .unk ((x).slts.map Slt.pv)]]), (s.nxt, .row 24 [.agg [.int .i64 (t).frame, .sl .unk ((t).tens.map Ten.pv)]])] ∧ ∃ q : Nat, e = [(1, .int .i64 i), (2, .ptr s.nxt 0 0), (5, .ptr (s.nxt + 1) 0 0), (79, .sl .unk ((t.tens.take i).map Ten.pv)), (80, .int .i64 i), (81, .int .i64 q)] ∧ q ≤ i ∧ ((t.tens.take i).take q).any (fun y => winsMeet x.wins y.wins) = false) (fun e s' => i - ivar e 81) ?_ ?_
            · exact ⟨K1, 0, rfl, by omega, rfl⟩
            rintro e s1 ⟨K1, q, rfl, hq, hall⟩
            refine rs (k := rg [1, 2, 5, 79, 80, 81, 82] (k := rs (k := rc (ht := fun hc6 => ?_) (hf := fun hc6 => ?_))))
            · refine rk (k := rs (k := rb (k := rs (k := ?_))))
              have hyl : q < (t.tens.take i).length := by have := of_decide_eq_true hc6; omega
              obtain ⟨y, hye⟩ : ∃ z_, (t.tens.take i)[q]'hyl = z_ := ⟨_, rfl⟩
              have hxy : ((t.tens.take i).map Ten.pv)[q]? = some (.agg [.int .i64 (y).unit, .int .u32 (y).fns, .int .i64 (y).queue, .sl .unk ((y).wins.map Win.pv), .sl .unk ((y).slts.map Slt.pv)]) := by rw [map_get hyl, hye]; rfl
              have hwy : IntKind.i64.wrap ((q : Int) + 1) = ((q + 1 : Nat) : Int) := by rw [wrap_i64 (by omega)]; omega
              have hyok : y.ok := by rw [← hye]; exact ht.tens _ (List.mem_of_mem_take (List.getElem_mem _))
              have hX : s1.blk (s.nxt + 1) = some (.row 53 [.agg [.int .i64 (x).unit, .int .u32 (x).fns, .int .i64 (x).queue, .sl .unk ((x).wins.map Win.pv), .sl .unk ((x).slts.map Slt.pv)]]) := K1.hd
              have hXn0 : (s.nxt + 1 = s1.nxt) = False := K1.ne 0
              have hXn1 : (s.nxt + 1 = s1.nxt + 1) = False := K1.ne 1
              have hXn2 : (s.nxt + 1 = s1.nxt + 2) = False := K1.ne 2
              have hXn3 : (s.nxt + 1 = s1.nxt + 3) = False := K1.ne 3
              have hXp2 : (s.nxt + 1 = s1.nxt + 1 + 1) = False := K1.ne 2
              have hXp3 : (s.nxt + 1 = s1.nxt + 1 + 1 + 1) = False := K1.ne 3
              have hT : s1.blk (s.nxt) = some (.row 24 [.agg [.int .i64 (t).frame, .sl .unk ((t).tens.map Ten.pv)]]) := K1.tl.hd
              have hTn0 : (s.nxt = s1.nxt) = False := K1.tl.ne 0
              have hTn1 : (s.nxt = s1.nxt + 1) = False := K1.tl.ne 1
              have hTn2 : (s.nxt = s1.nxt + 2) = False := K1.tl.ne 2
              have hTn3 : (s.nxt = s1.nxt + 3) = False := K1.tl.ne 3
              have hTp2 : (s.nxt = s1.nxt + 1 + 1) = False := K1.tl.ne 2
              have hTp3 : (s.nxt = s1.nxt + 1 + 1 + 1) = False := K1.tl.ne 3
              have H := aj hxy (aj hwy (aj hyl (aj hX (aj hXn0 (aj hXn1 (aj hXn2 (aj hXn3 (aj hXp2 (aj hXp3 (aj hT (aj hTn0 (aj hTn1 (aj hTn2 (aj hTn3 (aj hTp2 (aj hTp3 H))))))))))))))))
              refine rg [1, 2, 5, 9, 79, 80, 81] (k := rs (k := rr (k := ro (pre := [_, _, _, _]) (k := rC (h := ref7_Meets (a := x.wins) (b := y.wins) hxok.wins hyok.wins hxok.nw hyok.nw) (k := rl [1, 2, 5, 79, 80, 81, 89] (k := rc (ht := fun hc7 => ?_) (hf := fun hc7 => ?_)))))))
              · refine rs (k := rg [4] (k := rR (k := ?_)))
                refine Ret.pure (by simp only [Try.f38, go_sem] <;> rfl) rfl (by simp only [go_sem, reduceCtorEq, false_implies, implies_true]) hwf (by first | exact (((Fr.refl hwf).new _).newset _ _ rfl).blk | exact (K1.fr).blk | exact ((K1.new _).fr).blk | exact ((K2.new _).fr).blk | exact ((K4.new _).fr).blk) ⟨?_, rfl⟩
                · first
                    | (have e : tenWhy x t.frame = 21 := by rw [tenWhy, if_pos (by simpa using hc0)]
                       rw [tenAt, e, if_pos (by decide)]; rfl)
                    | (have e : tenWhy x t.frame = 22 := by rw [tenWhy, if_neg (by simpa using hc0), if_pos (by simpa using hc1)]
                       rw [tenAt, e, if_pos (by decide)]; rfl)
                    | (have e : tenWhy x t.frame = 26 := by
                         rw [tenWhy, if_neg (by simpa using hc0), if_neg (by simpa using hc1), if_pos (by simp only [Bool.or_eq_true, decide_eq_true_eq] at hc2; omega)]
                       rw [tenAt, e, if_pos (by decide)]; rfl)
                    | (have h2 : ¬ (6 < x.wins.length ∨ x.slts.length < 1 ∨ 3 < x.slts.length) := by simp only [Bool.or_eq_false_iff, decide_eq_false_iff_not] at hc2; omega
                       have h3 : (x.wins.any (fun w => !winRight w) || !winsOwn x.wins) = true := by
                         have := hc3
                         revert this
                         cases x.wins.any (fun w => !winRight w) <;> cases winsOwn x.wins <;> simp
                       have e : tenWhy x t.frame = 23 := by rw [tenWhy, if_neg (by simpa using hc0), if_neg (by simpa using hc1), if_neg h2, if_pos h3]
                       rw [tenAt, e, if_pos (by decide)]; rfl)
                    | (have hr : x.slts.any (fun a => !sltRight t.frame a) = true := any_get hal (by rw [hae]; exact hc5)
                       have e : tenWhy x t.frame = 25 := by rw [tenWhy, if_neg h0, if_neg h1, if_neg h2, if_neg (by rw [h3]; decide), if_pos hr]
                       rw [tenAt, e, if_pos (by decide)]; rfl)
                    | (rw [tenAt, if_neg (by rw [hwhy]; decide), tenBeside, if_pos (any_get hyl (by rw [hye]; exact hc7))]; rfl)
                    | (rw [tenAt, if_neg (by rw [hwhy]; decide), tenBeside, if_neg (by rw [hsh]; decide), hidx]
                       first
                         | (rw [show x.slts.drop k = [] from by rw [show k = x.slts.length by have := of_decide_eq_false hc8; omega, List.drop_length]]; rfl)
                         | (rw [sltsBadA_step hal, hae, show sltMeets a (x.slts.take k) = true from any_get hbl (by rw [hbe]; exact hc10)]; rfl)
                         | (rw [sltsBadA_step hal, hae, show (t.tens.take i).any (fun y => sltMeets a y.slts) = true from any_get hyl (by rw [hye]; exact any_get hbl (by rw [hbe]; exact hc13)), Bool.or_true]; rfl))
              · refine rk (k := rB (k := rg [1, 2, 5, 79, 80, 81] (k := ?_)))
                refine Run.lp ⟨⟨K1.new _, q + 1, rfl, by omega, any_take_step hyl (by rw [hye]; exact hc7) hall⟩, ?_⟩
                simp only [ivar, go_sem, ↓reduceIte, Nat.reduceEqDiff]
                omega
            · refine rX (k := rs (k := rs (k := ?_)))
              have hsh : (t.tens.take i).any (fun y => winsMeet x.wins y.wins) = false := any_take_all (by have := of_decide_eq_false hc6; omega) hall
              have hX : s1.blk (s.nxt + 1) = some (.row 53 [.agg [.int .i64 (x).unit, .int .u32 (x).fns, .int .i64 (x).queue, .sl .unk ((x).wins.map Win.pv), .sl .unk ((x).slts.map Slt.pv)]]) := K1.hd
              have hXn0 : (s.nxt + 1 = s1.nxt) = False := K1.ne 0
              have hXn1 : (s.nxt + 1 = s1.nxt + 1) = False := K1.ne 1
              have hXn2 : (s.nxt + 1 = s1.nxt + 2) = False := K1.ne 2
              have hXn3 : (s.nxt + 1 = s1.nxt + 3) = False := K1.ne 3
              have hXp2 : (s.nxt + 1 = s1.nxt + 1 + 1) = False := K1.ne 2
              have hXp3 : (s.nxt + 1 = s1.nxt + 1 + 1 + 1) = False := K1.ne 3
              have hT : s1.blk (s.nxt) = some (.row 24 [.agg [.int .i64 (t).frame, .sl .unk ((t).tens.map Ten.pv)]]) := K1.tl.hd
              have hTn0 : (s.nxt = s1.nxt) = False := K1.tl.ne 0
              have hTn1 : (s.nxt = s1.nxt + 1) = False := K1.tl.ne 1
              have hTn2 : (s.nxt = s1.nxt + 2) = False := K1.tl.ne 2
              have hTn3 : (s.nxt = s1.nxt + 3) = False := K1.tl.ne 3
              have hTp2 : (s.nxt = s1.nxt + 1 + 1) = False := K1.tl.ne 2
              have hTp3 : (s.nxt = s1.nxt + 1 + 1 + 1) = False := K1.tl.ne 3
              have H := aj hX (aj hXn0 (aj hXn1 (aj hXn2 (aj hXn3 (aj hXp2 (aj hXp3 (aj hT (aj hTn0 (aj hTn1 (aj hTn2 (aj hTn3 (aj hTp2 (aj hTp3 H)))))))))))))
              refine rg [1, 2, 5, 92, 93, 94] (k := rb (k := ?_))
              refine Run.loop (fun e s' => Kp s s' [(s.nxt + 1, .row 53 [.agg [.int .i64 (x).unit, .int .u32 (x).fns, .int .i64 (x).queue, .sl .unk ((x).wins.map Win.pv), .sl .unk ((x).slts.map Slt.pv)]]), (s.nxt, .row 24 [.agg [.int .i64 (t).frame, .sl .unk ((t).tens.map Ten.pv)]])] ∧ ∃ k : Nat, e = [(1, .int .i64 i), (2, .ptr s.nxt 0 0), (5, .ptr (s.nxt + 1) 0 0), (92, .sl .unk (x.slts.map Slt.pv)), (93, .int .i64 x.slts.length), (94, .int .i64 k)] ∧ k ≤ x.slts.length ∧ sltsBadA (t.tens.take i) [] x.slts = sltsBadA (t.tens.take i) (x.slts.take k) (x.slts.drop k)) (fun e s' => (x.slts).length - ivar e 94) ?_ ?_
              · exact ⟨K1, 0, rfl, by omega, rfl⟩
              rintro e s1 ⟨K1, k, rfl, hk, hidx⟩
              refine rs (k := rg [1, 2, 5, 92, 93, 94, 95] (k := rs (k := rc (ht := fun hc8 => ?_) (hf := fun hc8 => ?_))))
              · refine rk (k := rs (k := rb (k := rs (k := ?_))))
                have hal : k < (x.slts).length := by have := of_decide_eq_true hc8; omega
                obtain ⟨a, hae⟩ : ∃ z_, (x.slts)[k]'hal = z_ := ⟨_, rfl⟩
                have hxa : ((x.slts).map Slt.pv)[k]? = some (.agg [.int .i64 (a).pos, .int .i64 (a).len]) := by rw [map_get hal, hae]; rfl
                have hwa : IntKind.i64.wrap ((k : Int) + 1) = ((k + 1 : Nat) : Int) := by rw [wrap_i64 (by omega)]; omega
                have haok : a.ok := by rw [← hae]; exact hxok.slts _ (List.getElem_mem _)
                have hslk : (x.slts.map Slt.pv).take k = (x.slts.take k).map Slt.pv := List.map_take.symm
                have hkle : ((k : Int) ≤ (x.slts.length : Int)) = True := eq_true (by omega)
                have htk : (x.slts.take k).length = k := by simp; omega
                have hX : s1.blk (s.nxt + 1) = some (.row 53 [.agg [.int .i64 (x).unit, .int .u32 (x).fns, .int .i64 (x).queue, .sl .unk ((x).wins.map Win.pv), .sl .unk ((x).slts.map Slt.pv)]]) := K1.hd
                have hXn0 : (s.nxt + 1 = s1.nxt) = False := K1.ne 0
                have hXn1 : (s.nxt + 1 = s1.nxt + 1) = False := K1.ne 1
                have hXn2 : (s.nxt + 1 = s1.nxt + 2) = False := K1.ne 2
                have hXn3 : (s.nxt + 1 = s1.nxt + 3) = False := K1.ne 3
                have hXp2 : (s.nxt + 1 = s1.nxt + 1 + 1) = False := K1.ne 2
                have hXp3 : (s.nxt + 1 = s1.nxt + 1 + 1 + 1) = False := K1.ne 3
                have hT : s1.blk (s.nxt) = some (.row 24 [.agg [.int .i64 (t).frame, .sl .unk ((t).tens.map Ten.pv)]]) := K1.tl.hd
                have hTn0 : (s.nxt = s1.nxt) = False := K1.tl.ne 0
                have hTn1 : (s.nxt = s1.nxt + 1) = False := K1.tl.ne 1
                have hTn2 : (s.nxt = s1.nxt + 2) = False := K1.tl.ne 2
                have hTn3 : (s.nxt = s1.nxt + 3) = False := K1.tl.ne 3
                have hTp2 : (s.nxt = s1.nxt + 1 + 1) = False := K1.tl.ne 2
                have hTp3 : (s.nxt = s1.nxt + 1 + 1 + 1) = False := K1.tl.ne 3
                have H := aj hxa (aj hwa (aj hal (aj hslk (aj hkle (aj htk (aj hX (aj hXn0 (aj hXn1 (aj hXn2 (aj hXn3 (aj hXp2 (aj hXp3 (aj hT (aj hTn0 (aj hTn1 (aj hTn2 (aj hTn3 (aj hTp2 (aj hTp3 H)))))))))))))))))))
                refine rg [1, 2, 5, 10, 11, 92, 93, 94] (k := rs (k := rs (k := rg [1, 2, 5, 11, 92, 93, 94, 102, 103, 104] (k := rb (k := ?_)))))
                refine Run.loop (fun e s' => Kp s s' [(s1.nxt, .row 60 [.agg [.int .i64 (a).pos, .int .i64 (a).len]]), (s.nxt + 1, .row 53 [.agg [.int .i64 (x).unit, .int .u32 (x).fns, .int .i64 (x).queue, .sl .unk ((x).wins.map Win.pv), .sl .unk ((x).slts.map Slt.pv)]]), (s.nxt, .row 24 [.agg [.int .i64 (t).frame, .sl .unk ((t).tens.map Ten.pv)]])] ∧ ∃ q : Nat, e = [(1, .int .i64 i), (2, .ptr s.nxt 0 0), (5, .ptr (s.nxt + 1) 0 0), (11, .ptr s1.nxt 0 0), (92, .sl .unk (x.slts.map Slt.pv)), (93, .int .i64 x.slts.length), (94, .int .i64 k), (102, .sl .unk ((x.slts.take k).map Slt.pv)), (103, .int .i64 k), (104, .int .i64 q)] ∧ q ≤ k ∧ ((x.slts.take k).take q).any (fun b => sltMeet a b) = false) (fun e s' => k - ivar e 104) ?_ ?_
                · exact ⟨K1.push _, 0, rfl, by omega, rfl⟩
                rintro e s2 ⟨K2, q, rfl, hq, hall3⟩
                refine rs (k := rg [1, 2, 5, 11, 92, 93, 94, 102, 103, 104, 105] (k := rs (k := rc (ht := fun hc9 => ?_) (hf := fun hc9 => ?_))))
                · refine rk (k := rs (k := rb (k := rs (k := ?_))))
                  have hbl : q < (x.slts.take k).length := by have := of_decide_eq_true hc9; omega
                  obtain ⟨b, hbe⟩ : ∃ z_, (x.slts.take k)[q]'hbl = z_ := ⟨_, rfl⟩
                  have hxb : ((x.slts.take k).map Slt.pv)[q]? = some (.agg [.int .i64 (b).pos, .int .i64 (b).len]) := by rw [map_get hbl, hbe]; rfl
                  have hwb : IntKind.i64.wrap ((q : Int) + 1) = ((q + 1 : Nat) : Int) := by rw [wrap_i64 (by omega)]; omega
                  have hbok : b.ok := by rw [← hbe]; exact hxok.slts _ (List.mem_of_mem_take (List.getElem_mem _))
                  have hA : s2.blk (s1.nxt) = some (.row 60 [.agg [.int .i64 (a).pos, .int .i64 (a).len]]) := K2.hd
                  have hAn0 : (s1.nxt = s2.nxt) = False := K2.ne 0
                  have hAn1 : (s1.nxt = s2.nxt + 1) = False := K2.ne 1
                  have hAn2 : (s1.nxt = s2.nxt + 2) = False := K2.ne 2
                  have hAn3 : (s1.nxt = s2.nxt + 3) = False := K2.ne 3
                  have hAp2 : (s1.nxt = s2.nxt + 1 + 1) = False := K2.ne 2
                  have hAp3 : (s1.nxt = s2.nxt + 1 + 1 + 1) = False := K2.ne 3
                  have hX : s2.blk (s.nxt + 1) = some (.row 53 [.agg [.int .i64 (x).unit, .int .u32 (x).fns, .int .i64 (x).queue, .sl .unk ((x).wins.map Win.pv), .sl .unk ((x).slts.map Slt.pv)]]) := K2.tl.hd
                  have hXn0 : (s.nxt + 1 = s2.nxt) = False := K2.tl.ne 0
                  have hXn1 : (s.nxt + 1 = s2.nxt + 1) = False := K2.tl.ne 1
                  have hXn2 : (s.nxt + 1 = s2.nxt + 2) = False := K2.tl.ne 2
                  have hXn3 : (s.nxt + 1 = s2.nxt + 3) = False := K2.tl.ne 3
                  have hXp2 : (s.nxt + 1 = s2.nxt + 1 + 1) = False := K2.tl.ne 2
                  have hXp3 : (s.nxt + 1 = s2.nxt + 1 + 1 + 1) = False := K2.tl.ne 3
                  have hT : s2.blk (s.nxt) = some (.row 24 [.agg [.int .i64 (t).frame, .sl .unk ((t).tens.map Ten.pv)]]) := K2.tl.tl.hd
                  have hTn0 : (s.nxt = s2.nxt) = False := K2.tl.tl.ne 0
                  have hTn1 : (s.nxt = s2.nxt + 1) = False := K2.tl.tl.ne 1
                  have hTn2 : (s.nxt = s2.nxt + 2) = False := K2.tl.tl.ne 2
                  have hTn3 : (s.nxt = s2.nxt + 3) = False := K2.tl.tl.ne 3
                  have hTp2 : (s.nxt = s2.nxt + 1 + 1) = False := K2.tl.tl.ne 2
                  have hTp3 : (s.nxt = s2.nxt + 1 + 1 + 1) = False := K2.tl.tl.ne 3
                  have H := aj hxb (aj hwb (aj hbl (aj hA (aj hAn0 (aj hAn1 (aj hAn2 (aj hAn3 (aj hAp2 (aj hAp3 (aj hX (aj hXn0 (aj hXn1 (aj hXn2 (aj hXn3 (aj hXp2 (aj hXp3 (aj hT (aj hTn0 (aj hTn1 (aj hTn2 (aj hTn3 (aj hTp2 (aj hTp3 H)))))))))))))))))))))))
                  refine rg [1, 2, 5, 11, 13, 92, 93, 94, 102, 103, 104] (k := rs (k := rr (k := ro (pre := [_, _]) (k := rC (h := ref11_meet haok hbok) (k := rl [1, 2, 5, 11, 92, 93, 94, 102, 103, 104, 110] (k := rc (ht := fun hc10 => ?_) (hf := fun hc10 => ?_)))))))
                  · refine rs (k := rg [4] (k := rR (k := ?_)))
                    refine Ret.pure (by simp only [Try.f38, go_sem] <;> rfl) rfl (by simp only [go_sem, reduceCtorEq, false_implies, implies_true]) hwf (by first | exact (((Fr.refl hwf).new _).newset _ _ rfl).blk | exact (K1.fr).blk | exact ((K1.new _).fr).blk | exact ((K2.new _).fr).blk | exact ((K4.new _).fr).blk) ⟨?_, rfl⟩
                    · first
                        | (have e : tenWhy x t.frame = 21 := by rw [tenWhy, if_pos (by simpa using hc0)]
                           rw [tenAt, e, if_pos (by decide)]; rfl)
                        | (have e : tenWhy x t.frame = 22 := by rw [tenWhy, if_neg (by simpa using hc0), if_pos (by simpa using hc1)]
                           rw [tenAt, e, if_pos (by decide)]; rfl)
                        | (have e : tenWhy x t.frame = 26 := by
                             rw [tenWhy, if_neg (by simpa using hc0), if_neg (by simpa using hc1), if_pos (by simp only [Bool.or_eq_true, decide_eq_true_eq] at hc2; omega)]
                           rw [tenAt, e, if_pos (by decide)]; rfl)
                        | (have h2 : ¬ (6 < x.wins.length ∨ x.slts.length < 1 ∨ 3 < x.slts.length) := by simp only [Bool.or_eq_false_iff, decide_eq_false_iff_not] at hc2; omega
                           have h3 : (x.wins.any (fun w => !winRight w) || !winsOwn x.wins) = true := by
                             have := hc3
                             revert this
                             cases x.wins.any (fun w => !winRight w) <;> cases winsOwn x.wins <;> simp
                           have e : tenWhy x t.frame = 23 := by rw [tenWhy, if_neg (by simpa using hc0), if_neg (by simpa using hc1), if_neg h2, if_pos h3]
                           rw [tenAt, e, if_pos (by decide)]; rfl)
                        | (have hr : x.slts.any (fun a => !sltRight t.frame a) = true := any_get hal (by rw [hae]; exact hc5)
                           have e : tenWhy x t.frame = 25 := by rw [tenWhy, if_neg h0, if_neg h1, if_neg h2, if_neg (by rw [h3]; decide), if_pos hr]
                           rw [tenAt, e, if_pos (by decide)]; rfl)
                        | (rw [tenAt, if_neg (by rw [hwhy]; decide), tenBeside, if_pos (any_get hyl (by rw [hye]; exact hc7))]; rfl)
                        | (rw [tenAt, if_neg (by rw [hwhy]; decide), tenBeside, if_neg (by rw [hsh]; decide), hidx]
                           first
                             | (rw [show x.slts.drop k = [] from by rw [show k = x.slts.length by have := of_decide_eq_false hc8; omega, List.drop_length]]; rfl)
                             | (rw [sltsBadA_step hal, hae, show sltMeets a (x.slts.take k) = true from any_get hbl (by rw [hbe]; exact hc10)]; rfl)
                             | (rw [sltsBadA_step hal, hae, show (t.tens.take i).any (fun y => sltMeets a y.slts) = true from any_get hyl (by rw [hye]; exact any_get hbl (by rw [hbe]; exact hc13)), Bool.or_true]; rfl))
                  · refine rk (k := rB (k := rg [1, 2, 5, 11, 92, 93, 94, 102, 103, 104] (k := ?_)))
                    refine Run.lp ⟨⟨K2.new _, q + 1, rfl, by omega, any_take_step hbl (by rw [hbe]; exact hc10) hall3⟩, ?_⟩
                    simp only [ivar, go_sem, ↓reduceIte, Nat.reduceEqDiff]
                    omega
                · refine rX (k := rs (k := ?_))
                  have hm0 : (x.slts.take k).any (fun b => sltMeet a b) = false := any_take_all (by have := of_decide_eq_false hc9; omega) hall3
                  have hA : s2.blk (s1.nxt) = some (.row 60 [.agg [.int .i64 (a).pos, .int .i64 (a).len]]) := K2.hd
                  have hAn0 : (s1.nxt = s2.nxt) = False := K2.ne 0
                  have hAn1 : (s1.nxt = s2.nxt + 1) = False := K2.ne 1
                  have hAn2 : (s1.nxt = s2.nxt + 2) = False := K2.ne 2
                  have hAn3 : (s1.nxt = s2.nxt + 3) = False := K2.ne 3
                  have hAp2 : (s1.nxt = s2.nxt + 1 + 1) = False := K2.ne 2
                  have hAp3 : (s1.nxt = s2.nxt + 1 + 1 + 1) = False := K2.ne 3
                  have hX : s2.blk (s.nxt + 1) = some (.row 53 [.agg [.int .i64 (x).unit, .int .u32 (x).fns, .int .i64 (x).queue, .sl .unk ((x).wins.map Win.pv), .sl .unk ((x).slts.map Slt.pv)]]) := K2.tl.hd
                  have hXn0 : (s.nxt + 1 = s2.nxt) = False := K2.tl.ne 0
                  have hXn1 : (s.nxt + 1 = s2.nxt + 1) = False := K2.tl.ne 1
                  have hXn2 : (s.nxt + 1 = s2.nxt + 2) = False := K2.tl.ne 2
                  have hXn3 : (s.nxt + 1 = s2.nxt + 3) = False := K2.tl.ne 3
                  have hXp2 : (s.nxt + 1 = s2.nxt + 1 + 1) = False := K2.tl.ne 2
                  have hXp3 : (s.nxt + 1 = s2.nxt + 1 + 1 + 1) = False := K2.tl.ne 3
                  have hT : s2.blk (s.nxt) = some (.row 24 [.agg [.int .i64 (t).frame, .sl .unk ((t).tens.map Ten.pv)]]) := K2.tl.tl.hd
                  have hTn0 : (s.nxt = s2.nxt) = False := K2.tl.tl.ne 0
                  have hTn1 : (s.nxt = s2.nxt + 1) = False := K2.tl.tl.ne 1
                  have hTn2 : (s.nxt = s2.nxt + 2) = False := K2.tl.tl.ne 2
                  have hTn3 : (s.nxt = s2.nxt + 3) = False := K2.tl.tl.ne 3
                  have hTp2 : (s.nxt = s2.nxt + 1 + 1) = False := K2.tl.tl.ne 2
                  have hTp3 : (s.nxt = s2.nxt + 1 + 1 + 1) = False := K2.tl.tl.ne 3
                  have H := aj hA (aj hAn0 (aj hAn1 (aj hAn2 (aj hAn3 (aj hAp2 (aj hAp3 (aj hX (aj hXn0 (aj hXn1 (aj hXn2 (aj hXn3 (aj hXp2 (aj hXp3 (aj hT (aj hTn0 (aj hTn1 (aj hTn2 (aj hTn3 (aj hTp2 (aj hTp3 H))))))))))))))))))))
                  refine rg [1, 2, 5, 11, 92, 93, 94, 115, 116, 117] (k := rb (k := ?_))
                  refine Run.loop (fun e s' => Kp s s' [(s1.nxt, .row 60 [.agg [.int .i64 (a).pos, .int .i64 (a).len]]), (s.nxt + 1, .row 53 [.agg [.int .i64 (x).unit, .int .u32 (x).fns, .int .i64 (x).queue, .sl .unk ((x).wins.map Win.pv), .sl .unk ((x).slts.map Slt.pv)]]), (s.nxt, .row 24 [.agg [.int .i64 (t).frame, .sl .unk ((t).tens.map Ten.pv)]])] ∧ ∃ q : Nat, e = [(1, .int .i64 i), (2, .ptr s.nxt 0 0), (5, .ptr (s.nxt + 1) 0 0), (11, .ptr s1.nxt 0 0), (92, .sl .unk (x.slts.map Slt.pv)), (93, .int .i64 x.slts.length), (94, .int .i64 k), (115, .sl .unk ((t.tens.take i).map Ten.pv)), (116, .int .i64 i), (117, .int .i64 q)] ∧ q ≤ i ∧ ((t.tens.take i).take q).any (fun y => sltMeets a y.slts) = false) (fun e s' => i - ivar e 117) ?_ ?_
                  · exact ⟨K2, 0, rfl, by omega, rfl⟩
                  rintro e s3 ⟨K3, q, rfl, hq, hall4⟩
                  refine rs (k := rg [1, 2, 5, 11, 92, 93, 94, 115, 116, 117, 118] (k := rs (k := rc (ht := fun hc11 => ?_) (hf := fun hc11 => ?_))))
                  · refine rk (k := rs (k := rb (k := rs (k := ?_))))
                    have hyl : q < (t.tens.take i).length := by have := of_decide_eq_true hc11; omega
                    obtain ⟨y, hye⟩ : ∃ z_, (t.tens.take i)[q]'hyl = z_ := ⟨_, rfl⟩
                    have hxy : ((t.tens.take i).map Ten.pv)[q]? = some (.agg [.int .i64 (y).unit, .int .u32 (y).fns, .int .i64 (y).queue, .sl .unk ((y).wins.map Win.pv), .sl .unk ((y).slts.map Slt.pv)]) := by rw [map_get hyl, hye]; rfl
                    have hwy : IntKind.i64.wrap ((q : Int) + 1) = ((q + 1 : Nat) : Int) := by rw [wrap_i64 (by omega)]; omega
                    have hyok : y.ok := by rw [← hye]; exact ht.tens _ (List.mem_of_mem_take (List.getElem_mem _))
                    have hbs2 := hyok.bs
                    have hA : s3.blk (s1.nxt) = some (.row 60 [.agg [.int .i64 (a).pos, .int .i64 (a).len]]) := K3.hd
                    have hAn0 : (s1.nxt = s3.nxt) = False := K3.ne 0
                    have hAn1 : (s1.nxt = s3.nxt + 1) = False := K3.ne 1
                    have hAn2 : (s1.nxt = s3.nxt + 2) = False := K3.ne 2
                    have hAn3 : (s1.nxt = s3.nxt + 3) = False := K3.ne 3
                    have hAp2 : (s1.nxt = s3.nxt + 1 + 1) = False := K3.ne 2
                    have hAp3 : (s1.nxt = s3.nxt + 1 + 1 + 1) = False := K3.ne 3
                    have hX : s3.blk (s.nxt + 1) = some (.row 53 [.agg [.int .i64 (x).unit, .int .u32 (x).fns, .int .i64 (x).queue, .sl .unk ((x).wins.map Win.pv), .sl .unk ((x).slts.map Slt.pv)]]) := K3.tl.hd
                    have hXn0 : (s.nxt + 1 = s3.nxt) = False := K3.tl.ne 0
                    have hXn1 : (s.nxt + 1 = s3.nxt + 1) = False := K3.tl.ne 1
                    have hXn2 : (s.nxt + 1 = s3.nxt + 2) = False := K3.tl.ne 2
                    have hXn3 : (s.nxt + 1 = s3.nxt + 3) = False := K3.tl.ne 3
                    have hXp2 : (s.nxt + 1 = s3.nxt + 1 + 1) = False := K3.tl.ne 2
                    have hXp3 : (s.nxt + 1 = s3.nxt + 1 + 1 + 1) = False := K3.tl.ne 3
                    have hT : s3.blk (s.nxt) = some (.row 24 [.agg [.int .i64 (t).frame, .sl .unk ((t).tens.map Ten.pv)]]) := K3.tl.tl.hd
                    have hTn0 : (s.nxt = s3.nxt) = False := K3.tl.tl.ne 0
                    have hTn1 : (s.nxt = s3.nxt + 1) = False := K3.tl.tl.ne 1
                    have hTn2 : (s.nxt = s3.nxt + 2) = False := K3.tl.tl.ne 2
                    have hTn3 : (s.nxt = s3.nxt + 3) = False := K3.tl.tl.ne 3
                    have hTp2 : (s.nxt = s3.nxt + 1 + 1) = False := K3.tl.tl.ne 2
                    have hTp3 : (s.nxt = s3.nxt + 1 + 1 + 1) = False := K3.tl.tl.ne 3
                    have H := aj hxy (aj hwy (aj hyl (aj hA (aj hAn0 (aj hAn1 (aj hAn2 (aj hAn3 (aj hAp2 (aj hAp3 (aj hX (aj hXn0 (aj hXn1 (aj hXn2 (aj hXn3 (aj hXp2 (aj hXp3 (aj hT (aj hTn0 (aj hTn1 (aj hTn2 (aj hTn3 (aj hTp2 (aj hTp3 H)))))))))))))))))))))))
                    refine rg [1, 2, 5, 11, 15, 92, 93, 94, 115, 116, 117] (k := rs (k := rg [1, 2, 5, 11, 92, 93, 94, 115, 116, 117, 122, 123, 124] (k := rb (k := ?_))))
                    refine Run.loop (fun e s' => Kp s s' [(s3.nxt, .row 53 [.agg [.int .i64 (y).unit, .int .u32 (y).fns, .int .i64 (y).queue, .sl .unk ((y).wins.map Win.pv), .sl .unk ((y).slts.map Slt.pv)]]), (s1.nxt, .row 60 [.agg [.int .i64 (a).pos, .int .i64 (a).len]]), (s.nxt + 1, .row 53 [.agg [.int .i64 (x).unit, .int .u32 (x).fns, .int .i64 (x).queue, .sl .unk ((x).wins.map Win.pv), .sl .unk ((x).slts.map Slt.pv)]]), (s.nxt, .row 24 [.agg [.int .i64 (t).frame, .sl .unk ((t).tens.map Ten.pv)]])] ∧ ∃ j : Nat, e = [(1, .int .i64 i), (2, .ptr s.nxt 0 0), (5, .ptr (s.nxt + 1) 0 0), (11, .ptr s1.nxt 0 0), (92, .sl .unk (x.slts.map Slt.pv)), (93, .int .i64 x.slts.length), (94, .int .i64 k), (115, .sl .unk ((t.tens.take i).map Ten.pv)), (116, .int .i64 i), (117, .int .i64 q), (122, .sl .unk (y.slts.map Slt.pv)), (123, .int .i64 y.slts.length), (124, .int .i64 j)] ∧ j ≤ y.slts.length ∧ (y.slts.take j).any (fun b => sltMeet a b) = false) (fun e s' => (y.slts).length - ivar e 124) ?_ ?_
                    · exact ⟨K3.push _, 0, rfl, by omega, rfl⟩
                    rintro e s4 ⟨K4, j, rfl, hj, hall5⟩
                    refine rs (k := rg [1, 2, 5, 11, 92, 93, 94, 115, 116, 117, 122, 123, 124, 125] (k := rs (k := rc (ht := fun hc12 => ?_) (hf := fun hc12 => ?_))))
                    · refine rk (k := rs (k := rb (k := rs (k := ?_))))
                      have hbl : j < (y.slts).length := by have := of_decide_eq_true hc12; omega
                      obtain ⟨b, hbe⟩ : ∃ z_, (y.slts)[j]'hbl = z_ := ⟨_, rfl⟩
                      have hxb : ((y.slts).map Slt.pv)[j]? = some (.agg [.int .i64 (b).pos, .int .i64 (b).len]) := by rw [map_get hbl, hbe]; rfl
                      have hwb : IntKind.i64.wrap ((j : Int) + 1) = ((j + 1 : Nat) : Int) := by rw [wrap_i64 (by omega)]; omega
                      have hbok : b.ok := by rw [← hbe]; exact hyok.slts _ (List.getElem_mem _)
                      have hY : s4.blk (s3.nxt) = some (.row 53 [.agg [.int .i64 (y).unit, .int .u32 (y).fns, .int .i64 (y).queue, .sl .unk ((y).wins.map Win.pv), .sl .unk ((y).slts.map Slt.pv)]]) := K4.hd
                      have hYn0 : (s3.nxt = s4.nxt) = False := K4.ne 0
                      have hYn1 : (s3.nxt = s4.nxt + 1) = False := K4.ne 1
                      have hYn2 : (s3.nxt = s4.nxt + 2) = False := K4.ne 2
                      have hYn3 : (s3.nxt = s4.nxt + 3) = False := K4.ne 3
                      have hYp2 : (s3.nxt = s4.nxt + 1 + 1) = False := K4.ne 2
                      have hYp3 : (s3.nxt = s4.nxt + 1 + 1 + 1) = False := K4.ne 3
                      have hA : s4.blk (s1.nxt) = some (.row 60 [.agg [.int .i64 (a).pos, .int .i64 (a).len]]) := K4.tl.hd
                      have hAn0 : (s1.nxt = s4.nxt) = False := K4.tl.ne 0
                      have hAn1 : (s1.nxt = s4.nxt + 1) = False := K4.tl.ne 1
                      have hAn2 : (s1.nxt = s4.nxt + 2) = False := K4.tl.ne 2
                      have hAn3 : (s1.nxt = s4.nxt + 3) = False := K4.tl.ne 3
                      have hAp2 : (s1.nxt = s4.nxt + 1 + 1) = False := K4.tl.ne 2
                      have hAp3 : (s1.nxt = s4.nxt + 1 + 1 + 1) = False := K4.tl.ne 3
                      have hX : s4.blk (s.nxt + 1) = some (.row 53 [.agg [.int .i64 (x).unit, .int .u32 (x).fns, .int .i64 (x).queue, .sl .unk ((x).wins.map Win.pv), .sl .unk ((x).slts.map Slt.pv)]]) := K4.tl.tl.hd
                      have hXn0 : (s.nxt + 1 = s4.nxt) = False := K4.tl.tl.ne 0
                      have hXn1 : (s.nxt + 1 = s4.nxt + 1) = False := K4.tl.tl.ne 1
                      have hXn2 : (s.nxt + 1 = s4.nxt + 2) = False := K4.tl.tl.ne 2
                      have hXn3 : (s.nxt + 1 = s4.nxt + 3) = False := K4.tl.tl.ne 3
                      have hXp2 : (s.nxt + 1 = s4.nxt + 1 + 1) = False := K4.tl.tl.ne 2
                      have hXp3 : (s.nxt + 1 = s4.nxt + 1 + 1 + 1) = False := K4.tl.tl.ne 3
                      have hT : s4.blk (s.nxt) = some (.row 24 [.agg [.int .i64 (t).frame, .sl .unk ((t).tens.map Ten.pv)]]) := K4.tl.tl.tl.hd
                      have hTn0 : (s.nxt = s4.nxt) = False := K4.tl.tl.tl.ne 0
                      have hTn1 : (s.nxt = s4.nxt + 1) = False := K4.tl.tl.tl.ne 1
                      have hTn2 : (s.nxt = s4.nxt + 2) = False := K4.tl.tl.tl.ne 2
                      have hTn3 : (s.nxt = s4.nxt + 3) = False := K4.tl.tl.tl.ne 3
                      have hTp2 : (s.nxt = s4.nxt + 1 + 1) = False := K4.tl.tl.tl.ne 2
                      have hTp3 : (s.nxt = s4.nxt + 1 + 1 + 1) = False := K4.tl.tl.tl.ne 3
                      have H := aj hxb (aj hwb (aj hbl (aj hY (aj hYn0 (aj hYn1 (aj hYn2 (aj hYn3 (aj hYp2 (aj hYp3 (aj hA (aj hAn0 (aj hAn1 (aj hAn2 (aj hAn3 (aj hAp2 (aj hAp3 (aj hX (aj hXn0 (aj hXn1 (aj hXn2 (aj hXn3 (aj hXp2 (aj hXp3 (aj hT (aj hTn0 (aj hTn1 (aj hTn2 (aj hTn3 (aj hTp2 (aj hTp3 H))))))))))))))))))))))))))))))
                      refine rg [1, 2, 5, 11, 17, 92, 93, 94, 115, 116, 117, 122, 123, 124] (k := rs (k := rr (k := ro (pre := [_, _]) (k := rC (h := ref11_meet haok hbok) (k := rl [1, 2, 5, 11, 92, 93, 94, 115, 116, 117, 122, 123, 124, 130] (k := rc (ht := fun hc13 => ?_) (hf := fun hc13 => ?_)))))))
                      · refine rs (k := rg [4] (k := rR (k := ?_)))
                        refine Ret.pure (by simp only [Try.f38, go_sem] <;> rfl) rfl (by simp only [go_sem, reduceCtorEq, false_implies, implies_true]) hwf (by first | exact (((Fr.refl hwf).new _).newset _ _ rfl).blk | exact (K1.fr).blk | exact ((K1.new _).fr).blk | exact ((K2.new _).fr).blk | exact ((K4.new _).fr).blk) ⟨?_, rfl⟩
                        · first
                            | (have e : tenWhy x t.frame = 21 := by rw [tenWhy, if_pos (by simpa using hc0)]
                               rw [tenAt, e, if_pos (by decide)]; rfl)
                            | (have e : tenWhy x t.frame = 22 := by rw [tenWhy, if_neg (by simpa using hc0), if_pos (by simpa using hc1)]
                               rw [tenAt, e, if_pos (by decide)]; rfl)
                            | (have e : tenWhy x t.frame = 26 := by
                                 rw [tenWhy, if_neg (by simpa using hc0), if_neg (by simpa using hc1), if_pos (by simp only [Bool.or_eq_true, decide_eq_true_eq] at hc2; omega)]
                               rw [tenAt, e, if_pos (by decide)]; rfl)
                            | (have h2 : ¬ (6 < x.wins.length ∨ x.slts.length < 1 ∨ 3 < x.slts.length) := by simp only [Bool.or_eq_false_iff, decide_eq_false_iff_not] at hc2; omega
                               have h3 : (x.wins.any (fun w => !winRight w) || !winsOwn x.wins) = true := by
                                 have := hc3
                                 revert this
                                 cases x.wins.any (fun w => !winRight w) <;> cases winsOwn x.wins <;> simp
                               have e : tenWhy x t.frame = 23 := by rw [tenWhy, if_neg (by simpa using hc0), if_neg (by simpa using hc1), if_neg h2, if_pos h3]
                               rw [tenAt, e, if_pos (by decide)]; rfl)
                            | (have hr : x.slts.any (fun a => !sltRight t.frame a) = true := any_get hal (by rw [hae]; exact hc5)
                               have e : tenWhy x t.frame = 25 := by rw [tenWhy, if_neg h0, if_neg h1, if_neg h2, if_neg (by rw [h3]; decide), if_pos hr]
                               rw [tenAt, e, if_pos (by decide)]; rfl)
                            | (rw [tenAt, if_neg (by rw [hwhy]; decide), tenBeside, if_pos (any_get hyl (by rw [hye]; exact hc7))]; rfl)
                            | (rw [tenAt, if_neg (by rw [hwhy]; decide), tenBeside, if_neg (by rw [hsh]; decide), hidx]
                               first
                                 | (rw [show x.slts.drop k = [] from by rw [show k = x.slts.length by have := of_decide_eq_false hc8; omega, List.drop_length]]; rfl)
                                 | (rw [sltsBadA_step hal, hae, show sltMeets a (x.slts.take k) = true from any_get hbl (by rw [hbe]; exact hc10)]; rfl)
                                 | (rw [sltsBadA_step hal, hae, show (t.tens.take i).any (fun y => sltMeets a y.slts) = true from any_get hyl (by rw [hye]; exact any_get hbl (by rw [hbe]; exact hc13)), Bool.or_true]; rfl))
                      · refine rk (k := rB (k := rg [1, 2, 5, 11, 92, 93, 94, 115, 116, 117, 122, 123, 124] (k := ?_)))
                        refine Run.lp ⟨⟨K4.new _, j + 1, rfl, by omega, any_take_step hbl (by rw [hbe]; exact hc13) hall5⟩, ?_⟩
                        simp only [ivar, go_sem, ↓reduceIte, Nat.reduceEqDiff]
                        omega
                    · refine rX (k := rB (k := rg [1, 2, 5, 11, 92, 93, 94, 115, 116, 117] (k := ?_)))
                      refine Run.lp ⟨⟨K4.tl, q + 1, rfl, by omega, any_take_step hyl (by rw [hye]; exact any_take_all (by have := of_decide_eq_false hc12; omega) hall5) hall4⟩, ?_⟩
                      simp only [ivar, go_sem, ↓reduceIte, Nat.reduceEqDiff]
                      omega
                  · refine rX (k := rB (k := rg [1, 2, 5, 92, 93, 94] (k := ?_)))
                    have hm1 : (t.tens.take i).any (fun y => sltMeets a y.slts) = false := any_take_all (by have := of_decide_eq_false hc11; omega) hall4
                    rw [sltsBadA_step hal, hae, show sltMeets a (x.slts.take k) = false from hm0, hm1, Bool.or_self, Bool.false_or] at hidx
                    refine Run.lp ⟨⟨K3.tl, k + 1, rfl, by omega, hidx⟩, ?_⟩
                    simp only [ivar, go_sem, ↓reduceIte, Nat.reduceEqDiff]
                    omega
              · refine rX (k := rs (k := rg [4] (k := rR (k := ?_))))
                refine Ret.pure (by simp only [Try.f38, go_sem] <;> rfl) rfl (by simp only [go_sem, reduceCtorEq, false_implies, implies_true]) hwf (by first | exact (((Fr.refl hwf).new _).newset _ _ rfl).blk | exact (K1.fr).blk | exact ((K1.new _).fr).blk | exact ((K2.new _).fr).blk | exact ((K4.new _).fr).blk) ⟨?_, rfl⟩
                · first
                    | (have e : tenWhy x t.frame = 21 := by rw [tenWhy, if_pos (by simpa using hc0)]
                       rw [tenAt, e, if_pos (by decide)]; rfl)
                    | (have e : tenWhy x t.frame = 22 := by rw [tenWhy, if_neg (by simpa using hc0), if_pos (by simpa using hc1)]
                       rw [tenAt, e, if_pos (by decide)]; rfl)
                    | (have e : tenWhy x t.frame = 26 := by
                         rw [tenWhy, if_neg (by simpa using hc0), if_neg (by simpa using hc1), if_pos (by simp only [Bool.or_eq_true, decide_eq_true_eq] at hc2; omega)]
                       rw [tenAt, e, if_pos (by decide)]; rfl)
                    | (have h2 : ¬ (6 < x.wins.length ∨ x.slts.length < 1 ∨ 3 < x.slts.length) := by simp only [Bool.or_eq_false_iff, decide_eq_false_iff_not] at hc2; omega
                       have h3 : (x.wins.any (fun w => !winRight w) || !winsOwn x.wins) = true := by
                         have := hc3
                         revert this
                         cases x.wins.any (fun w => !winRight w) <;> cases winsOwn x.wins <;> simp
                       have e : tenWhy x t.frame = 23 := by rw [tenWhy, if_neg (by simpa using hc0), if_neg (by simpa using hc1), if_neg h2, if_pos h3]
                       rw [tenAt, e, if_pos (by decide)]; rfl)
                    | (have hr : x.slts.any (fun a => !sltRight t.frame a) = true := any_get hal (by rw [hae]; exact hc5)
                       have e : tenWhy x t.frame = 25 := by rw [tenWhy, if_neg h0, if_neg h1, if_neg h2, if_neg (by rw [h3]; decide), if_pos hr]
                       rw [tenAt, e, if_pos (by decide)]; rfl)
                    | (rw [tenAt, if_neg (by rw [hwhy]; decide), tenBeside, if_pos (any_get hyl (by rw [hye]; exact hc7))]; rfl)
                    | (rw [tenAt, if_neg (by rw [hwhy]; decide), tenBeside, if_neg (by rw [hsh]; decide), hidx]
                       first
                         | (rw [show x.slts.drop k = [] from by rw [show k = x.slts.length by have := of_decide_eq_false hc8; omega, List.drop_length]]; rfl)
                         | (rw [sltsBadA_step hal, hae, show sltMeets a (x.slts.take k) = true from any_get hbl (by rw [hbe]; exact hc10)]; rfl)
                         | (rw [sltsBadA_step hal, hae, show (t.tens.take i).any (fun y => sltMeets a y.slts) = true from any_get hyl (by rw [hye]; exact any_get hbl (by rw [hbe]; exact hc13)), Bool.or_true]; rfl))
theorem ref11_Where {t : Tab} (ht : t.ok) {s : St} : ACalls Try.prog 24 [t.pv] s (fun r s' => r = .tuple [.int .i64 (tabWhere t).1, .int .i64 (tabWhere t).2] ∧ s' = s) := by
  refine go Try.func24 (k := fun hwf H => ?_)
  refine rs (k := rg [1] (k := rs (k := rs (k := rg [1, 13] (k := rc (ht := fun hc0 => ?_) (hf := fun hc0 => ?_))))))
  · refine rs (k := rg [2, 3] (k := rR (k := ?_)))
    refine Ret.pure (by simp only [Try.f24, go_sem] <;> rfl) rfl (by simp only [go_sem, reduceCtorEq, false_implies, implies_true]) hwf (by first | exact ((Fr.refl hwf).new _).blk | exact (K1.fr).blk) ⟨?_, rfl⟩
    · first
        | (rw [tabWhere, if_pos (by simpa using hc0)]; rfl)
        | (rw [tabWhere, if_neg (by simpa using hc0), if_pos (by simp only [Bool.or_eq_true, decide_eq_true_eq] at hc1; omega)]; rfl)
        | (have h0 : ¬ (t.frame < 1 ∨ 2000 < t.frame) := by simpa using hc0
           have h1 : ¬ (t.tens.length < 1 ∨ 4 < t.tens.length) := by simp only [Bool.or_eq_false_iff, decide_eq_false_iff_not] at hc1; omega
           rw [tabWhere, if_neg h0, if_neg h1]
           first
             | (have e0 : tenAt t x i ≠ 0 := by simpa using hc3
                rw [tabWhereA_step hxl, hxe] at hidx
                rw [hidx]
                unfold tenAt at e0 ⊢
                by_cases h : tenWhy x t.frame = 0
                · rw [if_neg (by simp [h])] at e0 ⊢
                  rw [if_neg (by simp [h]), if_pos e0]; rfl
                · rw [if_pos h] at e0 ⊢
                  rw [if_pos h]; rfl)
             | (have : i = t.tens.length := by have := of_decide_eq_false hc2; omega
                rw [this, List.drop_length] at hidx
                rw [hidx]; rfl))
  · refine rk (k := rs (k := rs (k := rg [1, 23] (k := rc (ht := fun hc1 => ?_) (hf := fun hc1 => ?_)))))
    · refine rs (k := rg [2, 3] (k := rR (k := ?_)))
      refine Ret.pure (by simp only [Try.f24, go_sem] <;> rfl) rfl (by simp only [go_sem, reduceCtorEq, false_implies, implies_true]) hwf (by first | exact ((Fr.refl hwf).new _).blk | exact (K1.fr).blk) ⟨?_, rfl⟩
      · first
          | (rw [tabWhere, if_pos (by simpa using hc0)]; rfl)
          | (rw [tabWhere, if_neg (by simpa using hc0), if_pos (by simp only [Bool.or_eq_true, decide_eq_true_eq] at hc1; omega)]; rfl)
          | (have h0 : ¬ (t.frame < 1 ∨ 2000 < t.frame) := by simpa using hc0
             have h1 : ¬ (t.tens.length < 1 ∨ 4 < t.tens.length) := by simp only [Bool.or_eq_false_iff, decide_eq_false_iff_not] at hc1; omega
             rw [tabWhere, if_neg h0, if_neg h1]
             first
               | (have e0 : tenAt t x i ≠ 0 := by simpa using hc3
                  rw [tabWhereA_step hxl, hxe] at hidx
                  rw [hidx]
                  unfold tenAt at e0 ⊢
                  by_cases h : tenWhy x t.frame = 0
                  · rw [if_neg (by simp [h])] at e0 ⊢
                    rw [if_neg (by simp [h]), if_pos e0]; rfl
                  · rw [if_pos h] at e0 ⊢
                    rw [if_pos h]; rfl)
               | (have : i = t.tens.length := by have := of_decide_eq_false hc2; omega
                  rw [this, List.drop_length] at hidx
                  rw [hidx]; rfl))
    · refine rk (k := rs (k := rs (k := rg [1, 26, 27] (k := rb (k := ?_)))))
      refine Run.loop (fun e s' => Kp s s' [(s.nxt, .row 24 [.agg [.int .i64 (t).frame, .sl .unk ((t).tens.map Ten.pv)]])] ∧ ∃ i : Nat, e = [(1, .ptr s.nxt 0 0), (26, .int .i64 t.tens.length), (27, .int .i64 i)] ∧ i ≤ t.tens.length ∧ tabWhereA t.frame [] t.tens = tabWhereA t.frame (t.tens.take i) (t.tens.drop i)) (fun e s' => (t.tens).length - ivar e 27) ?_ ?_
      · exact ⟨(Kp.nil (Fr.refl hwf)).push _, 0, rfl, by omega, rfl⟩
      rintro e s1 ⟨K1, i, rfl, hi, hidx⟩
      refine rs (k := rg [1, 26, 27, 28] (k := rs (k := rc (ht := fun hc2 => ?_) (hf := fun hc2 => ?_))))
      · refine rk (k := rs (k := rb (k := rs (k := ?_))))
        have hbt := ht.bt
        have hxl : i < (t.tens).length := by have := of_decide_eq_true hc2; omega
        obtain ⟨x, hxe⟩ : ∃ z_, (t.tens)[i]'hxl = z_ := ⟨_, rfl⟩
        have hxx : ((t.tens).map Ten.pv)[i]? = some (.agg [.int .i64 (x).unit, .int .u32 (x).fns, .int .i64 (x).queue, .sl .unk ((x).wins.map Win.pv), .sl .unk ((x).slts.map Slt.pv)]) := by rw [map_get hxl, hxe]; rfl
        have hwx : IntKind.i64.wrap ((i : Int) + 1) = ((i + 1 : Nat) : Int) := by rw [wrap_i64 (by omega)]; omega
        have hxok : x.ok := by rw [← hxe]; exact ht.tens _ (List.getElem_mem _)
        have hfr : 0 ≤ t.frame ∧ t.frame ≤ 4611686018427387904 := by simp only [Bool.or_eq_false_iff, decide_eq_false_iff_not] at hc0; omega
        have hT : s1.blk (s.nxt) = some (.row 24 [.agg [.int .i64 (t).frame, .sl .unk ((t).tens.map Ten.pv)]]) := K1.hd
        have hTn0 : (s.nxt = s1.nxt) = False := K1.ne 0
        have hTn1 : (s.nxt = s1.nxt + 1) = False := K1.ne 1
        have hTn2 : (s.nxt = s1.nxt + 2) = False := K1.ne 2
        have hTn3 : (s.nxt = s1.nxt + 3) = False := K1.ne 3
        have hTp2 : (s.nxt = s1.nxt + 1 + 1) = False := K1.ne 2
        have hTp3 : (s.nxt = s1.nxt + 1 + 1 + 1) = False := K1.ne 3
        have H := aj hxx (aj hwx (aj hxl (aj hT (aj hTn0 (aj hTn1 (aj hTn2 (aj hTn3 (aj hTp2 (aj hTp3 H)))))))))
        refine rg [1, 4, 26, 27] (k := rs (k := rr (k := ro (pre := [_, _]) (k := rC (h := ref11_tenant ht hfr hxl hxe) (k := rh [1, 4, 5, 26, 27] (k := rs (k := rg [1, 4, 5, 26, 27, 34] (k := rc (ht := fun hc3 => ?_) (hf := fun hc3 => ?_)))))))))
        · refine rs (k := rg [2, 3] (k := rR (k := ?_)))
          refine Ret.pure (by simp only [Try.f24, go_sem] <;> rfl) rfl (by simp only [go_sem, reduceCtorEq, false_implies, implies_true]) hwf (by first | exact ((Fr.refl hwf).new _).blk | exact (K1.fr).blk) ⟨?_, rfl⟩
          · first
              | (rw [tabWhere, if_pos (by simpa using hc0)]; rfl)
              | (rw [tabWhere, if_neg (by simpa using hc0), if_pos (by simp only [Bool.or_eq_true, decide_eq_true_eq] at hc1; omega)]; rfl)
              | (have h0 : ¬ (t.frame < 1 ∨ 2000 < t.frame) := by simpa using hc0
                 have h1 : ¬ (t.tens.length < 1 ∨ 4 < t.tens.length) := by simp only [Bool.or_eq_false_iff, decide_eq_false_iff_not] at hc1; omega
                 rw [tabWhere, if_neg h0, if_neg h1]
                 first
                   | (have e0 : tenAt t x i ≠ 0 := by simpa using hc3
                      rw [tabWhereA_step hxl, hxe] at hidx
                      rw [hidx]
                      unfold tenAt at e0 ⊢
                      by_cases h : tenWhy x t.frame = 0
                      · rw [if_neg (by simp [h])] at e0 ⊢
                        rw [if_neg (by simp [h]), if_pos e0]; rfl
                      · rw [if_pos h] at e0 ⊢
                        rw [if_pos h]; rfl)
                   | (have : i = t.tens.length := by have := of_decide_eq_false hc2; omega
                      rw [this, List.drop_length] at hidx
                      rw [hidx]; rfl))
        · refine rk (k := rB (k := rg [1, 26, 27] (k := ?_)))
          have e0 : tenAt t x i = 0 := by simpa using hc3
          unfold tenAt at e0
          have e1 : tenWhy x t.frame = 0 := by
            by_cases h : tenWhy x t.frame = 0
            · exact h
            · rw [if_pos h] at e0; exact e0
          have e2 : tenBeside x (t.tens.take i) = 0 := by rwa [if_neg (by simp [e1])] at e0
          rw [tabWhereA_step hxl, hxe, if_neg (by simp [e1]), if_neg (by simp [e2])] at hidx
          refine Run.lp ⟨⟨K1, i + 1, rfl, by omega, hidx⟩, ?_⟩
          simp only [ivar, go_sem, ↓reduceIte, Nat.reduceEqDiff]
          omega
      · refine rX (k := rs (k := rg [2, 3] (k := rR (k := ?_))))
        refine Ret.pure (by simp only [Try.f24, go_sem] <;> rfl) rfl (by simp only [go_sem, reduceCtorEq, false_implies, implies_true]) hwf (by first | exact ((Fr.refl hwf).new _).blk | exact (K1.fr).blk) ⟨?_, rfl⟩
        · first
            | (rw [tabWhere, if_pos (by simpa using hc0)]; rfl)
            | (rw [tabWhere, if_neg (by simpa using hc0), if_pos (by simp only [Bool.or_eq_true, decide_eq_true_eq] at hc1; omega)]; rfl)
            | (have h0 : ¬ (t.frame < 1 ∨ 2000 < t.frame) := by simpa using hc0
               have h1 : ¬ (t.tens.length < 1 ∨ 4 < t.tens.length) := by simp only [Bool.or_eq_false_iff, decide_eq_false_iff_not] at hc1; omega
               rw [tabWhere, if_neg h0, if_neg h1]
               first
                 | (have e0 : tenAt t x i ≠ 0 := by simpa using hc3
                    rw [tabWhereA_step hxl, hxe] at hidx
                    rw [hidx]
                    unfold tenAt at e0 ⊢
                    by_cases h : tenWhy x t.frame = 0
                    · rw [if_neg (by simp [h])] at e0 ⊢
                      rw [if_neg (by simp [h]), if_pos e0]; rfl
                    · rw [if_pos h] at e0 ⊢
                      rw [if_pos h]; rfl)
                 | (have : i = t.tens.length := by have := of_decide_eq_false hc2; omega
                    rw [this, List.drop_length] at hidx
                    rw [hidx]; rfl))
theorem Ten.ext5 {a b : Ten} (h1 : a.unit = b.unit) (h2 : a.fns = b.fns) (h3 : a.queue = b.queue) (h4 : a.wins = b.wins) (h5 : a.slts = b.slts) : a = b := by
  cases a; cases b; simp at *; exact ⟨h1, h2, h3, h4, h5⟩
theorem Tab.ext2 {a b : Tab} (h1 : a.frame = b.frame) (h2 : a.tens = b.tens) : a = b := by
  cases a; cases b; simp at *; exact ⟨h1, h2⟩
theorem take_eq_all {α : Type} {l m : List α} {i : Nat} (h : i = l.length) (hl : l.length = m.length) (e : l.take i = m.take i) : l = m := by
  rw [h, List.take_length, hl, List.take_length] at e; exact e
theorem ref11_Same {a b : Ten} (ha : a.ok) {s : St} : ACalls Try.prog 37 [a.pv, b.pv] s (fun r s' => r = .bool (tenSame a b) ∧ s' = s) := by
  refine go Try.func37 (k := fun hwf H => ?_)
  have hbw := ha.bw
  have hbs := ha.bs
  refine rs (k := rg [2, 3] (k := rs (k := rs (k := rg [2, 3, 43] (k := rc (ht := fun hc0 => ?_) (hf := fun hc0 => ?_))))))
  · refine rs (k := rg [4] (k := rR (k := ?_)))
    refine Ret.pure (by simp only [Try.f37, go_sem] <;> rfl) rfl (by simp only [go_sem, reduceCtorEq, false_implies, implies_true]) hwf (by first | exact (((Fr.refl hwf).new _).new _).blk) ⟨?_, rfl⟩
    · first
        | (have hne : a ≠ b := by rintro rfl; simp at hc0
           rw [tenSame, decide_eq_false hne]; rfl)
        | (have hne : a ≠ b := by
             rintro rfl
             rw [hxe] at hye
             subst hye
             first
               | (simp at hc2; done)
               | (simp at hc4; done)
           rw [tenSame, decide_eq_false hne]; rfl)
        | (have he : a = b := Ten.ext5 hfl.1 hfl.2.1 hfl.2.2.1 (take_eq_all (by have := of_decide_eq_false hc1; omega) hfl.2.2.2.1 hbe) (take_eq_all (by have := of_decide_eq_false hc3; omega) hfl.2.2.2.2 hbs2)
           rw [tenSame, decide_eq_true he]; rfl)
  · refine rk (k := rs (k := rs (k := ?_)))
    have hfl : a.unit = b.unit ∧ a.fns = b.fns ∧ a.queue = b.queue ∧ a.wins.length = b.wins.length ∧ a.slts.length = b.slts.length := by
      simp only [Bool.or_eq_false_iff, Bool.not_eq_false', decide_eq_true_eq] at hc0
      omega
    refine rg [2, 3, 46, 47] (k := rb (k := ?_))
    refine Run.loop (fun e s' => s' = (s.new (.row 53 [.agg [.int .i64 (a).unit, .int .u32 (a).fns, .int .i64 (a).queue, .sl .unk ((a).wins.map Win.pv), .sl .unk ((a).slts.map Slt.pv)]])).new (.row 53 [.agg [.int .i64 (b).unit, .int .u32 (b).fns, .int .i64 (b).queue, .sl .unk ((b).wins.map Win.pv), .sl .unk ((b).slts.map Slt.pv)]]) ∧ ∃ i : Nat, e = [(2, .ptr s.nxt 0 0), (3, .ptr (s.nxt + 1) 0 0), (46, .int .i64 a.wins.length), (47, .int .i64 i)] ∧ i ≤ a.wins.length ∧ a.wins.take i = b.wins.take i) (fun e s' => (a.wins).length - ivar e 47) ?_ ?_
    · exact ⟨rfl, 0, rfl, by omega, rfl⟩
    rintro e s' ⟨hs, i, rfl, hi, hbe⟩
    subst s'
    refine rs (k := rg [2, 3, 46, 47, 48] (k := rs (k := rc (ht := fun hc1 => ?_) (hf := fun hc1 => ?_))))
    · refine rk (k := rs (k := rb (k := rs (k := ?_))))
      have hil : i < (a.wins).length := by have := of_decide_eq_true hc1; omega
      have hjl : i < (b.wins).length := by omega
      obtain ⟨x, hxe⟩ : ∃ z_, (a.wins)[i]'hil = z_ := ⟨_, rfl⟩
      have hxx : ((a.wins).map Win.pv)[i]? = some (.agg [.int .i64 (x).space, .int .i64 (x).virt, .int .i64 (x).phys, .int .i64 (x).cnt]) := by rw [map_get hil, hxe]; rfl
      obtain ⟨y, hye⟩ : ∃ z_, (b.wins)[i]'hjl = z_ := ⟨_, rfl⟩
      have hxy : ((b.wins).map Win.pv)[i]? = some (.agg [.int .i64 (y).space, .int .i64 (y).virt, .int .i64 (y).phys, .int .i64 (y).cnt]) := by rw [map_get hjl, hye]; rfl
      have hwi : IntKind.i64.wrap ((i : Int) + 1) = ((i + 1 : Nat) : Int) := by rw [wrap_i64 (by omega)]; omega
      have H := aj hxx (aj hxy (aj hwi (aj hil (aj hjl H))))
      refine rg [2, 3, 5, 46, 47] (k := rs (k := ?_))
      refine Run.drawC [] [2, 3, 46, 47, 60] Try.mixed (by kernel_rfl) ?_
      refine DetC.all au ?_
      refine re (k := rc (ht := fun hc2 => ?_) (hf := fun hc2 => ?_))
      · refine rs (k := rg [4] (k := rR (k := ?_)))
        refine Ret.pure (by simp only [Try.f37, go_sem] <;> rfl) rfl (by simp only [go_sem, reduceCtorEq, false_implies, implies_true]) hwf (by first | exact (((Fr.refl hwf).new _).new _).blk) ⟨?_, rfl⟩
        · first
            | (have hne : a ≠ b := by rintro rfl; simp at hc0
               rw [tenSame, decide_eq_false hne]; rfl)
            | (have hne : a ≠ b := by
                 rintro rfl
                 rw [hxe] at hye
                 subst hye
                 first
                   | (simp at hc2; done)
                   | (simp at hc4; done)
               rw [tenSame, decide_eq_false hne]; rfl)
            | (have he : a = b := Ten.ext5 hfl.1 hfl.2.1 hfl.2.2.1 (take_eq_all (by have := of_decide_eq_false hc1; omega) hfl.2.2.2.1 hbe) (take_eq_all (by have := of_decide_eq_false hc3; omega) hfl.2.2.2.2 hbs2)
               rw [tenSame, decide_eq_true he]; rfl)
      · refine rk (k := rB (k := rg [2, 3, 46, 47] (k := ?_)))
        have hxy : x = y := by
          simp at hc2
          exact Win.ext4 hc2.1 hc2.2.1 hc2.2.2.1 hc2.2.2.2
        refine Run.lp ⟨⟨rfl, i + 1, rfl, by omega, by rw [take_get hil, take_get hjl, hbe, hxe, hye, hxy]⟩, ?_⟩
        simp only [ivar, go_sem, ↓reduceIte, Nat.reduceEqDiff]
        omega
    · refine rX (k := rs (k := rs (k := rg [2, 3, 64, 65] (k := rb (k := ?_)))))
      refine Run.loop (fun e s' => s' = (s.new (.row 53 [.agg [.int .i64 (a).unit, .int .u32 (a).fns, .int .i64 (a).queue, .sl .unk ((a).wins.map Win.pv), .sl .unk ((a).slts.map Slt.pv)]])).new (.row 53 [.agg [.int .i64 (b).unit, .int .u32 (b).fns, .int .i64 (b).queue, .sl .unk ((b).wins.map Win.pv), .sl .unk ((b).slts.map Slt.pv)]]) ∧ ∃ j : Nat, e = [(2, .ptr s.nxt 0 0), (3, .ptr (s.nxt + 1) 0 0), (64, .int .i64 a.slts.length), (65, .int .i64 j)] ∧ j ≤ a.slts.length ∧ a.slts.take j = b.slts.take j) (fun e s' => (a.slts).length - ivar e 65) ?_ ?_
      · exact ⟨rfl, 0, rfl, by omega, rfl⟩
      rintro e s' ⟨hs, j, rfl, hj, hbs2⟩
      subst s'
      refine rs (k := rg [2, 3, 64, 65, 66] (k := rs (k := rc (ht := fun hc3 => ?_) (hf := fun hc3 => ?_))))
      · refine rk (k := rs (k := rb (k := rs (k := ?_))))
        have hil : j < (a.slts).length := by have := of_decide_eq_true hc3; omega
        have hjl : j < (b.slts).length := by omega
        obtain ⟨x, hxe⟩ : ∃ z_, (a.slts)[j]'hil = z_ := ⟨_, rfl⟩
        have hxx : ((a.slts).map Slt.pv)[j]? = some (.agg [.int .i64 (x).pos, .int .i64 (x).len]) := by rw [map_get hil, hxe]; rfl
        obtain ⟨y, hye⟩ : ∃ z_, (b.slts)[j]'hjl = z_ := ⟨_, rfl⟩
        have hxy : ((b.slts).map Slt.pv)[j]? = some (.agg [.int .i64 (y).pos, .int .i64 (y).len]) := by rw [map_get hjl, hye]; rfl
        have hwj : IntKind.i64.wrap ((j : Int) + 1) = ((j + 1 : Nat) : Int) := by rw [wrap_i64 (by omega)]; omega
        have H := aj hxx (aj hxy (aj hwj (aj hil (aj hjl H))))
        refine rg [2, 3, 6, 64, 65] (k := rs (k := ?_))
        refine Run.drawC [] [2, 3, 64, 65, 78] Try.mixed (by kernel_rfl) ?_
        refine DetC.all au ?_
        refine re (k := rc (ht := fun hc4 => ?_) (hf := fun hc4 => ?_))
        · refine rs (k := rg [4] (k := rR (k := ?_)))
          refine Ret.pure (by simp only [Try.f37, go_sem] <;> rfl) rfl (by simp only [go_sem, reduceCtorEq, false_implies, implies_true]) hwf (by first | exact (((Fr.refl hwf).new _).new _).blk) ⟨?_, rfl⟩
          · first
              | (have hne : a ≠ b := by rintro rfl; simp at hc0
                 rw [tenSame, decide_eq_false hne]; rfl)
              | (have hne : a ≠ b := by
                   rintro rfl
                   rw [hxe] at hye
                   subst hye
                   first
                     | (simp at hc2; done)
                     | (simp at hc4; done)
                 rw [tenSame, decide_eq_false hne]; rfl)
              | (have he : a = b := Ten.ext5 hfl.1 hfl.2.1 hfl.2.2.1 (take_eq_all (by have := of_decide_eq_false hc1; omega) hfl.2.2.2.1 hbe) (take_eq_all (by have := of_decide_eq_false hc3; omega) hfl.2.2.2.2 hbs2)
                 rw [tenSame, decide_eq_true he]; rfl)
        · refine rk (k := rB (k := rg [2, 3, 64, 65] (k := ?_)))
          have hxy : x = y := by
            simp at hc4
            exact Slt.ext2 hc4.1 hc4.2
          refine Run.lp ⟨⟨rfl, j + 1, rfl, by omega, by rw [take_get hil, take_get hjl, hbs2, hxe, hye, hxy]⟩, ?_⟩
          simp only [ivar, go_sem, ↓reduceIte, Nat.reduceEqDiff]
          omega
      · refine rX (k := rs (k := rg [4] (k := rR (k := ?_))))
        refine Ret.pure (by simp only [Try.f37, go_sem] <;> rfl) rfl (by simp only [go_sem, reduceCtorEq, false_implies, implies_true]) hwf (by first | exact (((Fr.refl hwf).new _).new _).blk) ⟨?_, rfl⟩
        · first
            | (have hne : a ≠ b := by rintro rfl; simp at hc0
               rw [tenSame, decide_eq_false hne]; rfl)
            | (have hne : a ≠ b := by
                 rintro rfl
                 rw [hxe] at hye
                 subst hye
                 first
                   | (simp at hc2; done)
                   | (simp at hc4; done)
               rw [tenSame, decide_eq_false hne]; rfl)
            | (have he : a = b := Ten.ext5 hfl.1 hfl.2.1 hfl.2.2.1 (take_eq_all (by have := of_decide_eq_false hc1; omega) hfl.2.2.2.1 hbe) (take_eq_all (by have := of_decide_eq_false hc3; omega) hfl.2.2.2.2 hbs2)
               rw [tenSame, decide_eq_true he]; rfl)
theorem ref11_Equal {a b : Tab} (ha : a.ok) {s : St} : ACalls Try.prog 21 [a.pv, b.pv] s (fun r s' => r = .bool (tabSame a b) ∧ s' = s) := by
  refine go Try.func21 (k := fun hwf H => ?_)
  have hbt := ha.bt
  refine rs (k := rg [2, 3] (k := rs (k := rs (k := rg [2, 3, 19] (k := rc (ht := fun hc0 => ?_) (hf := fun hc0 => ?_))))))
  · refine rs (k := rg [4] (k := rR (k := ?_)))
    refine Ret.pure (by simp only [Try.f21, go_sem] <;> rfl) rfl (by simp only [go_sem, reduceCtorEq, false_implies, implies_true]) hwf (by first | exact (((Fr.refl hwf).new _).new _).blk) ⟨?_, rfl⟩
    · first
        | (have hne : a ≠ b := by rintro rfl; simp at hc0
           rw [tabSame, decide_eq_false hne]; rfl)
        | (have hne : a ≠ b := by
             rintro rfl
             rw [hxe] at hye
             subst hye
             simp [tenSame] at hc2
           rw [tabSame, decide_eq_false hne]; rfl)
        | (have he : a = b := Tab.ext2 hfl.1 (take_eq_all (by have := of_decide_eq_false hc1; omega) hfl.2 hbe)
           rw [tabSame, decide_eq_true he]; rfl)
  · refine rk (k := rs (k := rs (k := ?_)))
    have hfl : a.frame = b.frame ∧ a.tens.length = b.tens.length := by
      simp only [Bool.or_eq_false_iff, Bool.not_eq_false', decide_eq_true_eq] at hc0
      omega
    refine rg [2, 3, 22, 23] (k := rb (k := ?_))
    refine Run.loop (fun e s' => s' = (s.new (.row 24 [.agg [.int .i64 (a).frame, .sl .unk ((a).tens.map Ten.pv)]])).new (.row 24 [.agg [.int .i64 (b).frame, .sl .unk ((b).tens.map Ten.pv)]]) ∧ ∃ i : Nat, e = [(2, .ptr s.nxt 0 0), (3, .ptr (s.nxt + 1) 0 0), (22, .int .i64 a.tens.length), (23, .int .i64 i)] ∧ i ≤ a.tens.length ∧ a.tens.take i = b.tens.take i) (fun e s' => (a.tens).length - ivar e 23) ?_ ?_
    · exact ⟨rfl, 0, rfl, by omega, rfl⟩
    rintro e s' ⟨hs, i, rfl, hi, hbe⟩
    subst s'
    refine rs (k := rg [2, 3, 22, 23, 24] (k := rs (k := rc (ht := fun hc1 => ?_) (hf := fun hc1 => ?_))))
    · refine rk (k := rs (k := rb (k := rs (k := ?_))))
      have hil : i < (a.tens).length := by have := of_decide_eq_true hc1; omega
      have hjl : i < (b.tens).length := by omega
      obtain ⟨x, hxe⟩ : ∃ z_, (a.tens)[i]'hil = z_ := ⟨_, rfl⟩
      have hxx : ((a.tens).map Ten.pv)[i]? = some (.agg [.int .i64 (x).unit, .int .u32 (x).fns, .int .i64 (x).queue, .sl .unk ((x).wins.map Win.pv), .sl .unk ((x).slts.map Slt.pv)]) := by rw [map_get hil, hxe]; rfl
      obtain ⟨y, hye⟩ : ∃ z_, (b.tens)[i]'hjl = z_ := ⟨_, rfl⟩
      have hxy : ((b.tens).map Ten.pv)[i]? = some (.agg [.int .i64 (y).unit, .int .u32 (y).fns, .int .i64 (y).queue, .sl .unk ((y).wins.map Win.pv), .sl .unk ((y).slts.map Slt.pv)]) := by rw [map_get hjl, hye]; rfl
      have hwi : IntKind.i64.wrap ((i : Int) + 1) = ((i + 1 : Nat) : Int) := by rw [wrap_i64 (by omega)]; omega
      have H := aj hxx (aj hxy (aj hwi (aj hil (aj hjl H))))
      refine rg [2, 3, 5, 22, 23] (k := rs (k := ?_))
      refine Run.drawC [] [2, 3, 22, 23, 37] Try.mixed (by kernel_rfl) ?_
      refine DetC.pre (pre := [_, _, _, _, _, _, _, _, _, _]) au ?_
      refine DetC.call au au au (by kernel_rfl) (ref11_Same (a := x) (b := y) (by rw [← hxe]; exact ha.tens _ (List.getElem_mem _))) ?_
      refine DetC.all au ?_
      refine re (k := rc (ht := fun hc2 => ?_) (hf := fun hc2 => ?_))
      · refine rs (k := rg [4] (k := rR (k := ?_)))
        refine Ret.pure (by simp only [Try.f21, go_sem] <;> rfl) rfl (by simp only [go_sem, reduceCtorEq, false_implies, implies_true]) hwf (by first | exact (((Fr.refl hwf).new _).new _).blk) ⟨?_, rfl⟩
        · first
            | (have hne : a ≠ b := by rintro rfl; simp at hc0
               rw [tabSame, decide_eq_false hne]; rfl)
            | (have hne : a ≠ b := by
                 rintro rfl
                 rw [hxe] at hye
                 subst hye
                 simp [tenSame] at hc2
               rw [tabSame, decide_eq_false hne]; rfl)
            | (have he : a = b := Tab.ext2 hfl.1 (take_eq_all (by have := of_decide_eq_false hc1; omega) hfl.2 hbe)
               rw [tabSame, decide_eq_true he]; rfl)
      · refine rk (k := rB (k := rg [2, 3, 22, 23] (k := ?_)))
        have hxy : x = y := by simpa [tenSame] using hc2
        refine Run.lp ⟨⟨rfl, i + 1, rfl, by omega, by rw [take_get hil, take_get hjl, hbe, hxe, hye, hxy]⟩, ?_⟩
        simp only [ivar, go_sem, ↓reduceIte, Nat.reduceEqDiff]
        omega
    · refine rX (k := rs (k := rg [4] (k := rR (k := ?_))))
      refine Ret.pure (by simp only [Try.f21, go_sem] <;> rfl) rfl (by simp only [go_sem, reduceCtorEq, false_implies, implies_true]) hwf (by first | exact (((Fr.refl hwf).new _).new _).blk) ⟨?_, rfl⟩
      · first
          | (have hne : a ≠ b := by rintro rfl; simp at hc0
             rw [tabSame, decide_eq_false hne]; rfl)
          | (have hne : a ≠ b := by
               rintro rfl
               rw [hxe] at hye
               subst hye
               simp [tenSame] at hc2
             rw [tabSame, decide_eq_false hne]; rfl)
          | (have he : a = b := Tab.ext2 hfl.1 (take_eq_all (by have := of_decide_eq_false hc1; omega) hfl.2 hbe)
             rw [tabSame, decide_eq_true he]; rfl)
end Go.Proofs
namespace Go.Proofs
open Go.PM
set_option maxHeartbeats 2000000
theorem clip_u8 {xs : List Int} {s : St} : ACalls Try.prog 30 [.sl .unk (xs.map (PV.int .u8))] s (fun r s' => r = .sl .unc (xs.map (PV.int .u8)) ∧ s' = s) := by
  refine go Try.func30 (k := fun hwf H => ?_)
  have hfull : (xs.map (PV.int .u8)).take xs.length = xs.map (PV.int .u8) := by rw [← List.length_map (f := (PV.int .u8)), List.take_length]
  have H := aj hfull H
  refine rs (k := rg [0] (k := rs (k := rg [2] (k := rR (k := ?_)))))
  refine Ret.pureK (r := .sl .unc (xs.map (PV.int .u8))) au (by simp only [PV.blw]; exact ⟨fun t z e => (by cases e), blws_u8 _ _⟩) hwf (fun _ _ => rfl) ⟨rfl, rfl⟩
theorem equal_u8 {xs ys : List Int} (nx : xs.length < 140737488355328) {s : St} : ACalls Try.prog 46 [.sl .unk (xs.map (PV.int .u8)), .sl .unk (ys.map (PV.int .u8))] s (fun r s' => r = .bool (decide (xs = ys)) ∧ s' = s) := by
  refine go Try.func46 (k := fun hwf H => ?_)
  refine rs (k := rg [0, 1] (k := rs (k := rs (k := rg [0, 1, 10] (k := rc (ht := fun hc0 => ?_) (hf := fun hc0 => ?_))))))
  · refine rs (k := rg [4] (k := rR (k := rP (by simp only [Try.f46, go_sem]; rfl) hwf ⟨?_, rfl⟩)))
    first
      | (have hne : xs ≠ ys := by rintro rfl; simp at hc0
         rw [decide_eq_false hne]; rfl)
      | (have hne : xs ≠ ys := by
           rintro rfl
           rw [hxe] at hye
           subst hye
           simp at hc2
         rw [decide_eq_false hne]; rfl)
      | (have hlen : xs.length = ys.length := by simp at hc0; omega
         have : i = xs.length := by have := of_decide_eq_false hc1; omega
         rw [this, List.take_length, hlen, List.take_length] at hbe
         rw [decide_eq_true hbe]; rfl)
  · refine rk (k := rs (k := rs (k := ?_)))
    have hlen : xs.length = ys.length := by simp at hc0; omega
    refine rg [0, 1, 12, 13] (k := rb (k := ?_))
    refine Run.loop (fun e s' => s' = s ∧ ∃ i : Nat, e = [(0, .sl .unk (xs.map (PV.int .u8))), (1, .sl .unk (ys.map (PV.int .u8))), (12, .int .i64 xs.length), (13, .int .i64 i)] ∧ i ≤ xs.length ∧ xs.take i = ys.take i) (fun e s' => xs.length - ivar e 13) ?_ ?_
    · exact ⟨rfl, 0, rfl, by omega, rfl⟩
    rintro e s' ⟨hs, i, rfl, hi, hbe⟩
    subst s'
    refine rs (k := rg [0, 1, 12, 13, 14] (k := rs (k := rc (ht := fun hc1 => ?_) (hf := fun hc1 => ?_))))
    · refine rk (k := rs (k := rb (k := rs (k := ?_))))
      have hil : i < xs.length := by have := of_decide_eq_true hc1; omega
      have hjl : i < ys.length := by omega
      obtain ⟨x, hxe⟩ : ∃ z_, xs[i]'hil = z_ := ⟨_, rfl⟩
      have hxx : (xs.map (PV.int .u8))[i]? = some (.int .u8 x) := by rw [map_get hil, hxe]
      obtain ⟨y, hye⟩ : ∃ z_, ys[i]'hjl = z_ := ⟨_, rfl⟩
      have hxy : (ys.map (PV.int .u8))[i]? = some (.int .u8 y) := by rw [map_get hjl, hye]
      have hw : IntKind.i64.wrap ((i : Int) + 1) = ((i + 1 : Nat) : Int) := by rw [wrap_i64 (by omega)]; omega
      have H := aj hxx (aj hxy (aj hw H))
      refine rg [0, 1, 5, 12, 13] (k := rs (k := ?_))
      refine Run.drawC [] [0, 1, 12, 13, 24] Try.mixed (by kernel_rfl) ?_
      refine DetC.all au ?_
      refine re (k := rc (ht := fun hc2 => ?_) (hf := fun hc2 => ?_))
      · refine rs (k := rg [4] (k := rR (k := rP (by simp only [Try.f46, go_sem]; rfl) hwf ⟨?_, rfl⟩)))
        first
          | (have hne : xs ≠ ys := by rintro rfl; simp at hc0
             rw [decide_eq_false hne]; rfl)
          | (have hne : xs ≠ ys := by
               rintro rfl
               rw [hxe] at hye
               subst hye
               simp at hc2
             rw [decide_eq_false hne]; rfl)
          | (have hlen : xs.length = ys.length := by simp at hc0; omega
             have : i = xs.length := by have := of_decide_eq_false hc1; omega
             rw [this, List.take_length, hlen, List.take_length] at hbe
             rw [decide_eq_true hbe]; rfl)
      · refine rk (k := rB (k := rg [0, 1, 12, 13] (k := ?_)))
        have hxy : x = y := by simpa using hc2
        refine Run.lp ⟨⟨rfl, i + 1, rfl, by omega, ?_⟩, ?_⟩
        · rw [take_get hil, take_get hjl, hbe, hxe, hye, hxy]
        · simp only [ivar, go_sem, ↓reduceIte, Nat.reduceEqDiff]
          omega
    · refine rX (k := rs (k := rg [4] (k := rR (k := rP (by simp only [Try.f46, go_sem]; rfl) hwf ⟨?_, rfl⟩))))
      first
        | (have hne : xs ≠ ys := by rintro rfl; simp at hc0
           rw [decide_eq_false hne]; rfl)
        | (have hne : xs ≠ ys := by
             rintro rfl
             rw [hxe] at hye
             subst hye
             simp at hc2
           rw [decide_eq_false hne]; rfl)
        | (have hlen : xs.length = ys.length := by simp at hc0; omega
           have : i = xs.length := by have := of_decide_eq_false hc1; omega
           rw [this, List.take_length, hlen, List.take_length] at hbe
           rw [decide_eq_true hbe]; rfl)
theorem clone_u8_nil {s : St} : ACalls Try.prog 47 [.sl .nil []] s (fun r s' => r = .sl .unk [] ∧ s' = s) := by
  refine go Try.func47 (k := fun hwf H => ?_)
  refine rs (k := rg [0] (k := rs (k := rs (k := rg [0, 4] (k := rc (ht := fun hc0 => ?_) (hf := fun hc0 => ?_))))))
  · refine rs (k := rg [2] (k := rR (k := rP (by simp only [Try.f47, go_sem]; rfl) hwf ⟨?_, rfl⟩)))
    rfl
  · cases hc0
theorem clone_u8_any {xs : List Int} (hb : xs.length * 1 ≤ 140737488355328) {s : St} : ACalls Try.prog 47 [.sl .any (xs.map (PV.int .u8))] s (fun r s' => r = .sl .unk (xs.map (PV.int .u8)) ∧ s' = s) := by
  refine go Try.func47 (k := fun hwf H => ?_)
  refine rs (k := rg [0] (k := rs (k := rs (k := rg [0, 4] (k := rc (ht := fun hc0 => ?_) (hf := fun hc0 => ?_))))))
  · cases hc0
  · refine rk (k := rs (k := rr (k := rO (k := ro (pre := [_]) (k := ?_)))))
    refine RunO.grow' au au au Try.td33 (by rw [Try.zp5]; rfl) (by intro el hel; cases hel) (isEls_map (P := Try.prog) (e := 5) (f := PV.int .u8) (fun a => ⟨rfl, by rw [Try.cz5]; rfl⟩) _) (by rw [Try.by5]; decide) (by rw [Try.by5]; simp; omega) (.inr (.inl (.inl rfl))) ?_
    intro k1 s1 hgr htm
    refine rh [2] (k := rR (k := ?_))
    refine Ret.pure (by simp only [Try.f47, go_sem] <;> rfl) (r' := .sl .unk (xs.map (PV.int .u8))) (by rw [PV.weak, weaks_u8]) (by simp only [PV.blw]; exact ⟨fun t z e => (by cases e), blws_u8 _ _⟩) hwf (by first | exact ((Fr.refl hwf).tm htm (fun t z e => by cases e)).blk) ⟨?_, rfl⟩
    · rfl
theorem clone_u8 {xs : List Int} (hb : xs.length * 1 ≤ 140737488355328) {s : St} : ACalls Try.prog 47 [.sl .unk (xs.map (PV.int .u8))] s (fun r s' => r = .sl .unk (xs.map (PV.int .u8)) ∧ s' = s) :=
  ACalls.unk1 (fun h => by rw [h]; exact clone_u8_nil) (clone_u8_any hb)
theorem cloneg_u8_nil {s : St} : ACalls Try.prog 47 [.sl .nil []] s (fun r s' => Fresh s s' r [] (Try.prog.cellsOf 5)) := by
  refine go Try.func47 (k := fun hwf H => ?_)
  refine rs (k := rg [0] (k := rs (k := rs (k := rg [0, 4] (k := rc (ht := fun hc0 => ?_) (hf := fun hc0 => ?_))))))
  · refine rs (k := rg [2] (k := rR (k := ?_)))
    exact Fresh.ret0 (by simp only [Try.f47, go_sem, ↓reduceIte] <;> rfl) (Fr.refl hwf)
  · cases hc0
theorem cloneg_u8_any {xs : List Int} (hb : xs.length * 1 ≤ 140737488355328) {s : St} : ACalls Try.prog 47 [.sl .any (xs.map (PV.int .u8))] s (fun r s' => Fresh s s' r (xs.map (PV.int .u8)) (Try.prog.cellsOf 5)) := by
  refine go Try.func47 (k := fun hwf H => ?_)
  refine rs (k := rg [0] (k := rs (k := rs (k := rg [0, 4] (k := rc (ht := fun hc0 => ?_) (hf := fun hc0 => ?_))))))
  · cases hc0
  · refine rk (k := rs (k := rr (k := rO (k := ro (pre := [_]) (k := ?_)))))
    refine RunO.grow' au au au Try.td33 (by rw [Try.zp5]; rfl) (by intro el hel; cases hel) (isEls_map (P := Try.prog) (e := 5) (f := PV.int .u8) (fun a => ⟨rfl, by rw [Try.cz5]; rfl⟩) _) (by rw [Try.by5]; decide) (by rw [Try.by5]; simp; omega) (.inr (.inl (.inl rfl))) ?_
    intro k1 s1 hgr htm
    refine rh [2] (k := rR (k := ?_))
    exact Fresh.ret (by simp only [Try.f47, go_sem, ↓reduceIte] <;> rfl) ((Fr.refl hwf).tm htm (fun t z e => by cases e)) (by simpa using hgr) (fun t z e => (htm.fresh t z e).elim (fun ⟨z', h⟩ => by cases h) id)
theorem cloneg_u8 {xs : List Int} (hb : xs.length * 1 ≤ 140737488355328) {s : St} : ACalls Try.prog 47 [.sl .unk (xs.map (PV.int .u8))] s (fun r s' => Fresh s s' r (xs.map (PV.int .u8)) (Try.prog.cellsOf 5)) :=
  ACalls.unk1 (fun h => by rw [h]; exact cloneg_u8_nil) (cloneg_u8_any hb)
theorem crc_Of {l : List Int} (hb : OkB l) (hl : l.length < 140737488355328) {s : St} : ACalls Try.prog 45 [.sl .unk (l.map (PV.int .u8))] s (fun r s' => r = .int .u16 (crcOf l) ∧ s' = s) := by
  refine go Try.func45 (k := fun hwf H => ?_)
  refine rs (k := rg [0] (k := rs (k := rg [0, 3] (k := rs (k := rs (k := rg [3, 7, 8, 9] (k := rb (k := ?_))))))))
  refine Run.loop (fun e s' => s' = s ∧ ∃ (i : Nat) (n : Int), e = [(3, .int .u16 n), (7, .sl .unk (l.map (PV.int .u8))), (8, .int .i64 l.length), (9, .int .i64 (i : Int))] ∧ i ≤ l.length ∧ U16 n ∧ crcOf l = (l.drop i).foldl crcB n) (fun e s' => l.length - ivar e 9) ?_ ?_
  · exact ⟨rfl, 0, 65535, rfl, by omega, by constructor <;> decide, rfl⟩
  rintro e s' ⟨hs, i, n, rfl, hi, hn, hcr⟩
  subst s'
  refine rs (k := rg [3, 7, 8, 9, 10] (k := rs (k := rc (ht := fun hc0 => ?_) (hf := fun hc0 => ?_))))
  · refine rk (k := rs (k := rb (k := rs (k := ?_))))
    have hil : i < l.length := by have := of_decide_eq_true hc0; omega
    obtain ⟨x, hxe⟩ : ∃ z_, l[i]'hil = z_ := ⟨_, rfl⟩
    have hxx : (l.map (PV.int .u8))[i]? = some (.int .u8 x) := by rw [map_get hil, hxe]
    have hw : IntKind.i64.wrap ((i : Int) + 1) = ((i + 1 : Nat) : Int) := by rw [wrap_i64 (by omega)]; omega
    have hx8 := hb x (by rw [← hxe]; exact List.getElem_mem _)
    have hx16 : IntKind.u16.wrap x = x := by rw [u16_wrap]; unfold U8 at hx8; omega
    have H := aj hxx (aj hw (aj hx16 H))
    refine rg [3, 5, 7, 8, 9] (k := rs (k := rg [3, 7, 8, 9] (k := rs (k := rg [3, 7, 8, 9, 17] (k := rb (k := ?_))))))
    refine Run.loop (fun e s' => s' = s ∧ ∃ (j : Nat) (m : Int), e = [(3, .int .u16 m), (7, .sl .unk (l.map (PV.int .u8))), (8, .int .i64 l.length), (9, .int .i64 (i : Int)), (17, .int .i64 (j : Int))] ∧ j ≤ 8 ∧ U16 m ∧ bitN (8 - j) m = bitN 8 (ibits .xor .u16 n x)) (fun e s' => 8 - ivar e 17) ?_ ?_
    · exact ⟨rfl, 0, _, rfl, by omega, ibits_u16 _ _ _, rfl⟩
    rintro e s' ⟨hs, j, m, rfl, hj, hm, hbn⟩
    subst s'
    refine rs (k := rg [3, 7, 8, 9, 17, 18] (k := rs (k := rc (ht := fun hc1 => ?_) (hf := fun hc1 => ?_))))
    · refine rk (k := rs (k := rb (k := rs (k := rg [3, 6, 7, 8, 9, 17] (k := rs (k := rg [3, 6, 7, 8, 9, 17] (k := rs (k := rg [3, 7, 8, 9, 17, 24] (k := rc (ht := fun hc2 => ?_) (hf := fun hc2 => ?_))))))))))
      · refine rg [3, 7, 8, 9, 17] (k := rB (k := rg [3, 7, 8, 9, 17] (k := ?_)))
        have hj8 : (j : Int) < 8 := of_decide_eq_true hc1
        have hbn2 : bitN (8 - (j + 1)) (bitS m) = bitN 8 (ibits .xor .u16 n x) := by rw [← hbn, show 8 - j = (8 - (j + 1)) + 1 by omega]; rfl
        have hd : m.fdiv 2 = m / 2 := Int.fdiv_eq_ediv_of_nonneg _ (by decide)
        have hwj : IntKind.i64.wrap ((j : Int) + 1) = ((j + 1 : Nat) : Int) := by rw [wrap_i64 (by omega)]; omega
        refine Run.lp ⟨⟨rfl, j + 1, bitS m, ?_, by omega, bitS_ok hm, hbn2⟩, ?_⟩
        · have hc2' := hc2
          simp only [decide_eq_true_eq, decide_eq_false_iff_not] at hc2'
          simp [bitS, hc2', hd, hwj]
        · simp only [ivar, go_sem, ↓reduceIte, Nat.reduceEqDiff, hwj]
          omega
      · refine rk (k := rB (k := rg [3, 7, 8, 9, 17] (k := ?_)))
        have hj8 : (j : Int) < 8 := of_decide_eq_true hc1
        have hbn2 : bitN (8 - (j + 1)) (bitS m) = bitN 8 (ibits .xor .u16 n x) := by rw [← hbn, show 8 - j = (8 - (j + 1)) + 1 by omega]; rfl
        have hd : m.fdiv 2 = m / 2 := Int.fdiv_eq_ediv_of_nonneg _ (by decide)
        have hwj : IntKind.i64.wrap ((j : Int) + 1) = ((j + 1 : Nat) : Int) := by rw [wrap_i64 (by omega)]; omega
        refine Run.lp ⟨⟨rfl, j + 1, bitS m, ?_, by omega, bitS_ok hm, hbn2⟩, ?_⟩
        · have hc2' := hc2
          simp only [decide_eq_true_eq, decide_eq_false_iff_not] at hc2'
          simp [bitS, hc2', hd, hwj]
        · simp only [ivar, go_sem, ↓reduceIte, Nat.reduceEqDiff, hwj]
          omega
    · refine rX (k := rB (k := rg [3, 7, 8, 9] (k := ?_)))
      have hj8 : 8 - j = 0 := by have := of_decide_eq_false hc1; omega
      rw [hj8] at hbn
      refine Run.lp ⟨⟨rfl, i + 1, m, rfl, by omega, hm, ?_⟩, ?_⟩
      · rw [hcr, drop_get hil, hxe, List.foldl_cons, crcB, ← hbn]; rfl
      · simp only [ivar, go_sem, ↓reduceIte, Nat.reduceEqDiff]
        omega
  · refine rX (k := rs (k := rg [2] (k := rR (k := rP (by simp only [Try.f45, go_sem]; rfl) hwf ⟨?_, rfl⟩))))
    have : i = l.length := by have := of_decide_eq_false hc0; omega
    rw [hcr, this, List.drop_length]; rfl
theorem ref1_Sum {l : List Int} (hb : OkB l) (hl : l.length < 140737488355328) {s : St} : ACalls Try.prog 27 [.sl .unk (l.map (PV.int .u8))] s (fun r s' => r = .int .u16 (crcOf l) ∧ s' = s) := by
  refine go Try.func27 (k := fun hwf H => ?_)
  refine rs (k := rg [0] (k := rs (k := rg [0, 3] (k := rs (k := rs (k := rg [3, 8, 9, 10] (k := rb (k := ?_))))))))
  refine Run.loop (fun e s' => s' = s ∧ ∃ (i : Nat) (n : Int), e = [(3, .int .u16 n), (8, .sl .unk (l.map (PV.int .u8))), (9, .int .i64 l.length), (10, .int .i64 (i : Int))] ∧ i ≤ l.length ∧ U16 n ∧ crcOf l = (l.drop i).foldl crcB n) (fun e s' => l.length - ivar e 10) ?_ ?_
  · exact ⟨rfl, 0, 65535, rfl, by omega, by constructor <;> decide, rfl⟩
  rintro e s' ⟨hs, i, n, rfl, hi, hn, hcr⟩
  subst s'
  refine rs (k := rg [3, 8, 9, 10, 11] (k := rs (k := rc (ht := fun hc0 => ?_) (hf := fun hc0 => ?_))))
  · refine rk (k := rs (k := rb (k := rs (k := ?_))))
    have hil : i < l.length := by have := of_decide_eq_true hc0; omega
    obtain ⟨x, hxe⟩ : ∃ z_, l[i]'hil = z_ := ⟨_, rfl⟩
    have hxx : (l.map (PV.int .u8))[i]? = some (.int .u8 x) := by rw [map_get hil, hxe]
    have hw : IntKind.i64.wrap ((i : Int) + 1) = ((i + 1 : Nat) : Int) := by rw [wrap_i64 (by omega)]; omega
    have hx8 := hb x (by rw [← hxe]; exact List.getElem_mem _)
    have hx16 : IntKind.u16.wrap x = x := by rw [u16_wrap]; unfold U8 at hx8; omega
    have H := aj hxx (aj hw (aj hx16 H))
    refine rg [3, 5, 8, 9, 10] (k := rs (k := rg [3, 8, 9, 10] (k := rs (k := rg [3, 6, 8, 9, 10] (k := rb (k := ?_))))))
    refine Run.loop (fun e s' => s' = s ∧ ∃ (j : Nat) (m : Int), e = [(3, .int .u16 m), (6, .int .i64 (j : Int)), (8, .sl .unk (l.map (PV.int .u8))), (9, .int .i64 l.length), (10, .int .i64 (i : Int))] ∧ j ≤ 8 ∧ U16 m ∧ bitN (8 - j) m = bitN 8 (ibits .xor .u16 n x)) (fun e s' => 8 - ivar e 6) ?_ ?_
    · exact ⟨rfl, 0, _, rfl, by omega, ibits_u16 _ _ _, rfl⟩
    rintro e s' ⟨hs, j, m, rfl, hj, hm, hbn⟩
    subst s'
    refine rs (k := rs (k := rg [3, 6, 8, 9, 10, 19] (k := rc (ht := fun hc1 => ?_) (hf := fun hc1 => ?_))))
    · refine rk (k := rs (k := rb (k := rs (k := rg [3, 6, 7, 8, 9, 10] (k := rs (k := rg [3, 6, 7, 8, 9, 10] (k := rs (k := rg [3, 6, 8, 9, 10, 27] (k := rc (ht := fun hc2 => ?_) (hf := fun hc2 => ?_))))))))))
      · refine rg [3, 6, 8, 9, 10] (k := rB (k := rg [3, 6, 8, 9, 10] (k := ?_)))
        have hj8 : (j : Int) < 8 := of_decide_eq_true hc1
        have hbn2 : bitN (8 - (j + 1)) (bitS m) = bitN 8 (ibits .xor .u16 n x) := by rw [← hbn, show 8 - j = (8 - (j + 1)) + 1 by omega]; rfl
        have hd : m.fdiv 2 = m / 2 := Int.fdiv_eq_ediv_of_nonneg _ (by decide)
        have hwj : IntKind.i64.wrap ((j : Int) + 1) = ((j + 1 : Nat) : Int) := by rw [wrap_i64 (by omega)]; omega
        refine Run.lp ⟨⟨rfl, j + 1, bitS m, ?_, by omega, bitS_ok hm, hbn2⟩, ?_⟩
        · have hc2' := hc2
          simp only [decide_eq_true_eq, decide_eq_false_iff_not] at hc2'
          simp [bitS, hc2', hd, hwj]
        · simp only [ivar, go_sem, ↓reduceIte, Nat.reduceEqDiff, hwj]
          omega
      · refine rk (k := rB (k := rg [3, 6, 8, 9, 10] (k := ?_)))
        have hj8 : (j : Int) < 8 := of_decide_eq_true hc1
        have hbn2 : bitN (8 - (j + 1)) (bitS m) = bitN 8 (ibits .xor .u16 n x) := by rw [← hbn, show 8 - j = (8 - (j + 1)) + 1 by omega]; rfl
        have hd : m.fdiv 2 = m / 2 := Int.fdiv_eq_ediv_of_nonneg _ (by decide)
        have hwj : IntKind.i64.wrap ((j : Int) + 1) = ((j + 1 : Nat) : Int) := by rw [wrap_i64 (by omega)]; omega
        refine Run.lp ⟨⟨rfl, j + 1, bitS m, ?_, by omega, bitS_ok hm, hbn2⟩, ?_⟩
        · have hc2' := hc2
          simp only [decide_eq_true_eq, decide_eq_false_iff_not] at hc2'
          simp [bitS, hc2', hd, hwj]
        · simp only [ivar, go_sem, ↓reduceIte, Nat.reduceEqDiff, hwj]
          omega
    · refine rX (k := rB (k := rg [3, 8, 9, 10] (k := ?_)))
      have hj8 : 8 - j = 0 := by have := of_decide_eq_false hc1; omega
      rw [hj8] at hbn
      refine Run.lp ⟨⟨rfl, i + 1, m, rfl, by omega, hm, ?_⟩, ?_⟩
      · rw [hcr, drop_get hil, hxe, List.foldl_cons, crcB, ← hbn]; rfl
      · simp only [ivar, go_sem, ↓reduceIte, Nat.reduceEqDiff]
        omega
  · refine rX (k := rs (k := rg [2] (k := rR (k := rP (by simp only [Try.f27, go_sem]; rfl) hwf ⟨?_, rfl⟩))))
    have : i = l.length := by have := of_decide_eq_false hc0; omega
    rw [hcr, this, List.drop_length]; rfl
end Go.Proofs
namespace Go.Proofs
open Go.PM
set_option maxHeartbeats 2000000
theorem octet_Put {l : List Int} {n : Int} (hl : l.length + 2 ≤ 140737488355328) {s : St} : ACalls Try.prog 44 [.sl .unk (l.map (PV.int .u8)), .int .i64 n] s (fun r s' => r = .sl .unk ((l ++ num2 n).map (PV.int .u8)) ∧ s' = s) := by
  refine go Try.func44 (k := fun hwf H => ?_)
  refine rs (k := rg [0, 1] (k := rs (k := rr (k := ro (pre := [_]) (k := ?_)))))
  refine RunO.call au au (by kernel_rfl) ((cloneg_u8 (xs := l) (by omega)).mono ?_)
  rintro r s1 ⟨F1, kk, rfl, hg, htk⟩
  refine ro (pre := [_, _, _, _, _]) (k := rO (k := ?_))
  refine RunO.grow' au au au Try.td33 (by rw [Try.zp5]; rfl) (isEls_map (P := Try.prog) (e := 5) (f := PV.int .u8) (fun a => ⟨rfl, by rw [Try.cz5]; rfl⟩) _) (isEls_map (P := Try.prog) (e := 5) (f := PV.int .u8) (fun a => ⟨rfl, by rw [Try.cz5]; rfl⟩) [_, _]) (by rw [Try.by5]; decide) (by rw [Try.by5]; simp; omega) (by simpa using hg) ?_
  intro k2 s2 hgr htm
  refine rh [4] (k := rR (k := ?_))
  refine Ret.pure (by simp only [Try.f44, go_sem] <;> rfl) (r' := .sl .unk ((l ++ num2 n).map (PV.int .u8))) (by simp [PV.weak, weaks_map, num2, sealB, u8_wrap, u8_hi, Function.comp_def] <;> rfl) (by simp only [PV.blw]; exact ⟨fun t z e => (by cases e), blws_u8 _ _⟩) hwf (by first | exact (F1.tm htm (fun t z e => (htk t z e).1)).blk) ⟨?_, rfl⟩
  · rfl
theorem ref1_Put {l : List Int} {n : Int} (hn : I64 n) (hl : l.length + 2 ≤ 140737488355328) {s : St} : ACalls Try.prog 25 [.sl .unk (l.map (PV.int .u8)), .int .i64 n] s (fun r s' => r = .sl .unk ((l ++ num2 n).map (PV.int .u8)) ∧ s' = s) := by
  refine go Try.func25 (k := fun hwf H => ?_)
  refine rs (k := rg [0, 1] (k := rs (k := rr (k := rO (k := ro (pre := [_]) (k := ?_))))))
  refine RunO.grow' au au au Try.td33 (by rw [Try.zp5]; rfl) (by intro el hel; cases hel) (isEls_map (P := Try.prog) (e := 5) (f := PV.int .u8) (fun a => ⟨rfl, by rw [Try.cz5]; rfl⟩) _) (by rw [Try.by5]; decide) (by rw [Try.by5]; simp; omega) (.inr (.inl (.inl rfl))) ?_
  intro k1 s1 hgr1 htm1
  have hgr1' : Grows s1 k1 l.length (Try.prog.cellsOf 5) := by simpa using hgr1
  refine ro (pre := [_, _, _, _, _, _]) (k := rO (k := ?_))
  refine RunO.grow' au au au Try.td33 (by rw [Try.zp5]; rfl) (isEls_map (P := Try.prog) (e := 5) (f := PV.int .u8) (fun a => ⟨rfl, by rw [Try.cz5]; rfl⟩) _) (isEls_map (P := Try.prog) (e := 5) (f := PV.int .u8) (fun a => ⟨rfl, by rw [Try.cz5]; rfl⟩) [_, _]) (by rw [Try.by5]; decide) (by rw [Try.by5]; simp; omega) (by simpa using hgr1') ?_
  intro k2 s2 hgr2 htm2
  refine rh [4] (k := rR (k := ?_))
  refine Ret.pure (by simp only [Try.f25, go_sem] <;> rfl) (r' := .sl .unk ((l ++ num2 n).map (PV.int .u8))) (by simp [PV.weak, weaks_map, num2, sealB, u8_wrap, u8_hi, Function.comp_def, u64_wrap, hi_u64'] <;> rfl) (by simp only [PV.blw]; exact ⟨fun t z e => (by cases e), blws_u8 _ _⟩) hwf (by first | exact (((Fr.refl hwf).tm htm1 (fun t z e => by cases e)).tm htm2 (fun t z e => (htm1.fresh t z e).elim (fun ⟨z', h⟩ => by cases h) (fun h => h.1))).blk) ⟨?_, rfl⟩
  · rfl
theorem octet_Get {l : List Int} (hb : OkB l) {a : Int} (ha : I64 a) (hl : l.length ≤ 140737488355328) {s : St} : ACalls Try.prog 48 [.sl .unk (l.map (PV.int .u8)), .int .i64 a] s (fun r s' => r = .tuple [.int .i64 ((get2 l a).getD 0), .bool (get2 l a).isSome] ∧ s' = s) := by
  refine go Try.func48 (k := fun hwf H => ?_)
  refine rs (k := rg [0, 1] (k := rs (k := rs (k := ?_))))
  have hw1 : IntKind.i64.wrap ((l.length : Int) - 2) = (l.length : Int) - 2 := wrap_i64 (by omega)
  have H := aj hw1 H
  refine rg [0, 1, 14] (k := rc (ht := fun hc0 => ?_) (hf := fun hc0 => ?_))
  · refine rs (k := rg [4, 5] (k := rR (k := rP (by simp only [Try.f48, go_sem]; rfl) hwf ⟨?_, rfl⟩)))
    first
      | (have : get2 l a = none := by unfold get2; rw [if_neg (by simp at hc0; omega)]
         rw [this]; rfl)
      | (have : get2 l i = some (256 * x + y) := by
           unfold get2
           rw [if_pos (by omega), Int.toNat_natCast, List.getElem?_eq_getElem hi1, List.getElem?_eq_getElem hi2, hxe, hye]; rfl
         rw [this]; rfl)
  · refine rk (k := rs (k := ?_))
    have hcc : 0 ≤ a ∧ a + 2 ≤ l.length := by simp at hc0; omega
    obtain ⟨i, rfl⟩ : ∃ i : Nat, a = i := ⟨a.toNat, (Int.toNat_of_nonneg hcc.1).symm⟩
    have hi1 : i < l.length := by omega
    have hi2 : i + 1 < l.length := by omega
    obtain ⟨x, hxe⟩ : ∃ z_, l[i]'hi1 = z_ := ⟨_, rfl⟩
    obtain ⟨y, hye⟩ : ∃ z_, l[i + 1]'hi2 = z_ := ⟨_, rfl⟩
    have hxx : (l.map (PV.int .u8))[i]? = some (.int .u8 x) := by rw [map_get hi1, hxe]
    have hyy : (l.map (PV.int .u8))[i + 1]? = some (.int .u8 y) := by rw [map_get hi2, hye]
    have hx8 : U8 x := by rw [← hxe]; exact hb _ (List.getElem_mem _)
    have hy8 : U8 y := by rw [← hye]; exact hb _ (List.getElem_mem _)
    have hw : IntKind.i64.wrap ((i : Int) + 1) = ((i + 1 : Nat) : Int) := by rw [wrap_i64 (by omega)]; omega
    have hwx : IntKind.i64.wrap x = x := wrap_i64 (by omega)
    have hwy : IntKind.i64.wrap y = y := wrap_i64 (by omega)
    have hsh : IntKind.i64.wrap (x * 256) = x * 256 := wrap_i64 (by omega)
    have hor : ibits .or .i64 (x * 256) y = 256 * x + y := ibits_or2 hx8 hy8
    have hlt1 : ((i : Int) < (l.length : Int)) = True := eq_true (by omega)
    have hlt2 : (((i + 1 : Nat) : Int) < (l.length : Int)) = True := eq_true (by omega)
    have H := aj hxx (aj hyy (aj hw (aj hwx (aj hwy (aj hsh (aj hor (aj hlt1 (aj hlt2 H))))))))
    refine Run.drawC [] [4, 5] Try.mixed (by kernel_rfl) ?_
    refine DetC.all au ?_
    refine re (k := rR (k := rP (by simp only [Try.f48, go_sem]; rfl) hwf ⟨?_, rfl⟩))
    first
      | (have : get2 l a = none := by unfold get2; rw [if_neg (by simp at hc0; omega)]
         rw [this]; rfl)
      | (have : get2 l i = some (256 * x + y) := by
           unfold get2
           rw [if_pos (by omega), Int.toNat_natCast, List.getElem?_eq_getElem hi1, List.getElem?_eq_getElem hi2, hxe, hye]; rfl
         rw [this]; rfl)
theorem ref1_Get {l : List Int} (hb : OkB l) {a : Int} (ha : I64 a) (hl : l.length ≤ 140737488355328) {s : St} : ACalls Try.prog 58 [.sl .unk (l.map (PV.int .u8)), .int .i64 a] s (fun r s' => r = .tuple [.int .i64 ((get2 l a).getD 0), .bool (get2 l a).isSome] ∧ s' = s) := by
  refine go Try.func58 (k := fun hwf H => ?_)
  refine rs (k := rg [0, 1] (k := rs (k := rs (k := ?_))))
  have hw1 : IntKind.i64.wrap ((l.length : Int) - 2) = (l.length : Int) - 2 := wrap_i64 (by omega)
  have H := aj hw1 H
  refine rg [0, 1, 14] (k := rc (ht := fun hc0 => ?_) (hf := fun hc0 => ?_))
  · refine rs (k := rg [4, 5] (k := rR (k := rP (by simp only [Try.f58, go_sem]; rfl) hwf ⟨?_, rfl⟩)))
    first
      | (have : get2 l a = none := by unfold get2; rw [if_neg (by simp at hc0; omega)]
         rw [this]; rfl)
      | (have : get2 l i = some (256 * x + y) := by
           unfold get2
           rw [if_pos (by omega), Int.toNat_natCast, List.getElem?_eq_getElem hi1, List.getElem?_eq_getElem hi2, hxe, hye]; rfl
         rw [this]; rfl)
  · refine rk (k := rs (k := ?_))
    have hcc : 0 ≤ a ∧ a + 2 ≤ l.length := by simp at hc0; omega
    obtain ⟨i, rfl⟩ : ∃ i : Nat, a = i := ⟨a.toNat, (Int.toNat_of_nonneg hcc.1).symm⟩
    have hi1 : i < l.length := by omega
    have hi2 : i + 1 < l.length := by omega
    obtain ⟨x, hxe⟩ : ∃ z_, l[i]'hi1 = z_ := ⟨_, rfl⟩
    obtain ⟨y, hye⟩ : ∃ z_, l[i + 1]'hi2 = z_ := ⟨_, rfl⟩
    have hxx : (l.map (PV.int .u8))[i]? = some (.int .u8 x) := by rw [map_get hi1, hxe]
    have hyy : (l.map (PV.int .u8))[i + 1]? = some (.int .u8 y) := by rw [map_get hi2, hye]
    have hx8 : U8 x := by rw [← hxe]; exact hb _ (List.getElem_mem _)
    have hy8 : U8 y := by rw [← hye]; exact hb _ (List.getElem_mem _)
    have hw : IntKind.i64.wrap ((i : Int) + 1) = ((i + 1 : Nat) : Int) := by rw [wrap_i64 (by omega)]; omega
    have hwx : IntKind.i64.wrap x = x := wrap_i64 (by omega)
    have hwy : IntKind.i64.wrap y = y := wrap_i64 (by omega)
    have hsh : IntKind.i64.wrap (x * 256) = x * 256 := wrap_i64 (by omega)
    have hor : ibits .or .i64 (x * 256) y = 256 * x + y := ibits_or2 hx8 hy8
    have hlt1 : ((i : Int) < (l.length : Int)) = True := eq_true (by omega)
    have hlt2 : (((i + 1 : Nat) : Int) < (l.length : Int)) = True := eq_true (by omega)
    have H := aj hxx (aj hyy (aj hw (aj hwx (aj hwy (aj hsh (aj hor (aj hlt1 (aj hlt2 H))))))))
    refine Run.drawC [] [4, 5] Try.mixed (by kernel_rfl) ?_
    refine DetC.all au ?_
    refine re (k := rR (k := rP (by simp only [Try.f58, go_sem]; rfl) hwf ⟨?_, rfl⟩))
    first
      | (have : get2 l a = none := by unfold get2; rw [if_neg (by simp at hc0; omega)]
         rw [this]; rfl)
      | (have : get2 l i = some (256 * x + y) := by
           unfold get2
           rw [if_pos (by omega), Int.toNat_natCast, List.getElem?_eq_getElem hi1, List.getElem?_eq_getElem hi2, hxe, hye]; rfl
         rw [this]; rfl)
theorem crc_Seal {l : List Int} (hb : OkB l) (hl : l.length + 2 ≤ 140737488355328) {s : St} : ACalls Try.prog 31 [.sl .unk (l.map (PV.int .u8))] s (fun r s' => r = .sl .unk ((sealB l).map (PV.int .u8)) ∧ s' = s) := by
  refine go Try.func31 (k := fun hwf H => ?_)
  refine rs (k := rg [0] (k := rs (k := rr (k := ro (pre := [_]) (k := ?_)))))
  refine RunO.call au au (by kernel_rfl) ((crc_Of hb (by omega)).mono ?_)
  rintro r s1 ⟨rfl, hs⟩
  subst s1
  refine rh [0, 3] (k := rs (k := rr (k := ro (pre := [_]) (k := ?_))))
  refine RunO.call au au (by kernel_rfl) ((clip_u8 (xs := l)).mono ?_)
  rintro r s1 ⟨rfl, hs⟩
  subst s1
  refine ro (pre := [_, _, _, _, _]) (k := rO (k := ?_))
  refine RunO.grow' au au au Try.td33 (by rw [Try.zp5]; rfl) (isEls_map (P := Try.prog) (e := 5) (f := PV.int .u8) (fun a => ⟨rfl, by rw [Try.cz5]; rfl⟩) _) (isEls_map (P := Try.prog) (e := 5) (f := PV.int .u8) (fun a => ⟨rfl, by rw [Try.cz5]; rfl⟩) [_, _]) (by rw [Try.by5]; decide) (by rw [Try.by5]; simp; omega) (.inr (.inl (.inr rfl))) ?_
  intro k2 s2 hgr htm
  refine rh [2] (k := rR (k := ?_))
  refine Ret.pure (by simp only [Try.f31, go_sem] <;> rfl) (r' := .sl .unk ((sealB l).map (PV.int .u8))) (by simp [PV.weak, weaks_map, num2, sealB, u8_wrap, u8_hi, Function.comp_def, crc_hi'] <;> rfl) (by simp only [PV.blw]; exact ⟨fun t z e => (by cases e), blws_u8 _ _⟩) hwf (by first | exact ((Fr.refl hwf).tm htm (fun t z e => by cases e)).blk) ⟨?_, rfl⟩
  · rfl
theorem ref1_Seal {l : List Int} (hb : OkB l) (hl : l.length + 2 ≤ 140737488355328) {s : St} : ACalls Try.prog 15 [.sl .unk (l.map (PV.int .u8))] s (fun r s' => r = .sl .unk ((sealB l).map (PV.int .u8)) ∧ s' = s) := by
  refine go Try.func15 (k := fun hwf H => ?_)
  refine rs (k := rg [0] (k := rs (k := rr (k := ro (pre := [_]) (k := rC (h := ref1_Sum hb (by omega)) (k := rh [0, 3] (k := rs (k := rr (k := rO (k := ro (pre := [_]) (k := ?_)))))))))))
  refine RunO.grow' au au au Try.td33 (by rw [Try.zp5]; rfl) (by intro el hel; cases hel) (isEls_map (P := Try.prog) (e := 5) (f := PV.int .u8) (fun a => ⟨rfl, by rw [Try.cz5]; rfl⟩) _) (by rw [Try.by5]; decide) (by rw [Try.by5]; simp; omega) (.inr (.inl (.inl rfl))) ?_
  intro k1 s1 hgr1 htm1
  have hgr1' : Grows s1 k1 l.length (Try.prog.cellsOf 5) := by simpa using hgr1
  refine ro (pre := [_, _, _, _, _]) (k := rO (k := ?_))
  refine RunO.grow' au au au Try.td33 (by rw [Try.zp5]; rfl) (isEls_map (P := Try.prog) (e := 5) (f := PV.int .u8) (fun a => ⟨rfl, by rw [Try.cz5]; rfl⟩) _) (isEls_map (P := Try.prog) (e := 5) (f := PV.int .u8) (fun a => ⟨rfl, by rw [Try.cz5]; rfl⟩) [_, _]) (by rw [Try.by5]; decide) (by rw [Try.by5]; simp; omega) (by simpa using hgr1') ?_
  intro k2 s2 hgr2 htm2
  refine rh [2] (k := rR (k := ?_))
  refine Ret.pure (by simp only [Try.f15, go_sem] <;> rfl) (r' := .sl .unk ((sealB l).map (PV.int .u8))) (by simp [PV.weak, weaks_map, num2, sealB, u8_wrap, u8_hi, Function.comp_def, crc_hi'] <;> rfl) (by simp only [PV.blw]; exact ⟨fun t z e => (by cases e), blws_u8 _ _⟩) hwf (by first | exact (((Fr.refl hwf).tm htm1 (fun t z e => by cases e)).tm htm2 (fun t z e => (htm1.fresh t z e).elim (fun ⟨z', h⟩ => by cases h) (fun h => h.1))).blk) ⟨?_, rfl⟩
  · rfl
theorem crc_Open {l : List Int} (hb : OkB l) (hl : l.length ≤ 140737488350000) {s : St} : ACalls Try.prog 32 [.sl .unk (l.map (PV.int .u8))] s (fun r s' => r = .tuple [.sl .unk (((openB l).getD []).map (PV.int .u8)), .bool (openB l).isSome] ∧ s' = s) := by
  refine go Try.func32 (k := fun hwf H => ?_)
  refine rs (k := rg [0] (k := rs (k := ?_)))
  have hw1 : IntKind.i64.wrap ((l.length : Int) - 2) = (l.length : Int) - 2 := wrap_i64 (by omega)
  have H := aj hw1 H
  refine rg [0, 4] (k := rs (k := rs (k := rr (k := ro (pre := [_, _, _]) (k := rQ 10 (ht := fun hg2 => ?_) (hf := fun hg2 => ?_))))))
  · refine rg0 (k := rg0 (k := rg0 (k := rg0 (k := rg0 (k := rg0 (k := rg0 (k := rh [0, 4, 18] (k := rc (ht := fun hc0 => ?_) (hf := fun hc0 => ?_)))))))))
    · refine rs (k := rg [2, 3] (k := rR (k := rP (by simp only [Try.f32, go_sem]; rfl) hwf ⟨?_, rfl⟩)))
      first
        | (have : openB l = none := by unfold openB; rw [if_neg (by simp at hg2; omega)]
           rw [this]; simp only [PV.weak, PV.weaks, weaks_u8, Option.getD_some, Option.isSome_some, Option.getD_none, Option.isSome_none, List.map_nil])
        | (have : openB l = none := by unfold openB; rw [if_neg (by simp at hc0; exact fun h => hc0 h.2)]
           rw [this]; simp only [PV.weak, PV.weaks, weaks_u8, Option.getD_some, Option.isSome_some, Option.getD_none, Option.isSome_none, List.map_nil])
        | (have : openB l = some (l.take (l.length - 2)) := by unfold openB; rw [if_pos ⟨hn2, by simpa using hc0⟩]
           rw [this]; simp only [PV.weak, PV.weaks, weaks_u8, Option.getD_some, Option.isSome_some, Option.getD_none, Option.isSome_none, List.map_nil])
    · cases hc0
  · have hn2 : 2 ≤ l.length := by simp at hg2; omega
    have hn3 : ((l.length : Int) - 2).toNat = l.length - 2 := by omega
    have hn0 : (0 ≤ (l.length : Int) - 2) = True := eq_true (by omega)
    have hn4 : ((l.length : Int) - 2 ≤ l.length) = True := eq_true (by omega)
    have htk : (l.map (PV.int .u8)).take (l.length - 2) = (l.take (l.length - 2)).map (PV.int .u8) := List.map_take.symm
    have H := aj hn3 (aj hn0 (aj hn4 (aj htk H)))
    refine rg1 (k := rg1 (k := rg1 (k := rC (h := crc_Seal (hb.take (l.length - 2)) (by simp; omega)) (k := rg1 (k := rC (h := equal_u8 (xs := sealB (l.take (l.length - 2))) (ys := l) (by rw [sealB_len]; simp; omega)) (k := rg1 (k := rh [0, 4, 18] (k := rc (ht := fun hc0 => ?_) (hf := fun hc0 => ?_)))))))))
    · refine rs (k := rg [2, 3] (k := rR (k := rP (by simp only [Try.f32, go_sem]; rfl) hwf ⟨?_, rfl⟩)))
      first
        | (have : openB l = none := by unfold openB; rw [if_neg (by simp at hg2; omega)]
           rw [this]; simp only [PV.weak, PV.weaks, weaks_u8, Option.getD_some, Option.isSome_some, Option.getD_none, Option.isSome_none, List.map_nil])
        | (have : openB l = none := by unfold openB; rw [if_neg (by simp at hc0; exact fun h => hc0 h.2)]
           rw [this]; simp only [PV.weak, PV.weaks, weaks_u8, Option.getD_some, Option.isSome_some, Option.getD_none, Option.isSome_none, List.map_nil])
        | (have : openB l = some (l.take (l.length - 2)) := by unfold openB; rw [if_pos ⟨hn2, by simpa using hc0⟩]
           rw [this]; simp only [PV.weak, PV.weaks, weaks_u8, Option.getD_some, Option.isSome_some, Option.getD_none, Option.isSome_none, List.map_nil])
    · refine rk (k := rs (k := rr (k := ro (pre := [_, _, _]) (k := rC (h := clone_u8 (xs := l.take (l.length - 2)) (by simp; omega)) (k := rh [2, 3] (k := rR (k := rP (by simp only [Try.f32, go_sem]; rfl) hwf ⟨?_, rfl⟩)))))))
      first
        | (have : openB l = none := by unfold openB; rw [if_neg (by simp at hg2; omega)]
           rw [this]; simp only [PV.weak, PV.weaks, weaks_u8, Option.getD_some, Option.isSome_some, Option.getD_none, Option.isSome_none, List.map_nil])
        | (have : openB l = none := by unfold openB; rw [if_neg (by simp at hc0; exact fun h => hc0 h.2)]
           rw [this]; simp only [PV.weak, PV.weaks, weaks_u8, Option.getD_some, Option.isSome_some, Option.getD_none, Option.isSome_none, List.map_nil])
        | (have : openB l = some (l.take (l.length - 2)) := by unfold openB; rw [if_pos ⟨hn2, by simpa using hc0⟩]
           rw [this]; simp only [PV.weak, PV.weaks, weaks_u8, Option.getD_some, Option.isSome_some, Option.getD_none, Option.isSome_none, List.map_nil])
end Go.Proofs
namespace Go.Proofs
open Go.PM
set_option maxHeartbeats 2000000
theorem ref1_Unseal {l : List Int} (hb : OkB l) (hl : l.length ≤ 140737488350000) {s : St} : ACalls Try.prog 39 [.sl .unk (l.map (PV.int .u8))] s (fun r s' => r = .tuple [.sl .unk (((openB l).getD []).map (PV.int .u8)), .bool (openB l).isSome] ∧ s' = s) := by
  refine go Try.func39 (k := fun hwf H => ?_)
  refine rs (k := rg [0] (k := rs (k := ?_)))
  have hw1 : IntKind.i64.wrap ((l.length : Int) - 2) = (l.length : Int) - 2 := wrap_i64 (by omega)
  have H := aj hw1 H
  refine rg [0, 4] (k := rs (k := rs (k := ?_)))
  refine Run.drawC [] [0, 4, 19] Try.mixed (by kernel_rfl) ?_
  refine DetC.pre (pre := [_, _, _]) au ?_
  rcases hd2 : (decide ((l.length : Int) - 2 < 0)) with _ | _
  · have H := aj hd2 H
    have hn2 : 2 ≤ l.length := by simp at hd2; omega
    have hn3 : ((l.length : Int) - 2).toNat = l.length - 2 := by omega
    have hn0 : (0 ≤ (l.length : Int) - 2) = True := eq_true (by omega)
    have hn4 : ((l.length : Int) - 2 ≤ l.length) = True := eq_true (by omega)
    have htk : (l.map (PV.int .u8)).take (l.length - 2) = (l.take (l.length - 2)).map (PV.int .u8) := List.map_take.symm
    have hse : ((strB (sealB (l.take (l.length - 2)))).toList == (strB l).toList) = decide (sealB (l.take (l.length - 2)) = l) := strB_beq (sealB_ok (hb.take _)) hb
    have H := aj hn3 (aj hn0 (aj hn4 (aj htk (aj hse H))))
    refine DetC.gdo au au ?_
    refine DetC.gdo au au ?_
    refine DetC.gdo au au ?_
    refine DetC.call au au au (by kernel_rfl) (ref1_Seal (hb.take (l.length - 2)) (by simp; omega)) ?_
    refine DetC.gdo au au ?_
    refine DetC.gdo au au ?_
    refine DetC.gdo au au ?_
    refine DetC.gdo au au ?_
    refine DetC.all au ?_
    refine re (k := rc (ht := fun hc0 => ?_) (hf := fun hc0 => ?_))
    · refine rs (k := rg [2, 3] (k := rR (k := ?_)))
      refine Ret.pure (by simp only [Try.f39, go_sem] <;> rfl) rfl (by simp only [go_sem, reduceCtorEq, false_implies, implies_true]) hwf (by first | exact (Fr.refl hwf).blk | exact ((Fr.refl hwf).tm htm1 (fun t z e => by cases e)).blk) ⟨?_, rfl⟩
      · first
          | (have : openB l = none := by unfold openB; rw [if_neg (by simp at hd2; omega)]
             rw [this]; rfl)
          | (have : openB l = none := by unfold openB; rw [if_neg (by simp at hc0; exact fun h => hc0 h.2)]
             rw [this]; rfl)
          | (have : openB l = some (l.take (l.length - 2)) := by unfold openB; rw [if_pos ⟨hn2, by simpa using hc0⟩]
             rw [this]; simp only [PV.weak, PV.weaks, weaks_u8, Option.getD_some, Option.isSome_some, Option.getD_none, Option.isSome_none, List.map_nil])
    · refine rk (k := rs (k := rr (k := rO (k := ro (pre := [_, _, _]) (k := ?_)))))
      refine RunO.grow' au au au Try.td33 (by rw [Try.zp5]; rfl) (by intro el hel; cases hel) (isEls_map (P := Try.prog) (e := 5) (f := PV.int .u8) (fun a => ⟨rfl, by rw [Try.cz5]; rfl⟩) _) (by rw [Try.by5]; decide) (by rw [Try.by5]; simp; omega) (.inr (.inl (.inl rfl))) ?_
      intro k1 s1 hgr1 htm1
      refine rh [2, 3] (k := rR (k := ?_))
      refine Ret.pure (by simp only [Try.f39, go_sem] <;> rfl) rfl (by simp only [go_sem, reduceCtorEq, false_implies, implies_true]) hwf (by first | exact (Fr.refl hwf).blk | exact ((Fr.refl hwf).tm htm1 (fun t z e => by cases e)).blk) ⟨?_, rfl⟩
      · first
          | (have : openB l = none := by unfold openB; rw [if_neg (by simp at hd2; omega)]
             rw [this]; rfl)
          | (have : openB l = none := by unfold openB; rw [if_neg (by simp at hc0; exact fun h => hc0 h.2)]
             rw [this]; rfl)
          | (have : openB l = some (l.take (l.length - 2)) := by unfold openB; rw [if_pos ⟨hn2, by simpa using hc0⟩]
             rw [this]; simp only [PV.weak, PV.weaks, weaks_u8, Option.getD_some, Option.isSome_some, Option.getD_none, Option.isSome_none, List.map_nil])
  · have H := aj hd2 H
    refine DetC.gskip' au ?_
    refine DetC.gskip' au ?_
    refine DetC.gskip' au ?_
    refine DetC.gskip' au ?_
    refine DetC.gskip' au ?_
    refine DetC.gskip' au ?_
    refine DetC.gskip' au ?_
    refine DetC.gskip' au ?_
    refine DetC.all au ?_
    refine re (k := rc (ht := fun hc0 => ?_) (hf := fun hc0 => ?_))
    · refine rs (k := rg [2, 3] (k := rR (k := ?_)))
      refine Ret.pure (by simp only [Try.f39, go_sem] <;> rfl) rfl (by simp only [go_sem, reduceCtorEq, false_implies, implies_true]) hwf (by first | exact (Fr.refl hwf).blk | exact ((Fr.refl hwf).tm htm1 (fun t z e => by cases e)).blk) ⟨?_, rfl⟩
      · first
          | (have : openB l = none := by unfold openB; rw [if_neg (by simp at hd2; omega)]
             rw [this]; rfl)
          | (have : openB l = none := by unfold openB; rw [if_neg (by simp at hc0; exact fun h => hc0 h.2)]
             rw [this]; rfl)
          | (have : openB l = some (l.take (l.length - 2)) := by unfold openB; rw [if_pos ⟨hn2, by simpa using hc0⟩]
             rw [this]; simp only [PV.weak, PV.weaks, weaks_u8, Option.getD_some, Option.isSome_some, Option.getD_none, Option.isSome_none, List.map_nil])
    · cases hc0
theorem deed_put {l ns : List Int} (hl : l.length + 2 * ns.length ≤ 140737488355328) {s : St} : ACalls Try.prog 29 [.sl .unk (l.map (PV.int .u8)), .sl .unk (ns.map (PV.int .i64))] s (fun r s' => r = .sl .unk ((l ++ ns.flatMap num2).map (PV.int .u8)) ∧ s' = s) := by
  refine go Try.func29 (k := fun hwf H => ?_)
  refine rs (k := rg [0, 1] (k := rs (k := rs (k := rg [0, 7, 8, 9] (k := rb (k := ?_))))))
  refine Run.loop (fun e s' => s' = s ∧ ∃ i : Nat, e = [(0, .sl .unk ((l ++ (ns.take i).flatMap num2).map (PV.int .u8))), (7, .sl .unk (ns.map (PV.int .i64))), (8, .int .i64 ns.length), (9, .int .i64 (i : Int))] ∧ i ≤ ns.length) (fun e s' => ns.length - ivar e 9) ?_ ?_
  · exact ⟨rfl, 0, by simp, by omega⟩
  rintro e s' ⟨hs, i, rfl, hi⟩
  subst s'
  refine rs (k := rg [0, 7, 8, 9, 10] (k := rs (k := rc (ht := fun hc0 => ?_) (hf := fun hc0 => ?_))))
  · refine rk (k := rs (k := rb (k := rs (k := ?_))))
    have hil : i < ns.length := by have := of_decide_eq_true hc0; omega
    obtain ⟨x, hxe⟩ : ∃ z_, ns[i]'hil = z_ := ⟨_, rfl⟩
    have hxx : (ns.map (PV.int .i64))[i]? = some (.int .i64 x) := by rw [map_get hil, hxe]
    have hw : IntKind.i64.wrap ((i : Int) + 1) = ((i + 1 : Nat) : Int) := by rw [wrap_i64 (by omega)]; omega
    have hfl : ((ns.take i).flatMap num2).length = 2 * i := by rw [flat2_len]; simp; omega
    have H := aj hxx (aj hw H)
    refine rg [0, 6, 7, 8, 9] (k := rr (k := ro (pre := [_, _]) (k := rC (h := octet_Put (l := l ++ (ns.take i).flatMap num2) (n := x) (by rw [List.length_append, hfl]; omega)) (k := rh [0, 7, 8, 9] (k := rB (k := rg [0, 7, 8, 9] (k := ?_)))))))
    refine Run.lp ⟨⟨rfl, i + 1, ?_, by omega⟩, ?_⟩
    · rw [take_get hil, hxe, List.flatMap_append, List.append_assoc]; simp
    · simp only [ivar, go_sem, ↓reduceIte, Nat.reduceEqDiff]
      omega
  · refine rX (k := rs (k := rg [4] (k := rR (k := rP (by simp only [Try.f29, go_sem]; rfl) hwf ⟨?_, rfl⟩))))
    have : i = ns.length := by have := of_decide_eq_false hc0; omega
    rw [this, List.take_length]; simp only [PV.weak, weaks_u8]
end Go.Proofs
namespace Go.Proofs
open Go.PM
set_option maxHeartbeats 2000000
theorem rr_num {r : Rr} (hr : r.ok) {s : St} {tp : Nat} (hb : s.blk tp = some (.row 82 [r.pv])) : ACalls Try.prog 40 [.ptr tp 0 0] s (fun v s' => v = .int .i64 r.num ∧ s' = s.set tp (some (.row 82 [r.nx.pv]))) := by
  refine go Try.func40 (k := fun hwf H => ?_)
  rw [Rr.pv] at hb
  have hrn := hr.n
  have H := aj hb H
  refine rs (k := rg [0] (k := rs (k := rr (k := ro (pre := [_, _, _, _]) (k := rC (h := ref1_Get hr.b (a := 0) (by unfold I64; omega) (by omega)) (k := rh [0, 3, 4] (k := rs (k := rs (k := ?_)))))))))
  obtain ⟨g, hg⟩ : ∃ g, get2 r.b 0 = g := ⟨_, rfl⟩
  obtain ⟨f, hf⟩ : ∃ f, r.fell = f := ⟨_, rfl⟩
  have H := aj hg (aj hf H)
  refine rg [0, 3, 20] (k := rc (ht := fun hc0 => ?_) (hf := fun hc0 => ?_))
  · refine rs (k := rg [] (k := rs (k := rg [2] (k := rR (k := ?_)))))
    first
      | (have h0 : r.fell = true ∨ get2 r.b 0 = none := by rw [hf, hg]; revert hc0; cases f <;> cases g <;> simp
         refine Ret.all (by simp only [Try.f40, go_sem] <;> rfl) ⟨?_, ?_⟩
         · unfold Rr.num; rcases h0 with h | h <;> simp [h]
         · rw [Rr.nx, if_pos h0] <;> rfl)
      | (have h0 : ¬ (r.fell = true ∨ get2 r.b 0 = none) := by rw [hf, hg, hfg.1, hn]; simp
         refine Ret.all (by simp only [Try.f40, go_sem] <;> rfl) ⟨?_, ?_⟩
         · unfold Rr.num; rw [hf, hg, hfg.1, hn]; rfl
         · rw [hfg.1, Rr.nx, if_neg h0] <;> rfl)
  · refine rk (k := rs (k := ?_))
    have hfg : f = false ∧ g.isSome = true := by revert hc0; cases f <;> cases g <;> simp
    obtain ⟨n, hn⟩ := Option.isSome_iff_exists.1 hfg.2
    have hlen : 2 ≤ r.b.length := by have := get2_some (l := r.b) (n := 0) (by rw [show ((0 : Nat) : Int) = 0 from rfl, hg, hn]; simp); omega
    have hle2 : ((2 : Int) ≤ (r.b.length : Int)) = True := eq_true (by omega)
    have hdr : (r.b.map (PV.int .u8)).drop 2 = (r.b.drop 2).map (PV.int .u8) := List.map_drop.symm
    have htk : ((r.b.drop 2).map (PV.int .u8)).take ((r.b.length : Int) - 2).toNat = (r.b.drop 2).map (PV.int .u8) := List.take_of_length_le (by simp; omega)
    have h22 : Int.toNat 2 = 2 := rfl
    have h02 : ((0 : Int) ≤ 2) = True := by decide
    have H := aj hn (aj hle2 (aj hdr (aj htk (aj h22 (aj h02 H)))))
    refine rg [3] (k := rs (k := rg [2] (k := rR (k := ?_))))
    first
      | (have h0 : r.fell = true ∨ get2 r.b 0 = none := by rw [hf, hg]; revert hc0; cases f <;> cases g <;> simp
         refine Ret.all (by simp only [Try.f40, go_sem] <;> rfl) ⟨?_, ?_⟩
         · unfold Rr.num; rcases h0 with h | h <;> simp [h]
         · rw [Rr.nx, if_pos h0] <;> rfl)
      | (have h0 : ¬ (r.fell = true ∨ get2 r.b 0 = none) := by rw [hf, hg, hfg.1, hn]; simp
         refine Ret.all (by simp only [Try.f40, go_sem] <;> rfl) ⟨?_, ?_⟩
         · unfold Rr.num; rw [hf, hg, hfg.1, hn]; rfl
         · rw [hfg.1, Rr.nx, if_neg h0] <;> rfl)
theorem dr_num {r : Dr} (hr : r.ok) {s : St} {tp : Nat} (hb : s.blk tp = some (.row 74 [r.pv])) : ACalls Try.prog 33 [.ptr tp 0 0] s (fun v s' => v = .int .i64 r.num ∧ s' = s.set tp (some (.row 74 [r.nx.pv]))) := by
  refine go Try.func33 (k := fun hwf H => ?_)
  rw [Dr.pv] at hb
  have hrn := hr.n
  have hrp := hr.pos
  have H := aj hb H
  refine rs (k := rg [0] (k := rs (k := ?_)))
  refine Run.drawC [] [0, 3, 4] Try.mixed (by kernel_rfl) ?_
  refine DetC.pre (pre := [_, _, _, _, _, _, _, _]) au ?_
  refine DetC.call au au au (by kernel_rfl) (octet_Get hr.b (a := r.pos) (by unfold I64; omega) (by omega)) ?_
  refine DetC.all au ?_
  refine re (k := rs (k := rs (k := ?_)))
  obtain ⟨g, hg⟩ : ∃ g, get2 r.b r.pos = g := ⟨_, rfl⟩
  obtain ⟨f, hf⟩ : ∃ f, r.bad = f := ⟨_, rfl⟩
  have H := aj hg (aj hf H)
  refine rg [0, 3, 24] (k := rc (ht := fun hc0 => ?_) (hf := fun hc0 => ?_))
  · refine rs (k := rg [] (k := rs (k := rg [2] (k := rR (k := ?_)))))
    first
      | (have h0 : r.bad = true ∨ get2 r.b r.pos = none := by rw [hf, hg]; revert hc0; cases f <;> cases g <;> simp
         refine Ret.all (by simp only [Try.f33, go_sem] <;> rfl) ⟨?_, ?_⟩
         · unfold Dr.num; rcases h0 with h | h <;> simp [h]
         · rw [Dr.nx, if_pos h0] <;> rfl)
      | (have h0 : ¬ (r.bad = true ∨ get2 r.b r.pos = none) := by rw [hf, hg, hfg.1, hn]; simp
         refine Ret.all (by simp only [Try.f33, go_sem] <;> rfl) ⟨?_, ?_⟩
         · unfold Dr.num; rw [hf, hg, hfg.1, hn]; rfl
         · rw [hfg.1, Dr.nx, if_neg h0] <;> rfl)
  · refine rk (k := rs (k := ?_))
    have hfg : f = false ∧ g.isSome = true := by revert hc0; cases f <;> cases g <;> simp
    obtain ⟨n, hn⟩ := Option.isSome_iff_exists.1 hfg.2
    have hw : IntKind.i64.wrap ((r.pos : Int) + 2) = ((r.pos + 2 : Nat) : Int) := by rw [wrap_i64 (by omega)]; omega
    have H := aj hn (aj hw H)
    refine rg [3] (k := rs (k := rg [2] (k := rR (k := ?_))))
    first
      | (have h0 : r.bad = true ∨ get2 r.b r.pos = none := by rw [hf, hg]; revert hc0; cases f <;> cases g <;> simp
         refine Ret.all (by simp only [Try.f33, go_sem] <;> rfl) ⟨?_, ?_⟩
         · unfold Dr.num; rcases h0 with h | h <;> simp [h]
         · rw [Dr.nx, if_pos h0] <;> rfl)
      | (have h0 : ¬ (r.bad = true ∨ get2 r.b r.pos = none) := by rw [hf, hg, hfg.1, hn]; simp
         refine Ret.all (by simp only [Try.f33, go_sem] <;> rfl) ⟨?_, ?_⟩
         · unfold Dr.num; rw [hf, hg, hfg.1, hn]; rfl
         · rw [hfg.1, Dr.nx, if_neg h0] <;> rfl)
end Go.Proofs
namespace Go.Proofs
open Go.PM
set_option maxHeartbeats 2000000
set_option maxRecDepth 100000 in
theorem rr_ten {r : Rr} (hr : r.ok) {s : St} {tp : Nat} (hb : s.blk tp = (some (.row 82 [(r).pv]))) : ACalls Try.prog 41 [.ptr tp 0 0] s (fun v s' => v = r.ten.1.pv ∧ s' = s.set tp (some (.row 82 [(r.ten.2).pv]))) := by
  refine go Try.func41 (k := fun hwf H => ?_)
  have hlt : tp < s.nxt := lt_blk hwf hb
  have hs0 : s.set tp (some (.row 82 [(r).pv])) = s := St.set_self hb
  have H := aj hb H
  refine rs (k := rg [0, 2] (k := rs (k := rr (k := ro (pre := [_]) (k := ?_)))))
  refine RunO.callw au au au (by kernel_rfl) ((rr_num hr au).mono ?_)
  rintro v s9 ⟨rfl, hs⟩
  subst s9
  refine rh [0, 2, 3] (k := rs (k := rr (k := ro (pre := [_]) (k := ?_))))
  refine RunO.callw au au au (by kernel_rfl) ((rr_num hr.nx au).mono ?_)
  rintro v s9 ⟨rfl, hs⟩
  subst s9
  refine rh [0, 2, 3, 4] (k := rs (k := rr (k := ro (pre := [_, _, _, _]) (k := ?_))))
  refine RunO.callw au au au (by kernel_rfl) ((rr_num hr.nx.nx au).mono ?_)
  rintro v s9 ⟨rfl, hs⟩
  subst s9
  refine rh [0, 2, 3] (k := rs (k := rr (k := ro (pre := [_]) (k := ?_))))
  refine RunO.callw au au au (by kernel_rfl) ((rr_num hr.nx.nx.nx au).mono ?_)
  rintro v s9 ⟨rfl, hs⟩
  subst s9
  refine rh [0, 2, 3] (k := rs (k := rs (k := rr (k := ro (pre := [_]) (k := ?_)))))
  refine RunO.callw au au au (by kernel_rfl) ((rr_num hr.nx.nx.nx.nx au).mono ?_)
  rintro v s9 ⟨rfl, hs⟩
  subst s9
  refine rh [0, 2, 3, 5] (k := rb (k := ?_))
  refine Run.loop (fun e s' => ∃ (m : Nat) (r1 : Rr) (l : List Win) (kk : SK), e = [(0, .ptr tp 0 0), (2, .ptr s.nxt 0 0), (3, .ptr (s.nxt + 1) 0 0), (5, .int .i64 (m : Int))] ∧ m + l.length ≤ 65535 ∧ r1.ok ∧ Kp (s.set tp (some (.row 82 [(r1).pv]))) s' [(s.nxt + 1, .row 53 [.agg [.int .i64 r.num, .int .u32 (fns2 r.nx.num r.nx.nx.num), .int .i64 r.nx.nx.nx.num, .sl kk (l.map Win.pv), .sl .nil []]]), (s.nxt, .row 53 [.agg [.int .i64 0, .int .u32 0, .int .i64 0, .sl .nil [], .sl .nil []]])] ∧ Grows s' kk l.length (Try.prog.cellsOf 65) ∧ (∀ t z, kk = .tok t z → s.nxt + 1 < t ∧ t < s'.nxt) ∧ l.length ≤ 65535 ∧ Rr.many (fun r => (r.win, r.nx4)) m r1 l = r.nx4.wins) (fun e s' => ivar e 5) ?_ ?_
  · have hn := Rr.num_ok hr.nx.nx.nx.nx
    obtain ⟨m0, hm0⟩ : ∃ m0 : Nat, r.nx4.num = m0 := ⟨r.nx4.num.toNat, (Int.toNat_of_nonneg hn.1).symm⟩
    have k0 : Kp (s.set tp (some (.row 82 [(r).pv]))) (s.new (.row 53 [.agg [.int .i64 0, .int .u32 0, .int .i64 0, .sl .nil [], .sl .nil []]])) [(s.nxt, .row 53 [.agg [.int .i64 0, .int .u32 0, .int .i64 0, .sl .nil [], .sl .nil []]])] := by rw [hs0]; exact (Kp.nil (Fr.refl hwf)).push _
    have hd0 : ∀ p ∈ ([(s.nxt, .row 53 [.agg [.int .i64 0, .int .u32 0, .int .i64 0, .sl .nil [], .sl .nil []]])] : List (Nat × Blk)), p.1 ≠ tp := by simp only [List.forall_mem_cons]; exact ⟨by omega, by simp⟩
    have hd1 : ∀ X : Blk, ∀ p ∈ ([(s.nxt + 1, X), (s.nxt, .row 53 [.agg [.int .i64 0, .int .u32 0, .int .i64 0, .sl .nil [], .sl .nil []]])] : List (Nat × Blk)), p.1 ≠ tp := fun X => by simp only [List.forall_mem_cons]; exact ⟨by omega, by omega, by simp⟩
    refine ⟨m0, r.nx4.nx, [], .nil, by rw [← hm0] <;> rfl, by simp only [List.length_nil]; have := hn.2; have : r.nx4.num ≤ 65535 := this; omega, hr.nx.nx.nx.nx.nx, ?_, .inl ⟨rfl, rfl⟩, fun t z e => (by cases e), by simp, by unfold Rr.wins; rw [hm0]; rfl⟩
    exact (((((((k0.setbase hlt hd0 _).pushset (id := s.nxt + 1) _ _ rfl).setbase hlt (hd1 _) _).setbase hlt (hd1 _) _).setset (by simp) (by rw [nxt_set]; omega)).setbase hlt (hd1 _) _).setset (by simp) (by rw [nxt_set]; omega)).setbase hlt (hd1 _) _
  rintro e s1 ⟨m, r1, l, kk, rfl, hml, hr1, K1, hgr, htk, hlen, hmany⟩
  refine rs (k := rs (k := ?_))
  have h1b : s1.blk tp = (some (.row 82 [(r1).pv])) := by rw [K1.fr.blk tp hlt]; exact blk_set_self _ _ _
  have hO := K1.hd'
  have hl1 := K1.lt'
  have hn1 := K1.nx
  rw [nxt_set] at hn1
  have hd : ∀ p ∈ ([(s.nxt + 1, .row 53 [.agg [.int .i64 r.num, .int .u32 (fns2 r.nx.num r.nx.nx.num), .int .i64 r.nx.nx.nx.num, .sl kk (l.map Win.pv), .sl .nil []]]), (s.nxt, .row 53 [.agg [.int .i64 0, .int .u32 0, .int .i64 0, .sl .nil [], .sl .nil []]])] : List (Nat × Blk)), p.1 ≠ tp := by simp only [List.forall_mem_cons]; exact ⟨by omega, by omega, by simp⟩
  have H := aj h1b (aj hO H)
  refine rg [0, 2, 3, 5, 35] (k := rc (ht := fun hc0 => ?_) (hf := fun hc0 => ?_))
  · refine rk (k := rs (k := rb (k := rs (k := rr (k := ro (pre := [_]) (k := ?_))))))
    refine RunO.callw au au au (by kernel_rfl) ((rr_num hr1 au).mono ?_)
    rintro v s9 ⟨rfl, hs⟩
    subst s9
    refine rh [0, 2, 3, 5, 6] (k := rs (k := rr (k := ro (pre := [_]) (k := ?_))))
    refine RunO.callw au au au (by kernel_rfl) ((rr_num hr1.nx au).mono ?_)
    rintro v s9 ⟨rfl, hs⟩
    subst s9
    refine rh [0, 2, 3, 5, 6] (k := rs (k := rr (k := ro (pre := [_]) (k := ?_))))
    refine RunO.callw au au au (by kernel_rfl) ((rr_num hr1.nx.nx au).mono ?_)
    rintro v s9 ⟨rfl, hs⟩
    subst s9
    refine rh [0, 2, 3, 5, 6] (k := rs (k := rr (k := ro (pre := [_]) (k := ?_))))
    refine RunO.callw au au au (by kernel_rfl) ((rr_num hr1.nx.nx.nx au).mono ?_)
    rintro v s9 ⟨rfl, hs⟩
    subst s9
    refine rh [0, 2, 3, 5, 6] (k := rr (k := ro (pre := [_, _, _]) (k := rO (k := ?_))))
    refine RunO.abs (fun s2 => Kp (s.set tp (some (.row 82 [(r1.nx.nx.nx.nx).pv]))) s2 [(s.nxt + 1, .row 53 [.agg [.int .i64 r.num, .int .u32 (fns2 r.nx.num r.nx.nx.num), .int .i64 r.nx.nx.nx.num, .sl kk (l.map Win.pv), .sl .nil []]]), (s.nxt, .row 53 [.agg [.int .i64 0, .int .u32 0, .int .i64 0, .sl .nil [], .sl .nil []]])] ∧ s2.blk s1.nxt = some (.row 65 [(r1.win).pv]) ∧ s2.nxt = s1.nxt + 1 ∧ Grows s2 kk l.length (Try.prog.cellsOf 65)) ⟨(((((((((K1.setbase hlt hd _).new _).set' (id := s1.nxt) _ (by simp only [nxt_set]; omega) (by simp only [nxt_set, nxt_new]; omega) (by simp only [List.forall_mem_cons]; exact ⟨by omega, by omega, by simp⟩)).setbase hlt hd _).set' (id := s1.nxt) _ (by simp only [nxt_set]; omega) (by simp only [nxt_set, nxt_new]; omega) (by simp only [List.forall_mem_cons]; exact ⟨by omega, by omega, by simp⟩)).setbase hlt hd _).set' (id := s1.nxt) _ (by simp only [nxt_set]; omega) (by simp only [nxt_set, nxt_new]; omega) (by simp only [List.forall_mem_cons]; exact ⟨by omega, by omega, by simp⟩)).setbase hlt hd _).set' (id := s1.nxt) _ (by simp only [nxt_set]; omega) (by simp only [nxt_set, nxt_new]; omega) (by simp only [List.forall_mem_cons]; exact ⟨by omega, by omega, by simp⟩)), by simp (disch := first | omega | (simp only [nxt_set, nxt_new] <;> omega) | fail) only [go_sem]; first | rfl | done, rfl, hgr.mono fun t ht => by have := htk t _ ht; simp (disch := first | omega | (simp only [nxt_set, nxt_new] <;> omega)) only [go_sem]⟩ ?_
    rintro s2 ⟨K2, hW, hn2, hg2⟩
    have hO2 := K2.hd'
    have hlw := hlen
    have H := aj hW (aj hO2 H)
    refine RunO.grow au au au Try.td50 (by rw [Try.zp65]; rfl) (isEls_map (fun a => ⟨rfl, by rw [Try.cz65]; rfl⟩) _) (isEls_map (f := Win.pv) (fun a => ⟨rfl, by rw [Try.cz65]; rfl⟩) [r1.win]) (by rw [Try.by65]; decide) (by rw [Try.by65]; simp; omega) (by rw [List.length_map]; exact hg2) (by simp) ?_
    intro k' s3 hgr' htm
    have K3 := K2.tm htm (fun t z e => by have := htk t z e; rw [nxt_set]; omega) (fun p hp z e => by
      have := htk _ z e
      simp only [List.mem_cons, List.not_mem_nil, or_false] at hp
      rcases hp with rfl | rfl <;> simp only at this <;> omega)
    have hO3 := K3.hd'
    have htk3 : ∀ t z, k' = .tok t z → s.nxt + 1 < t ∧ t < s3.nxt := fun t z e => by
      have h9 := htm.nxt
      rcases htm.fresh t z e with ⟨z', h⟩ | ⟨h1, h2⟩
      · have := htk t z' h; omega
      · omega
    have H := aj hO3 H
    refine rh [0, 2, 3, 5] (k := rB (k := rg [0, 2, 3, 5] (k := ?_)))
    rw [List.length_map] at hgr'
    have hms : 0 < m ∧ r1.fell = false := by revert hc0; cases r1.fell <;> simp
    have hw : IntKind.i64.wrap ((m : Int) - 1) = ((m - 1 : Nat) : Int) := by rw [wrap_i64 (by omega)]; omega
    have htk2 : ∀ t z, kk = .tok t z → s.nxt + 1 < t ∧ t < s1.nxt := htk
    refine Run.lp ⟨⟨m - 1, r1.nx.nx.nx.nx, l ++ [r1.win], k', by simp (disch := first | omega | (simp only [nxt_set, nxt_new] <;> omega) | fail) only [go_sem, hw] <;> rfl, by simp only [List.length_append, List.length_cons, List.length_nil]; omega, hr1.nx.nx.nx.nx, ?_, by rw [List.length_append]; exact hgr'.mono fun t ht => blk_set_ne (by have := htk3 t _ ht; omega), htk3, by simp only [List.length_append, List.length_cons, List.length_nil]; omega, ?_⟩, ?_⟩
    · have := K3.setset (b' := .row 53 [.agg [.int .i64 r.num, .int .u32 (fns2 r.nx.num r.nx.nx.num), .int .i64 r.nx.nx.nx.num, .sl k' (l.map Win.pv ++ [r1.win.pv]), .sl .nil []]]) (by simp) (by rw [nxt_set]; omega)
      rw [List.map_append]
      exact this
    · rw [← hmany, Rr.many_step hms.1 hms.2] <;> rfl
    · simp (disch := first | omega | (simp only [nxt_set, nxt_new] <;> omega) | fail) only [ivar, go_sem, ↓reduceIte, Nat.reduceEqDiff, hw]
      omega
  · refine rX (k := rs (k := rs (k := ?_)))
    have h1b : s1.blk tp = (some (.row 82 [(r1).pv])) := by rw [K1.fr.blk tp hlt]; exact blk_set_self _ _ _
    have hl1 := K1.lt'
    have hn1 := K1.nx
    rw [nxt_set] at hn1
    generalize l = ws at *
    generalize kk = kw at *
    have hstop : m = 0 ∨ r1.fell = true := by revert hc0; cases r1.fell <;> simp
    rw [Rr.many_stop hstop] at hmany
    have hwins := hmany
    have hwl := hlen
    have H := aj h1b H
    refine rr (k := ro (pre := [_]) (k := ?_))
    refine RunO.callw au au au (by kernel_rfl) ((rr_num hr1 au).mono ?_)
    rintro v s9 ⟨rfl, hs⟩
    subst s9
    refine rh [0, 2, 3, 7] (k := rb (k := ?_))
    refine Run.loop (fun e s' => ∃ (m : Nat) (r1 : Rr) (l : List Slt) (kk : SK), e = [(0, .ptr tp 0 0), (2, .ptr s.nxt 0 0), (3, .ptr (s.nxt + 1) 0 0), (7, .int .i64 (m : Int))] ∧ m + l.length ≤ 65535 ∧ r1.ok ∧ Kp (s.set tp (some (.row 82 [(r1).pv]))) s' [(s.nxt + 1, .row 53 [.agg [.int .i64 r.num, .int .u32 (fns2 r.nx.num r.nx.nx.num), .int .i64 r.nx.nx.nx.num, .sl kw (ws.map Win.pv), .sl kk (l.map Slt.pv)]]), (s.nxt, .row 53 [.agg [.int .i64 0, .int .u32 0, .int .i64 0, .sl .nil [], .sl .nil []]])] ∧ Grows s' kk l.length (Try.prog.cellsOf 60) ∧ (∀ t z, kk = .tok t z → s.nxt + 1 < t ∧ t < s'.nxt) ∧ l.length ≤ 65535 ∧ Rr.many (fun r => (r.slt, r.nx.nx)) m r1 l = r.nx4.wins.2.slts) (fun e s' => ivar e 7) ?_ ?_
    · have hn := Rr.num_ok hr1
      obtain ⟨m0, hm0⟩ : ∃ m0 : Nat, r1.num = m0 := ⟨r1.num.toNat, (Int.toNat_of_nonneg hn.1).symm⟩
      refine ⟨m0, r1.nx, [], .nil, by rw [← hm0] <;> rfl, by simp only [List.length_nil]; have := hn.2; omega, hr1.nx, K1.setbase hlt (by simp only [List.forall_mem_cons]; exact ⟨by omega, by omega, by simp⟩) _, .inl ⟨rfl, rfl⟩, fun t z e => (by cases e), by simp, by rw [← hwins]; unfold Rr.slts; rw [hm0]; rfl⟩
    rintro e s1 ⟨m, r1, l, kk, rfl, hml, hr1, K1, hgr, htk, hlen, hmany⟩
    refine rs (k := rs (k := ?_))
    have h1b : s1.blk tp = (some (.row 82 [(r1).pv])) := by rw [K1.fr.blk tp hlt]; exact blk_set_self _ _ _
    have hO := K1.hd'
    have hl1 := K1.lt'
    have hn1 := K1.nx
    rw [nxt_set] at hn1
    have hd : ∀ p ∈ ([(s.nxt + 1, .row 53 [.agg [.int .i64 r.num, .int .u32 (fns2 r.nx.num r.nx.nx.num), .int .i64 r.nx.nx.nx.num, .sl kw (ws.map Win.pv), .sl kk (l.map Slt.pv)]]), (s.nxt, .row 53 [.agg [.int .i64 0, .int .u32 0, .int .i64 0, .sl .nil [], .sl .nil []]])] : List (Nat × Blk)), p.1 ≠ tp := by simp only [List.forall_mem_cons]; exact ⟨by omega, by omega, by simp⟩
    have H := aj h1b (aj hO H)
    refine rg [0, 2, 3, 7, 66] (k := rc (ht := fun hc1 => ?_) (hf := fun hc1 => ?_))
    · refine rk (k := rs (k := rb (k := rs (k := rr (k := ro (pre := [_]) (k := ?_))))))
      refine RunO.callw au au au (by kernel_rfl) ((rr_num hr1 au).mono ?_)
      rintro v s9 ⟨rfl, hs⟩
      subst s9
      refine rh [0, 2, 3, 7, 8] (k := rs (k := rr (k := ro (pre := [_]) (k := ?_))))
      refine RunO.callw au au au (by kernel_rfl) ((rr_num hr1.nx au).mono ?_)
      rintro v s9 ⟨rfl, hs⟩
      subst s9
      refine rh [0, 2, 3, 7, 8] (k := rr (k := ro (pre := [_, _, _]) (k := rO (k := ?_))))
      refine RunO.abs (fun s2 => Kp (s.set tp (some (.row 82 [(r1.nx.nx).pv]))) s2 [(s.nxt + 1, .row 53 [.agg [.int .i64 r.num, .int .u32 (fns2 r.nx.num r.nx.nx.num), .int .i64 r.nx.nx.nx.num, .sl kw (ws.map Win.pv), .sl kk (l.map Slt.pv)]]), (s.nxt, .row 53 [.agg [.int .i64 0, .int .u32 0, .int .i64 0, .sl .nil [], .sl .nil []]])] ∧ s2.blk s1.nxt = some (.row 60 [(r1.slt).pv]) ∧ s2.nxt = s1.nxt + 1 ∧ Grows s2 kk l.length (Try.prog.cellsOf 60)) ⟨(((((K1.setbase hlt hd _).new _).set' (id := s1.nxt) _ (by simp only [nxt_set]; omega) (by simp only [nxt_set, nxt_new]; omega) (by simp only [List.forall_mem_cons]; exact ⟨by omega, by omega, by simp⟩)).setbase hlt hd _).set' (id := s1.nxt) _ (by simp only [nxt_set]; omega) (by simp only [nxt_set, nxt_new]; omega) (by simp only [List.forall_mem_cons]; exact ⟨by omega, by omega, by simp⟩)), by simp (disch := first | omega | (simp only [nxt_set, nxt_new] <;> omega) | fail) only [go_sem]; first | rfl | done, rfl, hgr.mono fun t ht => by have := htk t _ ht; simp (disch := first | omega | (simp only [nxt_set, nxt_new] <;> omega)) only [go_sem]⟩ ?_
      rintro s2 ⟨K2, hW, hn2, hg2⟩
      have hO2 := K2.hd'
      have hlw := hlen
      have H := aj hW (aj hO2 H)
      refine RunO.grow au au au Try.td51 (by rw [Try.zp60]; rfl) (isEls_map (fun a => ⟨rfl, by rw [Try.cz60]; rfl⟩) _) (isEls_map (f := Slt.pv) (fun a => ⟨rfl, by rw [Try.cz60]; rfl⟩) [r1.slt]) (by rw [Try.by60]; decide) (by rw [Try.by60]; simp; omega) (by rw [List.length_map]; exact hg2) (by simp) ?_
      intro k' s3 hgr' htm
      have K3 := K2.tm htm (fun t z e => by have := htk t z e; rw [nxt_set]; omega) (fun p hp z e => by
        have := htk _ z e
        simp only [List.mem_cons, List.not_mem_nil, or_false] at hp
        rcases hp with rfl | rfl <;> simp only at this <;> omega)
      have hO3 := K3.hd'
      have htk3 : ∀ t z, k' = .tok t z → s.nxt + 1 < t ∧ t < s3.nxt := fun t z e => by
        have h9 := htm.nxt
        rcases htm.fresh t z e with ⟨z', h⟩ | ⟨h1, h2⟩
        · have := htk t z' h; omega
        · omega
      have H := aj hO3 H
      refine rh [0, 2, 3, 7] (k := rB (k := rg [0, 2, 3, 7] (k := ?_)))
      rw [List.length_map] at hgr'
      have hms : 0 < m ∧ r1.fell = false := by revert hc1; cases r1.fell <;> simp
      have hw : IntKind.i64.wrap ((m : Int) - 1) = ((m - 1 : Nat) : Int) := by rw [wrap_i64 (by omega)]; omega
      have htk2 : ∀ t z, kk = .tok t z → s.nxt + 1 < t ∧ t < s1.nxt := htk
      refine Run.lp ⟨⟨m - 1, r1.nx.nx, l ++ [r1.slt], k', by simp (disch := first | omega | (simp only [nxt_set, nxt_new] <;> omega) | fail) only [go_sem, hw] <;> rfl, by simp only [List.length_append, List.length_cons, List.length_nil]; omega, hr1.nx.nx, ?_, by rw [List.length_append]; exact hgr'.mono fun t ht => blk_set_ne (by have := htk3 t _ ht; omega), htk3, by simp only [List.length_append, List.length_cons, List.length_nil]; omega, ?_⟩, ?_⟩
      · have := K3.setset (b' := .row 53 [.agg [.int .i64 r.num, .int .u32 (fns2 r.nx.num r.nx.nx.num), .int .i64 r.nx.nx.nx.num, .sl kw (ws.map Win.pv), .sl k' (l.map Slt.pv ++ [r1.slt.pv])]]) (by simp) (by rw [nxt_set]; omega)
        rw [List.map_append]
        exact this
      · rw [← hmany, Rr.many_step hms.1 hms.2] <;> rfl
      · simp (disch := first | omega | (simp only [nxt_set, nxt_new] <;> omega) | fail) only [ivar, go_sem, ↓reduceIte, Nat.reduceEqDiff, hw]
        omega
    · refine rX (k := rs (k := ?_))
      have hO := K1.hd'
      have hZ := K1.tl.hd'
      have hl1 := K1.lt'
      have H := aj hO (aj hZ H)
      refine rg [2] (k := rR (k := ?_))
      have hn1 := K1.nx
      rw [nxt_set] at hn1
      have hl1 := K1.lt'
      have hstop : m = 0 ∨ r1.fell = true := by revert hc1; cases r1.fell <;> simp
      rw [Rr.many_stop hstop] at hmany
      have e1 : r.ten = (⟨r.num, fns2 r.nx.num r.nx.nx.num, r.nx.nx.nx.num, ws, l⟩, r1) := by unfold Rr.ten; rw [← hmany, ← hwins]
      refine Ret.baseK (r' := r.ten.1.pv) tp (.row 82 [r.ten.2.pv]) hlt (by simp only [Try.f41, go_sem, ↓reduceIte] <;> rfl) (by rw [e1]; simp only [Ten.pv, PV.weak, PV.weaks, weaks_wins, weaks_slts]) (blw_ten _ _) (by simp only [Blk.blw, go_sem]; simp) hwf (by rw [e1]; exact (K1.fr.set (by rw [nxt_set]; omega) (by omega) _).blk) ⟨rfl, rfl⟩
end Go.Proofs
namespace Go.Proofs
open Go.PM
set_option maxHeartbeats 2000000
theorem dr_count {r : Dr} (hr : r.ok) {s : St} {tp : Nat} (hb : s.blk tp = (some (.row 74 [(r).pv]))) : ACalls Try.prog 34 [.ptr tp 0 0] s (fun v s' => v = .int .i64 r.cnt ∧ s' = s.set tp (some (.row 74 [(r.cx).pv]))) := by
  refine go Try.func34 (k := fun hwf H => ?_)
  have hlt : tp < s.nxt := lt_blk hwf hb
  have hx := hr.nx
  have hxn := hx.n
  have hxp := hx.pos
  have H := aj hb H
  refine rs (k := rg [0] (k := rs (k := rr (k := ro (pre := [_]) (k := ?_)))))
  refine RunO.callw au au au (by kernel_rfl) ((dr_num hr au).mono ?_)
  rintro v s9 ⟨rfl, hs⟩
  subst s9
  refine rh [0, 3] (k := rs (k := rs (k := ?_)))
  have hw : IntKind.i64.wrap ((r.nx.b.length : Int) - (r.nx.pos : Int)) = (r.nx.b.length : Int) - r.nx.pos := wrap_i64 (by omega)
  have H := aj hw H
  refine Run.drawC [] [0, 3, 17] Try.mixed (by kernel_rfl) ?_
  refine DetC.all au ?_
  refine re (k := rc (ht := fun hc0 => ?_) (hf := fun hc0 => ?_))
  · refine rs (k := rg [] (k := rs (k := rg [2] (k := rR (k := ?_)))))
    first
      | (have h0 : r.over := by have := of_decide_eq_true hc0; exact this
         refine Ret.all (by simp only [Try.f34, go_sem] <;> rfl) ⟨?_, ?_⟩
         · rw [Dr.cnt, if_pos h0]
         · rw [Dr.cx, if_pos h0]; simp only [set_set_eq])
      | (have h0 : ¬ r.over := by have := of_decide_eq_false hc0; exact this
         refine Ret.all (by simp only [Try.f34, go_sem] <;> rfl) ⟨?_, ?_⟩
         · rw [Dr.cnt, if_neg h0]
         · rw [Dr.cx, if_neg h0])
  · refine rk (k := rs (k := rg [2] (k := rR (k := ?_))))
    first
      | (have h0 : r.over := by have := of_decide_eq_true hc0; exact this
         refine Ret.all (by simp only [Try.f34, go_sem] <;> rfl) ⟨?_, ?_⟩
         · rw [Dr.cnt, if_pos h0]
         · rw [Dr.cx, if_pos h0]; simp only [set_set_eq])
      | (have h0 : ¬ r.over := by have := of_decide_eq_false hc0; exact this
         refine Ret.all (by simp only [Try.f34, go_sem] <;> rfl) ⟨?_, ?_⟩
         · rw [Dr.cnt, if_neg h0]
         · rw [Dr.cx, if_neg h0])
set_option maxRecDepth 100000 in
theorem dr_ten {r : Dr} (hr : r.ok) {s : St} {tp : Nat} (hb : s.blk tp = (some (.row 74 [(r).pv]))) : ACalls Try.prog 35 [.ptr tp 0 0] s (fun v s' => v = r.ten.1.pv ∧ s' = s.set tp (some (.row 74 [(r.ten.2).pv]))) := by
  refine go Try.func35 (k := fun hwf H => ?_)
  have hlt : tp < s.nxt := lt_blk hwf hb
  have hs0 : s.set tp (some (.row 74 [(r).pv])) = s := St.set_self hb
  have H := aj hb H
  refine rs (k := rg [0, 2] (k := rs (k := rr (k := ro (pre := [_]) (k := ?_)))))
  refine RunO.callw au au au (by kernel_rfl) ((dr_num hr au).mono ?_)
  rintro v s9 ⟨rfl, hs⟩
  subst s9
  refine rh [0, 2, 3] (k := rs (k := rr (k := ro (pre := [_]) (k := ?_))))
  refine RunO.callw au au au (by kernel_rfl) ((dr_num hr.nx au).mono ?_)
  rintro v s9 ⟨rfl, hs⟩
  subst s9
  refine ro (pre := [_]) (k := ?_)
  refine RunO.callw au au au (by kernel_rfl) ((dr_num hr.nx.nx au).mono ?_)
  rintro v s9 ⟨rfl, hs⟩
  subst s9
  refine rh [0, 2, 3, 4, 5] (k := rs (k := rr (k := ro (pre := [_, _, _, _, _, _, _]) (k := ?_))))
  refine RunO.callw au au au (by kernel_rfl) ((dr_num hr.nx.nx.nx au).mono ?_)
  rintro v s9 ⟨rfl, hs⟩
  subst s9
  refine rh [0, 2, 3] (k := rs (k := rs (k := rr (k := ro (pre := [_]) (k := ?_)))))
  refine RunO.callw au au au (by kernel_rfl) ((dr_count hr.nx.nx.nx.nx au).mono ?_)
  rintro v s9 ⟨rfl, hs⟩
  subst s9
  refine rh [0, 2, 3, 24, 25] (k := rb (k := ?_))
  refine Run.loop (fun e s' => ∃ (n i : Nat) (r1 : Dr) (l : List Win) (kk : SK), e = [(0, .ptr tp 0 0), (2, .ptr s.nxt 0 0), (3, .ptr (s.nxt + 1) 0 0), (24, .int .i64 (n : Int)), (25, .int .i64 (i : Int))] ∧ i ≤ n ∧ n ≤ 65535 ∧ r1.ok ∧ Kp (s.set tp (some (.row 74 [(r1).pv]))) s' [(s.nxt + 1, .row 53 [.agg [.int .i64 r.num, .int .u32 (fns2 r.nx.num r.nx.nx.num), .int .i64 r.nx.nx.nx.num, .sl kk (l.map Win.pv), .sl .nil []]]), (s.nxt, .row 53 [.agg [.int .i64 0, .int .u32 0, .int .i64 0, .sl .nil [], .sl .nil []]])] ∧ Grows s' kk l.length (Try.prog.cellsOf 65) ∧ (∀ t z, kk = .tok t z → s.nxt + 1 < t ∧ t < s'.nxt) ∧ l.length ≤ i ∧ Dr.many (fun r => (r.win, r.nx4)) (n - i) r1 l = r.nx4.wins) (fun e s' => ivar e 24 - ivar e 25) ?_ ?_
  · have hn := Dr.cnt_ok hr.nx.nx.nx.nx
    obtain ⟨m0, hm0⟩ : ∃ m0 : Nat, r.nx4.cnt = m0 := ⟨r.nx4.cnt.toNat, (Int.toNat_of_nonneg hn.1).symm⟩
    have k0 : Kp (s.set tp (some (.row 74 [(r).pv]))) (s.new (.row 53 [.agg [.int .i64 0, .int .u32 0, .int .i64 0, .sl .nil [], .sl .nil []]])) [(s.nxt, .row 53 [.agg [.int .i64 0, .int .u32 0, .int .i64 0, .sl .nil [], .sl .nil []]])] := by rw [hs0]; exact (Kp.nil (Fr.refl hwf)).push _
    have hd0 : ∀ p ∈ ([(s.nxt, .row 53 [.agg [.int .i64 0, .int .u32 0, .int .i64 0, .sl .nil [], .sl .nil []]])] : List (Nat × Blk)), p.1 ≠ tp := by simp only [List.forall_mem_cons]; exact ⟨by omega, by simp⟩
    have hd1 : ∀ X : Blk, ∀ p ∈ ([(s.nxt + 1, X), (s.nxt, .row 53 [.agg [.int .i64 0, .int .u32 0, .int .i64 0, .sl .nil [], .sl .nil []]])] : List (Nat × Blk)), p.1 ≠ tp := fun X => by simp only [List.forall_mem_cons]; exact ⟨by omega, by omega, by simp⟩
    refine ⟨m0, 0, r.nx4.cx, [], .nil, by rw [← hm0] <;> rfl, Nat.zero_le _, by have := hn.2; have : r.nx4.cnt ≤ 65535 := this; omega, hr.nx.nx.nx.nx.cx, ?_, .inl ⟨rfl, rfl⟩, fun t z e => (by cases e), by simp, by unfold Dr.wins; rw [hm0]; rfl⟩
    exact (((((((k0.setbase hlt hd0 _).pushset (id := s.nxt + 1) _ _ rfl).setbase hlt (hd1 _) _).setbase hlt (hd1 _) _).setbase hlt (hd1 _) _).setset (by simp) (by rw [nxt_set]; omega)).setset (by simp) (by rw [nxt_set]; omega)).setbase hlt (hd1 _) _
  rintro e s1 ⟨n, i, r1, l, kk, rfl, hin, hnn, hr1, K1, hgr, htk, hlen, hmany⟩
  refine rs (k := rg [0, 2, 3, 24, 25, 26] (k := rs (k := rc (ht := fun hc0 => ?_) (hf := fun hc0 => ?_))))
  · refine rk (k := rs (k := rb (k := ?_)))
    have h1b : s1.blk tp = (some (.row 74 [(r1).pv])) := by rw [K1.fr.blk tp hlt]; exact blk_set_self _ _ _
    have hO := K1.hd'
    have hl1 := K1.lt'
    have hn1 := K1.nx
    rw [nxt_set] at hn1
    have hil : i < n := by have := of_decide_eq_true hc0; omega
    have hw : IntKind.i64.wrap ((i : Int) + 1) = ((i + 1 : Nat) : Int) := by rw [wrap_i64 (by omega)]; omega
    have hd : ∀ p ∈ ([(s.nxt + 1, .row 53 [.agg [.int .i64 r.num, .int .u32 (fns2 r.nx.num r.nx.nx.num), .int .i64 r.nx.nx.nx.num, .sl kk (l.map Win.pv), .sl .nil []]]), (s.nxt, .row 53 [.agg [.int .i64 0, .int .u32 0, .int .i64 0, .sl .nil [], .sl .nil []]])] : List (Nat × Blk)), p.1 ≠ tp := by simp only [List.forall_mem_cons]; exact ⟨by omega, by omega, by simp⟩
    have htO : (s.nxt + 1 = tp) = False := eq_false (by omega)
    have htO' : (tp = s.nxt + 1) = False := eq_false (by omega)
    have H := aj h1b (aj hO (aj hw (aj htO (aj htO' H))))
    refine Run.drawM 12 [3, 5, 7, 9] [s1, (s1.set tp (some (.row 74 [(r1.nx).pv]))), ((s1.set tp (some (.row 74 [(r1.nx).pv]))).set tp (some (.row 74 [(r1.nx.nx).pv]))), (((s1.set tp (some (.row 74 [(r1.nx).pv]))).set tp (some (.row 74 [(r1.nx.nx).pv]))).set tp (some (.row 74 [(r1.nx.nx.nx).pv]))), ((((s1.set tp (some (.row 74 [(r1.nx).pv]))).set tp (some (.row 74 [(r1.nx.nx).pv]))).set tp (some (.row 74 [(r1.nx.nx.nx).pv]))).set tp (some (.row 74 [(r1.nx.nx.nx.nx).pv])))] Try.mixed (by kernel_rfl) (by kernel_rfl) ?_
    refine DetBC.pre (pre := [_, _, _]) (by decide) List.mem_cons_self au ?_
    refine DetBC.callE (by decide) List.mem_cons_self au au au (by kernel_rfl) (dr_num hr1 au) ?_
    refine DetBC.pre (pre := [_]) (by decide) (List.mem_cons_of_mem _ List.mem_cons_self) au ?_
    refine DetBC.callE (by decide) (List.mem_cons_of_mem _ List.mem_cons_self) au au au (by kernel_rfl) (dr_num hr1.nx au) ?_
    refine DetBC.pre (pre := [_]) (by decide) (List.mem_cons_of_mem _ (List.mem_cons_of_mem _ List.mem_cons_self)) au ?_
    refine DetBC.callE (by decide) (List.mem_cons_of_mem _ (List.mem_cons_of_mem _ List.mem_cons_self)) au au au (by kernel_rfl) (dr_num hr1.nx.nx au) ?_
    refine DetBC.pre (pre := [_]) (by decide) (List.mem_cons_of_mem _ (List.mem_cons_of_mem _ (List.mem_cons_of_mem _ List.mem_cons_self))) au ?_
    refine DetBC.callE (by decide) (List.mem_cons_of_mem _ (List.mem_cons_of_mem _ (List.mem_cons_of_mem _ List.mem_cons_self))) au au au (by kernel_rfl) (dr_num hr1.nx.nx.nx au) ?_
    refine DetBC.all (by decide) (List.mem_cons_of_mem _ (List.mem_cons_of_mem _ (List.mem_cons_of_mem _ (List.mem_cons_of_mem _ List.mem_cons_self)))) au ?_
    refine RunO.abs (fun s2 => Kp (s.set tp (some (.row 74 [(r1.nx.nx.nx.nx).pv]))) s2 [(s.nxt + 1, .row 53 [.agg [.int .i64 r.num, .int .u32 (fns2 r.nx.num r.nx.nx.num), .int .i64 r.nx.nx.nx.num, .sl kk (l.map Win.pv), .sl .nil []]]), (s.nxt, .row 53 [.agg [.int .i64 0, .int .u32 0, .int .i64 0, .sl .nil [], .sl .nil []]])] ∧ s2.nxt = s1.nxt ∧ Grows s2 kk l.length (Try.prog.cellsOf 65)) ⟨((((K1.setbase hlt hd _).setbase hlt hd _).setbase hlt hd _).setbase hlt hd _), rfl, hgr.mono fun t ht => by have := htk t _ ht; simp (disch := omega) only [go_sem]⟩ ?_
    rintro s2 ⟨K2, hn2, hg2⟩
    have hO2 := K2.hd'
    have hlw := hlen
    have H := aj hO2 H
    refine RunO.grow au au au Try.td50 (by rw [Try.zp65]; rfl) (isEls_map (fun a => ⟨rfl, by rw [Try.cz65]; rfl⟩) _) (isEls_map (f := Win.pv) (fun a => ⟨rfl, by rw [Try.cz65]; rfl⟩) [r1.win]) (by rw [Try.by65]; decide) (by rw [Try.by65]; simp; omega) (by rw [List.length_map]; exact hg2) (by simp) ?_
    intro k' s3 hgr' htm
    have K3 := K2.tm htm (fun t z e => by have := htk t z e; rw [nxt_set]; omega) (fun p hp z e => by
      have := htk _ z e
      simp only [List.mem_cons, List.not_mem_nil, or_false] at hp
      rcases hp with rfl | rfl <;> simp only at this <;> omega)
    have hO3 := K3.hd'
    have htk3 : ∀ t z, k' = .tok t z → s.nxt + 1 < t ∧ t < s3.nxt := fun t z e => by
      have h9 := htm.nxt
      rcases htm.fresh t z e with ⟨z', h⟩ | ⟨h1, h2⟩
      · have := htk t z' h; omega
      · omega
    have H := aj hO3 H
    refine rh [0, 2, 3, 24, 25] (k := rB (k := rg [0, 2, 3, 24, 25] (k := ?_)))
    rw [List.length_map] at hgr'
    refine Run.lp ⟨⟨n, i + 1, r1.nx.nx.nx.nx, l ++ [r1.win], k', rfl, by omega, by omega, hr1.nx.nx.nx.nx, ?_, by rw [List.length_append]; exact hgr'.mono fun t ht => blk_set_ne (by have := htk3 t _ ht; omega), htk3, by simp only [List.length_append, List.length_cons, List.length_nil]; omega, ?_⟩, ?_⟩
    · have := K3.setset (b' := .row 53 [.agg [.int .i64 r.num, .int .u32 (fns2 r.nx.num r.nx.nx.num), .int .i64 r.nx.nx.nx.num, .sl k' (l.map Win.pv ++ [r1.win.pv]), .sl .nil []]]) (by simp) (by rw [nxt_set]; omega)
      rw [List.map_append]
      exact this
    · rw [← hmany, Dr.many_step (m := n - i) (by omega)] <;> rfl
    · simp (disch := omega) only [ivar, go_sem, ↓reduceIte, Nat.reduceEqDiff]
      omega
  · refine rX (k := rs (k := rs (k := ?_)))
    have h1b : s1.blk tp = (some (.row 74 [(r1).pv])) := by rw [K1.fr.blk tp hlt]; exact blk_set_self _ _ _
    have hl1 := K1.lt'
    have hn1 := K1.nx
    rw [nxt_set] at hn1
    generalize l = ws at *
    generalize kk = kw at *
    have hstop : n - i = 0 := by have := of_decide_eq_false hc0; omega
    rw [hstop] at hmany
    have hwins : (ws, r1) = r.nx4.wins := hmany
    have hwl := hlen
    have hwn := hnn
    have H := aj h1b H
    refine rr (k := ro (pre := [_]) (k := ?_))
    refine RunO.callw au au au (by kernel_rfl) ((dr_count hr1 au).mono ?_)
    rintro v s9 ⟨rfl, hs⟩
    subst s9
    refine rh [0, 2, 3, 43, 44] (k := rb (k := ?_))
    refine Run.loop (fun e s' => ∃ (n i : Nat) (r1 : Dr) (l : List Slt) (kk : SK), e = [(0, .ptr tp 0 0), (2, .ptr s.nxt 0 0), (3, .ptr (s.nxt + 1) 0 0), (43, .int .i64 (n : Int)), (44, .int .i64 (i : Int))] ∧ i ≤ n ∧ n ≤ 65535 ∧ r1.ok ∧ Kp (s.set tp (some (.row 74 [(r1).pv]))) s' [(s.nxt + 1, .row 53 [.agg [.int .i64 r.num, .int .u32 (fns2 r.nx.num r.nx.nx.num), .int .i64 r.nx.nx.nx.num, .sl kw (ws.map Win.pv), .sl kk (l.map Slt.pv)]]), (s.nxt, .row 53 [.agg [.int .i64 0, .int .u32 0, .int .i64 0, .sl .nil [], .sl .nil []]])] ∧ Grows s' kk l.length (Try.prog.cellsOf 60) ∧ (∀ t z, kk = .tok t z → s.nxt + 1 < t ∧ t < s'.nxt) ∧ l.length ≤ i ∧ Dr.many (fun r => (r.slt, r.nx.nx)) (n - i) r1 l = r.nx4.wins.2.slts) (fun e s' => ivar e 43 - ivar e 44) ?_ ?_
    · have hn := Dr.cnt_ok hr1
      obtain ⟨m0, hm0⟩ : ∃ m0 : Nat, r1.cnt = m0 := ⟨r1.cnt.toNat, (Int.toNat_of_nonneg hn.1).symm⟩
      refine ⟨m0, 0, r1.cx, [], .nil, by rw [← hm0] <;> rfl, Nat.zero_le _, by have := hn.2; omega, hr1.cx, K1.setbase hlt (by simp only [List.forall_mem_cons]; exact ⟨by omega, by omega, by simp⟩) _, .inl ⟨rfl, rfl⟩, fun t z e => (by cases e), by simp, by rw [← hwins]; unfold Dr.slts; rw [hm0]; rfl⟩
    rintro e s1 ⟨n, i, r1, l, kk, rfl, hin, hnn, hr1, K1, hgr, htk, hlen, hmany⟩
    refine rs (k := rg [0, 2, 3, 43, 44, 45] (k := rs (k := rc (ht := fun hc1 => ?_) (hf := fun hc1 => ?_))))
    · refine rk (k := rs (k := rb (k := ?_)))
      have h1b : s1.blk tp = (some (.row 74 [(r1).pv])) := by rw [K1.fr.blk tp hlt]; exact blk_set_self _ _ _
      have hO := K1.hd'
      have hl1 := K1.lt'
      have hn1 := K1.nx
      rw [nxt_set] at hn1
      have hil : i < n := by have := of_decide_eq_true hc1; omega
      have hw : IntKind.i64.wrap ((i : Int) + 1) = ((i + 1 : Nat) : Int) := by rw [wrap_i64 (by omega)]; omega
      have hd : ∀ p ∈ ([(s.nxt + 1, .row 53 [.agg [.int .i64 r.num, .int .u32 (fns2 r.nx.num r.nx.nx.num), .int .i64 r.nx.nx.nx.num, .sl kw (ws.map Win.pv), .sl kk (l.map Slt.pv)]]), (s.nxt, .row 53 [.agg [.int .i64 0, .int .u32 0, .int .i64 0, .sl .nil [], .sl .nil []]])] : List (Nat × Blk)), p.1 ≠ tp := by simp only [List.forall_mem_cons]; exact ⟨by omega, by omega, by simp⟩
      have htO : (s.nxt + 1 = tp) = False := eq_false (by omega)
      have htO' : (tp = s.nxt + 1) = False := eq_false (by omega)
      have H := aj h1b (aj hO (aj hw (aj htO (aj htO' H))))
      refine Run.drawM 8 [3, 5] [s1, (s1.set tp (some (.row 74 [(r1.nx).pv]))), ((s1.set tp (some (.row 74 [(r1.nx).pv]))).set tp (some (.row 74 [(r1.nx.nx).pv])))] Try.mixed (by kernel_rfl) (by kernel_rfl) ?_
      refine DetBC.pre (pre := [_, _, _]) (by decide) List.mem_cons_self au ?_
      refine DetBC.callE (by decide) List.mem_cons_self au au au (by kernel_rfl) (dr_num hr1 au) ?_
      refine DetBC.pre (pre := [_]) (by decide) (List.mem_cons_of_mem _ List.mem_cons_self) au ?_
      refine DetBC.callE (by decide) (List.mem_cons_of_mem _ List.mem_cons_self) au au au (by kernel_rfl) (dr_num hr1.nx au) ?_
      refine DetBC.all (by decide) (List.mem_cons_of_mem _ (List.mem_cons_of_mem _ List.mem_cons_self)) au ?_
      refine RunO.abs (fun s2 => Kp (s.set tp (some (.row 74 [(r1.nx.nx).pv]))) s2 [(s.nxt + 1, .row 53 [.agg [.int .i64 r.num, .int .u32 (fns2 r.nx.num r.nx.nx.num), .int .i64 r.nx.nx.nx.num, .sl kw (ws.map Win.pv), .sl kk (l.map Slt.pv)]]), (s.nxt, .row 53 [.agg [.int .i64 0, .int .u32 0, .int .i64 0, .sl .nil [], .sl .nil []]])] ∧ s2.nxt = s1.nxt ∧ Grows s2 kk l.length (Try.prog.cellsOf 60)) ⟨((K1.setbase hlt hd _).setbase hlt hd _), rfl, hgr.mono fun t ht => by have := htk t _ ht; simp (disch := omega) only [go_sem]⟩ ?_
      rintro s2 ⟨K2, hn2, hg2⟩
      have hO2 := K2.hd'
      have hlw := hlen
      have H := aj hO2 H
      refine RunO.grow au au au Try.td51 (by rw [Try.zp60]; rfl) (isEls_map (fun a => ⟨rfl, by rw [Try.cz60]; rfl⟩) _) (isEls_map (f := Slt.pv) (fun a => ⟨rfl, by rw [Try.cz60]; rfl⟩) [r1.slt]) (by rw [Try.by60]; decide) (by rw [Try.by60]; simp; omega) (by rw [List.length_map]; exact hg2) (by simp) ?_
      intro k' s3 hgr' htm
      have K3 := K2.tm htm (fun t z e => by have := htk t z e; rw [nxt_set]; omega) (fun p hp z e => by
        have := htk _ z e
        simp only [List.mem_cons, List.not_mem_nil, or_false] at hp
        rcases hp with rfl | rfl <;> simp only at this <;> omega)
      have hO3 := K3.hd'
      have htk3 : ∀ t z, k' = .tok t z → s.nxt + 1 < t ∧ t < s3.nxt := fun t z e => by
        have h9 := htm.nxt
        rcases htm.fresh t z e with ⟨z', h⟩ | ⟨h1, h2⟩
        · have := htk t z' h; omega
        · omega
      have H := aj hO3 H
      refine rh [0, 2, 3, 43, 44] (k := rB (k := rg [0, 2, 3, 43, 44] (k := ?_)))
      rw [List.length_map] at hgr'
      refine Run.lp ⟨⟨n, i + 1, r1.nx.nx, l ++ [r1.slt], k', rfl, by omega, by omega, hr1.nx.nx, ?_, by rw [List.length_append]; exact hgr'.mono fun t ht => blk_set_ne (by have := htk3 t _ ht; omega), htk3, by simp only [List.length_append, List.length_cons, List.length_nil]; omega, ?_⟩, ?_⟩
      · have := K3.setset (b' := .row 53 [.agg [.int .i64 r.num, .int .u32 (fns2 r.nx.num r.nx.nx.num), .int .i64 r.nx.nx.nx.num, .sl kw (ws.map Win.pv), .sl k' (l.map Slt.pv ++ [r1.slt.pv])]]) (by simp) (by rw [nxt_set]; omega)
        rw [List.map_append]
        exact this
      · rw [← hmany, Dr.many_step (m := n - i) (by omega)] <;> rfl
      · simp (disch := omega) only [ivar, go_sem, ↓reduceIte, Nat.reduceEqDiff]
        omega
    · refine rX (k := rs (k := ?_))
      have hO := K1.hd'
      have hZ := K1.tl.hd'
      have hl1 := K1.lt'
      have H := aj hO (aj hZ H)
      refine rg [2] (k := rR (k := ?_))
      have hn1 := K1.nx
      rw [nxt_set] at hn1
      have hl1 := K1.lt'
      have hstop : n - i = 0 := by have := of_decide_eq_false hc1; omega
      rw [hstop] at hmany
      have hmany : (l, r1) = r.nx4.wins.2.slts := hmany
      have e1 : r.ten = (⟨r.num, fns2 r.nx.num r.nx.nx.num, r.nx.nx.nx.num, ws, l⟩, r1) := by unfold Dr.ten; rw [← hmany, ← hwins]
      refine Ret.baseK (r' := r.ten.1.pv) tp (.row 74 [r.ten.2.pv]) hlt (by simp only [Try.f35, go_sem, ↓reduceIte] <;> rfl) (by rw [e1]; simp only [Ten.pv, PV.weak, PV.weaks, weaks_wins, weaks_slts]) (blw_ten _ _) (by simp only [Blk.blw, go_sem]; simp) hwf (by rw [e1]; exact (K1.fr.set (by rw [nxt_set]; omega) (by omega) _).blk) ⟨rfl, rfl⟩
end Go.Proofs

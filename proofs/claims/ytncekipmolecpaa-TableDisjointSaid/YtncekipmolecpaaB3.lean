import Derived.Test.YtncekipmolecpaaB2
set_option linter.unusedVariables false
set_option linter.unusedSimpArgs false
namespace Go.Proofs
open Go.PM
set_option maxHeartbeats 2000000
theorem Slt.ok.sp {s : Slt} (h : s.ok) : s.sp.ok := ⟨h.pos, h.len⟩
theorem table_slot {a : Slt} {s : St} : ACalls Try.prog 42 [a.pv] s (fun r s' => r = a.sp.pv ∧ s' = s) := by
  refine go Try.func42 (k := fun hwf H => ?_)
  refine rs (k := rg [1, 2] (k := rs (k := rg [2] (k := rR (k := rP (by simp only [Try.f42, go_sem]; rfl) hwf ⟨?_, rfl⟩)))))
  rfl
theorem index_Slt {xs : List Slt} {k : FuncId} {cap : List PV} {p : Slt → Bool} {s : St} (hsz : xs.length < 140737488355328) (hcal : callable Try.prog k = true) (hcap : PV.weaks cap = cap) (hf : ∀ x ∈ xs, ACalls Try.prog k (x.pv :: cap) s (fun r s' => r = .bool (p x) ∧ s' = s)) :
    ACalls Try.prog 57 [.sl .unk (xs.map Slt.pv), .fn (.func k) [] cap] s (fun r s' => r = .int .i64 (idxF p xs 0) ∧ s' = s) := by
  refine go Try.func57 (k := fun hwf H => ?_)
  have H := aj hcap H
  refine rs (k := rg [0, 1] (k := rs (k := rs (k := rg [0, 1, 7, 8] (k := rb (k := ?_))))))
  refine Run.loop (fun e s' => s' = s ∧ ∃ i : Nat, e = [(0, .sl .unk (xs.map Slt.pv)), (1, .fn (.func k) [] cap), (7, .int .i64 xs.length), (8, .int .i64 i)] ∧ i ≤ xs.length ∧ idxF p xs 0 = idxF p (xs.drop i) i) (fun e s' => xs.length - ivar e 8) ?_ ?_
  · exact ⟨rfl, 0, rfl, by omega, rfl⟩
  rintro e s' ⟨hs, i, rfl, hi, hidx⟩
  subst s'
  refine rs (k := rg [0, 1, 7, 8, 9] (k := rs (k := rc (ht := fun hc0 => ?_) (hf := fun hc0 => ?_))))
  · refine rk (k := rs (k := rb (k := rs (k := ?_))))
    have hil : i < xs.length := by have := of_decide_eq_true hc0; omega
    obtain ⟨x, hxe⟩ : ∃ z_, xs[i]'hil = z_ := ⟨_, rfl⟩
    have hxx : (xs.map Slt.pv)[i]? = some (.agg [.int .i64 (x).pos, .int .i64 (x).len]) := by rw [map_get hil, hxe]; rfl
    have hw : IntKind.i64.wrap ((i : Int) + 1) = ((i + 1 : Nat) : Int) := by rw [wrap_i64 (by omega)]; omega
    have H := aj hxx (aj hw H)
    refine rg [0, 1, 5, 7, 8] (k := rs (k := rr (k := ro (pre := [_, _, _, _, _]) (k := ?_))))
    refine RunO.callw au au au hcal ((hf x (by rw [← hxe]; exact List.getElem_mem _)).mono ?_)
    rintro r1 s1 ⟨rfl, hs⟩
    subst s1
    refine rl [0, 1, 5, 7, 8, 16] (k := rc (ht := fun hc1 => ?_) (hf := fun hc1 => ?_))
    · refine rs (k := rg [4] (k := rR (k := rP (by simp only [Try.f57, go_sem]; rfl) hwf ⟨?_, rfl⟩)))
      first
        | (rw [idxF_step p hil, hxe, if_pos hc1] at hidx
           rw [hidx]; rfl)
        | (have : i = xs.length := by have := of_decide_eq_false hc0; omega
           rw [this, List.drop_length] at hidx
           rw [hidx]; rfl)
    · refine rk (k := rB (k := rg [0, 1, 7, 8] (k := ?_)))
      rw [idxF_step p hil, hxe, if_neg (by rw [hc1]; simp)] at hidx
      refine Run.lp ⟨⟨rfl, i + 1, rfl, by omega, hidx⟩, ?_⟩
      simp only [ivar, go_sem, ↓reduceIte, Nat.reduceEqDiff]
      omega
  · refine rX (k := rs (k := rg [4] (k := rR (k := rP (by simp only [Try.f57, go_sem]; rfl) hwf ⟨?_, rfl⟩))))
    first
      | (rw [idxF_step p hil, hxe, if_pos hc1] at hidx
         rw [hidx]; rfl)
      | (have : i = xs.length := by have := of_decide_eq_false hc0; omega
         rw [this, List.drop_length] at hidx
         rw [hidx]; rfl)
theorem contains_Slt {xs : List Slt} {k : FuncId} {cap : List PV} {p : Slt → Bool} {s : St} (hsz : xs.length < 140737488355328) (hcal : callable Try.prog k = true) (hcap : PV.weaks cap = cap) (hf : ∀ x ∈ xs, ACalls Try.prog k (x.pv :: cap) s (fun r s' => r = .bool (p x) ∧ s' = s)) :
    ACalls Try.prog 39 [.sl .unk (xs.map Slt.pv), .fn (.func k) [] cap] s (fun r s' => r = .bool (xs.any p) ∧ s' = s) := by
  refine go Try.func39 (k := fun hwf H => ?_)
  have H := aj hcap H
  refine rs (k := rg [0, 1] (k := rs (k := rr (k := ro (pre := [_, _]) (k := rC (h := index_Slt hsz hcal hcap hf) (k := rh [4] (k := rR (k := rP (by simp only [Try.f39, go_sem]; rfl) hwf ⟨?_, rfl⟩))))))))
  rw [idxF_any]; rfl
theorem index_Ten {xs : List Ten} {k : FuncId} {cap : List PV} {p : Ten → Bool} {s : St} (hsz : xs.length < 140737488355328) (hcal : callable Try.prog k = true) (hcap : PV.weaks cap = cap) (hf : ∀ x ∈ xs, ACalls Try.prog k (x.pv :: cap) s (fun r s' => r = .bool (p x) ∧ s' = s)) :
    ACalls Try.prog 58 [.sl .unk (xs.map Ten.pv), .fn (.func k) [] cap] s (fun r s' => r = .int .i64 (idxF p xs 0) ∧ s' = s) := by
  refine go Try.func58 (k := fun hwf H => ?_)
  have H := aj hcap H
  refine rs (k := rg [0, 1] (k := rs (k := rs (k := rg [0, 1, 7, 8] (k := rb (k := ?_))))))
  refine Run.loop (fun e s' => s' = s ∧ ∃ i : Nat, e = [(0, .sl .unk (xs.map Ten.pv)), (1, .fn (.func k) [] cap), (7, .int .i64 xs.length), (8, .int .i64 i)] ∧ i ≤ xs.length ∧ idxF p xs 0 = idxF p (xs.drop i) i) (fun e s' => xs.length - ivar e 8) ?_ ?_
  · exact ⟨rfl, 0, rfl, by omega, rfl⟩
  rintro e s' ⟨hs, i, rfl, hi, hidx⟩
  subst s'
  refine rs (k := rg [0, 1, 7, 8, 9] (k := rs (k := rc (ht := fun hc0 => ?_) (hf := fun hc0 => ?_))))
  · refine rk (k := rs (k := rb (k := rs (k := ?_))))
    have hil : i < xs.length := by have := of_decide_eq_true hc0; omega
    obtain ⟨x, hxe⟩ : ∃ z_, xs[i]'hil = z_ := ⟨_, rfl⟩
    have hxx : (xs.map Ten.pv)[i]? = some (.agg [.int .i64 (x).unit, .int .u32 (x).fns, .int .i64 (x).queue, .sl .unk ((x).wins.map Win.pv), .sl .unk ((x).slts.map Slt.pv)]) := by rw [map_get hil, hxe]; rfl
    have hw : IntKind.i64.wrap ((i : Int) + 1) = ((i + 1 : Nat) : Int) := by rw [wrap_i64 (by omega)]; omega
    have H := aj hxx (aj hw H)
    refine rg [0, 1, 5, 7, 8] (k := rs (k := rr (k := ro (pre := [_, _, _, _, _]) (k := ?_))))
    refine RunO.callw au au au hcal ((hf x (by rw [← hxe]; exact List.getElem_mem _)).mono ?_)
    rintro r1 s1 ⟨rfl, hs⟩
    subst s1
    refine rl [0, 1, 5, 7, 8, 16] (k := rc (ht := fun hc1 => ?_) (hf := fun hc1 => ?_))
    · refine rs (k := rg [4] (k := rR (k := rP (by simp only [Try.f58, go_sem]; rfl) hwf ⟨?_, rfl⟩)))
      first
        | (rw [idxF_step p hil, hxe, if_pos hc1] at hidx
           rw [hidx]; rfl)
        | (have : i = xs.length := by have := of_decide_eq_false hc0; omega
           rw [this, List.drop_length] at hidx
           rw [hidx]; rfl)
    · refine rk (k := rB (k := rg [0, 1, 7, 8] (k := ?_)))
      rw [idxF_step p hil, hxe, if_neg (by rw [hc1]; simp)] at hidx
      refine Run.lp ⟨⟨rfl, i + 1, rfl, by omega, hidx⟩, ?_⟩
      simp only [ivar, go_sem, ↓reduceIte, Nat.reduceEqDiff]
      omega
  · refine rX (k := rs (k := rg [4] (k := rR (k := rP (by simp only [Try.f58, go_sem]; rfl) hwf ⟨?_, rfl⟩))))
    first
      | (rw [idxF_step p hil, hxe, if_pos hc1] at hidx
         rw [hidx]; rfl)
      | (have : i = xs.length := by have := of_decide_eq_false hc0; omega
         rw [this, List.drop_length] at hidx
         rw [hidx]; rfl)
theorem contains_Ten {xs : List Ten} {k : FuncId} {cap : List PV} {p : Ten → Bool} {s : St} (hsz : xs.length < 140737488355328) (hcal : callable Try.prog k = true) (hcap : PV.weaks cap = cap) (hf : ∀ x ∈ xs, ACalls Try.prog k (x.pv :: cap) s (fun r s' => r = .bool (p x) ∧ s' = s)) :
    ACalls Try.prog 43 [.sl .unk (xs.map Ten.pv), .fn (.func k) [] cap] s (fun r s' => r = .bool (xs.any p) ∧ s' = s) := by
  refine go Try.func43 (k := fun hwf H => ?_)
  have H := aj hcap H
  refine rs (k := rg [0, 1] (k := rs (k := rr (k := ro (pre := [_, _]) (k := rC (h := index_Ten hsz hcal hcap hf) (k := rh [4] (k := rR (k := rP (by simp only [Try.f43, go_sem]; rfl) hwf ⟨?_, rfl⟩))))))))
  rw [idxF_any]; rfl
theorem table_tenant1 {w : Win} (hw : w.ok) {s : St} : ACalls Try.prog 36 [w.pv] s (fun r s' => r = .bool (!winRight w) ∧ s' = s) := by
  refine go Try.func36 (k := fun hwf H => ?_)
  refine rs (k := rg [1] (k := rs (k := rr (k := ro (pre := [_]) (k := rC (h := window_Right hw) (k := rh [2] (k := rR (k := rP (by simp only [Try.f36, go_sem]; rfl) hwf ⟨?_, rfl⟩))))))))
  rfl
theorem table_tenant2 {a : Slt} (ha : a.ok) {frame : Int} (hf : 0 ≤ frame ∧ frame ≤ 4611686018427387904) {s : St} {kb : Nat} (hkb_ : s.blk kb = some (.row 3 [.int .i64 frame])) : ACalls Try.prog 40 [a.pv, .ptr kb 0 0] s (fun r s' => r = .bool (!sltRight frame a) ∧ s' = s) := by
  refine go Try.func40 (k := fun hwf H => ?_)
  have hkb := hkb_
  have hlt_kb : kb < s.nxt := lt_blk hwf hkb_
  have hkb0 : (kb = s.nxt) = False := eq_false (by omega)
  have hkb1 : (kb = s.nxt + 1) = False := eq_false (by omega)
  have H := aj hkb (aj hkb0 (aj hkb1 H))
  refine rs (k := rg [1, 2] (k := rs (k := ?_)))
  refine Run.drawC [] [3] Try.mixed (by kernel_rfl) ?_
  refine DetC.pre (pre := [_, _, _, _]) au ?_
  rcases hd3 : (decide (a.len < 72)) with _ | _
  · have H := aj hd3 H
    refine DetC.gdo au au ?_
    refine DetC.call au au au (by kernel_rfl) (table_slot (a := a)) ?_
    refine DetC.gdo au au ?_
    refine DetC.call au au au (by kernel_rfl) (span_Right (a := a.sp) ha.sp hf) ?_
    refine DetC.gdo au au ?_
    refine DetC.all au ?_
    refine re (k := rR (k := rP (by simp only [Try.f40, go_sem]; rfl) hwf ⟨?_, rfl⟩))
    unfold sltRight
    first
      | (have h := of_decide_eq_true hd3
         rw [decide_eq_false (by omega : ¬ (72 ≤ a.len))]; rfl)
      | (have h := of_decide_eq_false hd3
         rw [decide_eq_true (by omega : 72 ≤ a.len)]; rfl)
  · have H := aj hd3 H
    refine DetC.gskip' au ?_
    refine DetC.gskip' au ?_
    refine DetC.gskip' au ?_
    refine DetC.gskip' au ?_
    refine DetC.gskip' au ?_
    refine DetC.all au ?_
    refine re (k := rR (k := rP (by simp only [Try.f40, go_sem]; rfl) hwf ⟨?_, rfl⟩))
    unfold sltRight
    first
      | (have h := of_decide_eq_true hd3
         rw [decide_eq_false (by omega : ¬ (72 ≤ a.len))]; rfl)
      | (have h := of_decide_eq_false hd3
         rw [decide_eq_true (by omega : 72 ≤ a.len)]; rfl)
theorem table_tenant {x : Ten} (hx : x.ok) {frame : Int} (hf : 0 ≤ frame ∧ frame ≤ 4611686018427387904) {s : St} : ACalls Try.prog 32 [x.pv, .int .i64 frame] s (fun r s' => r = .int .i64 (tenWhy x frame) ∧ s' = s) := by
  refine go Try.func32 (k := fun hwf H => ?_)
  refine rs (k := rg [2, 3] (k := rs (k := rb (k := rs (k := rg [2, 3, 5] (k := rc (ht := fun hc0 => ?_) (hf := fun hc0 => ?_)))))))
  · refine rs (k := rg [4] (k := rR (k := rP (by simp only [Try.f32, go_sem]; rfl) hwf ⟨?_, rfl⟩)))
    first
      | (rw [tenWhy, if_pos (by simpa using hc0)]; rfl)
      | (rw [tenWhy, if_neg (by simpa using hc0), if_pos (by simpa using hc1)]; rfl)
      | (rw [tenWhy, if_neg (by simpa using hc0), if_neg (by simpa using hc1), if_pos (by simp at hc2; omega)]; rfl)
      | (have h0 : ¬ (x.unit < 1 ∨ 247 < x.unit) := by simpa using hc0
         have h1 : ¬ (x.queue < 1 ∨ 6 < x.queue) := by simpa using hc1
         have h2 : ¬ (6 < x.wins.length ∨ x.slts.length < 1 ∨ 3 < x.slts.length) := by simp at hc2; omega
         rw [tenWhy, if_neg h0, if_neg h1, if_neg h2]
         first
           | (rw [show x.wins.any (fun w => !winRight w) = true from hg3]; rfl)
           | (rw [show x.wins.any (fun w => !winRight w) = false from hg3, show (!winsOwn x.wins) = true from hc3]; rfl)
           | (rw [show x.wins.any (fun w => !winRight w) = false from hg3, show (!winsOwn x.wins) = false from hc3, Bool.or_self, if_neg (by decide)]
              first
                | (rw [if_pos hc4]; rfl)
                | (rw [if_neg (by rw [hc4]; decide)]; rfl)))
  · refine rs (k := rg [2, 3, 14] (k := rc (ht := fun hc1 => ?_) (hf := fun hc1 => ?_)))
    · refine rs (k := rg [4] (k := rR (k := rP (by simp only [Try.f32, go_sem]; rfl) hwf ⟨?_, rfl⟩)))
      first
        | (rw [tenWhy, if_pos (by simpa using hc0)]; rfl)
        | (rw [tenWhy, if_neg (by simpa using hc0), if_pos (by simpa using hc1)]; rfl)
        | (rw [tenWhy, if_neg (by simpa using hc0), if_neg (by simpa using hc1), if_pos (by simp at hc2; omega)]; rfl)
        | (have h0 : ¬ (x.unit < 1 ∨ 247 < x.unit) := by simpa using hc0
           have h1 : ¬ (x.queue < 1 ∨ 6 < x.queue) := by simpa using hc1
           have h2 : ¬ (6 < x.wins.length ∨ x.slts.length < 1 ∨ 3 < x.slts.length) := by simp at hc2; omega
           rw [tenWhy, if_neg h0, if_neg h1, if_neg h2]
           first
             | (rw [show x.wins.any (fun w => !winRight w) = true from hg3]; rfl)
             | (rw [show x.wins.any (fun w => !winRight w) = false from hg3, show (!winsOwn x.wins) = true from hc3]; rfl)
             | (rw [show x.wins.any (fun w => !winRight w) = false from hg3, show (!winsOwn x.wins) = false from hc3, Bool.or_self, if_neg (by decide)]
                first
                  | (rw [if_pos hc4]; rfl)
                  | (rw [if_neg (by rw [hc4]; decide)]; rfl)))
    · refine rs (k := rg [2, 3, 23] (k := rc (ht := fun hc2 => ?_) (hf := fun hc2 => ?_)))
      · refine rs (k := rg [4] (k := rR (k := rP (by simp only [Try.f32, go_sem]; rfl) hwf ⟨?_, rfl⟩)))
        first
          | (rw [tenWhy, if_pos (by simpa using hc0)]; rfl)
          | (rw [tenWhy, if_neg (by simpa using hc0), if_pos (by simpa using hc1)]; rfl)
          | (rw [tenWhy, if_neg (by simpa using hc0), if_neg (by simpa using hc1), if_pos (by simp at hc2; omega)]; rfl)
          | (have h0 : ¬ (x.unit < 1 ∨ 247 < x.unit) := by simpa using hc0
             have h1 : ¬ (x.queue < 1 ∨ 6 < x.queue) := by simpa using hc1
             have h2 : ¬ (6 < x.wins.length ∨ x.slts.length < 1 ∨ 3 < x.slts.length) := by simp at hc2; omega
             rw [tenWhy, if_neg h0, if_neg h1, if_neg h2]
             first
               | (rw [show x.wins.any (fun w => !winRight w) = true from hg3]; rfl)
               | (rw [show x.wins.any (fun w => !winRight w) = false from hg3, show (!winsOwn x.wins) = true from hc3]; rfl)
               | (rw [show x.wins.any (fun w => !winRight w) = false from hg3, show (!winsOwn x.wins) = false from hc3, Bool.or_self, if_neg (by decide)]
                  first
                    | (rw [if_pos hc4]; rfl)
                    | (rw [if_neg (by rw [hc4]; decide)]; rfl)))
      · refine rs (k := rr (k := ro (pre := [_, _]) (k := rC (h := contains_Win (p := fun w => !winRight w) hx.nw (by kernel_rfl) rfl (fun w hw => table_tenant1 (hx.wins w hw))) (k := ro (pre := [_]) (k := rQ 44 (ht := fun hg3 => ?_) (hf := fun hg3 => ?_))))))
        · refine rg0 (k := rg0 (k := rg0 (k := rg0 (k := rh [2, 3, 40] (k := rc (ht := fun hc3 => ?_) (hf := fun hc3 => ?_))))))
          · refine rs (k := rg [4] (k := rR (k := rP (by simp only [Try.f32, go_sem]; rfl) hwf ⟨?_, rfl⟩)))
            first
              | (rw [tenWhy, if_pos (by simpa using hc0)]; rfl)
              | (rw [tenWhy, if_neg (by simpa using hc0), if_pos (by simpa using hc1)]; rfl)
              | (rw [tenWhy, if_neg (by simpa using hc0), if_neg (by simpa using hc1), if_pos (by simp at hc2; omega)]; rfl)
              | (have h0 : ¬ (x.unit < 1 ∨ 247 < x.unit) := by simpa using hc0
                 have h1 : ¬ (x.queue < 1 ∨ 6 < x.queue) := by simpa using hc1
                 have h2 : ¬ (6 < x.wins.length ∨ x.slts.length < 1 ∨ 3 < x.slts.length) := by simp at hc2; omega
                 rw [tenWhy, if_neg h0, if_neg h1, if_neg h2]
                 first
                   | (rw [show x.wins.any (fun w => !winRight w) = true from hg3]; rfl)
                   | (rw [show x.wins.any (fun w => !winRight w) = false from hg3, show (!winsOwn x.wins) = true from hc3]; rfl)
                   | (rw [show x.wins.any (fun w => !winRight w) = false from hg3, show (!winsOwn x.wins) = false from hc3, Bool.or_self, if_neg (by decide)]
                      first
                        | (rw [if_pos hc4]; rfl)
                        | (rw [if_neg (by rw [hc4]; decide)]; rfl)))
          · cases hc3
        · refine rg1 (k := rg1 (k := rC (h := window_Own hx.wins hx.nw) (k := rg1 (k := rh [2, 3, 40] (k := rc (ht := fun hc3 => ?_) (hf := fun hc3 => ?_))))))
          · refine rs (k := rg [4] (k := rR (k := rP (by simp only [Try.f32, go_sem]; rfl) hwf ⟨?_, rfl⟩)))
            first
              | (rw [tenWhy, if_pos (by simpa using hc0)]; rfl)
              | (rw [tenWhy, if_neg (by simpa using hc0), if_pos (by simpa using hc1)]; rfl)
              | (rw [tenWhy, if_neg (by simpa using hc0), if_neg (by simpa using hc1), if_pos (by simp at hc2; omega)]; rfl)
              | (have h0 : ¬ (x.unit < 1 ∨ 247 < x.unit) := by simpa using hc0
                 have h1 : ¬ (x.queue < 1 ∨ 6 < x.queue) := by simpa using hc1
                 have h2 : ¬ (6 < x.wins.length ∨ x.slts.length < 1 ∨ 3 < x.slts.length) := by simp at hc2; omega
                 rw [tenWhy, if_neg h0, if_neg h1, if_neg h2]
                 first
                   | (rw [show x.wins.any (fun w => !winRight w) = true from hg3]; rfl)
                   | (rw [show x.wins.any (fun w => !winRight w) = false from hg3, show (!winsOwn x.wins) = true from hc3]; rfl)
                   | (rw [show x.wins.any (fun w => !winRight w) = false from hg3, show (!winsOwn x.wins) = false from hc3, Bool.or_self, if_neg (by decide)]
                      first
                        | (rw [if_pos hc4]; rfl)
                        | (rw [if_neg (by rw [hc4]; decide)]; rfl)))
          · refine rs (k := rr (k := ro (pre := [_, _, _]) (k := rC (h := contains_Slt (p := fun a => !sltRight frame a) hx.ns (by kernel_rfl) rfl (fun a ha => table_tenant2 (hx.slts a ha) hf (by simp only [go_sem, ↓reduceIte]))) (k := rh [50] (k := rc (ht := fun hc4 => ?_) (hf := fun hc4 => ?_))))))
            · refine rs (k := rg [4] (k := rR (k := rP (by simp only [Try.f32, go_sem]; rfl) hwf ⟨?_, rfl⟩)))
              first
                | (rw [tenWhy, if_pos (by simpa using hc0)]; rfl)
                | (rw [tenWhy, if_neg (by simpa using hc0), if_pos (by simpa using hc1)]; rfl)
                | (rw [tenWhy, if_neg (by simpa using hc0), if_neg (by simpa using hc1), if_pos (by simp at hc2; omega)]; rfl)
                | (have h0 : ¬ (x.unit < 1 ∨ 247 < x.unit) := by simpa using hc0
                   have h1 : ¬ (x.queue < 1 ∨ 6 < x.queue) := by simpa using hc1
                   have h2 : ¬ (6 < x.wins.length ∨ x.slts.length < 1 ∨ 3 < x.slts.length) := by simp at hc2; omega
                   rw [tenWhy, if_neg h0, if_neg h1, if_neg h2]
                   first
                     | (rw [show x.wins.any (fun w => !winRight w) = true from hg3]; rfl)
                     | (rw [show x.wins.any (fun w => !winRight w) = false from hg3, show (!winsOwn x.wins) = true from hc3]; rfl)
                     | (rw [show x.wins.any (fun w => !winRight w) = false from hg3, show (!winsOwn x.wins) = false from hc3, Bool.or_self, if_neg (by decide)]
                        first
                          | (rw [if_pos hc4]; rfl)
                          | (rw [if_neg (by rw [hc4]; decide)]; rfl)))
            · refine rk (k := rB (k := rs (k := rg [4] (k := rR (k := rP (by simp only [Try.f32, go_sem]; rfl) hwf ⟨?_, rfl⟩)))))
              first
                | (rw [tenWhy, if_pos (by simpa using hc0)]; rfl)
                | (rw [tenWhy, if_neg (by simpa using hc0), if_pos (by simpa using hc1)]; rfl)
                | (rw [tenWhy, if_neg (by simpa using hc0), if_neg (by simpa using hc1), if_pos (by simp at hc2; omega)]; rfl)
                | (have h0 : ¬ (x.unit < 1 ∨ 247 < x.unit) := by simpa using hc0
                   have h1 : ¬ (x.queue < 1 ∨ 6 < x.queue) := by simpa using hc1
                   have h2 : ¬ (6 < x.wins.length ∨ x.slts.length < 1 ∨ 3 < x.slts.length) := by simp at hc2; omega
                   rw [tenWhy, if_neg h0, if_neg h1, if_neg h2]
                   first
                     | (rw [show x.wins.any (fun w => !winRight w) = true from hg3]; rfl)
                     | (rw [show x.wins.any (fun w => !winRight w) = false from hg3, show (!winsOwn x.wins) = true from hc3]; rfl)
                     | (rw [show x.wins.any (fun w => !winRight w) = false from hg3, show (!winsOwn x.wins) = false from hc3, Bool.or_self, if_neg (by decide)]
                        first
                          | (rw [if_pos hc4]; rfl)
                          | (rw [if_neg (by rw [hc4]; decide)]; rfl)))
theorem table_meets1 {a b : Slt} (ha : a.ok) (hb : b.ok) {s : St} {kb : Nat} (hkb_ : s.blk kb = some (.row 48 [a.pv])) : ACalls Try.prog 60 [b.pv, .ptr kb 0 0] s (fun r s' => r = .bool (sltMeet a b) ∧ s' = s) := by
  refine go Try.func60 (k := fun hwf H => ?_)
  have hkb := hkb_
  rw [Slt.pv] at hkb
  have hlt_kb : kb < s.nxt := lt_blk hwf hkb_
  have hkb0 : (kb = s.nxt) = False := eq_false (by omega)
  have hkb1 : (kb = s.nxt + 1) = False := eq_false (by omega)
  have H := aj hkb (aj hkb0 (aj hkb1 H))
  refine rs (k := rg [1, 2] (k := rs (k := ?_)))
  refine Run.drawNew 10 8 9 76 (.agg [.int .i64 0, .int .i64 0]) (.agg [.int .i64 (spMeet a.sp b.sp).pos, .int .i64 (spMeet a.sp b.sp).cnt]) Try.mixed (by kernel_rfl) (by kernel_rfl) ?_
  refine DetBC.pre (pre := [_]) (by decide) in1 au ?_
  refine DetBC.call (by decide) au au au (by kernel_rfl) in1 (fun s _ => table_slot (a := a)) ?_
  refine DetBC.pre (pre := [_]) (by decide) in1 au ?_
  refine DetBC.call (by decide) au au au (by kernel_rfl) in1 (fun s _ => table_slot (a := b)) ?_
  refine DetBC.call (by decide) au au au (by kernel_rfl) in1 (fun s _ => span_Meet (a := a.sp) (b := b.sp) ha.sp hb.sp) ?_
  refine DetBC.pre (pre := [_, _, _]) (by decide) in1 au ?_
  refine DetBC.eff (by decide) in1 au au ?_
  refine DetBC.eff (by decide) in2 au au ?_
  refine DetBC.nil in3 ?_
  refine rh [5] (k := rs (k := rg [3] (k := rR (k := rP (by simp only [Try.f60, go_sem]; rfl) hwf ⟨?_, rfl⟩))))
  rfl
theorem table_meets {a : Slt} (ha : a.ok) {l : List Slt} (hl : ∀ b ∈ l, b.ok) (nl : l.length < 140737488355328) {s : St} : ACalls Try.prog 46 [a.pv, .sl .unk (l.map Slt.pv)] s (fun r s' => r = .bool (sltMeets a l) ∧ s' = s) := by
  refine go Try.func46 (k := fun hwf H => ?_)
  refine rs (k := rg [1, 2] (k := rs (k := rr (k := ro (pre := [_, _]) (k := rC (h := contains_Slt (p := fun b => sltMeet a b) nl (by kernel_rfl) rfl (fun b hb => table_meets1 ha (hl b hb) (by simp only [go_sem, ↓reduceIte] <;> rfl))) (k := rh [4] (k := rR (k := rP (by simp only [Try.f46, go_sem]; rfl) hwf ⟨?_, rfl⟩))))))))
  rfl
theorem table_beside1 {a b : Ten} (ha : a.ok) (hb : b.ok) {s : St} {kb : Nat} (hkb_ : s.blk kb = some (.row 43 [a.pv])) : ACalls Try.prog 44 [b.pv, .ptr kb 0 0] s (fun r s' => r = .bool (winsMeet a.wins b.wins) ∧ s' = s) := by
  refine go Try.func44 (k := fun hwf H => ?_)
  have hkb := hkb_
  rw [Ten.pv] at hkb
  have hlt_kb : kb < s.nxt := lt_blk hwf hkb_
  have hkb0 : (kb = s.nxt) = False := eq_false (by omega)
  have hkb1 : (kb = s.nxt + 1) = False := eq_false (by omega)
  have H := aj hkb (aj hkb0 (aj hkb1 H))
  refine rs (k := rg [1, 2] (k := rs (k := rr (k := ro (pre := [_, _, _, _]) (k := rC (h := window_Meets (a := a.wins) (b := b.wins) ha.wins hb.wins ha.nw hb.nw) (k := rh [3] (k := rR (k := rP (by simp only [Try.f44, go_sem]; rfl) hwf ⟨?_, rfl⟩))))))))
  rfl
theorem table_beside2 {a : Slt} {b : Ten} (ha : a.ok) (hb : b.ok) {s : St} {kb : Nat} (hkb_ : s.blk kb = some (.row 48 [a.pv])) : ACalls Try.prog 47 [b.pv, .ptr kb 0 0] s (fun r s' => r = .bool (sltMeets a b.slts) ∧ s' = s) := by
  refine go Try.func47 (k := fun hwf H => ?_)
  have hkb := hkb_
  rw [Slt.pv] at hkb
  have hlt_kb : kb < s.nxt := lt_blk hwf hkb_
  have hkb0 : (kb = s.nxt) = False := eq_false (by omega)
  have hkb1 : (kb = s.nxt + 1) = False := eq_false (by omega)
  have H := aj hkb (aj hkb0 (aj hkb1 H))
  refine rs (k := rg [1, 2] (k := rs (k := rr (k := ro (pre := [_, _, _]) (k := rC (h := table_meets (a := a) ha (l := b.slts) hb.slts hb.ns) (k := rh [3] (k := rR (k := rP (by simp only [Try.f47, go_sem]; rfl) hwf ⟨?_, rfl⟩))))))))
  rfl
theorem table_beside {x : Ten} (hx : x.ok) {l : List Ten} (hl : ∀ y ∈ l, y.ok) (nl : l.length < 140737488355328) {s : St} : ACalls Try.prog 33 [x.pv, .sl .unk (l.map Ten.pv)] s (fun r s' => r = .int .i64 (tenBeside x l) ∧ s' = s) := by
  refine go Try.func33 (k := fun hwf H => ?_)
  refine rs (k := rg [1, 2] (k := rs (k := rs (k := rr (k := ro (pre := [_, _]) (k := rC (h := contains_Ten (p := fun y => winsMeet x.wins y.wins) nl (by kernel_rfl) rfl (fun y hy => table_beside1 hx (hl y hy) (by simp only [go_sem, ↓reduceIte] <;> rfl))) (k := rl [1, 2, 9] (k := rc (ht := fun hc0 => ?_) (hf := fun hc0 => ?_)))))))))
  · refine rs (k := rg [4] (k := rR (k := ?_)))
    refine Ret.pure (by simp only [Try.f33, go_sem] <;> rfl) rfl (by simp only [go_sem, reduceCtorEq, false_implies, implies_true]) hwf (by first | exact ((Fr.refl hwf).new _).blk | exact (F1).blk | exact (F1.new _).blk) ⟨?_, rfl⟩
    · first
        | (rw [tenBeside, if_pos hc0]; rfl)
        | (rw [tenBeside, if_neg (by rw [hc0]; decide)]
           first
             | (rw [sltsBadA_step hil, hae, show sltMeets a (x.slts.take i) = true from hd6, Bool.true_or, Bool.true_or] at hidx
                rw [hidx]; rfl)
             | (rw [sltsBadA_step hil, hae, show l.any (fun y => sltMeets a y.slts) = true from hc2, Bool.or_true, Bool.true_or] at hidx
                rw [hidx]; rfl)
             | (have : i = x.slts.length := by have := of_decide_eq_false hc1; omega
                rw [this, List.drop_length] at hidx
                rw [hidx]; rfl))
  · refine rk (k := rs (k := rs (k := rg [1, 2, 11, 12, 13] (k := rb (k := ?_)))))
    refine Run.loop (fun e s' => Fr s s' ∧ ∃ i : Nat, e = [(1, .sl .unk (l.map Ten.pv)), (2, .ptr s.nxt 0 0), (11, .sl .unk (x.slts.map Slt.pv)), (12, .int .i64 x.slts.length), (13, .int .i64 i)] ∧ i ≤ x.slts.length ∧ s.nxt < s'.nxt ∧ s'.blk s.nxt = some (.row 43 [.agg [.int .i64 (x).unit, .int .u32 (x).fns, .int .i64 (x).queue, .sl .unk ((x).wins.map Win.pv), .sl .unk ((x).slts.map Slt.pv)]]) ∧ sltsBadA l [] x.slts = sltsBadA l (x.slts.take i) (x.slts.drop i)) (fun e s' => x.slts.length - ivar e 13) ?_ ?_
    · exact ⟨(Fr.refl hwf).new _, 0, rfl, by omega, by simp only [go_sem]; omega, by simp only [go_sem, ↓reduceIte], rfl⟩
    rintro e s1 ⟨F1, i, rfl, hi, hsn, hX, hidx⟩
    refine rs (k := rg [1, 2, 11, 12, 13, 14] (k := rs (k := rc (ht := fun hc1 => ?_) (hf := fun hc1 => ?_))))
    · refine rk (k := rs (k := rb (k := rs (k := ?_))))
      have hil : i < x.slts.length := by have := of_decide_eq_true hc1; omega
      have hns := hx.ns
      obtain ⟨a, hae⟩ : ∃ z_, x.slts[i]'hil = z_ := ⟨_, rfl⟩
      have hxa : (x.slts.map Slt.pv)[i]? = some (.agg [.int .i64 (a).pos, .int .i64 (a).len]) := by rw [map_get hil, hae]; rfl
      have hw : IntKind.i64.wrap ((i : Int) + 1) = ((i + 1 : Nat) : Int) := by rw [wrap_i64 (by omega)]; omega
      have haok : a.ok := by rw [← hae]; exact hx.slts _ (List.getElem_mem _)
      have hsl : (x.slts.map Slt.pv).take i = (x.slts.take i).map Slt.pv := List.map_take.symm
      have hile : ((i : Int) ≤ (x.slts.length : Int)) = True := eq_true (by omega)
      have hXn : (s.nxt = s1.nxt) = False := eq_false (by omega)
      have H := aj hxa (aj hw (aj hsl (aj hile (aj hX (aj hXn H)))))
      refine rg [1, 2, 5, 6, 11, 12, 13] (k := rs (k := ?_))
      refine Run.drawC [] [1, 2, 11, 12, 13, 28] Try.mixed (by kernel_rfl) ?_
      refine DetC.pre (pre := [_, _, _, _, _]) au ?_
      refine DetC.call au au au (by kernel_rfl) (table_meets haok (l := x.slts.take i) (fun b hb => hx.slts b (List.mem_of_mem_take hb)) (by have := hx.ns; simp; omega)) ?_
      refine DetC.pre (pre := [_]) au ?_
      rcases hd6 : (sltMeets a (x.slts.take i)) with _ | _
      · have H := aj hd6 H
        refine DetC.gdo au au ?_
        refine DetC.gdo au au ?_
        refine DetC.call au au au (by kernel_rfl) (contains_Ten (p := fun y => sltMeets a y.slts) nl (by kernel_rfl) rfl (fun y hy => table_beside2 haok (hl y hy) (by simp only [go_sem, ↓reduceIte] <;> rfl))) ?_
        refine DetC.all au ?_
        refine re (k := rc (ht := fun hc2 => ?_) (hf := fun hc2 => ?_))
        · refine rs (k := rg [4] (k := rR (k := ?_)))
          refine Ret.pure (by simp only [Try.f33, go_sem] <;> rfl) rfl (by simp only [go_sem, reduceCtorEq, false_implies, implies_true]) hwf (by first | exact ((Fr.refl hwf).new _).blk | exact (F1).blk | exact (F1.new _).blk) ⟨?_, rfl⟩
          · first
              | (rw [tenBeside, if_pos hc0]; rfl)
              | (rw [tenBeside, if_neg (by rw [hc0]; decide)]
                 first
                   | (rw [sltsBadA_step hil, hae, show sltMeets a (x.slts.take i) = true from hd6, Bool.true_or, Bool.true_or] at hidx
                      rw [hidx]; rfl)
                   | (rw [sltsBadA_step hil, hae, show l.any (fun y => sltMeets a y.slts) = true from hc2, Bool.or_true, Bool.true_or] at hidx
                      rw [hidx]; rfl)
                   | (have : i = x.slts.length := by have := of_decide_eq_false hc1; omega
                      rw [this, List.drop_length] at hidx
                      rw [hidx]; rfl))
        · refine rk (k := rB (k := rg [1, 2, 11, 12, 13] (k := ?_)))
          rw [sltsBadA_step hil, hae, show sltMeets a (x.slts.take i) = false from hd6, show l.any (fun y => sltMeets a y.slts) = false from hc2, Bool.or_self, Bool.false_or] at hidx
          refine Run.lp ⟨⟨F1.new _, i + 1, rfl, by omega, by simp only [go_sem]; omega, by simp only [go_sem, hX, hXn, ↓reduceIte], hidx⟩, ?_⟩
          simp only [ivar, go_sem, ↓reduceIte, Nat.reduceEqDiff]
          omega
      · have H := aj hd6 H
        refine DetC.gskip' au ?_
        refine DetC.gskip' au ?_
        refine DetC.gskip' au ?_
        refine DetC.all au ?_
        refine re (k := rc (ht := fun hc2 => ?_) (hf := fun hc2 => ?_))
        · refine rs (k := rg [4] (k := rR (k := ?_)))
          refine Ret.pure (by simp only [Try.f33, go_sem] <;> rfl) rfl (by simp only [go_sem, reduceCtorEq, false_implies, implies_true]) hwf (by first | exact ((Fr.refl hwf).new _).blk | exact (F1).blk | exact (F1.new _).blk) ⟨?_, rfl⟩
          · first
              | (rw [tenBeside, if_pos hc0]; rfl)
              | (rw [tenBeside, if_neg (by rw [hc0]; decide)]
                 first
                   | (rw [sltsBadA_step hil, hae, show sltMeets a (x.slts.take i) = true from hd6, Bool.true_or, Bool.true_or] at hidx
                      rw [hidx]; rfl)
                   | (rw [sltsBadA_step hil, hae, show l.any (fun y => sltMeets a y.slts) = true from hc2, Bool.or_true, Bool.true_or] at hidx
                      rw [hidx]; rfl)
                   | (have : i = x.slts.length := by have := of_decide_eq_false hc1; omega
                      rw [this, List.drop_length] at hidx
                      rw [hidx]; rfl))
        · cases hc2
    · refine rX (k := rs (k := rg [4] (k := rR (k := ?_))))
      refine Ret.pure (by simp only [Try.f33, go_sem] <;> rfl) rfl (by simp only [go_sem, reduceCtorEq, false_implies, implies_true]) hwf (by first | exact ((Fr.refl hwf).new _).blk | exact (F1).blk | exact (F1.new _).blk) ⟨?_, rfl⟩
      · first
          | (rw [tenBeside, if_pos hc0]; rfl)
          | (rw [tenBeside, if_neg (by rw [hc0]; decide)]
             first
               | (rw [sltsBadA_step hil, hae, show sltMeets a (x.slts.take i) = true from hd6, Bool.true_or, Bool.true_or] at hidx
                  rw [hidx]; rfl)
               | (rw [sltsBadA_step hil, hae, show l.any (fun y => sltMeets a y.slts) = true from hc2, Bool.or_true, Bool.true_or] at hidx
                  rw [hidx]; rfl)
               | (have : i = x.slts.length := by have := of_decide_eq_false hc1; omega
                  rw [this, List.drop_length] at hidx
                  rw [hidx]; rfl))
theorem table_Where {t : Tab} (ht : t.ok) {s : St} : ACalls Try.prog 21 [t.pv] s (fun r s' => r = .tuple [.int .i64 (tabWhere t).1, .int .i64 (tabWhere t).2] ∧ s' = s) := by
  refine go Try.func21 (k := fun hwf H => ?_)
  refine rs (k := rg [1] (k := rs (k := rb (k := rs (k := rg [1, 8] (k := rc (ht := fun hc0 => ?_) (hf := fun hc0 => ?_)))))))
  · refine rs (k := rg [2, 3] (k := rR (k := ?_)))
    refine Ret.pure (by simp only [Try.f21, go_sem] <;> rfl) rfl (by simp only [go_sem, reduceCtorEq, false_implies, implies_true]) hwf (by first | exact ((Fr.refl hwf).new _).blk | exact (F1).blk | exact (F1.new _).blk) ⟨?_, rfl⟩
    · first
        | (rw [tabWhere, if_pos (by simpa using hc0)]; rfl)
        | (rw [tabWhere, if_neg (by simpa using hc0), if_pos (by simp at hc1; omega)]; rfl)
        | (have h0 : ¬ (t.frame < 1 ∨ 2000 < t.frame) := by simpa using hc0
           have h1 : ¬ (t.tens.length < 1 ∨ 4 < t.tens.length) := by simp at hc1; omega
           rw [tabWhere, if_neg h0, if_neg h1]
           first
             | (have e1 : tenWhy x t.frame ≠ 0 := by simpa using hc3
                rw [tabWhereA_step hil, hxe, if_pos e1] at hidx
                rw [hidx]; rfl)
             | (have e1 : tenWhy x t.frame = 0 := by simpa using hc3
                have e2 : tenBeside x (t.tens.take i) ≠ 0 := by simpa using hc4
                rw [tabWhereA_step hil, hxe, if_neg (by simp [e1]), if_pos e2] at hidx
                rw [hidx]; rfl)
             | (have : i = t.tens.length := by have := of_decide_eq_false hc2; omega
                rw [this, List.drop_length] at hidx
                rw [hidx]; rfl))
  · refine rs (k := rg [1, 17] (k := rc (ht := fun hc1 => ?_) (hf := fun hc1 => ?_)))
    · refine rs (k := rg [2, 3] (k := rR (k := ?_)))
      refine Ret.pure (by simp only [Try.f21, go_sem] <;> rfl) rfl (by simp only [go_sem, reduceCtorEq, false_implies, implies_true]) hwf (by first | exact ((Fr.refl hwf).new _).blk | exact (F1).blk | exact (F1.new _).blk) ⟨?_, rfl⟩
      · first
          | (rw [tabWhere, if_pos (by simpa using hc0)]; rfl)
          | (rw [tabWhere, if_neg (by simpa using hc0), if_pos (by simp at hc1; omega)]; rfl)
          | (have h0 : ¬ (t.frame < 1 ∨ 2000 < t.frame) := by simpa using hc0
             have h1 : ¬ (t.tens.length < 1 ∨ 4 < t.tens.length) := by simp at hc1; omega
             rw [tabWhere, if_neg h0, if_neg h1]
             first
               | (have e1 : tenWhy x t.frame ≠ 0 := by simpa using hc3
                  rw [tabWhereA_step hil, hxe, if_pos e1] at hidx
                  rw [hidx]; rfl)
               | (have e1 : tenWhy x t.frame = 0 := by simpa using hc3
                  have e2 : tenBeside x (t.tens.take i) ≠ 0 := by simpa using hc4
                  rw [tabWhereA_step hil, hxe, if_neg (by simp [e1]), if_pos e2] at hidx
                  rw [hidx]; rfl)
               | (have : i = t.tens.length := by have := of_decide_eq_false hc2; omega
                  rw [this, List.drop_length] at hidx
                  rw [hidx]; rfl))
    · refine rk (k := rB (k := rs (k := rs (k := rg [1, 29, 30, 31] (k := rb (k := ?_))))))
      refine Run.loop (fun e s' => Fr s s' ∧ ∃ i : Nat, e = [(1, .ptr s.nxt 0 0), (29, .sl .unk (t.tens.map Ten.pv)), (30, .int .i64 t.tens.length), (31, .int .i64 i)] ∧ i ≤ t.tens.length ∧ s.nxt < s'.nxt ∧ s'.blk s.nxt = some (.row 24 [.agg [.int .i64 (t).frame, .sl .unk ((t).tens.map Ten.pv)]]) ∧ tabWhereA t.frame [] t.tens = tabWhereA t.frame (t.tens.take i) (t.tens.drop i)) (fun e s' => t.tens.length - ivar e 31) ?_ ?_
      · exact ⟨(Fr.refl hwf).new _, 0, rfl, by omega, by simp only [go_sem]; omega, by simp only [go_sem, ↓reduceIte], rfl⟩
      rintro e s1 ⟨F1, i, rfl, hi, hsn, hX, hidx⟩
      refine rs (k := rg [1, 29, 30, 31, 32] (k := rs (k := rc (ht := fun hc2 => ?_) (hf := fun hc2 => ?_))))
      · refine rk (k := rs (k := rb (k := rs (k := ?_))))
        have hil : i < t.tens.length := by have := of_decide_eq_true hc2; omega
        have hnt := ht.nt
        obtain ⟨x, hxe⟩ : ∃ z_, t.tens[i]'hil = z_ := ⟨_, rfl⟩
        have hxx : (t.tens.map Ten.pv)[i]? = some (.agg [.int .i64 (x).unit, .int .u32 (x).fns, .int .i64 (x).queue, .sl .unk ((x).wins.map Win.pv), .sl .unk ((x).slts.map Slt.pv)]) := by rw [map_get hil, hxe]; rfl
        have hw : IntKind.i64.wrap ((i : Int) + 1) = ((i + 1 : Nat) : Int) := by rw [wrap_i64 (by omega)]; omega
        have hxok : x.ok := by rw [← hxe]; exact ht.tens _ (List.getElem_mem _)
        have hsl : (t.tens.map Ten.pv).take i = (t.tens.take i).map Ten.pv := List.map_take.symm
        have hile : ((i : Int) ≤ (t.tens.length : Int)) = True := eq_true (by omega)
        have hXn : (s.nxt = s1.nxt) = False := eq_false (by omega)
        have hfr : 0 ≤ t.frame ∧ t.frame ≤ 4611686018427387904 := by simp at hc0; omega
        have H := aj hxx (aj hw (aj hsl (aj hile (aj hX (aj hXn H)))))
        refine rg [1, 4, 5, 29, 30, 31] (k := rs (k := rs (k := rr (k := ro (pre := [_, _, _]) (k := rC (h := table_tenant hxok hfr) (k := rh [1, 4, 5, 6, 29, 30, 31] (k := rs (k := rg [1, 4, 5, 6, 29, 30, 31, 41] (k := rc (ht := fun hc3 => ?_) (hf := fun hc3 => ?_))))))))))
        · refine rs (k := rg [2, 3] (k := rR (k := ?_)))
          refine Ret.pure (by simp only [Try.f21, go_sem] <;> rfl) rfl (by simp only [go_sem, reduceCtorEq, false_implies, implies_true]) hwf (by first | exact ((Fr.refl hwf).new _).blk | exact (F1).blk | exact (F1.new _).blk) ⟨?_, rfl⟩
          · first
              | (rw [tabWhere, if_pos (by simpa using hc0)]; rfl)
              | (rw [tabWhere, if_neg (by simpa using hc0), if_pos (by simp at hc1; omega)]; rfl)
              | (have h0 : ¬ (t.frame < 1 ∨ 2000 < t.frame) := by simpa using hc0
                 have h1 : ¬ (t.tens.length < 1 ∨ 4 < t.tens.length) := by simp at hc1; omega
                 rw [tabWhere, if_neg h0, if_neg h1]
                 first
                   | (have e1 : tenWhy x t.frame ≠ 0 := by simpa using hc3
                      rw [tabWhereA_step hil, hxe, if_pos e1] at hidx
                      rw [hidx]; rfl)
                   | (have e1 : tenWhy x t.frame = 0 := by simpa using hc3
                      have e2 : tenBeside x (t.tens.take i) ≠ 0 := by simpa using hc4
                      rw [tabWhereA_step hil, hxe, if_neg (by simp [e1]), if_pos e2] at hidx
                      rw [hidx]; rfl)
                   | (have : i = t.tens.length := by have := of_decide_eq_false hc2; omega
                      rw [this, List.drop_length] at hidx
                      rw [hidx]; rfl))
        · refine rk (k := rs (k := ?_))
          refine Run.drawC [] [1, 4, 7, 29, 30, 31] Try.mixed (by kernel_rfl) ?_
          refine DetC.pre (pre := [_, _, _, _, _]) au ?_
          refine DetC.call au au au (by kernel_rfl) (table_beside hxok (l := t.tens.take i) (fun y hy => ht.tens y (List.mem_of_mem_take hy)) (by have := ht.nt; simp; omega)) ?_
          refine DetC.all au ?_
          refine re (k := rs (k := rg [1, 4, 7, 29, 30, 31, 51] (k := rc (ht := fun hc4 => ?_) (hf := fun hc4 => ?_))))
          · refine rs (k := rg [2, 3] (k := rR (k := ?_)))
            refine Ret.pure (by simp only [Try.f21, go_sem] <;> rfl) rfl (by simp only [go_sem, reduceCtorEq, false_implies, implies_true]) hwf (by first | exact ((Fr.refl hwf).new _).blk | exact (F1).blk | exact (F1.new _).blk) ⟨?_, rfl⟩
            · first
                | (rw [tabWhere, if_pos (by simpa using hc0)]; rfl)
                | (rw [tabWhere, if_neg (by simpa using hc0), if_pos (by simp at hc1; omega)]; rfl)
                | (have h0 : ¬ (t.frame < 1 ∨ 2000 < t.frame) := by simpa using hc0
                   have h1 : ¬ (t.tens.length < 1 ∨ 4 < t.tens.length) := by simp at hc1; omega
                   rw [tabWhere, if_neg h0, if_neg h1]
                   first
                     | (have e1 : tenWhy x t.frame ≠ 0 := by simpa using hc3
                        rw [tabWhereA_step hil, hxe, if_pos e1] at hidx
                        rw [hidx]; rfl)
                     | (have e1 : tenWhy x t.frame = 0 := by simpa using hc3
                        have e2 : tenBeside x (t.tens.take i) ≠ 0 := by simpa using hc4
                        rw [tabWhereA_step hil, hxe, if_neg (by simp [e1]), if_pos e2] at hidx
                        rw [hidx]; rfl)
                     | (have : i = t.tens.length := by have := of_decide_eq_false hc2; omega
                        rw [this, List.drop_length] at hidx
                        rw [hidx]; rfl))
          · refine rk (k := rB (k := rg [1, 29, 30, 31] (k := ?_)))
            have e1 : tenWhy x t.frame = 0 := by simpa using hc3
            have e2 : tenBeside x (t.tens.take i) = 0 := by simpa using hc4
            rw [tabWhereA_step hil, hxe, if_neg (by simp [e1]), if_neg (by simp [e2])] at hidx
            refine Run.lp ⟨⟨F1.new _, i + 1, rfl, by omega, by simp only [go_sem]; omega, by simp only [go_sem, hX, hXn, ↓reduceIte], hidx⟩, ?_⟩
            simp only [ivar, go_sem, ↓reduceIte, Nat.reduceEqDiff]
            omega
      · refine rX (k := rs (k := rg [2, 3] (k := rR (k := ?_))))
        refine Ret.pure (by simp only [Try.f21, go_sem] <;> rfl) rfl (by simp only [go_sem, reduceCtorEq, false_implies, implies_true]) hwf (by first | exact ((Fr.refl hwf).new _).blk | exact (F1).blk | exact (F1.new _).blk) ⟨?_, rfl⟩
        · first
            | (rw [tabWhere, if_pos (by simpa using hc0)]; rfl)
            | (rw [tabWhere, if_neg (by simpa using hc0), if_pos (by simp at hc1; omega)]; rfl)
            | (have h0 : ¬ (t.frame < 1 ∨ 2000 < t.frame) := by simpa using hc0
               have h1 : ¬ (t.tens.length < 1 ∨ 4 < t.tens.length) := by simp at hc1; omega
               rw [tabWhere, if_neg h0, if_neg h1]
               first
                 | (have e1 : tenWhy x t.frame ≠ 0 := by simpa using hc3
                    rw [tabWhereA_step hil, hxe, if_pos e1] at hidx
                    rw [hidx]; rfl)
                 | (have e1 : tenWhy x t.frame = 0 := by simpa using hc3
                    have e2 : tenBeside x (t.tens.take i) ≠ 0 := by simpa using hc4
                    rw [tabWhereA_step hil, hxe, if_neg (by simp [e1]), if_pos e2] at hidx
                    rw [hidx]; rfl)
                 | (have : i = t.tens.length := by have := of_decide_eq_false hc2; omega
                    rw [this, List.drop_length] at hidx
                    rw [hidx]; rfl))
theorem table_Right {t : Tab} (ht : t.ok) {s : St} : ACalls Try.prog 9 [t.pv] s (fun r s' => r = .bool (tabRight t) ∧ s' = s) := by
  refine go Try.func9 (k := fun hwf H => ?_)
  refine rs (k := rg [1] (k := rs (k := rr (k := ro (pre := [_]) (k := rC (h := table_Where ht) (k := rh [3] (k := rs (k := rg [2] (k := rR (k := rP (by simp only [Try.f9, go_sem]; rfl) hwf ⟨?_, rfl⟩))))))))))
  rfl
theorem Win.ext4 {a b : Win} (h1 : a.space = b.space) (h2 : a.virt = b.virt) (h3 : a.phys = b.phys) (h4 : a.cnt = b.cnt) : a = b := by
  cases a; cases b; simp at *; exact ⟨h1, h2, h3, h4⟩
theorem Slt.ext2 {a b : Slt} (h1 : a.pos = b.pos) (h2 : a.len = b.len) : a = b := by
  cases a; cases b; simp at *; exact ⟨h1, h2⟩
theorem equal_Win {xs ys : List Win} (nx : xs.length < 140737488355328) {s : St} : ACalls Try.prog 30 [.sl .unk (xs.map Win.pv), .sl .unk (ys.map Win.pv)] s (fun r s' => r = .bool (decide (xs = ys)) ∧ s' = s) := by
  refine go Try.func30 (k := fun hwf H => ?_)
  refine rs (k := rg [0, 1] (k := rs (k := rs (k := rg [0, 1, 10] (k := rc (ht := fun hc0 => ?_) (hf := fun hc0 => ?_))))))
  · refine rs (k := rg [4] (k := rR (k := rP (by simp only [Try.f30, go_sem]; rfl) hwf ⟨?_, rfl⟩)))
    first
      | (have hne : xs ≠ ys := by rintro rfl; simp at hc0
         rw [decide_eq_false hne]; rfl)
      | (have hne : xs ≠ ys := by
           rintro rfl
           rw [hxe] at hye
           subst hye
           simp at hc2
         rw [decide_eq_false hne]; rfl)
      | (have hlen : xs.length = ys.length := by simp at hc0; omega
         have : i = xs.length := by have := of_decide_eq_false hc1; omega
         rw [this, List.take_length, hlen, List.take_length] at hbe
         rw [decide_eq_true hbe]; rfl)
  · refine rk (k := rs (k := rs (k := ?_)))
    have hlen : xs.length = ys.length := by simp at hc0; omega
    refine rg [0, 1, 12, 13] (k := rb (k := ?_))
    refine Run.loop (fun e s' => s' = s ∧ ∃ i : Nat, e = [(0, .sl .unk (xs.map Win.pv)), (1, .sl .unk (ys.map Win.pv)), (12, .int .i64 xs.length), (13, .int .i64 i)] ∧ i ≤ xs.length ∧ xs.take i = ys.take i) (fun e s' => xs.length - ivar e 13) ?_ ?_
    · exact ⟨rfl, 0, rfl, by omega, rfl⟩
    rintro e s' ⟨hs, i, rfl, hi, hbe⟩
    subst s'
    refine rs (k := rg [0, 1, 12, 13, 14] (k := rs (k := rc (ht := fun hc1 => ?_) (hf := fun hc1 => ?_))))
    · refine rk (k := rs (k := rb (k := rs (k := ?_))))
      have hil : i < xs.length := by have := of_decide_eq_true hc1; omega
      have hjl : i < ys.length := by omega
      obtain ⟨x, hxe⟩ : ∃ z_, xs[i]'hil = z_ := ⟨_, rfl⟩
      have hxx : (xs.map Win.pv)[i]? = some (.agg [.int .i64 (x).space, .int .i64 (x).virt, .int .i64 (x).phys, .int .i64 (x).cnt]) := by rw [map_get hil, hxe]; rfl
      obtain ⟨y, hye⟩ : ∃ z_, ys[i]'hjl = z_ := ⟨_, rfl⟩
      have hxy : (ys.map Win.pv)[i]? = some (.agg [.int .i64 (y).space, .int .i64 (y).virt, .int .i64 (y).phys, .int .i64 (y).cnt]) := by rw [map_get hjl, hye]; rfl
      have hw : IntKind.i64.wrap ((i : Int) + 1) = ((i + 1 : Nat) : Int) := by rw [wrap_i64 (by omega)]; omega
      have H := aj hxx (aj hxy (aj hw H))
      refine rg [0, 1, 5, 12, 13] (k := rs (k := ?_))
      refine Run.drawC [] [0, 1, 12, 13, 24] Try.mixed (by kernel_rfl) ?_
      refine DetC.all au ?_
      refine re (k := rc (ht := fun hc2 => ?_) (hf := fun hc2 => ?_))
      · refine rs (k := rg [4] (k := rR (k := rP (by simp only [Try.f30, go_sem]; rfl) hwf ⟨?_, rfl⟩)))
        first
          | (have hne : xs ≠ ys := by rintro rfl; simp at hc0
             rw [decide_eq_false hne]; rfl)
          | (have hne : xs ≠ ys := by
               rintro rfl
               rw [hxe] at hye
               subst hye
               simp at hc2
             rw [decide_eq_false hne]; rfl)
          | (have hlen : xs.length = ys.length := by simp at hc0; omega
             have : i = xs.length := by have := of_decide_eq_false hc1; omega
             rw [this, List.take_length, hlen, List.take_length] at hbe
             rw [decide_eq_true hbe]; rfl)
      · refine rk (k := rB (k := rg [0, 1, 12, 13] (k := ?_)))
        have hxy : x = y := by
          simp at hc2
          exact Win.ext4 hc2.1 hc2.2.1 hc2.2.2.1 hc2.2.2.2
        refine Run.lp ⟨⟨rfl, i + 1, rfl, by omega, ?_⟩, ?_⟩
        · rw [take_get hil, take_get hjl, hbe, hxe, hye, hxy]
        · simp only [ivar, go_sem, ↓reduceIte, Nat.reduceEqDiff]
          omega
    · refine rX (k := rs (k := rg [4] (k := rR (k := rP (by simp only [Try.f30, go_sem]; rfl) hwf ⟨?_, rfl⟩))))
      first
        | (have hne : xs ≠ ys := by rintro rfl; simp at hc0
           rw [decide_eq_false hne]; rfl)
        | (have hne : xs ≠ ys := by
             rintro rfl
             rw [hxe] at hye
             subst hye
             simp at hc2
           rw [decide_eq_false hne]; rfl)
        | (have hlen : xs.length = ys.length := by simp at hc0; omega
           have : i = xs.length := by have := of_decide_eq_false hc1; omega
           rw [this, List.take_length, hlen, List.take_length] at hbe
           rw [decide_eq_true hbe]; rfl)
theorem equal_Slt {xs ys : List Slt} (nx : xs.length < 140737488355328) {s : St} : ACalls Try.prog 31 [.sl .unk (xs.map Slt.pv), .sl .unk (ys.map Slt.pv)] s (fun r s' => r = .bool (decide (xs = ys)) ∧ s' = s) := by
  refine go Try.func31 (k := fun hwf H => ?_)
  refine rs (k := rg [0, 1] (k := rs (k := rs (k := rg [0, 1, 10] (k := rc (ht := fun hc0 => ?_) (hf := fun hc0 => ?_))))))
  · refine rs (k := rg [4] (k := rR (k := rP (by simp only [Try.f31, go_sem]; rfl) hwf ⟨?_, rfl⟩)))
    first
      | (have hne : xs ≠ ys := by rintro rfl; simp at hc0
         rw [decide_eq_false hne]; rfl)
      | (have hne : xs ≠ ys := by
           rintro rfl
           rw [hxe] at hye
           subst hye
           simp at hc2
         rw [decide_eq_false hne]; rfl)
      | (have hlen : xs.length = ys.length := by simp at hc0; omega
         have : i = xs.length := by have := of_decide_eq_false hc1; omega
         rw [this, List.take_length, hlen, List.take_length] at hbe
         rw [decide_eq_true hbe]; rfl)
  · refine rk (k := rs (k := rs (k := ?_)))
    have hlen : xs.length = ys.length := by simp at hc0; omega
    refine rg [0, 1, 12, 13] (k := rb (k := ?_))
    refine Run.loop (fun e s' => s' = s ∧ ∃ i : Nat, e = [(0, .sl .unk (xs.map Slt.pv)), (1, .sl .unk (ys.map Slt.pv)), (12, .int .i64 xs.length), (13, .int .i64 i)] ∧ i ≤ xs.length ∧ xs.take i = ys.take i) (fun e s' => xs.length - ivar e 13) ?_ ?_
    · exact ⟨rfl, 0, rfl, by omega, rfl⟩
    rintro e s' ⟨hs, i, rfl, hi, hbe⟩
    subst s'
    refine rs (k := rg [0, 1, 12, 13, 14] (k := rs (k := rc (ht := fun hc1 => ?_) (hf := fun hc1 => ?_))))
    · refine rk (k := rs (k := rb (k := rs (k := ?_))))
      have hil : i < xs.length := by have := of_decide_eq_true hc1; omega
      have hjl : i < ys.length := by omega
      obtain ⟨x, hxe⟩ : ∃ z_, xs[i]'hil = z_ := ⟨_, rfl⟩
      have hxx : (xs.map Slt.pv)[i]? = some (.agg [.int .i64 (x).pos, .int .i64 (x).len]) := by rw [map_get hil, hxe]; rfl
      obtain ⟨y, hye⟩ : ∃ z_, ys[i]'hjl = z_ := ⟨_, rfl⟩
      have hxy : (ys.map Slt.pv)[i]? = some (.agg [.int .i64 (y).pos, .int .i64 (y).len]) := by rw [map_get hjl, hye]; rfl
      have hw : IntKind.i64.wrap ((i : Int) + 1) = ((i + 1 : Nat) : Int) := by rw [wrap_i64 (by omega)]; omega
      have H := aj hxx (aj hxy (aj hw H))
      refine rg [0, 1, 5, 12, 13] (k := rs (k := ?_))
      refine Run.drawC [] [0, 1, 12, 13, 24] Try.mixed (by kernel_rfl) ?_
      refine DetC.all au ?_
      refine re (k := rc (ht := fun hc2 => ?_) (hf := fun hc2 => ?_))
      · refine rs (k := rg [4] (k := rR (k := rP (by simp only [Try.f31, go_sem]; rfl) hwf ⟨?_, rfl⟩)))
        first
          | (have hne : xs ≠ ys := by rintro rfl; simp at hc0
             rw [decide_eq_false hne]; rfl)
          | (have hne : xs ≠ ys := by
               rintro rfl
               rw [hxe] at hye
               subst hye
               simp at hc2
             rw [decide_eq_false hne]; rfl)
          | (have hlen : xs.length = ys.length := by simp at hc0; omega
             have : i = xs.length := by have := of_decide_eq_false hc1; omega
             rw [this, List.take_length, hlen, List.take_length] at hbe
             rw [decide_eq_true hbe]; rfl)
      · refine rk (k := rB (k := rg [0, 1, 12, 13] (k := ?_)))
        have hxy : x = y := by
          simp at hc2
          exact Slt.ext2 hc2.1 hc2.2
        refine Run.lp ⟨⟨rfl, i + 1, rfl, by omega, ?_⟩, ?_⟩
        · rw [take_get hil, take_get hjl, hbe, hxe, hye, hxy]
        · simp only [ivar, go_sem, ↓reduceIte, Nat.reduceEqDiff]
          omega
    · refine rX (k := rs (k := rg [4] (k := rR (k := rP (by simp only [Try.f31, go_sem]; rfl) hwf ⟨?_, rfl⟩))))
      first
        | (have hne : xs ≠ ys := by rintro rfl; simp at hc0
           rw [decide_eq_false hne]; rfl)
        | (have hne : xs ≠ ys := by
             rintro rfl
             rw [hxe] at hye
             subst hye
             simp at hc2
           rw [decide_eq_false hne]; rfl)
        | (have hlen : xs.length = ys.length := by simp at hc0; omega
           have : i = xs.length := by have := of_decide_eq_false hc1; omega
           rw [this, List.take_length, hlen, List.take_length] at hbe
           rw [decide_eq_true hbe]; rfl)
theorem table_Same {a b : Ten} (ha : a.ok) {s : St} : ACalls Try.prog 18 [a.pv, b.pv] s (fun r s' => r = .bool (tenSame a b) ∧ s' = s) := by
  refine go Try.func18 (k := fun hwf H => ?_)
  refine rs (k := rg [2, 3] (k := rs (k := rr (k := ro (pre := [_, _, _, _, _, _, _, _, _, _, _, _, _, _, _, _, _, _, _, _]) (k := rQ 24 (ht := fun hg19 => ?_) (hf := fun hg19 => ?_))))))
  · refine rg1 (k := rg1 (k := rg1 (k := rg1 (k := rC (h := equal_Win (xs := a.wins) (ys := b.wins) ha.nw) (k := ro (pre := [_, _]) (k := rQ 31 (ht := fun hg26 => ?_) (hf := fun hg26 => ?_)))))))
    · refine rg1 (k := rg1 (k := rg1 (k := rg1 (k := rC (h := equal_Slt (xs := a.slts) (ys := b.slts) ha.ns) (k := rh [4] (k := rR (k := rP (by simp only [Try.f18, go_sem]; rfl) hwf ⟨?_, rfl⟩)))))))
      rw [tenSame_eq]
      first
        | (rw [show (decide (a.unit = b.unit) && decide (a.fns = b.fns) && decide (a.queue = b.queue)) = true from hg19, show decide (a.wins = b.wins) = true from hg26]; simp [PV.weak]; done)
        | (rw [show (decide (a.unit = b.unit) && decide (a.fns = b.fns) && decide (a.queue = b.queue)) = true from hg19, show decide (a.wins = b.wins) = false from hg26]; simp [PV.weak]; done)
        | (rw [show (decide (a.unit = b.unit) && decide (a.fns = b.fns) && decide (a.queue = b.queue)) = false from hg19]; simp [PV.weak]; done)
    · refine rg0 (k := rg0 (k := rg0 (k := rg0 (k := rg0 (k := rh [4] (k := rR (k := rP (by simp only [Try.f18, go_sem]; rfl) hwf ⟨?_, rfl⟩)))))))
      rw [tenSame_eq]
      first
        | (rw [show (decide (a.unit = b.unit) && decide (a.fns = b.fns) && decide (a.queue = b.queue)) = true from hg19, show decide (a.wins = b.wins) = true from hg26]; simp [PV.weak]; done)
        | (rw [show (decide (a.unit = b.unit) && decide (a.fns = b.fns) && decide (a.queue = b.queue)) = true from hg19, show decide (a.wins = b.wins) = false from hg26]; simp [PV.weak]; done)
        | (rw [show (decide (a.unit = b.unit) && decide (a.fns = b.fns) && decide (a.queue = b.queue)) = false from hg19]; simp [PV.weak]; done)
  · refine rg0 (k := rg0 (k := rg0 (k := rg0 (k := rg0 (k := ro (pre := [_, _]) (k := rQ 31 (ht := fun hg26 => ?_) (hf := fun hg26 => ?_)))))))
    · cases hg26
    · refine rg0 (k := rg0 (k := rg0 (k := rg0 (k := rg0 (k := rh [4] (k := rR (k := rP (by simp only [Try.f18, go_sem]; rfl) hwf ⟨?_, rfl⟩)))))))
      rw [tenSame_eq]
      first
        | (rw [show (decide (a.unit = b.unit) && decide (a.fns = b.fns) && decide (a.queue = b.queue)) = true from hg19, show decide (a.wins = b.wins) = true from hg26]; simp [PV.weak]; done)
        | (rw [show (decide (a.unit = b.unit) && decide (a.fns = b.fns) && decide (a.queue = b.queue)) = true from hg19, show decide (a.wins = b.wins) = false from hg26]; simp [PV.weak]; done)
        | (rw [show (decide (a.unit = b.unit) && decide (a.fns = b.fns) && decide (a.queue = b.queue)) = false from hg19]; simp [PV.weak]; done)
theorem equalFunc_Ten {xs ys : List Ten} {k : FuncId} {p : Ten → Ten → Bool} (nx : xs.length < 140737488355328) {s : St} (hcal : callable Try.prog k = true) (hf : ∀ (s : St), ∀ x ∈ xs, ∀ y ∈ ys, ACalls Try.prog k [x.pv, y.pv] s (fun r s' => r = .bool (p x y) ∧ s' = s)) :
    ACalls Try.prog 23 [.sl .unk (xs.map Ten.pv), .sl .unk (ys.map Ten.pv), .fn (.func k) [] []] s (fun r s' => r = .bool (alikeF p xs ys) ∧ s' = s) := by
  refine go Try.func23 (k := fun hwf H => ?_)
  refine rs (k := rg [0, 1, 2] (k := rs (k := rs (k := rg [0, 1, 2, 14] (k := rc (ht := fun hc0 => ?_) (hf := fun hc0 => ?_))))))
  · refine rs (k := rg [6] (k := rR (k := ?_)))
    refine Ret.pure (by simp only [Try.f23, go_sem] <;> rfl) rfl (by simp only [go_sem, reduceCtorEq, false_implies, implies_true]) hwf (by first | exact (Fr.refl hwf).blk | exact (F1).blk | exact ((F1.new _).newset _ _ rfl).blk) ⟨?_, rfl⟩
    · first
        | (have hne : xs.length ≠ ys.length := by simp at hc0; omega
           rw [alikeF_len p xs ys hne]; rfl)
        | (rw [alikeF_step p hil hjl, hxe, hye, show p x y = false by simpa using hc2, Bool.false_and] at hidx
           rw [hidx]; rfl)
        | (have hlen : xs.length = ys.length := by simp at hc0; omega
           have : i = xs.length := by have := of_decide_eq_false hc1; omega
           rw [this, List.drop_length, hlen, List.drop_length] at hidx
           rw [hidx]; rfl)
  · refine rk (k := rs (k := rs (k := ?_)))
    have hlen : xs.length = ys.length := by simp at hc0; omega
    refine rg [1, 2, 15, 16, 17] (k := rb (k := ?_))
    refine Run.loop (fun e s' => Fr s s' ∧ ∃ i : Nat, e = [(1, .sl .unk (ys.map Ten.pv)), (2, .fn (.func k) [] []), (15, .sl .unk (xs.map Ten.pv)), (16, .int .i64 xs.length), (17, .int .i64 i)] ∧ i ≤ xs.length ∧ alikeF p xs ys = alikeF p (xs.drop i) (ys.drop i)) (fun e s' => xs.length - ivar e 17) ?_ ?_
    · exact ⟨Fr.refl hwf, 0, rfl, by omega, rfl⟩
    rintro e s1 ⟨F1, i, rfl, hi, hidx⟩
    refine rs (k := rg [1, 2, 15, 16, 17, 18] (k := rs (k := rc (ht := fun hc1 => ?_) (hf := fun hc1 => ?_))))
    · refine rk (k := rs (k := rb (k := rs (k := ?_))))
      have hil : i < xs.length := by have := of_decide_eq_true hc1; omega
      have hjl : i < ys.length := by omega
      obtain ⟨x, hxe⟩ : ∃ z_, xs[i]'hil = z_ := ⟨_, rfl⟩
      have hxx : (xs.map Ten.pv)[i]? = some (.agg [.int .i64 (x).unit, .int .u32 (x).fns, .int .i64 (x).queue, .sl .unk ((x).wins.map Win.pv), .sl .unk ((x).slts.map Slt.pv)]) := by rw [map_get hil, hxe]; rfl
      obtain ⟨y, hye⟩ : ∃ z_, ys[i]'hjl = z_ := ⟨_, rfl⟩
      have hxy : (ys.map Ten.pv)[i]? = some (.agg [.int .i64 (y).unit, .int .u32 (y).fns, .int .i64 (y).queue, .sl .unk ((y).wins.map Win.pv), .sl .unk ((y).slts.map Slt.pv)]) := by rw [map_get hjl, hye]; rfl
      have hw : IntKind.i64.wrap ((i : Int) + 1) = ((i + 1 : Nat) : Int) := by rw [wrap_i64 (by omega)]; omega
      have hss : (s1.nxt = s1.nxt + 1) = False := eq_false (by omega)
      have H := aj hxx (aj hxy (aj hw (aj hss H)))
      refine rg [1, 2, 7, 8, 15, 16, 17] (k := rs (k := rg [1, 2, 8, 9, 15, 16, 17] (k := rs (k := rr (k := ro (pre := [_, _, _]) (k := ?_))))))
      refine RunO.callw au au au hcal ((hf _ x (by rw [← hxe]; exact List.getElem_mem _) y (by rw [← hye]; exact List.getElem_mem _)).mono ?_)
      rintro r1 s2 ⟨rfl, hs⟩
      subst s2
      refine rh [1, 2, 15, 16, 17, 30] (k := rc (ht := fun hc2 => ?_) (hf := fun hc2 => ?_))
      · refine rs (k := rg [6] (k := rR (k := ?_)))
        refine Ret.pure (by simp only [Try.f23, go_sem] <;> rfl) rfl (by simp only [go_sem, reduceCtorEq, false_implies, implies_true]) hwf (by first | exact (Fr.refl hwf).blk | exact (F1).blk | exact ((F1.new _).newset _ _ rfl).blk) ⟨?_, rfl⟩
        · first
            | (have hne : xs.length ≠ ys.length := by simp at hc0; omega
               rw [alikeF_len p xs ys hne]; rfl)
            | (rw [alikeF_step p hil hjl, hxe, hye, show p x y = false by simpa using hc2, Bool.false_and] at hidx
               rw [hidx]; rfl)
            | (have hlen : xs.length = ys.length := by simp at hc0; omega
               have : i = xs.length := by have := of_decide_eq_false hc1; omega
               rw [this, List.drop_length, hlen, List.drop_length] at hidx
               rw [hidx]; rfl)
      · refine rk (k := rB (k := rg [1, 2, 15, 16, 17] (k := ?_)))
        rw [alikeF_step p hil hjl, hxe, hye, show p x y = true by simpa using hc2, Bool.true_and] at hidx
        refine Run.lp ⟨⟨(F1.new _).newset _ _ rfl, i + 1, rfl, by omega, hidx⟩, ?_⟩
        simp only [ivar, go_sem, ↓reduceIte, Nat.reduceEqDiff]
        omega
    · refine rX (k := rs (k := rg [6] (k := rR (k := ?_))))
      refine Ret.pure (by simp only [Try.f23, go_sem] <;> rfl) rfl (by simp only [go_sem, reduceCtorEq, false_implies, implies_true]) hwf (by first | exact (Fr.refl hwf).blk | exact (F1).blk | exact ((F1.new _).newset _ _ rfl).blk) ⟨?_, rfl⟩
      · first
          | (have hne : xs.length ≠ ys.length := by simp at hc0; omega
             rw [alikeF_len p xs ys hne]; rfl)
          | (rw [alikeF_step p hil hjl, hxe, hye, show p x y = false by simpa using hc2, Bool.false_and] at hidx
             rw [hidx]; rfl)
          | (have hlen : xs.length = ys.length := by simp at hc0; omega
             have : i = xs.length := by have := of_decide_eq_false hc1; omega
             rw [this, List.drop_length, hlen, List.drop_length] at hidx
             rw [hidx]; rfl)
theorem table_Equal {a b : Tab} (ha : a.ok) {s : St} : ACalls Try.prog 14 [a.pv, b.pv] s (fun r s' => r = .bool (tabSame a b) ∧ s' = s) := by
  refine go Try.func14 (k := fun hwf H => ?_)
  refine rs (k := rg [2, 3] (k := rs (k := rr (k := ro (pre := [_, _, _, _, _, _]) (k := rQ 10 (ht := fun hg5 => ?_) (hf := fun hg5 => ?_))))))
  · refine rg1 (k := rg1 (k := rg1 (k := rg1 (k := rC (h := equalFunc_Ten (p := tenSame) ha.nt (by kernel_rfl) (fun s x hx y hy => table_Same (ha.tens x hx))) (k := rh [4] (k := rR (k := rP (by simp only [Try.f14, go_sem]; rfl) hwf ⟨?_, rfl⟩)))))))
    rw [tabSame_eq]
    first
      | (rw [show decide (a.frame = b.frame) = true from hg5]; simp [PV.weak]; done)
      | (rw [show decide (a.frame = b.frame) = false from hg5]; simp [PV.weak]; done)
  · refine rg0 (k := rg0 (k := rg0 (k := rg0 (k := rg0 (k := rh [4] (k := rR (k := rP (by simp only [Try.f14, go_sem]; rfl) hwf ⟨?_, rfl⟩)))))))
    rw [tabSame_eq]
    first
      | (rw [show decide (a.frame = b.frame) = true from hg5]; simp [PV.weak]; done)
      | (rw [show decide (a.frame = b.frame) = false from hg5]; simp [PV.weak]; done)
theorem clip_Win {xs : List Win} {s : St} : ACalls Try.prog 25 [.sl .unk (xs.map Win.pv)] s (fun r s' => r = .sl .unc (xs.map Win.pv) ∧ s' = s) := by
  refine go Try.func25 (k := fun hwf H => ?_)
  have hfull : (xs.map Win.pv).take xs.length = xs.map Win.pv := by rw [← List.length_map (f := Win.pv), List.take_length]
  have H := aj hfull H
  refine rs (k := rg [0] (k := rs (k := rg [2] (k := rR (k := ?_)))))
  refine Ret.pureK (r := .sl .unc (xs.map Win.pv)) au (by simp only [PV.blw]; exact ⟨fun t z e => (by cases e), blws_wins _ _⟩) hwf (fun _ _ => rfl) ⟨rfl, rfl⟩
theorem clip_Slt {xs : List Slt} {s : St} : ACalls Try.prog 27 [.sl .unk (xs.map Slt.pv)] s (fun r s' => r = .sl .unc (xs.map Slt.pv) ∧ s' = s) := by
  refine go Try.func27 (k := fun hwf H => ?_)
  have hfull : (xs.map Slt.pv).take xs.length = xs.map Slt.pv := by rw [← List.length_map (f := Slt.pv), List.take_length]
  have H := aj hfull H
  refine rs (k := rg [0] (k := rs (k := rg [2] (k := rR (k := ?_)))))
  refine Ret.pureK (r := .sl .unc (xs.map Slt.pv)) au (by simp only [PV.blw]; exact ⟨fun t z e => (by cases e), blws_slts _ _⟩) hwf (fun _ _ => rfl) ⟨rfl, rfl⟩
theorem clip_Ten {xs : List Ten} {s : St} : ACalls Try.prog 29 [.sl .unk (xs.map Ten.pv)] s (fun r s' => r = .sl .unc (xs.map Ten.pv) ∧ s' = s) := by
  refine go Try.func29 (k := fun hwf H => ?_)
  have hfull : (xs.map Ten.pv).take xs.length = xs.map Ten.pv := by rw [← List.length_map (f := Ten.pv), List.take_length]
  have H := aj hfull H
  refine rs (k := rg [0] (k := rs (k := rg [2] (k := rR (k := ?_)))))
  refine Ret.pureK (r := .sl .unc (xs.map Ten.pv)) au (by simp only [PV.blw]; exact ⟨fun t z e => (by cases e), blws_tens _ _⟩) hwf (fun _ _ => rfl) ⟨rfl, rfl⟩
theorem clone_Win_nil {s : St} : ACalls Try.prog 26 [.sl .nil []] s (fun r s' => r = .sl .unk [] ∧ s' = s) := by
  refine go Try.func26 (k := fun hwf H => ?_)
  refine rs (k := rg [0] (k := rs (k := rs (k := rg [0, 4] (k := rc (ht := fun hc0 => ?_) (hf := fun hc0 => ?_))))))
  · refine rs (k := rg [2] (k := rR (k := rP (by simp only [Try.f26, go_sem]; rfl) hwf ⟨?_, rfl⟩)))
    rfl
  · cases hc0
theorem clone_Win_any {xs : List Win} (hb : xs.length * 32 ≤ 140737488355328) {s : St} : ACalls Try.prog 26 [.sl .any (xs.map Win.pv)] s (fun r s' => r = .sl .unk (xs.map Win.pv) ∧ s' = s) := by
  refine go Try.func26 (k := fun hwf H => ?_)
  refine rs (k := rg [0] (k := rs (k := rs (k := rg [0, 4] (k := rc (ht := fun hc0 => ?_) (hf := fun hc0 => ?_))))))
  · cases hc0
  · refine rk (k := rs (k := rr (k := rO (k := ro (pre := [_]) (k := ?_)))))
    refine RunO.grow' au au au Try.td40 (by rw [Try.zp45]; rfl) (by intro el hel; cases hel) (isEls_map (P := Try.prog) (e := 45) (f := Win.pv) (fun a => ⟨rfl, by rw [Try.cz45]; rfl⟩) _) (by rw [Try.by45]; decide) (by rw [Try.by45]; simp; omega) (.inr (.inl (.inl rfl))) ?_
    intro k1 s1 hgr htm
    refine rh [2] (k := rR (k := ?_))
    refine Ret.pure (by simp only [Try.f26, go_sem] <;> rfl) (r' := .sl .unk (xs.map Win.pv)) (by rw [PV.weak, weaks_wins]) (by simp only [PV.blw]; exact ⟨fun t z e => (by cases e), blws_wins _ _⟩) hwf (by first | exact ((Fr.refl hwf).tm htm (fun t z e => by cases e)).blk) ⟨?_, rfl⟩
    · rfl
theorem clone_Win {xs : List Win} (hb : xs.length * 32 ≤ 140737488355328) {s : St} : ACalls Try.prog 26 [.sl .unk (xs.map Win.pv)] s (fun r s' => r = .sl .unk (xs.map Win.pv) ∧ s' = s) :=
  ACalls.unk1 (fun h => by rw [h]; exact clone_Win_nil) (clone_Win_any hb)
theorem clone_Slt_nil {s : St} : ACalls Try.prog 28 [.sl .nil []] s (fun r s' => r = .sl .unk [] ∧ s' = s) := by
  refine go Try.func28 (k := fun hwf H => ?_)
  refine rs (k := rg [0] (k := rs (k := rs (k := rg [0, 4] (k := rc (ht := fun hc0 => ?_) (hf := fun hc0 => ?_))))))
  · refine rs (k := rg [2] (k := rR (k := rP (by simp only [Try.f28, go_sem]; rfl) hwf ⟨?_, rfl⟩)))
    rfl
  · cases hc0
theorem clone_Slt_any {xs : List Slt} (hb : xs.length * 16 ≤ 140737488355328) {s : St} : ACalls Try.prog 28 [.sl .any (xs.map Slt.pv)] s (fun r s' => r = .sl .unk (xs.map Slt.pv) ∧ s' = s) := by
  refine go Try.func28 (k := fun hwf H => ?_)
  refine rs (k := rg [0] (k := rs (k := rs (k := rg [0, 4] (k := rc (ht := fun hc0 => ?_) (hf := fun hc0 => ?_))))))
  · cases hc0
  · refine rk (k := rs (k := rr (k := rO (k := ro (pre := [_]) (k := ?_)))))
    refine RunO.grow' au au au Try.td41 (by rw [Try.zp48]; rfl) (by intro el hel; cases hel) (isEls_map (P := Try.prog) (e := 48) (f := Slt.pv) (fun a => ⟨rfl, by rw [Try.cz48]; rfl⟩) _) (by rw [Try.by48]; decide) (by rw [Try.by48]; simp; omega) (.inr (.inl (.inl rfl))) ?_
    intro k1 s1 hgr htm
    refine rh [2] (k := rR (k := ?_))
    refine Ret.pure (by simp only [Try.f28, go_sem] <;> rfl) (r' := .sl .unk (xs.map Slt.pv)) (by rw [PV.weak, weaks_slts]) (by simp only [PV.blw]; exact ⟨fun t z e => (by cases e), blws_slts _ _⟩) hwf (by first | exact ((Fr.refl hwf).tm htm (fun t z e => by cases e)).blk) ⟨?_, rfl⟩
    · rfl
theorem clone_Slt {xs : List Slt} (hb : xs.length * 16 ≤ 140737488355328) {s : St} : ACalls Try.prog 28 [.sl .unk (xs.map Slt.pv)] s (fun r s' => r = .sl .unk (xs.map Slt.pv) ∧ s' = s) :=
  ACalls.unk1 (fun h => by rw [h]; exact clone_Slt_nil) (clone_Slt_any hb)
attribute [local go_sem] weaks_tensc
theorem table_Copy {t : Tab} (ht : t.ok) {s : St} : ACalls Try.prog 16 [t.pv] s (fun r s' => r = t.pv ∧ s' = s) := by
  refine go Try.func16 (k := fun hwf H => ?_)
  refine rs (k := rg [1, 2] (k := rs (k := rg [1, 2, 3] (k := rs (k := rs (k := rg [2, 3, 10, 11, 12] (k := rb (k := ?_))))))))
  refine Run.loop (fun e s' => Fr s s' ∧ ∃ (i : Nat) (k : SK), e = [(2, .ptr (s.nxt + 1) 0 0), (3, .ptr (s.nxt + 2) 0 0), (10, .sl .unk (t.tens.map Ten.pv)), (11, .int .i64 t.tens.length), (12, .int .i64 i)] ∧ i ≤ t.tens.length ∧ s.nxt + 2 < s'.nxt ∧ s'.blk (s.nxt + 1) = some (.row 24 [.agg [.int .i64 0, .sl .nil []]]) ∧ s'.blk (s.nxt + 2) = some (.row 24 [.agg [.int .i64 t.frame, .sl k ((t.tens.take i).map Ten.pvc)]]) ∧ Grows s' k i (Try.prog.cellsOf 43) ∧ (∀ t z, k = .tok t z → s.nxt + 2 < t ∧ t < s'.nxt)) (fun e s' => t.tens.length - ivar e 12) ?_ ?_
  · exact ⟨(((Fr.refl hwf).new _).new _).newset _ _ rfl, 0, .nil, rfl, by omega, by simp only [go_sem]; omega, by simp only [go_sem, ↓reduceIte], by simp only [go_sem, ↓reduceIte, Nat.add_assoc, Nat.reduceAdd], .inl ⟨rfl, rfl⟩, by simp⟩
  rintro e s1 ⟨F1, i, k, rfl, hi, hsn, hR, hO, hgr, htk⟩
  refine rs (k := rg [2, 3, 10, 11, 12, 13] (k := rs (k := rc (ht := fun hc0 => ?_) (hf := fun hc0 => ?_))))
  · refine rk (k := rs (k := rb (k := rs (k := ?_))))
    have hil : i < t.tens.length := by have := of_decide_eq_true hc0; omega
    have hbt := ht.bt
    obtain ⟨x, hxe⟩ : ∃ z_, t.tens[i]'hil = z_ := ⟨_, rfl⟩
    have hxx : (t.tens.map Ten.pv)[i]? = some (.agg [.int .i64 (x).unit, .int .u32 (x).fns, .int .i64 (x).queue, .sl .unk ((x).wins.map Win.pv), .sl .unk ((x).slts.map Slt.pv)]) := by rw [map_get hil, hxe]; rfl
    have hw : IntKind.i64.wrap ((i : Int) + 1) = ((i + 1 : Nat) : Int) := by rw [wrap_i64 (by omega)]; omega
    have hxok : x.ok := by rw [← hxe]; exact ht.tens _ (List.getElem_mem _)
    have hXn : (s.nxt + 2 = s1.nxt) = False := eq_false (by omega)
    have hXn1 : (s.nxt + 1 = s1.nxt) = False := eq_false (by omega)
    have htl : (t.tens.take i).length = i := by simp; omega
    have H := aj hxx (aj hw (aj hO (aj hXn (aj hXn1 H))))
    refine rg [2, 3, 5, 10, 11, 12] (k := rs (k := ?_))
    refine Run.drawC [9, 11] [2, 3, 5, 10, 11, 12] Try.mixed (by kernel_rfl) ?_
    refine DetC.pre (pre := [_, _]) au ?_
    refine DetC.call au au au (by kernel_rfl) (clone_Win (xs := x.wins) (by have := hxok.bw; omega)) ?_
    refine DetC.call au au au (by kernel_rfl) (clip_Win (xs := x.wins)) ?_
    refine DetC.pre (pre := [_, _]) au ?_
    refine DetC.call au au au (by kernel_rfl) (clone_Slt (xs := x.slts) (by have := hxok.bs; omega)) ?_
    refine DetC.call au au au (by kernel_rfl) (clip_Slt (xs := x.slts)) ?_
    refine DetC.pre (pre := [_]) au ?_
    refine DetC.eff (by decide) au au ?_
    refine DetC.pre (pre := [_]) au ?_
    refine DetC.eff (by decide) au au ?_
    refine DetC.nil ?_
    refine re (k := ?_)
    have hgr2 : Grows (s1.new (.row 43 [.agg [.int .i64 (x).unit, .int .u32 (x).fns, .int .i64 (x).queue, .sl .unc ((x).wins.map Win.pv), .sl .unc ((x).slts.map Slt.pv)]])) k (t.tens.take i).length (Try.prog.cellsOf 43) := by
      rw [htl]
      exact hgr.mono fun t ht => by
        rw [blk_new, if_neg (by have := (htk t _ ht).2; omega)]
    refine rr (k := ro (pre := [_, _, _]) (k := rO (k := ?_)))
    refine RunO.grow au au au Try.td22 (by rw [Try.zp43]; rfl) (isEls_map (fun a => ⟨rfl, by rw [Try.cz43]; rfl⟩) _) (isEls_map (f := Ten.pvc) (fun a => ⟨rfl, by rw [Try.cz43]; rfl⟩) [x]) (by rw [Try.by43]; decide) (by rw [Try.by43]; simp; omega) (by rw [List.length_map]; exact hgr2) (by simp) ?_
    intro k' s2 hgr' htm
    have hn2 := htm.nxt
    rw [nxt_new] at hn2
    have hO2 : s2.blk (s.nxt + 2) = some (.row 24 [.agg [.int .i64 t.frame, .sl k ((t.tens.take i).map Ten.pvc)]]) := by
      rw [htm.rest _ (by rw [nxt_new]; omega) (fun z e => hgr.ne e _ hO (by simp) rfl), blk_new, if_neg (by omega)]; exact hO
    have hR2 : s2.blk (s.nxt + 1) = some (.row 24 [.agg [.int .i64 0, .sl .nil []]]) := by
      rw [htm.rest _ (by rw [nxt_new]; omega) (fun z e => hgr.ne e _ hR (by simp) rfl), blk_new, if_neg (by omega)]; exact hR
    have H := aj hO2 (aj hR2 H)
    refine rh [2, 3, 10, 11, 12] (k := rB (k := rg [2, 3, 10, 11, 12] (k := ?_)))
    rw [List.length_map, htl] at hgr'
    refine Run.lp ⟨⟨((F1.new _).tm htm (fun t z e => by have := htk t z e; omega)).set (by omega) (by omega) _, i + 1, k', rfl, by omega, by rw [nxt_set]; omega, ?_, ?_, ?_, fun t' z e => ?_⟩, ?_⟩
    · rw [blk_set, if_neg (by omega)]; exact hR2
    · rw [blk_set, if_pos rfl, take_get hil, hxe, List.map_append]; rfl
    · refine (show Grows s2 k' (i + 1) _ from hgr').mono fun t' ht => ?_
      rw [blk_set, if_neg (hgr'.ne ht _ hO2 (by simp))]
    · rw [nxt_set]
      rcases htm.fresh t' z e with ⟨z2, h⟩ | ⟨h1, h2⟩
      · have := htk t' z2 h; omega
      · rw [nxt_new] at h1; omega
    · simp only [ivar, go_sem, ↓reduceIte, Nat.reduceEqDiff]
      omega
  · refine rX (k := rs (k := ?_))
    have hi2 : i = t.tens.length := by have := of_decide_eq_false hc0; omega
    have htl : t.tens.take i = t.tens := by rw [hi2, List.take_length]
    have H := aj hO (aj hR H)
    refine rr (k := ro (pre := [_, _]) (k := rC (h := clip_Ten (xs := t.tens.take i)) (k := rh [2, 3] (k := rs (k := rg [2] (k := rR (k := ?_)))))))
    refine Ret.pure (r' := t.pv) (by simp only [Try.f16, go_sem, ↓reduceIte, htl] <;> rfl) ?_ (blw_tab _ _) hwf ((F1.set (by omega) (by omega) _).set (by omega) (by rw [nxt_set]; omega) _).blk ⟨rfl, rfl⟩
    simp only [Tab.pv, PV.weak, PV.weaks, weaks_tens]
end Go.Proofs
namespace Go.Proofs
open Go.PM
set_option maxHeartbeats 2000000
theorem ref7_Right {a : Sp} {most : Int} (ha : a.ok) (hm : 0 ≤ most ∧ most ≤ 4611686018427387904) {s : St} : ACalls Try.prog 66 [a.pv, .int .i64 most] s (fun r s' => r = .bool (spRight a most) ∧ s' = s) := by
  refine go Try.func66 (k := fun hwf H => ?_)
  refine rs (k := rg [1, 2] (k := rs (k := rg [4] (k := rR (k := rP (by simp only [Try.f66, go_sem]; rfl) hwf ⟨?_, rfl⟩)))))
  simp only [spRight]
  have hw : 0 ≤ a.pos → a.pos ≤ most → IntKind.i64.wrap (most - a.pos) = most - a.pos := fun h h' => wrap_i64 (by omega)
  by_cases h1 : 0 ≤ a.pos <;> by_cases h2 : 1 ≤ a.cnt <;> by_cases h3 : a.pos ≤ most <;> simp [h1, h2, h3, PV.weak]
  rw [hw h1 h3]
theorem ref7_Meet {a b : Sp} (ha : a.ok) (hb : b.ok) {s : St} : ACalls Try.prog 63 [a.pv, b.pv] s (fun r s' => r = .tuple [(spMeet a b).pv, .bool (spMeets a b)] ∧ s' = s) := by
  refine go Try.func63 (k := fun hwf H => ?_)
  refine rs (k := rg [2, 3, 4] (k := rs (k := rs (k := rr (k := ro (pre := [_]) (k := rC (h := ref7_Right (a := a) (most := great) ha (by decide)) (k := ro (pre := [_, _]) (k := rQ 11 (ht := fun hg3 => ?_) (hf := fun hg3 => ?_)))))))))
  · refine rg0 (k := rg0 (k := rg0 (k := rh [2, 3, 4, 15] (k := rc (ht := fun hc0 => ?_) (hf := fun hc0 => ?_)))))
    · refine rs (k := rg [4, 5] (k := rR (k := rP (by simp only [Try.f63, go_sem]; rfl) hwf ⟨?_, rfl⟩)))
      first
        | (have h := spMeets_l (b := b) hg3
           rw [h.1, h.2]; rfl)
        | (have h := spMeets_r (a := a) hc0
           rw [h.1, h.2]; rfl)
        | (have h := spMeets_not hg3 hc0 hc1
           rw [h.1, h.2]; rfl)
        | (have h := spMeets_yes hg3 hc0 hc1
           rw [h.1, h.2]; rfl)
    · cases hc0
  · refine rg1 (k := rC (h := ref7_Right (a := b) (most := great) hb (by decide)) (k := rg1 (k := rh [2, 3, 4, 15] (k := rc (ht := fun hc0 => ?_) (hf := fun hc0 => ?_)))))
    · refine rs (k := rg [4, 5] (k := rR (k := rP (by simp only [Try.f63, go_sem]; rfl) hwf ⟨?_, rfl⟩)))
      first
        | (have h := spMeets_l (b := b) hg3
           rw [h.1, h.2]; rfl)
        | (have h := spMeets_r (a := a) hc0
           rw [h.1, h.2]; rfl)
        | (have h := spMeets_not hg3 hc0 hc1
           rw [h.1, h.2]; rfl)
        | (have h := spMeets_yes hg3 hc0 hc1
           rw [h.1, h.2]; rfl)
    · refine rk (k := rs (k := ?_))
      refine Run.drawC [] [4, 6, 7] Try.mixed (by kernel_rfl) ?_
      refine DetC.all au ?_
      refine re (k := rs (k := rs (k := rg [4, 6, 7, 35] (k := rc (ht := fun hc1 => ?_) (hf := fun hc1 => ?_)))))
      · refine rs (k := rg [4, 5] (k := rR (k := rP (by simp only [Try.f63, go_sem]; rfl) hwf ⟨?_, rfl⟩)))
        first
          | (have h := spMeets_l (b := b) hg3
             rw [h.1, h.2]; rfl)
          | (have h := spMeets_r (a := a) hc0
             rw [h.1, h.2]; rfl)
          | (have h := spMeets_not hg3 hc0 hc1
             rw [h.1, h.2]; rfl)
          | (have h := spMeets_yes hg3 hc0 hc1
             rw [h.1, h.2]; rfl)
      · refine rk (k := rs (k := rg [4, 5] (k := rR (k := rP (by simp only [Try.f63, go_sem]; rfl) hwf ⟨?_, rfl⟩))))
        first
          | (have h := spMeets_l (b := b) hg3
             rw [h.1, h.2]; rfl)
          | (have h := spMeets_r (a := a) hc0
             rw [h.1, h.2]; rfl)
          | (have h := spMeets_not hg3 hc0 hc1
             rw [h.1, h.2]; rfl)
          | (have h := spMeets_yes hg3 hc0 hc1
             rw [h.1, h.2]; rfl)
theorem ref7_Window {w : Win} (hw : w.ok) {s : St} : ACalls Try.prog 61 [w.pv] s (fun r s' => r = .bool (winRight w) ∧ s' = s) := by
  refine go Try.func61 (k := fun hwf H => ?_)
  refine rs (k := rg [1] (k := rs (k := rr (k := ro (pre := [_, _, _, _, _, _, _, _, _]) (k := rQ 11 (ht := fun hg8 => ?_) (hf := fun hg8 => ?_))))))
  · refine rg1 (k := rg1 (k := rg1 (k := rg1 (k := rg1 (k := rC (h := ref7_Right (a := w.v) (most := 65536) hw.v (by decide)) (k := ro (pre := [_, _]) (k := rQ 19 (ht := fun hg16 => ?_) (hf := fun hg16 => ?_))))))))
    · refine rg1 (k := rg1 (k := rg1 (k := rg1 (k := rg1 (k := rC (h := ref7_Right (a := w.p) (most := 512) hw.p (by decide)) (k := rh [2] (k := rR (k := rP (by simp only [Try.f61, go_sem]; rfl) hwf ⟨?_, rfl⟩))))))))
      have e : winRight w = (decide (0 ≤ w.space) && decide (w.space ≤ 3) && spRight w.v 65536 && spRight w.p 512) := by simp [winRight]
      rw [e]
      first
        | (rw [show (decide (0 ≤ w.space) && decide (w.space ≤ 3)) = true from hg8, show spRight w.v 65536 = true from hg16]; simp [PV.weak]; done)
        | (rw [show (decide (0 ≤ w.space) && decide (w.space ≤ 3)) = true from hg8, show spRight w.v 65536 = false from hg16]; rfl)
        | (rw [show (decide (0 ≤ w.space) && decide (w.space ≤ 3)) = false from hg8]; rfl)
    · refine rg0 (k := rg0 (k := rg0 (k := rg0 (k := rg0 (k := rg0 (k := rh [2] (k := rR (k := rP (by simp only [Try.f61, go_sem]; rfl) hwf ⟨?_, rfl⟩))))))))
      have e : winRight w = (decide (0 ≤ w.space) && decide (w.space ≤ 3) && spRight w.v 65536 && spRight w.p 512) := by simp [winRight]
      rw [e]
      first
        | (rw [show (decide (0 ≤ w.space) && decide (w.space ≤ 3)) = true from hg8, show spRight w.v 65536 = true from hg16]; simp [PV.weak]; done)
        | (rw [show (decide (0 ≤ w.space) && decide (w.space ≤ 3)) = true from hg8, show spRight w.v 65536 = false from hg16]; rfl)
        | (rw [show (decide (0 ≤ w.space) && decide (w.space ≤ 3)) = false from hg8]; rfl)
  · refine rg0 (k := rg0 (k := rg0 (k := rg0 (k := rg0 (k := rg0 (k := ro (pre := [_, _]) (k := rQ 19 (ht := fun hg16 => ?_) (hf := fun hg16 => ?_))))))))
    · cases hg16
    · refine rg0 (k := rg0 (k := rg0 (k := rg0 (k := rg0 (k := rg0 (k := rh [2] (k := rR (k := rP (by simp only [Try.f61, go_sem]; rfl) hwf ⟨?_, rfl⟩))))))))
      have e : winRight w = (decide (0 ≤ w.space) && decide (w.space ≤ 3) && spRight w.v 65536 && spRight w.p 512) := by simp [winRight]
      rw [e]
      first
        | (rw [show (decide (0 ≤ w.space) && decide (w.space ≤ 3)) = true from hg8, show spRight w.v 65536 = true from hg16]; simp [PV.weak]; done)
        | (rw [show (decide (0 ≤ w.space) && decide (w.space ≤ 3)) = true from hg8, show spRight w.v 65536 = false from hg16]; rfl)
        | (rw [show (decide (0 ≤ w.space) && decide (w.space ≤ 3)) = false from hg8]; rfl)
theorem winMeet_com (a b : Win) : (spMeets a.p b.p && winRight a && winRight b && decide (a.space = b.space)) = winMeet a b := by
  unfold winMeet
  cases spMeets a.p b.p <;> cases winRight a <;> cases winRight b <;> simp
theorem ref7_Meets {a b : List Win} (ha : ∀ w ∈ a, w.ok) (hb : ∀ w ∈ b, w.ok) (na : a.length < 140737488355328) (nb : b.length < 140737488355328) {s : St} : ACalls Try.prog 50 [.sl .unk (a.map Win.pv), .sl .unk (b.map Win.pv)] s (fun r s' => r = .bool (winsMeet a b) ∧ s' = s) := by
  refine go Try.func50 (k := fun hwf H => ?_)
  refine rs (k := rg [0, 1] (k := rs (k := rs (k := rg [1, 11, 12, 13] (k := rb (k := ?_))))))
  refine Run.loop (fun e s' => Fr s s' ∧ ∃ i : Nat, e = [(1, .sl .unk (b.map Win.pv)), (11, .sl .unk (a.map Win.pv)), (12, .int .i64 a.length), (13, .int .i64 i)] ∧ i ≤ a.length ∧ winsMeet a b = winsMeet (a.drop i) b) (fun e s' => a.length - ivar e 13) ?_ ?_
  · exact ⟨Fr.refl hwf, 0, rfl, by omega, rfl⟩
  rintro e s1 ⟨F1, i, rfl, hi, hidx⟩
  refine rs (k := rg [1, 11, 12, 13, 14] (k := rs (k := rc (ht := fun hc0 => ?_) (hf := fun hc0 => ?_))))
  · refine rk (k := rs (k := rb (k := rs (k := ?_))))
    have hxl : i < a.length := by have := of_decide_eq_true hc0; omega
    obtain ⟨x, hxe⟩ : ∃ z_, a[i]'hxl = z_ := ⟨_, rfl⟩
    have hxx : (a.map Win.pv)[i]? = some (.agg [.int .i64 (x).space, .int .i64 (x).virt, .int .i64 (x).phys, .int .i64 (x).cnt]) := by rw [map_get hxl, hxe]; rfl
    have hwx : IntKind.i64.wrap ((i : Int) + 1) = ((i + 1 : Nat) : Int) := by rw [wrap_i64 (by omega)]; omega
    have hxok : x.ok := by rw [← hxe]; exact ha _ (List.getElem_mem _)
    have H := aj hxx (aj hwx H)
    refine rg [1, 6, 11, 12, 13] (k := rs (k := rg [1, 6, 11, 12, 13, 17, 18, 19] (k := rb (k := ?_))))
    refine Run.loop (fun e s' => Fr s s' ∧ ∃ j : Nat, e = [(1, .sl .unk (b.map Win.pv)), (6, .ptr s1.nxt 0 0), (11, .sl .unk (a.map Win.pv)), (12, .int .i64 a.length), (13, .int .i64 i), (17, .sl .unk (b.map Win.pv)), (18, .int .i64 b.length), (19, .int .i64 j)] ∧ j ≤ b.length ∧ (b.take j).any (fun y => winMeet x y) = false ∧ s1.nxt < s'.nxt ∧ s'.blk s1.nxt = some (.row 45 [.agg [.int .i64 (x).space, .int .i64 (x).virt, .int .i64 (x).phys, .int .i64 (x).cnt]])) (fun e s' => b.length - ivar e 19) ?_ ?_
    · exact ⟨F1.new _, 0, rfl, by omega, rfl, by simp only [go_sem]; omega, by rw [blk_new, if_pos rfl]⟩
    rintro e s2 ⟨F2, j, rfl, hj, hall, hXl, hX⟩
    refine rs (k := rg [1, 6, 11, 12, 13, 17, 18, 19, 20] (k := rs (k := rc (ht := fun hc1 => ?_) (hf := fun hc1 => ?_))))
    · refine rk (k := rs (k := rb (k := rs (k := ?_))))
      have hyl : j < b.length := by have := of_decide_eq_true hc1; omega
      obtain ⟨y, hye⟩ : ∃ z_, b[j]'hyl = z_ := ⟨_, rfl⟩
      have hxy : (b.map Win.pv)[j]? = some (.agg [.int .i64 (y).space, .int .i64 (y).virt, .int .i64 (y).phys, .int .i64 (y).cnt]) := by rw [map_get hyl, hye]; rfl
      have hwy : IntKind.i64.wrap ((j : Int) + 1) = ((j + 1 : Nat) : Int) := by rw [wrap_i64 (by omega)]; omega
      have hyok : y.ok := by rw [← hye]; exact hb _ (List.getElem_mem _)
      have hXn : (s1.nxt = s2.nxt) = False := eq_false (by omega)
      have hXn1 : (s1.nxt = s2.nxt + 1) = False := eq_false (by omega)
      have hYn : (s2.nxt = s2.nxt + 1) = False := eq_false (by omega)
      have H := aj hxy (aj hwy (aj hX (aj hXn (aj hXn1 H))))
      refine rg [1, 6, 8, 11, 12, 13, 17, 18, 19] (k := rs (k := rr (k := ro (pre := [_, _, _, _, _, _, _, _, _, _]) (k := rC (h := ref7_Meet (a := x.p) (b := y.p) hxok.p hyok.p) (k := rh [1, 6, 8, 10, 11, 12, 13, 17, 18, 19] (k := rs (k := ?_)))))))
      generalize hm : spMeets x.p y.p = m
      have F3 := (F2.new (.row 45 [.agg [.int .i64 (y).space, .int .i64 (y).virt, .int .i64 (y).phys, .int .i64 (y).cnt]])).newset (.row 91 [.agg [.int .i64 0, .int .i64 0]]) (some (.row 91 [.agg [.int .i64 (spMeet x.p y.p).pos, .int .i64 (spMeet x.p y.p).cnt]])) (id := s2.nxt + 1) rfl
      refine rr (k := ro (pre := [_, _]) (k := rQ 38 (ht := fun hg1 => ?_) (hf := fun hg1 => ?_)))
      · refine rg1 (k := rC (h := ref7_Window hxok) (k := ro (pre := [_, _]) (k := rQ 42 (ht := fun hg5 => ?_) (hf := fun hg5 => ?_))))
        · refine rg1 (k := rC (h := ref7_Window hyok) (k := rh [1, 6, 11, 12, 13, 17, 18, 19, 52] (k := rc (ht := fun hc2 => ?_) (hf := fun hc2 => ?_))))
          · refine rs (k := rg [4] (k := rR (k := ?_)))
            refine Ret.pure (by simp only [Try.f50, go_sem] <;> rfl) rfl (by simp only [go_sem, reduceCtorEq, false_implies, implies_true]) hwf (by first | exact (F1).blk | exact (F3).blk) ⟨?_, rfl⟩
            · first
                | (have : i = a.length := by have := of_decide_eq_false hc0; omega
                   rw [hidx, this, List.drop_length]; rfl)
                | (have hbad : winMeet x y = true := by
                     rw [← winMeet_com, hm]
                     first
                       | (simp [hg1, hg5, hc2]; done)
                       | (simp at hg5 hc2; simp [hg1, hg5, hc2]; done)
                   have : winsMeet (a.drop i) b = true := by
                     rw [drop_get hxl, hxe]
                     show (b.any (fun y => winMeet x y) || winsMeet (a.drop (i + 1)) b) = _
                     rw [show b.any (fun y => winMeet x y) = true from List.any_eq_true.2 ⟨y, by rw [← hye]; exact List.getElem_mem _, hbad⟩, Bool.true_or]
                   rw [hidx, this]; rfl)
          · refine rk (k := rB (k := rg [1, 6, 11, 12, 13, 17, 18, 19] (k := ?_)))
            have hbad : winMeet x y = false := by
              rw [← winMeet_com, hm]
              first
                | (simp [hg1, hg5, hc2]; done)
                | (simp [hg1, hg5]; done)
                | (simp [hg1]; done)
                | (simp [hg1, hc2]; simpa using hg5)
                | (simp at hg5 hc2; simp [hg1, hg5, hc2]; done)
            refine Run.lp ⟨⟨F3, j + 1, rfl, by omega, ?_, by simp only [go_sem]; omega, by simp only [go_sem, hX, hXn, hXn1, ↓reduceIte]⟩, ?_⟩
            · rw [take_get hyl, List.any_append, hall, hye]
              simp [hbad]
            · simp only [ivar, go_sem, ↓reduceIte, Nat.reduceEqDiff]
              omega
        · refine rg0 (k := rg0 (k := rh [1, 6, 11, 12, 13, 17, 18, 19, 52] (k := rc (ht := fun hc2 => ?_) (hf := fun hc2 => ?_))))
          · cases hc2
          · refine rk (k := rB (k := rg [1, 6, 11, 12, 13, 17, 18, 19] (k := ?_)))
            have hbad : winMeet x y = false := by
              rw [← winMeet_com, hm]
              first
                | (simp [hg1, hg5, hc2]; done)
                | (simp [hg1, hg5]; done)
                | (simp [hg1]; done)
                | (simp [hg1, hc2]; simpa using hg5)
                | (simp at hg5 hc2; simp [hg1, hg5, hc2]; done)
            refine Run.lp ⟨⟨F3, j + 1, rfl, by omega, ?_, by simp only [go_sem]; omega, by simp only [go_sem, hX, hXn, hXn1, ↓reduceIte]⟩, ?_⟩
            · rw [take_get hyl, List.any_append, hall, hye]
              simp [hbad]
            · simp only [ivar, go_sem, ↓reduceIte, Nat.reduceEqDiff]
              omega
      · refine rg0 (k := rg0 (k := ro (pre := [_, _]) (k := rQ 42 (ht := fun hg5 => ?_) (hf := fun hg5 => ?_))))
        · cases hg5
        · refine rg0 (k := rg0 (k := rh [1, 6, 11, 12, 13, 17, 18, 19, 52] (k := rc (ht := fun hc2 => ?_) (hf := fun hc2 => ?_))))
          · cases hc2
          · refine rk (k := rB (k := rg [1, 6, 11, 12, 13, 17, 18, 19] (k := ?_)))
            have hbad : winMeet x y = false := by
              rw [← winMeet_com, hm]
              first
                | (simp [hg1, hg5, hc2]; done)
                | (simp [hg1, hg5]; done)
                | (simp [hg1]; done)
                | (simp [hg1, hc2]; simpa using hg5)
                | (simp at hg5 hc2; simp [hg1, hg5, hc2]; done)
            refine Run.lp ⟨⟨F3, j + 1, rfl, by omega, ?_, by simp only [go_sem]; omega, by simp only [go_sem, hX, hXn, hXn1, ↓reduceIte]⟩, ?_⟩
            · rw [take_get hyl, List.any_append, hall, hye]
              simp [hbad]
            · simp only [ivar, go_sem, ↓reduceIte, Nat.reduceEqDiff]
              omega
    · refine rX (k := rB (k := rg [1, 11, 12, 13] (k := ?_)))
      have hj : j = b.length := by have := of_decide_eq_false hc1; omega
      have hidx2 : winsMeet a b = winsMeet (a.drop (i + 1)) b := by
        rw [hidx, drop_get hxl, hxe]
        show (b.any (fun y => winMeet x y) || winsMeet (a.drop (i + 1)) b) = _
        rw [hj, List.take_length] at hall
        rw [hall, Bool.false_or]
      refine Run.lp ⟨⟨F2, i + 1, rfl, by omega, hidx2⟩, ?_⟩
      simp only [ivar, go_sem, ↓reduceIte, Nat.reduceEqDiff]
      omega
  · refine rX (k := rs (k := rg [4] (k := rR (k := ?_))))
    refine Ret.pure (by simp only [Try.f50, go_sem] <;> rfl) rfl (by simp only [go_sem, reduceCtorEq, false_implies, implies_true]) hwf (by first | exact (F1).blk | exact (F3).blk) ⟨?_, rfl⟩
    · first
        | (have : i = a.length := by have := of_decide_eq_false hc0; omega
           rw [hidx, this, List.drop_length]; rfl)
        | (have hbad : winMeet x y = true := by
             rw [← winMeet_com, hm]
             first
               | (simp [hg1, hg5, hc2]; done)
               | (simp at hg5 hc2; simp [hg1, hg5, hc2]; done)
           have : winsMeet (a.drop i) b = true := by
             rw [drop_get hxl, hxe]
             show (b.any (fun y => winMeet x y) || winsMeet (a.drop (i + 1)) b) = _
             rw [show b.any (fun y => winMeet x y) = true from List.any_eq_true.2 ⟨y, by rw [← hye]; exact List.getElem_mem _, hbad⟩, Bool.true_or]
           rw [hidx, this]; rfl)
theorem winBad_com (a b : Win) : winBad a b = (decide (a.space = b.space) && winRight a && winRight b && (spMeets a.p b.p || spMeets a.v b.v)) := by
  unfold winBad winMeet winMeetV
  cases spMeets a.p b.p <;> cases spMeets a.v b.v <;> cases winRight a <;> cases winRight b <;> simp
theorem ref7_Own {l : List Win} (ha : ∀ w ∈ l, w.ok) (na : l.length < 140737488355328) {s : St} : ACalls Try.prog 62 [.sl .unk (l.map Win.pv)] s (fun r s' => r = .bool (winsOwn l) ∧ s' = s) := by
  refine go Try.func62 (k := fun hwf H => ?_)
  refine rs (k := rg [0] (k := rs (k := rs (k := rg [0, 11, 12, 13] (k := rb (k := ?_))))))
  refine Run.loop (fun e s' => Fr s s' ∧ ∃ i : Nat, e = [(0, .sl .unk (l.map Win.pv)), (11, .sl .unk (l.map Win.pv)), (12, .int .i64 l.length), (13, .int .i64 i)] ∧ i ≤ l.length ∧ winsOwn l = winsOwnA (l.take i) (l.drop i)) (fun e s' => l.length - ivar e 13) ?_ ?_
  · exact ⟨Fr.refl hwf, 0, rfl, by omega, rfl⟩
  rintro e s1 ⟨F1, i, rfl, hi, hidx⟩
  refine rs (k := rg [0, 11, 12, 13, 14] (k := rs (k := rc (ht := fun hc0 => ?_) (hf := fun hc0 => ?_))))
  · refine rk (k := rs (k := rb (k := rs (k := ?_))))
    have hil : i < l.length := by have := of_decide_eq_true hc0; omega
    obtain ⟨a, hae⟩ : ∃ z_, l[i]'hil = z_ := ⟨_, rfl⟩
    have hxa : (l.map Win.pv)[i]? = some (.agg [.int .i64 (a).space, .int .i64 (a).virt, .int .i64 (a).phys, .int .i64 (a).cnt]) := by rw [map_get hil, hae]; rfl
    have hw : IntKind.i64.wrap ((i : Int) + 1) = ((i + 1 : Nat) : Int) := by rw [wrap_i64 (by omega)]; omega
    have haok : a.ok := by rw [← hae]; exact ha _ (List.getElem_mem _)
    have hsl : (l.map Win.pv).take i = (l.take i).map Win.pv := List.map_take.symm
    have hile : ((i : Int) ≤ (l.length : Int)) = True := eq_true (by omega)
    have htl : (l.take i).length = i := by simp; omega
    have H := aj hxa (aj hw (aj hsl (aj hile (aj htl H))))
    refine rg [0, 3, 4, 11, 12, 13] (k := rs (k := rg [0, 4, 11, 12, 13, 20, 21, 22] (k := rb (k := ?_))))
    refine Run.loop (fun e s' => Fr s s' ∧ ∃ j : Nat, e = [(0, .sl .unk (l.map Win.pv)), (4, .ptr s1.nxt 0 0), (11, .sl .unk (l.map Win.pv)), (12, .int .i64 l.length), (13, .int .i64 i), (20, .sl .unk ((l.take i).map Win.pv)), (21, .int .i64 i), (22, .int .i64 j)] ∧ j ≤ i ∧ ((l.take i).take j).all (fun y => !winBad a y) = true ∧ s1.nxt < s'.nxt ∧ s'.blk s1.nxt = some (.row 45 [.agg [.int .i64 (a).space, .int .i64 (a).virt, .int .i64 (a).phys, .int .i64 (a).cnt]])) (fun e s' => i - ivar e 22) ?_ ?_
    · exact ⟨F1.new _, 0, rfl, by omega, rfl, by simp only [go_sem]; omega, by rw [blk_new, if_pos rfl]⟩
    rintro e s2 ⟨F2, j, rfl, hj, hall, hXl, hX⟩
    refine rs (k := rg [0, 4, 11, 12, 13, 20, 21, 22, 23] (k := rs (k := rc (ht := fun hc1 => ?_) (hf := fun hc1 => ?_))))
    · refine rk (k := rs (k := rb (k := rs (k := ?_))))
      have hjl : j < (l.take i).length := by have := of_decide_eq_true hc1; omega
      obtain ⟨b, hbe⟩ : ∃ z_, (l.take i)[j]'hjl = z_ := ⟨_, rfl⟩
      have hxb : ((l.take i).map Win.pv)[j]? = some (.agg [.int .i64 (b).space, .int .i64 (b).virt, .int .i64 (b).phys, .int .i64 (b).cnt]) := by rw [map_get hjl, hbe]; rfl
      have hwj : IntKind.i64.wrap ((j : Int) + 1) = ((j + 1 : Nat) : Int) := by rw [wrap_i64 (by omega)]; omega
      have hbok : b.ok := by rw [← hbe]; exact ha _ (List.mem_of_mem_take (List.getElem_mem _))
      have hXn : (s1.nxt = s2.nxt) = False := eq_false (by omega)
      have hXn1 : (s1.nxt = s2.nxt + 1) = False := eq_false (by omega)
      have hXn2 : (s1.nxt = s2.nxt + 2) = False := eq_false (by omega)
      have hXn3 : (s1.nxt = s2.nxt + 1 + 1) = False := eq_false (by omega)
      have hYn3 : (s2.nxt = s2.nxt + 1 + 1) = False := eq_false (by omega)
      have H := aj hxb (aj hwj (aj hX (aj hXn (aj hXn1 (aj hXn2 (aj hXn3 (aj hYn3 H)))))))
      refine rg [0, 4, 6, 11, 12, 13, 20, 21, 22] (k := rs (k := rr (k := ro (pre := [_, _, _, _, _, _, _, _, _, _]) (k := rC (h := ref7_Meet (a := a.p) (b := b.p) haok.p hbok.p) (k := rh [0, 4, 6, 8, 11, 12, 13, 20, 21, 22] (k := rs (k := rr (k := ro (pre := [_, _, _, _, _, _, _, _, _, _]) (k := rC (h := ref7_Meet (a := a.v) (b := b.v) haok.v hbok.v) (k := ra (k := ?_)))))))))))
      refine rl [0, 4, 6, 8, 10, 11, 12, 13, 20, 21, 22] (k := rs (k := ?_))
      generalize hm1 : spMeets a.p b.p = m1
      generalize hm2 : spMeets a.v b.v = m2
      have F3 := ((F2.new (.row 45 [.agg [.int .i64 (b).space, .int .i64 (b).virt, .int .i64 (b).phys, .int .i64 (b).cnt]])).newset (.row 91 [.agg [.int .i64 0, .int .i64 0]]) (some (.row 91 [.agg [.int .i64 (spMeet a.p b.p).pos, .int .i64 (spMeet a.p b.p).cnt]])) (id := s2.nxt + 1) rfl).newset (.row 91 [.agg [.int .i64 0, .int .i64 0]]) (some (.row 91 [.agg [.int .i64 (spMeet a.v b.v).pos, .int .i64 (spMeet a.v b.v).cnt]])) (id := s2.nxt + 1 + 1) rfl
      refine rr (k := ro (pre := [_, _, _, _, _, _]) (k := rQ 59 (ht := fun hg5 => ?_) (hf := fun hg5 => ?_)))
      · refine rg1 (k := rC (h := ref7_Window haok) (k := ro (pre := [_, _]) (k := rQ 63 (ht := fun hg9 => ?_) (hf := fun hg9 => ?_))))
        · refine rg1 (k := rC (h := ref7_Window hbok) (k := ro (pre := [_, _]) (k := rQ 67 (ht := fun hg13 => ?_) (hf := fun hg13 => ?_))))
          · refine rg1 (k := rg1 (k := rQ 69 (ht := fun hg15 => ?_) (hf := fun hg15 => ?_)))
            · refine rg0 (k := rg1 (k := rh [0, 4, 11, 12, 13, 20, 21, 22, 72] (k := rc (ht := fun hc2 => ?_) (hf := fun hc2 => ?_))))
              · refine rs (k := rg [2] (k := rR (k := ?_)))
                refine Ret.pure (by simp only [Try.f62, go_sem] <;> rfl) rfl (by simp only [go_sem, reduceCtorEq, false_implies, implies_true]) hwf (by first | exact (F1).blk | exact (F3).blk) ⟨?_, rfl⟩
                · first
                    | (have : i = l.length := by have := of_decide_eq_false hc0; omega
                       rw [this, List.drop_length] at hidx
                       rw [hidx]; rfl)
                    | (have hbad : winBad a b = true := by
                         rw [winBad_com, hm1, hm2]
                         first
                           | (simp [hg5, hg9, hg13, hg15]; done)
                           | (simp [hg5, hg9, hg13, hg15, hc2]; done)
                           | (simp at hg5 hg9 hg13 hg15; simp [hg5, hg9, hg13, hg15]; done)
                           | (simp at hg13; simp [hg13, hg15]; done)
                           | (simp at hg13; simp [hg13, hg15, hc2]; done)
                       have : winsOwn l = false := by
                         rw [hidx, winsOwnA_step hil, hae]
                         have hin : b ∈ l.take i := by rw [← hbe]; exact List.getElem_mem _
                         have : (l.take i).all (fun y => !winBad a y) = false := List.all_eq_false.2 ⟨b, hin, by simp [hbad]⟩
                         rw [this, Bool.false_and]
                       rw [this]; rfl)
              · cases hc2
            · refine rg1 (k := rg1 (k := rh [0, 4, 11, 12, 13, 20, 21, 22, 72] (k := rc (ht := fun hc2 => ?_) (hf := fun hc2 => ?_))))
              · refine rs (k := rg [2] (k := rR (k := ?_)))
                refine Ret.pure (by simp only [Try.f62, go_sem] <;> rfl) rfl (by simp only [go_sem, reduceCtorEq, false_implies, implies_true]) hwf (by first | exact (F1).blk | exact (F3).blk) ⟨?_, rfl⟩
                · first
                    | (have : i = l.length := by have := of_decide_eq_false hc0; omega
                       rw [this, List.drop_length] at hidx
                       rw [hidx]; rfl)
                    | (have hbad : winBad a b = true := by
                         rw [winBad_com, hm1, hm2]
                         first
                           | (simp [hg5, hg9, hg13, hg15]; done)
                           | (simp [hg5, hg9, hg13, hg15, hc2]; done)
                           | (simp at hg5 hg9 hg13 hg15; simp [hg5, hg9, hg13, hg15]; done)
                           | (simp at hg13; simp [hg13, hg15]; done)
                           | (simp at hg13; simp [hg13, hg15, hc2]; done)
                       have : winsOwn l = false := by
                         rw [hidx, winsOwnA_step hil, hae]
                         have hin : b ∈ l.take i := by rw [← hbe]; exact List.getElem_mem _
                         have : (l.take i).all (fun y => !winBad a y) = false := List.all_eq_false.2 ⟨b, hin, by simp [hbad]⟩
                         rw [this, Bool.false_and]
                       rw [this]; rfl)
              · refine rk (k := rB (k := rg [0, 4, 11, 12, 13, 20, 21, 22] (k := ?_)))
                have hbad : winBad a b = false := by
                  rw [winBad_com, hm1, hm2]
                  first
                    | (simp at hg5 hg9 hg13 hg15 hc2; simp [hg5, hg9, hg13, hg15, hc2]; done)
                    | (simp at hg5 hg9 hg13; simp [hg5, hg9, hg13]; done)
                    | (simp at hg5 hg9; simp [hg5, hg9]; done)
                    | (simp at hg5; simp [hg5]; done)
                refine Run.lp ⟨⟨F3, j + 1, rfl, by omega, ?_, by simp only [go_sem]; omega, by simp only [go_sem, hX, hXn, hXn1, hXn2, hXn3, ↓reduceIte]⟩, ?_⟩
                · rw [take_get hjl, List.all_append, hall, hbe]
                  simp [hbad]
                · simp only [ivar, go_sem, ↓reduceIte, Nat.reduceEqDiff]
                  omega
          · refine rg0 (k := rg0 (k := rgU (k := rg0 (k := rh [0, 4, 11, 12, 13, 20, 21, 22, 72] (k := rc (ht := fun hc2 => ?_) (hf := fun hc2 => ?_))))))
            · cases hc2
            · refine rk (k := rB (k := rg [0, 4, 11, 12, 13, 20, 21, 22] (k := ?_)))
              have hbad : winBad a b = false := by
                rw [winBad_com, hm1, hm2]
                first
                  | (simp at hg5 hg9 hg13 hg15 hc2; simp [hg5, hg9, hg13, hg15, hc2]; done)
                  | (simp at hg5 hg9 hg13; simp [hg5, hg9, hg13]; done)
                  | (simp at hg5 hg9; simp [hg5, hg9]; done)
                  | (simp at hg5; simp [hg5]; done)
              refine Run.lp ⟨⟨F3, j + 1, rfl, by omega, ?_, by simp only [go_sem]; omega, by simp only [go_sem, hX, hXn, hXn1, hXn2, hXn3, ↓reduceIte]⟩, ?_⟩
              · rw [take_get hjl, List.all_append, hall, hbe]
                simp [hbad]
              · simp only [ivar, go_sem, ↓reduceIte, Nat.reduceEqDiff]
                omega
        · refine rg0 (k := rg0 (k := ro (pre := [_, _]) (k := rQ 67 (ht := fun hg13 => ?_) (hf := fun hg13 => ?_))))
          · cases hg13
          · refine rg0 (k := rg0 (k := rgU (k := rg0 (k := rh [0, 4, 11, 12, 13, 20, 21, 22, 72] (k := rc (ht := fun hc2 => ?_) (hf := fun hc2 => ?_))))))
            · cases hc2
            · refine rk (k := rB (k := rg [0, 4, 11, 12, 13, 20, 21, 22] (k := ?_)))
              have hbad : winBad a b = false := by
                rw [winBad_com, hm1, hm2]
                first
                  | (simp at hg5 hg9 hg13 hg15 hc2; simp [hg5, hg9, hg13, hg15, hc2]; done)
                  | (simp at hg5 hg9 hg13; simp [hg5, hg9, hg13]; done)
                  | (simp at hg5 hg9; simp [hg5, hg9]; done)
                  | (simp at hg5; simp [hg5]; done)
              refine Run.lp ⟨⟨F3, j + 1, rfl, by omega, ?_, by simp only [go_sem]; omega, by simp only [go_sem, hX, hXn, hXn1, hXn2, hXn3, ↓reduceIte]⟩, ?_⟩
              · rw [take_get hjl, List.all_append, hall, hbe]
                simp [hbad]
              · simp only [ivar, go_sem, ↓reduceIte, Nat.reduceEqDiff]
                omega
      · refine rg0 (k := rg0 (k := ro (pre := [_, _]) (k := rQ 63 (ht := fun hg9 => ?_) (hf := fun hg9 => ?_))))
        · cases hg9
        · refine rg0 (k := rg0 (k := ro (pre := [_, _]) (k := rQ 67 (ht := fun hg13 => ?_) (hf := fun hg13 => ?_))))
          · cases hg13
          · refine rg0 (k := rg0 (k := rgU (k := rg0 (k := rh [0, 4, 11, 12, 13, 20, 21, 22, 72] (k := rc (ht := fun hc2 => ?_) (hf := fun hc2 => ?_))))))
            · cases hc2
            · refine rk (k := rB (k := rg [0, 4, 11, 12, 13, 20, 21, 22] (k := ?_)))
              have hbad : winBad a b = false := by
                rw [winBad_com, hm1, hm2]
                first
                  | (simp at hg5 hg9 hg13 hg15 hc2; simp [hg5, hg9, hg13, hg15, hc2]; done)
                  | (simp at hg5 hg9 hg13; simp [hg5, hg9, hg13]; done)
                  | (simp at hg5 hg9; simp [hg5, hg9]; done)
                  | (simp at hg5; simp [hg5]; done)
              refine Run.lp ⟨⟨F3, j + 1, rfl, by omega, ?_, by simp only [go_sem]; omega, by simp only [go_sem, hX, hXn, hXn1, hXn2, hXn3, ↓reduceIte]⟩, ?_⟩
              · rw [take_get hjl, List.all_append, hall, hbe]
                simp [hbad]
              · simp only [ivar, go_sem, ↓reduceIte, Nat.reduceEqDiff]
                omega
    · refine rX (k := rB (k := rg [0, 11, 12, 13] (k := ?_)))
      have hj : j = i := by have := of_decide_eq_false hc1; omega
      have hidx2 : winsOwn l = winsOwnA (l.take (i + 1)) (l.drop (i + 1)) := by
        rw [hidx, winsOwnA_step hil, hae]
        rw [hj, List.take_take, Nat.min_self] at hall
        rw [hall, Bool.true_and]
      refine Run.lp ⟨⟨F2, i + 1, rfl, by omega, hidx2⟩, ?_⟩
      simp only [ivar, go_sem, ↓reduceIte, Nat.reduceEqDiff]
      omega
  · refine rX (k := rs (k := rg [2] (k := rR (k := ?_))))
    refine Ret.pure (by simp only [Try.f62, go_sem] <;> rfl) rfl (by simp only [go_sem, reduceCtorEq, false_implies, implies_true]) hwf (by first | exact (F1).blk | exact (F3).blk) ⟨?_, rfl⟩
    · first
        | (have : i = l.length := by have := of_decide_eq_false hc0; omega
           rw [this, List.drop_length] at hidx
           rw [hidx]; rfl)
        | (have hbad : winBad a b = true := by
             rw [winBad_com, hm1, hm2]
             first
               | (simp [hg5, hg9, hg13, hg15]; done)
               | (simp [hg5, hg9, hg13, hg15, hc2]; done)
               | (simp at hg5 hg9 hg13 hg15; simp [hg5, hg9, hg13, hg15]; done)
               | (simp at hg13; simp [hg13, hg15]; done)
               | (simp at hg13; simp [hg13, hg15, hc2]; done)
           have : winsOwn l = false := by
             rw [hidx, winsOwnA_step hil, hae]
             have hin : b ∈ l.take i := by rw [← hbe]; exact List.getElem_mem _
             have : (l.take i).all (fun y => !winBad a y) = false := List.all_eq_false.2 ⟨b, hin, by simp [hbad]⟩
             rw [this, Bool.false_and]
           rw [this]; rfl)
end Go.Proofs
namespace Go.Proofs
open Go.PM
set_option maxHeartbeats 2000000
theorem ref11_windows {l : List Win} (ha : ∀ w ∈ l, w.ok) (na : l.length < 140737488355328) {s : St} : ACalls Try.prog 48 [.sl .unk (l.map Win.pv)] s (fun r s' => r = .bool (!l.any (fun w => !winRight w) && winsOwn l) ∧ s' = s) := by
  refine go Try.func48 (k := fun hwf H => ?_)
  refine rs (k := rg [0] (k := rs (k := rs (k := rg [0, 5, 6, 7] (k := rb (k := ?_))))))
  refine Run.loop (fun e s' => Fr s s' ∧ ∃ i : Nat, e = [(0, .sl .unk (l.map Win.pv)), (5, .sl .unk (l.map Win.pv)), (6, .int .i64 l.length), (7, .int .i64 i)] ∧ i ≤ l.length ∧ (l.take i).any (fun w => !winRight w) = false) (fun e s' => (l).length - ivar e 7) ?_ ?_
  · exact ⟨Fr.refl hwf, 0, rfl, by omega, rfl⟩
  rintro e s1 ⟨F1, i, rfl, hi, hall⟩
  refine rs (k := rg [0, 5, 6, 7, 8] (k := rs (k := rc (ht := fun hc0 => ?_) (hf := fun hc0 => ?_))))
  · refine rk (k := rs (k := rb (k := rs (k := ?_))))
    have hxl : i < (l).length := by have := of_decide_eq_true hc0; omega
    obtain ⟨x, hxe⟩ : ∃ z_, (l)[i]'hxl = z_ := ⟨_, rfl⟩
    have hxx : ((l).map Win.pv)[i]? = some (.agg [.int .i64 (x).space, .int .i64 (x).virt, .int .i64 (x).phys, .int .i64 (x).cnt]) := by rw [map_get hxl, hxe]; rfl
    have hwx : IntKind.i64.wrap ((i : Int) + 1) = ((i + 1 : Nat) : Int) := by rw [wrap_i64 (by omega)]; omega
    have hxok : x.ok := by rw [← hxe]; exact ha _ (List.getElem_mem _)
    have H := aj hxx (aj hwx (aj hxl H))
    refine rg [0, 4, 5, 6, 7] (k := rs (k := rr (k := ro (pre := [_]) (k := rC (h := ref7_Window hxok) (k := rh [0, 5, 6, 7, 13] (k := rc (ht := fun hc1 => ?_) (hf := fun hc1 => ?_)))))))
    · refine rs (k := rg [2] (k := rR (k := ?_)))
      refine Ret.pure (by simp only [Try.f48, go_sem] <;> rfl) rfl (by simp only [go_sem, reduceCtorEq, false_implies, implies_true]) hwf (by first | exact (F1).blk | exact (F1.new _).blk) ⟨?_, rfl⟩
      · first
          | (have := any_get (p := fun w => !winRight w) hxl (by rw [hxe]; exact hc1)
             rw [this]; rfl)
          | (rw [any_take_all (by have := of_decide_eq_false hc0; omega) hall]; rfl)
    · refine rk (k := rB (k := rg [0, 5, 6, 7] (k := ?_)))
      refine Run.lp ⟨⟨F1.new _, i + 1, rfl, by omega, any_take_step hxl (by rw [hxe]; exact hc1) hall⟩, ?_⟩
      simp only [ivar, go_sem, ↓reduceIte, Nat.reduceEqDiff]
      omega
  · refine rX (k := rs (k := rr (k := ro (pre := [_]) (k := rC (h := ref7_Own ha na) (k := rh [2] (k := rR (k := ?_)))))))
    refine Ret.pure (by simp only [Try.f48, go_sem] <;> rfl) rfl (by simp only [go_sem, reduceCtorEq, false_implies, implies_true]) hwf (by first | exact (F1).blk | exact (F1.new _).blk) ⟨?_, rfl⟩
    · first
        | (have := any_get (p := fun w => !winRight w) hxl (by rw [hxe]; exact hc1)
           rw [this]; rfl)
        | (rw [any_take_all (by have := of_decide_eq_false hc0; omega) hall]; rfl)
theorem ref11_slot {a : Slt} (ha : a.ok) {frame : Int} (hf : 0 ≤ frame ∧ frame ≤ 4611686018427387904) {s : St} : ACalls Try.prog 49 [a.pv, .int .i64 frame] s (fun r s' => r = .bool (sltRight frame a) ∧ s' = s) := by
  refine go Try.func49 (k := fun hwf H => ?_)
  refine rs (k := rg [1, 2] (k := rs (k := rg [4] (k := rR (k := rP (by simp only [Try.f49, go_sem]; rfl) hwf ⟨?_, rfl⟩)))))
  rw [sltRight_eq]
  have hw : 0 ≤ a.pos → a.pos ≤ frame → IntKind.i64.wrap (frame - a.pos) = frame - a.pos := fun h h' => wrap_i64 (by omega)
  by_cases h1 : 0 ≤ a.pos <;> by_cases h2 : 72 ≤ a.len <;> by_cases h3 : a.pos ≤ frame <;> simp [h1, h2, h3, PV.weak]
  rw [hw h1 h3]
theorem ref11_meet {a b : Slt} (ha : a.ok) (hb : b.ok) {s : St} : ACalls Try.prog 51 [a.pv, b.pv] s (fun r s' => r = .bool (sltMeet a b) ∧ s' = s) := by
  refine go Try.func51 (k := fun hwf H => ?_)
  refine rs (k := rg [2, 3] (k := rs (k := rr (k := ro (pre := [_, _, _, _, _, _, _, _, _, _]) (k := rC (h := ref7_Meet (a := a.sp) (b := b.sp) ha.sp hb.sp) (k := rh [6] (k := rs (k := rg [4] (k := rR (k := rP (by simp only [Try.f51, go_sem]; rfl) hwf ⟨?_, rfl⟩))))))))))
  rfl
set_option maxRecDepth 100000 in
theorem ref11_tenant {t : Tab} (ht : t.ok) (hf : 0 ≤ t.frame ∧ t.frame ≤ 4611686018427387904) {i : Nat} {x : Ten} (hi : i < t.tens.length) (hx : t.tens[i] = x) {s : St} : ACalls Try.prog 34 [t.pv, .int .i64 i] s (fun r s' => r = .int .i64 (tenAt t x i) ∧ s' = s) := by
  refine go Try.func34 (k := fun hwf H => ?_)
  have hxok : x.ok := by rw [← hx]; exact ht.tens _ (List.getElem_mem _)
  have hbt := ht.bt
  have hxx : (t.tens.map Ten.pv)[i]? = some (.agg [.int .i64 (x).unit, .int .u32 (x).fns, .int .i64 (x).queue, .sl .unk ((x).wins.map Win.pv), .sl .unk ((x).slts.map Slt.pv)]) := by rw [map_get hi, hx]; rfl
  have hii : ((i : Int) < (t.tens.length : Int)) = True := eq_true (by omega)
  have hile : ((i : Int) ≤ (t.tens.length : Int)) = True := eq_true (by omega)
  have hsl : (t.tens.map Ten.pv).take i = (t.tens.take i).map Ten.pv := List.map_take.symm
  have hbs := hxok.bs
  have H := aj hxx (aj hi (aj hii (aj hile (aj hsl H))))
  refine rs (k := rg [1, 2] (k := rs (k := rg [1, 2, 5] (k := rs (k := rb (k := rs (k := rg [1, 2, 5, 23] (k := rc (ht := fun hc0 => ?_) (hf := fun hc0 => ?_)))))))))
  · refine rs (k := rg [4] (k := rR (k := ?_)))
    refine Ret.pure (by simp only [Try.f34, go_sem] <;> rfl) rfl (by simp only [go_sem, reduceCtorEq, false_implies, implies_true]) hwf (by first | exact (((Fr.refl hwf).new _).newset _ _ rfl).blk | exact (K1.fr).blk | exact ((K1.new _).fr).blk | exact ((K2.new _).fr).blk | exact ((K4.new _).fr).blk) ⟨?_, rfl⟩
    · first
        | (have e : tenWhy x t.frame = 21 := by rw [tenWhy, if_pos (by simpa using hc0)]
           rw [tenAt, e, if_pos (by decide)]; rfl)
        | (have e : tenWhy x t.frame = 22 := by rw [tenWhy, if_neg (by simpa using hc0), if_pos (by simpa using hc1)]
           rw [tenAt, e, if_pos (by decide)]; rfl)
        | (have e : tenWhy x t.frame = 26 := by
             rw [tenWhy, if_neg (by simpa using hc0), if_neg (by simpa using hc1), if_pos (by simp only [Bool.or_eq_true, decide_eq_true_eq] at hc2; omega)]
           rw [tenAt, e, if_pos (by decide)]; rfl)
        | (have h2 : ¬ (6 < x.wins.length ∨ x.slts.length < 1 ∨ 3 < x.slts.length) := by simp only [Bool.or_eq_false_iff, decide_eq_false_iff_not] at hc2; omega
           have h3 : (x.wins.any (fun w => !winRight w) || !winsOwn x.wins) = true := by
             have := hc3
             revert this
             cases x.wins.any (fun w => !winRight w) <;> cases winsOwn x.wins <;> simp
           have e : tenWhy x t.frame = 23 := by rw [tenWhy, if_neg (by simpa using hc0), if_neg (by simpa using hc1), if_neg h2, if_pos h3]
           rw [tenAt, e, if_pos (by decide)]; rfl)
        | (have hr : x.slts.any (fun a => !sltRight t.frame a) = true := any_get hal (by rw [hae]; exact hc5)
           have e : tenWhy x t.frame = 25 := by rw [tenWhy, if_neg h0, if_neg h1, if_neg h2, if_neg (by rw [h3]; decide), if_pos hr]
           rw [tenAt, e, if_pos (by decide)]; rfl)
        | (rw [tenAt, if_neg (by rw [hwhy]; decide), tenBeside, if_pos (any_get hyl (by rw [hye]; exact hc7))]; rfl)
        | (rw [tenAt, if_neg (by rw [hwhy]; decide), tenBeside, if_neg (by rw [hsh]; decide), hidx]
           first
             | (rw [show x.slts.drop k = [] from by rw [show k = x.slts.length by have := of_decide_eq_false hc8; omega, List.drop_length]]; rfl)
             | (rw [sltsBadA_step hal, hae, show sltMeets a (x.slts.take k) = true from any_get hbl (by rw [hbe]; exact hc10)]; rfl)
             | (rw [sltsBadA_step hal, hae, show (t.tens.take i).any (fun y => sltMeets a y.slts) = true from any_get hyl (by rw [hye]; exact any_get hbl (by rw [hbe]; exact hc13)), Bool.or_true]; rfl))
  · refine rs (k := rg [1, 2, 5, 32] (k := rc (ht := fun hc1 => ?_) (hf := fun hc1 => ?_)))
    · refine rs (k := rg [4] (k := rR (k := ?_)))
      refine Ret.pure (by simp only [Try.f34, go_sem] <;> rfl) rfl (by simp only [go_sem, reduceCtorEq, false_implies, implies_true]) hwf (by first | exact (((Fr.refl hwf).new _).newset _ _ rfl).blk | exact (K1.fr).blk | exact ((K1.new _).fr).blk | exact ((K2.new _).fr).blk | exact ((K4.new _).fr).blk) ⟨?_, rfl⟩
      · first
          | (have e : tenWhy x t.frame = 21 := by rw [tenWhy, if_pos (by simpa using hc0)]
             rw [tenAt, e, if_pos (by decide)]; rfl)
          | (have e : tenWhy x t.frame = 22 := by rw [tenWhy, if_neg (by simpa using hc0), if_pos (by simpa using hc1)]
             rw [tenAt, e, if_pos (by decide)]; rfl)
          | (have e : tenWhy x t.frame = 26 := by
               rw [tenWhy, if_neg (by simpa using hc0), if_neg (by simpa using hc1), if_pos (by simp only [Bool.or_eq_true, decide_eq_true_eq] at hc2; omega)]
             rw [tenAt, e, if_pos (by decide)]; rfl)
          | (have h2 : ¬ (6 < x.wins.length ∨ x.slts.length < 1 ∨ 3 < x.slts.length) := by simp only [Bool.or_eq_false_iff, decide_eq_false_iff_not] at hc2; omega
             have h3 : (x.wins.any (fun w => !winRight w) || !winsOwn x.wins) = true := by
               have := hc3
               revert this
               cases x.wins.any (fun w => !winRight w) <;> cases winsOwn x.wins <;> simp
             have e : tenWhy x t.frame = 23 := by rw [tenWhy, if_neg (by simpa using hc0), if_neg (by simpa using hc1), if_neg h2, if_pos h3]
             rw [tenAt, e, if_pos (by decide)]; rfl)
          | (have hr : x.slts.any (fun a => !sltRight t.frame a) = true := any_get hal (by rw [hae]; exact hc5)
             have e : tenWhy x t.frame = 25 := by rw [tenWhy, if_neg h0, if_neg h1, if_neg h2, if_neg (by rw [h3]; decide), if_pos hr]
             rw [tenAt, e, if_pos (by decide)]; rfl)
          | (rw [tenAt, if_neg (by rw [hwhy]; decide), tenBeside, if_pos (any_get hyl (by rw [hye]; exact hc7))]; rfl)
          | (rw [tenAt, if_neg (by rw [hwhy]; decide), tenBeside, if_neg (by rw [hsh]; decide), hidx]
             first
               | (rw [show x.slts.drop k = [] from by rw [show k = x.slts.length by have := of_decide_eq_false hc8; omega, List.drop_length]]; rfl)
               | (rw [sltsBadA_step hal, hae, show sltMeets a (x.slts.take k) = true from any_get hbl (by rw [hbe]; exact hc10)]; rfl)
               | (rw [sltsBadA_step hal, hae, show (t.tens.take i).any (fun y => sltMeets a y.slts) = true from any_get hyl (by rw [hye]; exact any_get hbl (by rw [hbe]; exact hc13)), Bool.or_true]; rfl))
    · refine rs (k := rg [1, 2, 5, 41] (k := rc (ht := fun hc2 => ?_) (hf := fun hc2 => ?_)))
      · refine rs (k := rg [4] (k := rR (k := ?_)))
        refine Ret.pure (by simp only [Try.f34, go_sem] <;> rfl) rfl (by simp only [go_sem, reduceCtorEq, false_implies, implies_true]) hwf (by first | exact (((Fr.refl hwf).new _).newset _ _ rfl).blk | exact (K1.fr).blk | exact ((K1.new _).fr).blk | exact ((K2.new _).fr).blk | exact ((K4.new _).fr).blk) ⟨?_, rfl⟩
        · first
            | (have e : tenWhy x t.frame = 21 := by rw [tenWhy, if_pos (by simpa using hc0)]
               rw [tenAt, e, if_pos (by decide)]; rfl)
            | (have e : tenWhy x t.frame = 22 := by rw [tenWhy, if_neg (by simpa using hc0), if_pos (by simpa using hc1)]
               rw [tenAt, e, if_pos (by decide)]; rfl)
            | (have e : tenWhy x t.frame = 26 := by
                 rw [tenWhy, if_neg (by simpa using hc0), if_neg (by simpa using hc1), if_pos (by simp only [Bool.or_eq_true, decide_eq_true_eq] at hc2; omega)]
               rw [tenAt, e, if_pos (by decide)]; rfl)
            | (have h2 : ¬ (6 < x.wins.length ∨ x.slts.length < 1 ∨ 3 < x.slts.length) := by simp only [Bool.or_eq_false_iff, decide_eq_false_iff_not] at hc2; omega
               have h3 : (x.wins.any (fun w => !winRight w) || !winsOwn x.wins) = true := by
                 have := hc3
                 revert this
                 cases x.wins.any (fun w => !winRight w) <;> cases winsOwn x.wins <;> simp
               have e : tenWhy x t.frame = 23 := by rw [tenWhy, if_neg (by simpa using hc0), if_neg (by simpa using hc1), if_neg h2, if_pos h3]
               rw [tenAt, e, if_pos (by decide)]; rfl)
            | (have hr : x.slts.any (fun a => !sltRight t.frame a) = true := any_get hal (by rw [hae]; exact hc5)
               have e : tenWhy x t.frame = 25 := by rw [tenWhy, if_neg h0, if_neg h1, if_neg h2, if_neg (by rw [h3]; decide), if_pos hr]
               rw [tenAt, e, if_pos (by decide)]; rfl)
            | (rw [tenAt, if_neg (by rw [hwhy]; decide), tenBeside, if_pos (any_get hyl (by rw [hye]; exact hc7))]; rfl)
            | (rw [tenAt, if_neg (by rw [hwhy]; decide), tenBeside, if_neg (by rw [hsh]; decide), hidx]
               first
                 | (rw [show x.slts.drop k = [] from by rw [show k = x.slts.length by have := of_decide_eq_false hc8; omega, List.drop_length]]; rfl)
                 | (rw [sltsBadA_step hal, hae, show sltMeets a (x.slts.take k) = true from any_get hbl (by rw [hbe]; exact hc10)]; rfl)
                 | (rw [sltsBadA_step hal, hae, show (t.tens.take i).any (fun y => sltMeets a y.slts) = true from any_get hyl (by rw [hye]; exact any_get hbl (by rw [hbe]; exact hc13)), Bool.or_true]; rfl))
      · refine rs (k := rr (k := ro (pre := [_, _]) (k := rC (h := ref11_windows hxok.wins hxok.nw) (k := rh [1, 2, 5, 58] (k := rc (ht := fun hc3 => ?_) (hf := fun hc3 => ?_))))))
        · refine rs (k := rg [4] (k := rR (k := ?_)))
          refine Ret.pure (by simp only [Try.f34, go_sem] <;> rfl) rfl (by simp only [go_sem, reduceCtorEq, false_implies, implies_true]) hwf (by first | exact (((Fr.refl hwf).new _).newset _ _ rfl).blk | exact (K1.fr).blk | exact ((K1.new _).fr).blk | exact ((K2.new _).fr).blk | exact ((K4.new _).fr).blk) ⟨?_, rfl⟩
          · first
              | (have e : tenWhy x t.frame = 21 := by rw [tenWhy, if_pos (by simpa using hc0)]
                 rw [tenAt, e, if_pos (by decide)]; rfl)
              | (have e : tenWhy x t.frame = 22 := by rw [tenWhy, if_neg (by simpa using hc0), if_pos (by simpa using hc1)]
                 rw [tenAt, e, if_pos (by decide)]; rfl)
              | (have e : tenWhy x t.frame = 26 := by
                   rw [tenWhy, if_neg (by simpa using hc0), if_neg (by simpa using hc1), if_pos (by simp only [Bool.or_eq_true, decide_eq_true_eq] at hc2; omega)]
                 rw [tenAt, e, if_pos (by decide)]; rfl)
              | (have h2 : ¬ (6 < x.wins.length ∨ x.slts.length < 1 ∨ 3 < x.slts.length) := by simp only [Bool.or_eq_false_iff, decide_eq_false_iff_not] at hc2; omega
                 have h3 : (x.wins.any (fun w => !winRight w) || !winsOwn x.wins) = true := by
                   have := hc3
                   revert this
                   cases x.wins.any (fun w => !winRight w) <;> cases winsOwn x.wins <;> simp
                 have e : tenWhy x t.frame = 23 := by rw [tenWhy, if_neg (by simpa using hc0), if_neg (by simpa using hc1), if_neg h2, if_pos h3]
                 rw [tenAt, e, if_pos (by decide)]; rfl)
              | (have hr : x.slts.any (fun a => !sltRight t.frame a) = true := any_get hal (by rw [hae]; exact hc5)
                 have e : tenWhy x t.frame = 25 := by rw [tenWhy, if_neg h0, if_neg h1, if_neg h2, if_neg (by rw [h3]; decide), if_pos hr]
                 rw [tenAt, e, if_pos (by decide)]; rfl)
              | (rw [tenAt, if_neg (by rw [hwhy]; decide), tenBeside, if_pos (any_get hyl (by rw [hye]; exact hc7))]; rfl)
              | (rw [tenAt, if_neg (by rw [hwhy]; decide), tenBeside, if_neg (by rw [hsh]; decide), hidx]
                 first
                   | (rw [show x.slts.drop k = [] from by rw [show k = x.slts.length by have := of_decide_eq_false hc8; omega, List.drop_length]]; rfl)
                   | (rw [sltsBadA_step hal, hae, show sltMeets a (x.slts.take k) = true from any_get hbl (by rw [hbe]; exact hc10)]; rfl)
                   | (rw [sltsBadA_step hal, hae, show (t.tens.take i).any (fun y => sltMeets a y.slts) = true from any_get hyl (by rw [hye]; exact any_get hbl (by rw [hbe]; exact hc13)), Bool.or_true]; rfl))
        · refine rk (k := rB (k := rs (k := rs (k := ?_))))
          have K0 := ((Kp.nil (Fr.refl hwf)).push (.row 24 [.agg [.int .i64 (t).frame, .sl .unk ((t).tens.map Ten.pv)]])).pushset (id := s.nxt + 1) (.row 43 [.agg [.int .i64 0, .int .u32 0, .int .i64 0, .sl .nil [], .sl .nil []]]) (.row 43 [.agg [.int .i64 (x).unit, .int .u32 (x).fns, .int .i64 (x).queue, .sl .unk ((x).wins.map Win.pv), .sl .unk ((x).slts.map Slt.pv)]]) rfl
          have h0 : ¬ (x.unit < 1 ∨ 247 < x.unit) := by simpa using hc0
          have h1 : ¬ (x.queue < 1 ∨ 6 < x.queue) := by simpa using hc1
          have h2 : ¬ (6 < x.wins.length ∨ x.slts.length < 1 ∨ 3 < x.slts.length) := by simp only [Bool.or_eq_false_iff, decide_eq_false_iff_not] at hc2; omega
          have h3 : (x.wins.any (fun w => !winRight w) || !winsOwn x.wins) = false := by
            have : (!x.wins.any (fun w => !winRight w) && winsOwn x.wins) = true := by simpa using hc3
            revert this
            cases x.wins.any (fun w => !winRight w) <;> cases winsOwn x.wins <;> simp
          refine rg [1, 2, 5, 64, 65, 66] (k := rb (k := ?_))
          refine Run.loop (fun e s' => Kp s s' [(s.nxt + 1, .row 43 [.agg [.int .i64 (x).unit, .int .u32 (x).fns, .int .i64 (x).queue, .sl .unk ((x).wins.map Win.pv), .sl .unk ((x).slts.map Slt.pv)]]), (s.nxt, .row 24 [.agg [.int .i64 (t).frame, .sl .unk ((t).tens.map Ten.pv)]])] ∧ ∃ q : Nat, e = [(1, .int .i64 i), (2, .ptr s.nxt 0 0), (5, .ptr (s.nxt + 1) 0 0), (64, .sl .unk (x.slts.map Slt.pv)), (65, .int .i64 x.slts.length), (66, .int .i64 q)] ∧ q ≤ x.slts.length ∧ (x.slts.take q).any (fun a => !sltRight t.frame a) = false) (fun e s' => (x.slts).length - ivar e 66) ?_ ?_
          · exact ⟨K0, 0, rfl, by omega, rfl⟩
          rintro e s1 ⟨K1, q, rfl, hq, hall⟩
          refine rs (k := rg [1, 2, 5, 64, 65, 66, 67] (k := rs (k := rc (ht := fun hc4 => ?_) (hf := fun hc4 => ?_))))
          · refine rk (k := rs (k := rb (k := rs (k := ?_))))
            have hal : q < (x.slts).length := by have := of_decide_eq_true hc4; omega
            obtain ⟨a, hae⟩ : ∃ z_, (x.slts)[q]'hal = z_ := ⟨_, rfl⟩
            have hxa : ((x.slts).map Slt.pv)[q]? = some (.agg [.int .i64 (a).pos, .int .i64 (a).len]) := by rw [map_get hal, hae]; rfl
            have hwa : IntKind.i64.wrap ((q : Int) + 1) = ((q + 1 : Nat) : Int) := by rw [wrap_i64 (by omega)]; omega
            have haok : a.ok := by rw [← hae]; exact hxok.slts _ (List.getElem_mem _)
            have hX : s1.blk (s.nxt + 1) = some (.row 43 [.agg [.int .i64 (x).unit, .int .u32 (x).fns, .int .i64 (x).queue, .sl .unk ((x).wins.map Win.pv), .sl .unk ((x).slts.map Slt.pv)]]) := K1.hd
            have hXn0 : (s.nxt + 1 = s1.nxt) = False := K1.ne 0
            have hXn1 : (s.nxt + 1 = s1.nxt + 1) = False := K1.ne 1
            have hXn2 : (s.nxt + 1 = s1.nxt + 2) = False := K1.ne 2
            have hXn3 : (s.nxt + 1 = s1.nxt + 3) = False := K1.ne 3
            have hXp2 : (s.nxt + 1 = s1.nxt + 1 + 1) = False := K1.ne 2
            have hXp3 : (s.nxt + 1 = s1.nxt + 1 + 1 + 1) = False := K1.ne 3
            have hT : s1.blk (s.nxt) = some (.row 24 [.agg [.int .i64 (t).frame, .sl .unk ((t).tens.map Ten.pv)]]) := K1.tl.hd
            have hTn0 : (s.nxt = s1.nxt) = False := K1.tl.ne 0
            have hTn1 : (s.nxt = s1.nxt + 1) = False := K1.tl.ne 1
            have hTn2 : (s.nxt = s1.nxt + 2) = False := K1.tl.ne 2
            have hTn3 : (s.nxt = s1.nxt + 3) = False := K1.tl.ne 3
            have hTp2 : (s.nxt = s1.nxt + 1 + 1) = False := K1.tl.ne 2
            have hTp3 : (s.nxt = s1.nxt + 1 + 1 + 1) = False := K1.tl.ne 3
            have H := aj hxa (aj hwa (aj hal (aj hX (aj hXn0 (aj hXn1 (aj hXn2 (aj hXn3 (aj hXp2 (aj hXp3 (aj hT (aj hTn0 (aj hTn1 (aj hTn2 (aj hTn3 (aj hTp2 (aj hTp3 H))))))))))))))))
            refine rg [1, 2, 5, 7, 64, 65, 66] (k := rs (k := rr (k := ro (pre := [_, _, _]) (k := rC (h := ref11_slot haok hf) (k := rh [1, 2, 5, 64, 65, 66, 74] (k := rc (ht := fun hc5 => ?_) (hf := fun hc5 => ?_)))))))
            · refine rs (k := rg [4] (k := rR (k := ?_)))
              refine Ret.pure (by simp only [Try.f34, go_sem] <;> rfl) rfl (by simp only [go_sem, reduceCtorEq, false_implies, implies_true]) hwf (by first | exact (((Fr.refl hwf).new _).newset _ _ rfl).blk | exact (K1.fr).blk | exact ((K1.new _).fr).blk | exact ((K2.new _).fr).blk | exact ((K4.new _).fr).blk) ⟨?_, rfl⟩
              · first
                  | (have e : tenWhy x t.frame = 21 := by rw [tenWhy, if_pos (by simpa using hc0)]
                     rw [tenAt, e, if_pos (by decide)]; rfl)
                  | (have e : tenWhy x t.frame = 22 := by rw [tenWhy, if_neg (by simpa using hc0), if_pos (by simpa using hc1)]
                     rw [tenAt, e, if_pos (by decide)]; rfl)
                  | (have e : tenWhy x t.frame = 26 := by
                       rw [tenWhy, if_neg (by simpa using hc0), if_neg (by simpa using hc1), if_pos (by simp only [Bool.or_eq_true, decide_eq_true_eq] at hc2; omega)]
                     rw [tenAt, e, if_pos (by decide)]; rfl)
                  | (have h2 : ¬ (6 < x.wins.length ∨ x.slts.length < 1 ∨ 3 < x.slts.length) := by simp only [Bool.or_eq_false_iff, decide_eq_false_iff_not] at hc2; omega
                     have h3 : (x.wins.any (fun w => !winRight w) || !winsOwn x.wins) = true := by
                       have := hc3
                       revert this
                       cases x.wins.any (fun w => !winRight w) <;> cases winsOwn x.wins <;> simp
                     have e : tenWhy x t.frame = 23 := by rw [tenWhy, if_neg (by simpa using hc0), if_neg (by simpa using hc1), if_neg h2, if_pos h3]
                     rw [tenAt, e, if_pos (by decide)]; rfl)
                  | (have hr : x.slts.any (fun a => !sltRight t.frame a) = true := any_get hal (by rw [hae]; exact hc5)
                     have e : tenWhy x t.frame = 25 := by rw [tenWhy, if_neg h0, if_neg h1, if_neg h2, if_neg (by rw [h3]; decide), if_pos hr]
                     rw [tenAt, e, if_pos (by decide)]; rfl)
                  | (rw [tenAt, if_neg (by rw [hwhy]; decide), tenBeside, if_pos (any_get hyl (by rw [hye]; exact hc7))]; rfl)
                  | (rw [tenAt, if_neg (by rw [hwhy]; decide), tenBeside, if_neg (by rw [hsh]; decide), hidx]
                     first
                       | (rw [show x.slts.drop k = [] from by rw [show k = x.slts.length by have := of_decide_eq_false hc8; omega, List.drop_length]]; rfl)
                       | (rw [sltsBadA_step hal, hae, show sltMeets a (x.slts.take k) = true from any_get hbl (by rw [hbe]; exact hc10)]; rfl)
                       | (rw [sltsBadA_step hal, hae, show (t.tens.take i).any (fun y => sltMeets a y.slts) = true from any_get hyl (by rw [hye]; exact any_get hbl (by rw [hbe]; exact hc13)), Bool.or_true]; rfl))
            · refine rk (k := rB (k := rg [1, 2, 5, 64, 65, 66] (k := ?_)))
              refine Run.lp ⟨⟨K1.new _, q + 1, rfl, by omega, any_take_step hal (by rw [hae]; exact hc5) hall⟩, ?_⟩
              simp only [ivar, go_sem, ↓reduceIte, Nat.reduceEqDiff]
              omega
          · refine rX (k := rs (k := rs (k := ?_)))
            have hr0 : x.slts.any (fun a => !sltRight t.frame a) = false := any_take_all (by have := of_decide_eq_false hc4; omega) hall
            have hwhy : tenWhy x t.frame = 0 := by rw [tenWhy, if_neg h0, if_neg h1, if_neg h2, if_neg (by rw [h3]; decide), if_neg (by rw [hr0]; decide)]
            have htl : (t.tens.take i).length = i := by simp; omega
            have hX : s1.blk (s.nxt + 1) = some (.row 43 [.agg [.int .i64 (x).unit, .int .u32 (x).fns, .int .i64 (x).queue, .sl .unk ((x).wins.map Win.pv), .sl .unk ((x).slts.map Slt.pv)]]) := K1.hd
            have hXn0 : (s.nxt + 1 = s1.nxt) = False := K1.ne 0
            have hXn1 : (s.nxt + 1 = s1.nxt + 1) = False := K1.ne 1
            have hXn2 : (s.nxt + 1 = s1.nxt + 2) = False := K1.ne 2
            have hXn3 : (s.nxt + 1 = s1.nxt + 3) = False := K1.ne 3
            have hXp2 : (s.nxt + 1 = s1.nxt + 1 + 1) = False := K1.ne 2
            have hXp3 : (s.nxt + 1 = s1.nxt + 1 + 1 + 1) = False := K1.ne 3
            have hT : s1.blk (s.nxt) = some (.row 24 [.agg [.int .i64 (t).frame, .sl .unk ((t).tens.map Ten.pv)]]) := K1.tl.hd
            have hTn0 : (s.nxt = s1.nxt) = False := K1.tl.ne 0
            have hTn1 : (s.nxt = s1.nxt + 1) = False := K1.tl.ne 1
            have hTn2 : (s.nxt = s1.nxt + 2) = False := K1.tl.ne 2
            have hTn3 : (s.nxt = s1.nxt + 3) = False := K1.tl.ne 3
            have hTp2 : (s.nxt = s1.nxt + 1 + 1) = False := K1.tl.ne 2
            have hTp3 : (s.nxt = s1.nxt + 1 + 1 + 1) = False := K1.tl.ne 3
            have H := aj hX (aj hXn0 (aj hXn1 (aj hXn2 (aj hXn3 (aj hXp2 (aj hXp3 (aj hT (aj hTn0 (aj hTn1 (aj hTn2 (aj hTn3 (aj hTp2 (aj hTp3 (aj htl H))))))))))))))
            refine rg [1, 2, 5, 79, 80, 81] (k := rb (k := ?_))
            refine Run.loop (fun e s' => Kp s s' [(s.nxt + 1, .row 43 [.agg [.int .i64 (x).unit, .int .u32 (x).fns, .int .i64 (x).queue, .sl .unk ((x).wins.map Win.pv), .sl .unk ((x).slts.map Slt.pv)]]), (s.nxt, .row 24 [.agg [.int .i64 (t).frame, .sl .unk ((t).tens.map Ten.pv)]])] ∧ ∃ q : Nat, e = [(1, .int .i64 i), (2, .ptr s.nxt 0 0), (5, .ptr (s.nxt + 1) 0 0), (79, .sl .unk ((t.tens.take i).map Ten.pv)), (80, .int .i64 i), (81, .int .i64 q)] ∧ q ≤ i ∧ ((t.tens.take i).take q).any (fun y => winsMeet x.wins y.wins) = false) (fun e s' => i - ivar e 81) ?_ ?_
            · exact ⟨K1, 0, rfl, by omega, rfl⟩
            rintro e s1 ⟨K1, q, rfl, hq, hall⟩
            refine rs (k := rg [1, 2, 5, 79, 80, 81, 82] (k := rs (k := rc (ht := fun hc6 => ?_) (hf := fun hc6 => ?_))))
            · refine rk (k := rs (k := rb (k := rs (k := ?_))))
              have hyl : q < (t.tens.take i).length := by have := of_decide_eq_true hc6; omega
              obtain ⟨y, hye⟩ : ∃ z_, (t.tens.take i)[q]'hyl = z_ := ⟨_, rfl⟩
              have hxy : ((t.tens.take i).map Ten.pv)[q]? = some (.agg [.int .i64 (y).unit, .int .u32 (y).fns, .int .i64 (y).queue, .sl .unk ((y).wins.map Win.pv), .sl .unk ((y).slts.map Slt.pv)]) := by rw [map_get hyl, hye]; rfl
              have hwy : IntKind.i64.wrap ((q : Int) + 1) = ((q + 1 : Nat) : Int) := by rw [wrap_i64 (by omega)]; omega
              have hyok : y.ok := by rw [← hye]; exact ht.tens _ (List.mem_of_mem_take (List.getElem_mem _))
              have hX : s1.blk (s.nxt + 1) = some (.row 43 [.agg [.int .i64 (x).unit, .int .u32 (x).fns, .int .i64 (x).queue, .sl .unk ((x).wins.map Win.pv), .sl .unk ((x).slts.map Slt.pv)]]) := K1.hd
              have hXn0 : (s.nxt + 1 = s1.nxt) = False := K1.ne 0
              have hXn1 : (s.nxt + 1 = s1.nxt + 1) = False := K1.ne 1
              have hXn2 : (s.nxt + 1 = s1.nxt + 2) = False := K1.ne 2
              have hXn3 : (s.nxt + 1 = s1.nxt + 3) = False := K1.ne 3
              have hXp2 : (s.nxt + 1 = s1.nxt + 1 + 1) = False := K1.ne 2
              have hXp3 : (s.nxt + 1 = s1.nxt + 1 + 1 + 1) = False := K1.ne 3
              have hT : s1.blk (s.nxt) = some (.row 24 [.agg [.int .i64 (t).frame, .sl .unk ((t).tens.map Ten.pv)]]) := K1.tl.hd
              have hTn0 : (s.nxt = s1.nxt) = False := K1.tl.ne 0
              have hTn1 : (s.nxt = s1.nxt + 1) = False := K1.tl.ne 1
              have hTn2 : (s.nxt = s1.nxt + 2) = False := K1.tl.ne 2
              have hTn3 : (s.nxt = s1.nxt + 3) = False := K1.tl.ne 3
              have hTp2 : (s.nxt = s1.nxt + 1 + 1) = False := K1.tl.ne 2
              have hTp3 : (s.nxt = s1.nxt + 1 + 1 + 1) = False := K1.tl.ne 3
              have H := aj hxy (aj hwy (aj hyl (aj hX (aj hXn0 (aj hXn1 (aj hXn2 (aj hXn3 (aj hXp2 (aj hXp3 (aj hT (aj hTn0 (aj hTn1 (aj hTn2 (aj hTn3 (aj hTp2 (aj hTp3 H))))))))))))))))
              refine rg [1, 2, 5, 9, 79, 80, 81] (k := rs (k := rr (k := ro (pre := [_, _, _, _]) (k := rC (h := ref7_Meets (a := x.wins) (b := y.wins) hxok.wins hyok.wins hxok.nw hyok.nw) (k := rl [1, 2, 5, 79, 80, 81, 89] (k := rc (ht := fun hc7 => ?_) (hf := fun hc7 => ?_)))))))
              · refine rs (k := rg [4] (k := rR (k := ?_)))
                refine Ret.pure (by simp only [Try.f34, go_sem] <;> rfl) rfl (by simp only [go_sem, reduceCtorEq, false_implies, implies_true]) hwf (by first | exact (((Fr.refl hwf).new _).newset _ _ rfl).blk | exact (K1.fr).blk | exact ((K1.new _).fr).blk | exact ((K2.new _).fr).blk | exact ((K4.new _).fr).blk) ⟨?_, rfl⟩
                · first
                    | (have e : tenWhy x t.frame = 21 := by rw [tenWhy, if_pos (by simpa using hc0)]
                       rw [tenAt, e, if_pos (by decide)]; rfl)
                    | (have e : tenWhy x t.frame = 22 := by rw [tenWhy, if_neg (by simpa using hc0), if_pos (by simpa using hc1)]
                       rw [tenAt, e, if_pos (by decide)]; rfl)
                    | (have e : tenWhy x t.frame = 26 := by
                         rw [tenWhy, if_neg (by simpa using hc0), if_neg (by simpa using hc1), if_pos (by simp only [Bool.or_eq_true, decide_eq_true_eq] at hc2; omega)]
                       rw [tenAt, e, if_pos (by decide)]; rfl)
                    | (have h2 : ¬ (6 < x.wins.length ∨ x.slts.length < 1 ∨ 3 < x.slts.length) := by simp only [Bool.or_eq_false_iff, decide_eq_false_iff_not] at hc2; omega
                       have h3 : (x.wins.any (fun w => !winRight w) || !winsOwn x.wins) = true := by
                         have := hc3
                         revert this
                         cases x.wins.any (fun w => !winRight w) <;> cases winsOwn x.wins <;> simp
                       have e : tenWhy x t.frame = 23 := by rw [tenWhy, if_neg (by simpa using hc0), if_neg (by simpa using hc1), if_neg h2, if_pos h3]
                       rw [tenAt, e, if_pos (by decide)]; rfl)
                    | (have hr : x.slts.any (fun a => !sltRight t.frame a) = true := any_get hal (by rw [hae]; exact hc5)
                       have e : tenWhy x t.frame = 25 := by rw [tenWhy, if_neg h0, if_neg h1, if_neg h2, if_neg (by rw [h3]; decide), if_pos hr]
                       rw [tenAt, e, if_pos (by decide)]; rfl)
                    | (rw [tenAt, if_neg (by rw [hwhy]; decide), tenBeside, if_pos (any_get hyl (by rw [hye]; exact hc7))]; rfl)
                    | (rw [tenAt, if_neg (by rw [hwhy]; decide), tenBeside, if_neg (by rw [hsh]; decide), hidx]
                       first
                         | (rw [show x.slts.drop k = [] from by rw [show k = x.slts.length by have := of_decide_eq_false hc8; omega, List.drop_length]]; rfl)
                         | (rw [sltsBadA_step hal, hae, show sltMeets a (x.slts.take k) = true from any_get hbl (by rw [hbe]; exact hc10)]; rfl)
                         | (rw [sltsBadA_step hal, hae, show (t.tens.take i).any (fun y => sltMeets a y.slts) = true from any_get hyl (by rw [hye]; exact any_get hbl (by rw [hbe]; exact hc13)), Bool.or_true]; rfl))
              · refine rk (k := rB (k := rg [1, 2, 5, 79, 80, 81] (k := ?_)))
                refine Run.lp ⟨⟨K1.new _, q + 1, rfl, by omega, any_take_step hyl (by rw [hye]; exact hc7) hall⟩, ?_⟩
                simp only [ivar, go_sem, ↓reduceIte, Nat.reduceEqDiff]
                omega
            · refine rX (k := rs (k := rs (k := ?_)))
              have hsh : (t.tens.take i).any (fun y => winsMeet x.wins y.wins) = false := any_take_all (by have := of_decide_eq_false hc6; omega) hall
              have hX : s1.blk (s.nxt + 1) = some (.row 43 [.agg [.int .i64 (x).unit, .int .u32 (x).fns, .int .i64 (x).queue, .sl .unk ((x).wins.map Win.pv), .sl .unk ((x).slts.map Slt.pv)]]) := K1.hd
              have hXn0 : (s.nxt + 1 = s1.nxt) = False := K1.ne 0
              have hXn1 : (s.nxt + 1 = s1.nxt + 1) = False := K1.ne 1
              have hXn2 : (s.nxt + 1 = s1.nxt + 2) = False := K1.ne 2
              have hXn3 : (s.nxt + 1 = s1.nxt + 3) = False := K1.ne 3
              have hXp2 : (s.nxt + 1 = s1.nxt + 1 + 1) = False := K1.ne 2
              have hXp3 : (s.nxt + 1 = s1.nxt + 1 + 1 + 1) = False := K1.ne 3
              have hT : s1.blk (s.nxt) = some (.row 24 [.agg [.int .i64 (t).frame, .sl .unk ((t).tens.map Ten.pv)]]) := K1.tl.hd
              have hTn0 : (s.nxt = s1.nxt) = False := K1.tl.ne 0
              have hTn1 : (s.nxt = s1.nxt + 1) = False := K1.tl.ne 1
              have hTn2 : (s.nxt = s1.nxt + 2) = False := K1.tl.ne 2
              have hTn3 : (s.nxt = s1.nxt + 3) = False := K1.tl.ne 3
              have hTp2 : (s.nxt = s1.nxt + 1 + 1) = False := K1.tl.ne 2
              have hTp3 : (s.nxt = s1.nxt + 1 + 1 + 1) = False := K1.tl.ne 3
              have H := aj hX (aj hXn0 (aj hXn1 (aj hXn2 (aj hXn3 (aj hXp2 (aj hXp3 (aj hT (aj hTn0 (aj hTn1 (aj hTn2 (aj hTn3 (aj hTp2 (aj hTp3 H)))))))))))))
              refine rg [1, 2, 5, 92, 93, 94] (k := rb (k := ?_))
              refine Run.loop (fun e s' => Kp s s' [(s.nxt + 1, .row 43 [.agg [.int .i64 (x).unit, .int .u32 (x).fns, .int .i64 (x).queue, .sl .unk ((x).wins.map Win.pv), .sl .unk ((x).slts.map Slt.pv)]]), (s.nxt, .row 24 [.agg [.int .i64 (t).frame, .sl .unk ((t).tens.map Ten.pv)]])] ∧ ∃ k : Nat, e = [(1, .int .i64 i), (2, .ptr s.nxt 0 0), (5, .ptr (s.nxt + 1) 0 0), (92, .sl .unk (x.slts.map Slt.pv)), (93, .int .i64 x.slts.length), (94, .int .i64 k)] ∧ k ≤ x.slts.length ∧ sltsBadA (t.tens.take i) [] x.slts = sltsBadA (t.tens.take i) (x.slts.take k) (x.slts.drop k)) (fun e s' => (x.slts).length - ivar e 94) ?_ ?_
              · exact ⟨K1, 0, rfl, by omega, rfl⟩
              rintro e s1 ⟨K1, k, rfl, hk, hidx⟩
              refine rs (k := rg [1, 2, 5, 92, 93, 94, 95] (k := rs (k := rc (ht := fun hc8 => ?_) (hf := fun hc8 => ?_))))
              · refine rk (k := rs (k := rb (k := rs (k := ?_))))
                have hal : k < (x.slts).length := by have := of_decide_eq_true hc8; omega
                obtain ⟨a, hae⟩ : ∃ z_, (x.slts)[k]'hal = z_ := ⟨_, rfl⟩
                have hxa : ((x.slts).map Slt.pv)[k]? = some (.agg [.int .i64 (a).pos, .int .i64 (a).len]) := by rw [map_get hal, hae]; rfl
                have hwa : IntKind.i64.wrap ((k : Int) + 1) = ((k + 1 : Nat) : Int) := by rw [wrap_i64 (by omega)]; omega
                have haok : a.ok := by rw [← hae]; exact hxok.slts _ (List.getElem_mem _)
                have hslk : (x.slts.map Slt.pv).take k = (x.slts.take k).map Slt.pv := List.map_take.symm
                have hkle : ((k : Int) ≤ (x.slts.length : Int)) = True := eq_true (by omega)
                have htk : (x.slts.take k).length = k := by simp; omega
                have hX : s1.blk (s.nxt + 1) = some (.row 43 [.agg [.int .i64 (x).unit, .int .u32 (x).fns, .int .i64 (x).queue, .sl .unk ((x).wins.map Win.pv), .sl .unk ((x).slts.map Slt.pv)]]) := K1.hd
                have hXn0 : (s.nxt + 1 = s1.nxt) = False := K1.ne 0
                have hXn1 : (s.nxt + 1 = s1.nxt + 1) = False := K1.ne 1
                have hXn2 : (s.nxt + 1 = s1.nxt + 2) = False := K1.ne 2
                have hXn3 : (s.nxt + 1 = s1.nxt + 3) = False := K1.ne 3
                have hXp2 : (s.nxt + 1 = s1.nxt + 1 + 1) = False := K1.ne 2
                have hXp3 : (s.nxt + 1 = s1.nxt + 1 + 1 + 1) = False := K1.ne 3
                have hT : s1.blk (s.nxt) = some (.row 24 [.agg [.int .i64 (t).frame, .sl .unk ((t).tens.map Ten.pv)]]) := K1.tl.hd
                have hTn0 : (s.nxt = s1.nxt) = False := K1.tl.ne 0
                have hTn1 : (s.nxt = s1.nxt + 1) = False := K1.tl.ne 1
                have hTn2 : (s.nxt = s1.nxt + 2) = False := K1.tl.ne 2
                have hTn3 : (s.nxt = s1.nxt + 3) = False := K1.tl.ne 3
                have hTp2 : (s.nxt = s1.nxt + 1 + 1) = False := K1.tl.ne 2
                have hTp3 : (s.nxt = s1.nxt + 1 + 1 + 1) = False := K1.tl.ne 3
                have H := aj hxa (aj hwa (aj hal (aj hslk (aj hkle (aj htk (aj hX (aj hXn0 (aj hXn1 (aj hXn2 (aj hXn3 (aj hXp2 (aj hXp3 (aj hT (aj hTn0 (aj hTn1 (aj hTn2 (aj hTn3 (aj hTp2 (aj hTp3 H)))))))))))))))))))
                refine rg [1, 2, 5, 10, 11, 92, 93, 94] (k := rs (k := rs (k := rg [1, 2, 5, 11, 92, 93, 94, 102, 103, 104] (k := rb (k := ?_)))))
                refine Run.loop (fun e s' => Kp s s' [(s1.nxt, .row 48 [.agg [.int .i64 (a).pos, .int .i64 (a).len]]), (s.nxt + 1, .row 43 [.agg [.int .i64 (x).unit, .int .u32 (x).fns, .int .i64 (x).queue, .sl .unk ((x).wins.map Win.pv), .sl .unk ((x).slts.map Slt.pv)]]), (s.nxt, .row 24 [.agg [.int .i64 (t).frame, .sl .unk ((t).tens.map Ten.pv)]])] ∧ ∃ q : Nat, e = [(1, .int .i64 i), (2, .ptr s.nxt 0 0), (5, .ptr (s.nxt + 1) 0 0), (11, .ptr s1.nxt 0 0), (92, .sl .unk (x.slts.map Slt.pv)), (93, .int .i64 x.slts.length), (94, .int .i64 k), (102, .sl .unk ((x.slts.take k).map Slt.pv)), (103, .int .i64 k), (104, .int .i64 q)] ∧ q ≤ k ∧ ((x.slts.take k).take q).any (fun b => sltMeet a b) = false) (fun e s' => k - ivar e 104) ?_ ?_
                · exact ⟨K1.push _, 0, rfl, by omega, rfl⟩
                rintro e s2 ⟨K2, q, rfl, hq, hall3⟩
                refine rs (k := rg [1, 2, 5, 11, 92, 93, 94, 102, 103, 104, 105] (k := rs (k := rc (ht := fun hc9 => ?_) (hf := fun hc9 => ?_))))
                · refine rk (k := rs (k := rb (k := rs (k := ?_))))
                  have hbl : q < (x.slts.take k).length := by have := of_decide_eq_true hc9; omega
                  obtain ⟨b, hbe⟩ : ∃ z_, (x.slts.take k)[q]'hbl = z_ := ⟨_, rfl⟩
                  have hxb : ((x.slts.take k).map Slt.pv)[q]? = some (.agg [.int .i64 (b).pos, .int .i64 (b).len]) := by rw [map_get hbl, hbe]; rfl
                  have hwb : IntKind.i64.wrap ((q : Int) + 1) = ((q + 1 : Nat) : Int) := by rw [wrap_i64 (by omega)]; omega
                  have hbok : b.ok := by rw [← hbe]; exact hxok.slts _ (List.mem_of_mem_take (List.getElem_mem _))
                  have hA : s2.blk (s1.nxt) = some (.row 48 [.agg [.int .i64 (a).pos, .int .i64 (a).len]]) := K2.hd
                  have hAn0 : (s1.nxt = s2.nxt) = False := K2.ne 0
                  have hAn1 : (s1.nxt = s2.nxt + 1) = False := K2.ne 1
                  have hAn2 : (s1.nxt = s2.nxt + 2) = False := K2.ne 2
                  have hAn3 : (s1.nxt = s2.nxt + 3) = False := K2.ne 3
                  have hAp2 : (s1.nxt = s2.nxt + 1 + 1) = False := K2.ne 2
                  have hAp3 : (s1.nxt = s2.nxt + 1 + 1 + 1) = False := K2.ne 3
                  have hX : s2.blk (s.nxt + 1) = some (.row 43 [.agg [.int .i64 (x).unit, .int .u32 (x).fns, .int .i64 (x).queue, .sl .unk ((x).wins.map Win.pv), .sl .unk ((x).slts.map Slt.pv)]]) := K2.tl.hd
                  have hXn0 : (s.nxt + 1 = s2.nxt) = False := K2.tl.ne 0
                  have hXn1 : (s.nxt + 1 = s2.nxt + 1) = False := K2.tl.ne 1
                  have hXn2 : (s.nxt + 1 = s2.nxt + 2) = False := K2.tl.ne 2
                  have hXn3 : (s.nxt + 1 = s2.nxt + 3) = False := K2.tl.ne 3
                  have hXp2 : (s.nxt + 1 = s2.nxt + 1 + 1) = False := K2.tl.ne 2
                  have hXp3 : (s.nxt + 1 = s2.nxt + 1 + 1 + 1) = False := K2.tl.ne 3
                  have hT : s2.blk (s.nxt) = some (.row 24 [.agg [.int .i64 (t).frame, .sl .unk ((t).tens.map Ten.pv)]]) := K2.tl.tl.hd
                  have hTn0 : (s.nxt = s2.nxt) = False := K2.tl.tl.ne 0
                  have hTn1 : (s.nxt = s2.nxt + 1) = False := K2.tl.tl.ne 1
                  have hTn2 : (s.nxt = s2.nxt + 2) = False := K2.tl.tl.ne 2
                  have hTn3 : (s.nxt = s2.nxt + 3) = False := K2.tl.tl.ne 3
                  have hTp2 : (s.nxt = s2.nxt + 1 + 1) = False := K2.tl.tl.ne 2
                  have hTp3 : (s.nxt = s2.nxt + 1 + 1 + 1) = False := K2.tl.tl.ne 3
                  have H := aj hxb (aj hwb (aj hbl (aj hA (aj hAn0 (aj hAn1 (aj hAn2 (aj hAn3 (aj hAp2 (aj hAp3 (aj hX (aj hXn0 (aj hXn1 (aj hXn2 (aj hXn3 (aj hXp2 (aj hXp3 (aj hT (aj hTn0 (aj hTn1 (aj hTn2 (aj hTn3 (aj hTp2 (aj hTp3 H)))))))))))))))))))))))
                  refine rg [1, 2, 5, 11, 13, 92, 93, 94, 102, 103, 104] (k := rs (k := rr (k := ro (pre := [_, _]) (k := rC (h := ref11_meet haok hbok) (k := rl [1, 2, 5, 11, 92, 93, 94, 102, 103, 104, 110] (k := rc (ht := fun hc10 => ?_) (hf := fun hc10 => ?_)))))))
                  · refine rs (k := rg [4] (k := rR (k := ?_)))
                    refine Ret.pure (by simp only [Try.f34, go_sem] <;> rfl) rfl (by simp only [go_sem, reduceCtorEq, false_implies, implies_true]) hwf (by first | exact (((Fr.refl hwf).new _).newset _ _ rfl).blk | exact (K1.fr).blk | exact ((K1.new _).fr).blk | exact ((K2.new _).fr).blk | exact ((K4.new _).fr).blk) ⟨?_, rfl⟩
                    · first
                        | (have e : tenWhy x t.frame = 21 := by rw [tenWhy, if_pos (by simpa using hc0)]
                           rw [tenAt, e, if_pos (by decide)]; rfl)
                        | (have e : tenWhy x t.frame = 22 := by rw [tenWhy, if_neg (by simpa using hc0), if_pos (by simpa using hc1)]
                           rw [tenAt, e, if_pos (by decide)]; rfl)
                        | (have e : tenWhy x t.frame = 26 := by
                             rw [tenWhy, if_neg (by simpa using hc0), if_neg (by simpa using hc1), if_pos (by simp only [Bool.or_eq_true, decide_eq_true_eq] at hc2; omega)]
                           rw [tenAt, e, if_pos (by decide)]; rfl)
                        | (have h2 : ¬ (6 < x.wins.length ∨ x.slts.length < 1 ∨ 3 < x.slts.length) := by simp only [Bool.or_eq_false_iff, decide_eq_false_iff_not] at hc2; omega
                           have h3 : (x.wins.any (fun w => !winRight w) || !winsOwn x.wins) = true := by
                             have := hc3
                             revert this
                             cases x.wins.any (fun w => !winRight w) <;> cases winsOwn x.wins <;> simp
                           have e : tenWhy x t.frame = 23 := by rw [tenWhy, if_neg (by simpa using hc0), if_neg (by simpa using hc1), if_neg h2, if_pos h3]
                           rw [tenAt, e, if_pos (by decide)]; rfl)
                        | (have hr : x.slts.any (fun a => !sltRight t.frame a) = true := any_get hal (by rw [hae]; exact hc5)
                           have e : tenWhy x t.frame = 25 := by rw [tenWhy, if_neg h0, if_neg h1, if_neg h2, if_neg (by rw [h3]; decide), if_pos hr]
                           rw [tenAt, e, if_pos (by decide)]; rfl)
                        | (rw [tenAt, if_neg (by rw [hwhy]; decide), tenBeside, if_pos (any_get hyl (by rw [hye]; exact hc7))]; rfl)
                        | (rw [tenAt, if_neg (by rw [hwhy]; decide), tenBeside, if_neg (by rw [hsh]; decide), hidx]
                           first
                             | (rw [show x.slts.drop k = [] from by rw [show k = x.slts.length by have := of_decide_eq_false hc8; omega, List.drop_length]]; rfl)
                             | (rw [sltsBadA_step hal, hae, show sltMeets a (x.slts.take k) = true from any_get hbl (by rw [hbe]; exact hc10)]; rfl)
                             | (rw [sltsBadA_step hal, hae, show (t.tens.take i).any (fun y => sltMeets a y.slts) = true from any_get hyl (by rw [hye]; exact any_get hbl (by rw [hbe]; exact hc13)), Bool.or_true]; rfl))
                  · refine rk (k := rB (k := rg [1, 2, 5, 11, 92, 93, 94, 102, 103, 104] (k := ?_)))
                    refine Run.lp ⟨⟨K2.new _, q + 1, rfl, by omega, any_take_step hbl (by rw [hbe]; exact hc10) hall3⟩, ?_⟩
                    simp only [ivar, go_sem, ↓reduceIte, Nat.reduceEqDiff]
                    omega
                · refine rX (k := rs (k := ?_))
                  have hm0 : (x.slts.take k).any (fun b => sltMeet a b) = false := any_take_all (by have := of_decide_eq_false hc9; omega) hall3
                  have hA : s2.blk (s1.nxt) = some (.row 48 [.agg [.int .i64 (a).pos, .int .i64 (a).len]]) := K2.hd
                  have hAn0 : (s1.nxt = s2.nxt) = False := K2.ne 0
                  have hAn1 : (s1.nxt = s2.nxt + 1) = False := K2.ne 1
                  have hAn2 : (s1.nxt = s2.nxt + 2) = False := K2.ne 2
                  have hAn3 : (s1.nxt = s2.nxt + 3) = False := K2.ne 3
                  have hAp2 : (s1.nxt = s2.nxt + 1 + 1) = False := K2.ne 2
                  have hAp3 : (s1.nxt = s2.nxt + 1 + 1 + 1) = False := K2.ne 3
                  have hX : s2.blk (s.nxt + 1) = some (.row 43 [.agg [.int .i64 (x).unit, .int .u32 (x).fns, .int .i64 (x).queue, .sl .unk ((x).wins.map Win.pv), .sl .unk ((x).slts.map Slt.pv)]]) := K2.tl.hd
                  have hXn0 : (s.nxt + 1 = s2.nxt) = False := K2.tl.ne 0
                  have hXn1 : (s.nxt + 1 = s2.nxt + 1) = False := K2.tl.ne 1
                  have hXn2 : (s.nxt + 1 = s2.nxt + 2) = False := K2.tl.ne 2
                  have hXn3 : (s.nxt + 1 = s2.nxt + 3) = False := K2.tl.ne 3
                  have hXp2 : (s.nxt + 1 = s2.nxt + 1 + 1) = False := K2.tl.ne 2
                  have hXp3 : (s.nxt + 1 = s2.nxt + 1 + 1 + 1) = False := K2.tl.ne 3
                  have hT : s2.blk (s.nxt) = some (.row 24 [.agg [.int .i64 (t).frame, .sl .unk ((t).tens.map Ten.pv)]]) := K2.tl.tl.hd
                  have hTn0 : (s.nxt = s2.nxt) = False := K2.tl.tl.ne 0
                  have hTn1 : (s.nxt = s2.nxt + 1) = False := K2.tl.tl.ne 1
                  have hTn2 : (s.nxt = s2.nxt + 2) = False := K2.tl.tl.ne 2
                  have hTn3 : (s.nxt = s2.nxt + 3) = False := K2.tl.tl.ne 3
                  have hTp2 : (s.nxt = s2.nxt + 1 + 1) = False := K2.tl.tl.ne 2
                  have hTp3 : (s.nxt = s2.nxt + 1 + 1 + 1) = False := K2.tl.tl.ne 3
                  have H := aj hA (aj hAn0 (aj hAn1 (aj hAn2 (aj hAn3 (aj hAp2 (aj hAp3 (aj hX (aj hXn0 (aj hXn1 (aj hXn2 (aj hXn3 (aj hXp2 (aj hXp3 (aj hT (aj hTn0 (aj hTn1 (aj hTn2 (aj hTn3 (aj hTp2 (aj hTp3 H))))))))))))))))))))
                  refine rg [1, 2, 5, 11, 92, 93, 94, 115, 116, 117] (k := rb (k := ?_))
                  refine Run.loop (fun e s' => Kp s s' [(s1.nxt, .row 48 [.agg [.int .i64 (a).pos, .int .i64 (a).len]]), (s.nxt + 1, .row 43 [.agg [.int .i64 (x).unit, .int .u32 (x).fns, .int .i64 (x).queue, .sl .unk ((x).wins.map Win.pv), .sl .unk ((x).slts.map Slt.pv)]]), (s.nxt, .row 24 [.agg [.int .i64 (t).frame, .sl .unk ((t).tens.map Ten.pv)]])] ∧ ∃ q : Nat, e = [(1, .int .i64 i), (2, .ptr s.nxt 0 0), (5, .ptr (s.nxt + 1) 0 0), (11, .ptr s1.nxt 0 0), (92, .sl .unk (x.slts.map Slt.pv)), (93, .int .i64 x.slts.length), (94, .int .i64 k), (115, .sl .unk ((t.tens.take i).map Ten.pv)), (116, .int .i64 i), (117, .int .i64 q)] ∧ q ≤ i ∧ ((t.tens.take i).take q).any (fun y => sltMeets a y.slts) = false) (fun e s' => i - ivar e 117) ?_ ?_
                  · exact ⟨K2, 0, rfl, by omega, rfl⟩
                  rintro e s3 ⟨K3, q, rfl, hq, hall4⟩
                  refine rs (k := rg [1, 2, 5, 11, 92, 93, 94, 115, 116, 117, 118] (k := rs (k := rc (ht := fun hc11 => ?_) (hf := fun hc11 => ?_))))
                  · refine rk (k := rs (k := rb (k := rs (k := ?_))))
                    have hyl : q < (t.tens.take i).length := by have := of_decide_eq_true hc11; omega
                    obtain ⟨y, hye⟩ : ∃ z_, (t.tens.take i)[q]'hyl = z_ := ⟨_, rfl⟩
                    have hxy : ((t.tens.take i).map Ten.pv)[q]? = some (.agg [.int .i64 (y).unit, .int .u32 (y).fns, .int .i64 (y).queue, .sl .unk ((y).wins.map Win.pv), .sl .unk ((y).slts.map Slt.pv)]) := by rw [map_get hyl, hye]; rfl
                    have hwy : IntKind.i64.wrap ((q : Int) + 1) = ((q + 1 : Nat) : Int) := by rw [wrap_i64 (by omega)]; omega
                    have hyok : y.ok := by rw [← hye]; exact ht.tens _ (List.mem_of_mem_take (List.getElem_mem _))
                    have hbs2 := hyok.bs
                    have hA : s3.blk (s1.nxt) = some (.row 48 [.agg [.int .i64 (a).pos, .int .i64 (a).len]]) := K3.hd
                    have hAn0 : (s1.nxt = s3.nxt) = False := K3.ne 0
                    have hAn1 : (s1.nxt = s3.nxt + 1) = False := K3.ne 1
                    have hAn2 : (s1.nxt = s3.nxt + 2) = False := K3.ne 2
                    have hAn3 : (s1.nxt = s3.nxt + 3) = False := K3.ne 3
                    have hAp2 : (s1.nxt = s3.nxt + 1 + 1) = False := K3.ne 2
                    have hAp3 : (s1.nxt = s3.nxt + 1 + 1 + 1) = False := K3.ne 3
                    have hX : s3.blk (s.nxt + 1) = some (.row 43 [.agg [.int .i64 (x).unit, .int .u32 (x).fns, .int .i64 (x).queue, .sl .unk ((x).wins.map Win.pv), .sl .unk ((x).slts.map Slt.pv)]]) := K3.tl.hd
                    have hXn0 : (s.nxt + 1 = s3.nxt) = False := K3.tl.ne 0
                    have hXn1 : (s.nxt + 1 = s3.nxt + 1) = False := K3.tl.ne 1
                    have hXn2 : (s.nxt + 1 = s3.nxt + 2) = False := K3.tl.ne 2
                    have hXn3 : (s.nxt + 1 = s3.nxt + 3) = False := K3.tl.ne 3
                    have hXp2 : (s.nxt + 1 = s3.nxt + 1 + 1) = False := K3.tl.ne 2
                    have hXp3 : (s.nxt + 1 = s3.nxt + 1 + 1 + 1) = False := K3.tl.ne 3
                    have hT : s3.blk (s.nxt) = some (.row 24 [.agg [.int .i64 (t).frame, .sl .unk ((t).tens.map Ten.pv)]]) := K3.tl.tl.hd
                    have hTn0 : (s.nxt = s3.nxt) = False := K3.tl.tl.ne 0
                    have hTn1 : (s.nxt = s3.nxt + 1) = False := K3.tl.tl.ne 1
                    have hTn2 : (s.nxt = s3.nxt + 2) = False := K3.tl.tl.ne 2
                    have hTn3 : (s.nxt = s3.nxt + 3) = False := K3.tl.tl.ne 3
                    have hTp2 : (s.nxt = s3.nxt + 1 + 1) = False := K3.tl.tl.ne 2
                    have hTp3 : (s.nxt = s3.nxt + 1 + 1 + 1) = False := K3.tl.tl.ne 3
                    have H := aj hxy (aj hwy (aj hyl (aj hA (aj hAn0 (aj hAn1 (aj hAn2 (aj hAn3 (aj hAp2 (aj hAp3 (aj hX (aj hXn0 (aj hXn1 (aj hXn2 (aj hXn3 (aj hXp2 (aj hXp3 (aj hT (aj hTn0 (aj hTn1 (aj hTn2 (aj hTn3 (aj hTp2 (aj hTp3 H)))))))))))))))))))))))
                    refine rg [1, 2, 5, 11, 15, 92, 93, 94, 115, 116, 117] (k := rs (k := rg [1, 2, 5, 11, 92, 93, 94, 115, 116, 117, 122, 123, 124] (k := rb (k := ?_))))
                    refine Run.loop (fun e s' => Kp s s' [(s3.nxt, .row 43 [.agg [.int .i64 (y).unit, .int .u32 (y).fns, .int .i64 (y).queue, .sl .unk ((y).wins.map Win.pv), .sl .unk ((y).slts.map Slt.pv)]]), (s1.nxt, .row 48 [.agg [.int .i64 (a).pos, .int .i64 (a).len]]), (s.nxt + 1, .row 43 [.agg [.int .i64 (x).unit, .int .u32 (x).fns, .int .i64 (x).queue, .sl .unk ((x).wins.map Win.pv), .sl .unk ((x).slts.map Slt.pv)]]), (s.nxt, .row 24 [.agg [.int .i64 (t).frame, .sl .unk ((t).tens.map Ten.pv)]])] ∧ ∃ j : Nat, e = [(1, .int .i64 i), (2, .ptr s.nxt 0 0), (5, .ptr (s.nxt + 1) 0 0), (11, .ptr s1.nxt 0 0), (92, .sl .unk (x.slts.map Slt.pv)), (93, .int .i64 x.slts.length), (94, .int .i64 k), (115, .sl .unk ((t.tens.take i).map Ten.pv)), (116, .int .i64 i), (117, .int .i64 q), (122, .sl .unk (y.slts.map Slt.pv)), (123, .int .i64 y.slts.length), (124, .int .i64 j)] ∧ j ≤ y.slts.length ∧ (y.slts.take j).any (fun b => sltMeet a b) = false) (fun e s' => (y.slts).length - ivar e 124) ?_ ?_
                    · exact ⟨K3.push _, 0, rfl, by omega, rfl⟩
                    rintro e s4 ⟨K4, j, rfl, hj, hall5⟩
                    refine rs (k := rg [1, 2, 5, 11, 92, 93, 94, 115, 116, 117, 122, 123, 124, 125] (k := rs (k := rc (ht := fun hc12 => ?_) (hf := fun hc12 => ?_))))
                    · refine rk (k := rs (k := rb (k := rs (k := ?_))))
                      have hbl : j < (y.slts).length := by have := of_decide_eq_true hc12; omega
                      obtain ⟨b, hbe⟩ : ∃ z_, (y.slts)[j]'hbl = z_ := ⟨_, rfl⟩
                      have hxb : ((y.slts).map Slt.pv)[j]? = some (.agg [.int .i64 (b).pos, .int .i64 (b).len]) := by rw [map_get hbl, hbe]; rfl
                      have hwb : IntKind.i64.wrap ((j : Int) + 1) = ((j + 1 : Nat) : Int) := by rw [wrap_i64 (by omega)]; omega
                      have hbok : b.ok := by rw [← hbe]; exact hyok.slts _ (List.getElem_mem _)
                      have hY : s4.blk (s3.nxt) = some (.row 43 [.agg [.int .i64 (y).unit, .int .u32 (y).fns, .int .i64 (y).queue, .sl .unk ((y).wins.map Win.pv), .sl .unk ((y).slts.map Slt.pv)]]) := K4.hd
                      have hYn0 : (s3.nxt = s4.nxt) = False := K4.ne 0
                      have hYn1 : (s3.nxt = s4.nxt + 1) = False := K4.ne 1
                      have hYn2 : (s3.nxt = s4.nxt + 2) = False := K4.ne 2
                      have hYn3 : (s3.nxt = s4.nxt + 3) = False := K4.ne 3
                      have hYp2 : (s3.nxt = s4.nxt + 1 + 1) = False := K4.ne 2
                      have hYp3 : (s3.nxt = s4.nxt + 1 + 1 + 1) = False := K4.ne 3
                      have hA : s4.blk (s1.nxt) = some (.row 48 [.agg [.int .i64 (a).pos, .int .i64 (a).len]]) := K4.tl.hd
                      have hAn0 : (s1.nxt = s4.nxt) = False := K4.tl.ne 0
                      have hAn1 : (s1.nxt = s4.nxt + 1) = False := K4.tl.ne 1
                      have hAn2 : (s1.nxt = s4.nxt + 2) = False := K4.tl.ne 2
                      have hAn3 : (s1.nxt = s4.nxt + 3) = False := K4.tl.ne 3
                      have hAp2 : (s1.nxt = s4.nxt + 1 + 1) = False := K4.tl.ne 2
                      have hAp3 : (s1.nxt = s4.nxt + 1 + 1 + 1) = False := K4.tl.ne 3
                      have hX : s4.blk (s.nxt + 1) = some (.row 43 [.agg [.int .i64 (x).unit, .int .u32 (x).fns, .int .i64 (x).queue, .sl .unk ((x).wins.map Win.pv), .sl .unk ((x).slts.map Slt.pv)]]) := K4.tl.tl.hd
                      have hXn0 : (s.nxt + 1 = s4.nxt) = False := K4.tl.tl.ne 0
                      have hXn1 : (s.nxt + 1 = s4.nxt + 1) = False := K4.tl.tl.ne 1
                      have hXn2 : (s.nxt + 1 = s4.nxt + 2) = False := K4.tl.tl.ne 2
                      have hXn3 : (s.nxt + 1 = s4.nxt + 3) = False := K4.tl.tl.ne 3
                      have hXp2 : (s.nxt + 1 = s4.nxt + 1 + 1) = False := K4.tl.tl.ne 2
                      have hXp3 : (s.nxt + 1 = s4.nxt + 1 + 1 + 1) = False := K4.tl.tl.ne 3
                      have hT : s4.blk (s.nxt) = some (.row 24 [.agg [.int .i64 (t).frame, .sl .unk ((t).tens.map Ten.pv)]]) := K4.tl.tl.tl.hd
                      have hTn0 : (s.nxt = s4.nxt) = False := K4.tl.tl.tl.ne 0
                      have hTn1 : (s.nxt = s4.nxt + 1) = False := K4.tl.tl.tl.ne 1
                      have hTn2 : (s.nxt = s4.nxt + 2) = False := K4.tl.tl.tl.ne 2
                      have hTn3 : (s.nxt = s4.nxt + 3) = False := K4.tl.tl.tl.ne 3
                      have hTp2 : (s.nxt = s4.nxt + 1 + 1) = False := K4.tl.tl.tl.ne 2
                      have hTp3 : (s.nxt = s4.nxt + 1 + 1 + 1) = False := K4.tl.tl.tl.ne 3
                      have H := aj hxb (aj hwb (aj hbl (aj hY (aj hYn0 (aj hYn1 (aj hYn2 (aj hYn3 (aj hYp2 (aj hYp3 (aj hA (aj hAn0 (aj hAn1 (aj hAn2 (aj hAn3 (aj hAp2 (aj hAp3 (aj hX (aj hXn0 (aj hXn1 (aj hXn2 (aj hXn3 (aj hXp2 (aj hXp3 (aj hT (aj hTn0 (aj hTn1 (aj hTn2 (aj hTn3 (aj hTp2 (aj hTp3 H))))))))))))))))))))))))))))))
                      refine rg [1, 2, 5, 11, 17, 92, 93, 94, 115, 116, 117, 122, 123, 124] (k := rs (k := rr (k := ro (pre := [_, _]) (k := rC (h := ref11_meet haok hbok) (k := rl [1, 2, 5, 11, 92, 93, 94, 115, 116, 117, 122, 123, 124, 130] (k := rc (ht := fun hc13 => ?_) (hf := fun hc13 => ?_)))))))
                      · refine rs (k := rg [4] (k := rR (k := ?_)))
                        refine Ret.pure (by simp only [Try.f34, go_sem] <;> rfl) rfl (by simp only [go_sem, reduceCtorEq, false_implies, implies_true]) hwf (by first | exact (((Fr.refl hwf).new _).newset _ _ rfl).blk | exact (K1.fr).blk | exact ((K1.new _).fr).blk | exact ((K2.new _).fr).blk | exact ((K4.new _).fr).blk) ⟨?_, rfl⟩
                        · first
                            | (have e : tenWhy x t.frame = 21 := by rw [tenWhy, if_pos (by simpa using hc0)]
                               rw [tenAt, e, if_pos (by decide)]; rfl)
                            | (have e : tenWhy x t.frame = 22 := by rw [tenWhy, if_neg (by simpa using hc0), if_pos (by simpa using hc1)]
                               rw [tenAt, e, if_pos (by decide)]; rfl)
                            | (have e : tenWhy x t.frame = 26 := by
                                 rw [tenWhy, if_neg (by simpa using hc0), if_neg (by simpa using hc1), if_pos (by simp only [Bool.or_eq_true, decide_eq_true_eq] at hc2; omega)]
                               rw [tenAt, e, if_pos (by decide)]; rfl)
                            | (have h2 : ¬ (6 < x.wins.length ∨ x.slts.length < 1 ∨ 3 < x.slts.length) := by simp only [Bool.or_eq_false_iff, decide_eq_false_iff_not] at hc2; omega
                               have h3 : (x.wins.any (fun w => !winRight w) || !winsOwn x.wins) = true := by
                                 have := hc3
                                 revert this
                                 cases x.wins.any (fun w => !winRight w) <;> cases winsOwn x.wins <;> simp
                               have e : tenWhy x t.frame = 23 := by rw [tenWhy, if_neg (by simpa using hc0), if_neg (by simpa using hc1), if_neg h2, if_pos h3]
                               rw [tenAt, e, if_pos (by decide)]; rfl)
                            | (have hr : x.slts.any (fun a => !sltRight t.frame a) = true := any_get hal (by rw [hae]; exact hc5)
                               have e : tenWhy x t.frame = 25 := by rw [tenWhy, if_neg h0, if_neg h1, if_neg h2, if_neg (by rw [h3]; decide), if_pos hr]
                               rw [tenAt, e, if_pos (by decide)]; rfl)
                            | (rw [tenAt, if_neg (by rw [hwhy]; decide), tenBeside, if_pos (any_get hyl (by rw [hye]; exact hc7))]; rfl)
                            | (rw [tenAt, if_neg (by rw [hwhy]; decide), tenBeside, if_neg (by rw [hsh]; decide), hidx]
                               first
                                 | (rw [show x.slts.drop k = [] from by rw [show k = x.slts.length by have := of_decide_eq_false hc8; omega, List.drop_length]]; rfl)
                                 | (rw [sltsBadA_step hal, hae, show sltMeets a (x.slts.take k) = true from any_get hbl (by rw [hbe]; exact hc10)]; rfl)
                                 | (rw [sltsBadA_step hal, hae, show (t.tens.take i).any (fun y => sltMeets a y.slts) = true from any_get hyl (by rw [hye]; exact any_get hbl (by rw [hbe]; exact hc13)), Bool.or_true]; rfl))
                      · refine rk (k := rB (k := rg [1, 2, 5, 11, 92, 93, 94, 115, 116, 117, 122, 123, 124] (k := ?_)))
                        refine Run.lp ⟨⟨K4.new _, j + 1, rfl, by omega, any_take_step hbl (by rw [hbe]; exact hc13) hall5⟩, ?_⟩
                        simp only [ivar, go_sem, ↓reduceIte, Nat.reduceEqDiff]
                        omega
                    · refine rX (k := rB (k := rg [1, 2, 5, 11, 92, 93, 94, 115, 116, 117] (k := ?_)))
                      refine Run.lp ⟨⟨K4.tl, q + 1, rfl, by omega, any_take_step hyl (by rw [hye]; exact any_take_all (by have := of_decide_eq_false hc12; omega) hall5) hall4⟩, ?_⟩
                      simp only [ivar, go_sem, ↓reduceIte, Nat.reduceEqDiff]
                      omega
                  · refine rX (k := rB (k := rg [1, 2, 5, 92, 93, 94] (k := ?_)))
                    have hm1 : (t.tens.take i).any (fun y => sltMeets a y.slts) = false := any_take_all (by have := of_decide_eq_false hc11; omega) hall4
                    rw [sltsBadA_step hal, hae, show sltMeets a (x.slts.take k) = false from hm0, hm1, Bool.or_self, Bool.false_or] at hidx
                    refine Run.lp ⟨⟨K3.tl, k + 1, rfl, by omega, hidx⟩, ?_⟩
                    simp only [ivar, go_sem, ↓reduceIte, Nat.reduceEqDiff]
                    omega
              · refine rX (k := rs (k := rg [4] (k := rR (k := ?_))))
                refine Ret.pure (by simp only [Try.f34, go_sem] <;> rfl) rfl (by simp only [go_sem, reduceCtorEq, false_implies, implies_true]) hwf (by first | exact (((Fr.refl hwf).new _).newset _ _ rfl).blk | exact (K1.fr).blk | exact ((K1.new _).fr).blk | exact ((K2.new _).fr).blk | exact ((K4.new _).fr).blk) ⟨?_, rfl⟩
                · first
                    | (have e : tenWhy x t.frame = 21 := by rw [tenWhy, if_pos (by simpa using hc0)]
                       rw [tenAt, e, if_pos (by decide)]; rfl)
                    | (have e : tenWhy x t.frame = 22 := by rw [tenWhy, if_neg (by simpa using hc0), if_pos (by simpa using hc1)]
                       rw [tenAt, e, if_pos (by decide)]; rfl)
                    | (have e : tenWhy x t.frame = 26 := by
                         rw [tenWhy, if_neg (by simpa using hc0), if_neg (by simpa using hc1), if_pos (by simp only [Bool.or_eq_true, decide_eq_true_eq] at hc2; omega)]
                       rw [tenAt, e, if_pos (by decide)]; rfl)
                    | (have h2 : ¬ (6 < x.wins.length ∨ x.slts.length < 1 ∨ 3 < x.slts.length) := by simp only [Bool.or_eq_false_iff, decide_eq_false_iff_not] at hc2; omega
                       have h3 : (x.wins.any (fun w => !winRight w) || !winsOwn x.wins) = true := by
                         have := hc3
                         revert this
                         cases x.wins.any (fun w => !winRight w) <;> cases winsOwn x.wins <;> simp
                       have e : tenWhy x t.frame = 23 := by rw [tenWhy, if_neg (by simpa using hc0), if_neg (by simpa using hc1), if_neg h2, if_pos h3]
                       rw [tenAt, e, if_pos (by decide)]; rfl)
                    | (have hr : x.slts.any (fun a => !sltRight t.frame a) = true := any_get hal (by rw [hae]; exact hc5)
                       have e : tenWhy x t.frame = 25 := by rw [tenWhy, if_neg h0, if_neg h1, if_neg h2, if_neg (by rw [h3]; decide), if_pos hr]
                       rw [tenAt, e, if_pos (by decide)]; rfl)
                    | (rw [tenAt, if_neg (by rw [hwhy]; decide), tenBeside, if_pos (any_get hyl (by rw [hye]; exact hc7))]; rfl)
                    | (rw [tenAt, if_neg (by rw [hwhy]; decide), tenBeside, if_neg (by rw [hsh]; decide), hidx]
                       first
                         | (rw [show x.slts.drop k = [] from by rw [show k = x.slts.length by have := of_decide_eq_false hc8; omega, List.drop_length]]; rfl)
                         | (rw [sltsBadA_step hal, hae, show sltMeets a (x.slts.take k) = true from any_get hbl (by rw [hbe]; exact hc10)]; rfl)
                         | (rw [sltsBadA_step hal, hae, show (t.tens.take i).any (fun y => sltMeets a y.slts) = true from any_get hyl (by rw [hye]; exact any_get hbl (by rw [hbe]; exact hc13)), Bool.or_true]; rfl))
theorem ref11_Where {t : Tab} (ht : t.ok) {s : St} : ACalls Try.prog 22 [t.pv] s (fun r s' => r = .tuple [.int .i64 (tabWhere t).1, .int .i64 (tabWhere t).2] ∧ s' = s) := by
  refine go Try.func22 (k := fun hwf H => ?_)
  refine rs (k := rg [1] (k := rs (k := rs (k := rg [1, 13] (k := rc (ht := fun hc0 => ?_) (hf := fun hc0 => ?_))))))
  · refine rs (k := rg [2, 3] (k := rR (k := ?_)))
    refine Ret.pure (by simp only [Try.f22, go_sem] <;> rfl) rfl (by simp only [go_sem, reduceCtorEq, false_implies, implies_true]) hwf (by first | exact ((Fr.refl hwf).new _).blk | exact (K1.fr).blk) ⟨?_, rfl⟩
    · first
        | (rw [tabWhere, if_pos (by simpa using hc0)]; rfl)
        | (rw [tabWhere, if_neg (by simpa using hc0), if_pos (by simp only [Bool.or_eq_true, decide_eq_true_eq] at hc1; omega)]; rfl)
        | (have h0 : ¬ (t.frame < 1 ∨ 2000 < t.frame) := by simpa using hc0
           have h1 : ¬ (t.tens.length < 1 ∨ 4 < t.tens.length) := by simp only [Bool.or_eq_false_iff, decide_eq_false_iff_not] at hc1; omega
           rw [tabWhere, if_neg h0, if_neg h1]
           first
             | (have e0 : tenAt t x i ≠ 0 := by simpa using hc3
                rw [tabWhereA_step hxl, hxe] at hidx
                rw [hidx]
                unfold tenAt at e0 ⊢
                by_cases h : tenWhy x t.frame = 0
                · rw [if_neg (by simp [h])] at e0 ⊢
                  rw [if_neg (by simp [h]), if_pos e0]; rfl
                · rw [if_pos h] at e0 ⊢
                  rw [if_pos h]; rfl)
             | (have : i = t.tens.length := by have := of_decide_eq_false hc2; omega
                rw [this, List.drop_length] at hidx
                rw [hidx]; rfl))
  · refine rk (k := rs (k := rs (k := rg [1, 23] (k := rc (ht := fun hc1 => ?_) (hf := fun hc1 => ?_)))))
    · refine rs (k := rg [2, 3] (k := rR (k := ?_)))
      refine Ret.pure (by simp only [Try.f22, go_sem] <;> rfl) rfl (by simp only [go_sem, reduceCtorEq, false_implies, implies_true]) hwf (by first | exact ((Fr.refl hwf).new _).blk | exact (K1.fr).blk) ⟨?_, rfl⟩
      · first
          | (rw [tabWhere, if_pos (by simpa using hc0)]; rfl)
          | (rw [tabWhere, if_neg (by simpa using hc0), if_pos (by simp only [Bool.or_eq_true, decide_eq_true_eq] at hc1; omega)]; rfl)
          | (have h0 : ¬ (t.frame < 1 ∨ 2000 < t.frame) := by simpa using hc0
             have h1 : ¬ (t.tens.length < 1 ∨ 4 < t.tens.length) := by simp only [Bool.or_eq_false_iff, decide_eq_false_iff_not] at hc1; omega
             rw [tabWhere, if_neg h0, if_neg h1]
             first
               | (have e0 : tenAt t x i ≠ 0 := by simpa using hc3
                  rw [tabWhereA_step hxl, hxe] at hidx
                  rw [hidx]
                  unfold tenAt at e0 ⊢
                  by_cases h : tenWhy x t.frame = 0
                  · rw [if_neg (by simp [h])] at e0 ⊢
                    rw [if_neg (by simp [h]), if_pos e0]; rfl
                  · rw [if_pos h] at e0 ⊢
                    rw [if_pos h]; rfl)
               | (have : i = t.tens.length := by have := of_decide_eq_false hc2; omega
                  rw [this, List.drop_length] at hidx
                  rw [hidx]; rfl))
    · refine rk (k := rs (k := rs (k := rg [1, 26, 27] (k := rb (k := ?_)))))
      refine Run.loop (fun e s' => Kp s s' [(s.nxt, .row 24 [.agg [.int .i64 (t).frame, .sl .unk ((t).tens.map Ten.pv)]])] ∧ ∃ i : Nat, e = [(1, .ptr s.nxt 0 0), (26, .int .i64 t.tens.length), (27, .int .i64 i)] ∧ i ≤ t.tens.length ∧ tabWhereA t.frame [] t.tens = tabWhereA t.frame (t.tens.take i) (t.tens.drop i)) (fun e s' => (t.tens).length - ivar e 27) ?_ ?_
      · exact ⟨(Kp.nil (Fr.refl hwf)).push _, 0, rfl, by omega, rfl⟩
      rintro e s1 ⟨K1, i, rfl, hi, hidx⟩
      refine rs (k := rg [1, 26, 27, 28] (k := rs (k := rc (ht := fun hc2 => ?_) (hf := fun hc2 => ?_))))
      · refine rk (k := rs (k := rb (k := rs (k := ?_))))
        have hbt := ht.bt
        have hxl : i < (t.tens).length := by have := of_decide_eq_true hc2; omega
        obtain ⟨x, hxe⟩ : ∃ z_, (t.tens)[i]'hxl = z_ := ⟨_, rfl⟩
        have hxx : ((t.tens).map Ten.pv)[i]? = some (.agg [.int .i64 (x).unit, .int .u32 (x).fns, .int .i64 (x).queue, .sl .unk ((x).wins.map Win.pv), .sl .unk ((x).slts.map Slt.pv)]) := by rw [map_get hxl, hxe]; rfl
        have hwx : IntKind.i64.wrap ((i : Int) + 1) = ((i + 1 : Nat) : Int) := by rw [wrap_i64 (by omega)]; omega
        have hxok : x.ok := by rw [← hxe]; exact ht.tens _ (List.getElem_mem _)
        have hfr : 0 ≤ t.frame ∧ t.frame ≤ 4611686018427387904 := by simp only [Bool.or_eq_false_iff, decide_eq_false_iff_not] at hc0; omega
        have hT : s1.blk (s.nxt) = some (.row 24 [.agg [.int .i64 (t).frame, .sl .unk ((t).tens.map Ten.pv)]]) := K1.hd
        have hTn0 : (s.nxt = s1.nxt) = False := K1.ne 0
        have hTn1 : (s.nxt = s1.nxt + 1) = False := K1.ne 1
        have hTn2 : (s.nxt = s1.nxt + 2) = False := K1.ne 2
        have hTn3 : (s.nxt = s1.nxt + 3) = False := K1.ne 3
        have hTp2 : (s.nxt = s1.nxt + 1 + 1) = False := K1.ne 2
        have hTp3 : (s.nxt = s1.nxt + 1 + 1 + 1) = False := K1.ne 3
        have H := aj hxx (aj hwx (aj hxl (aj hT (aj hTn0 (aj hTn1 (aj hTn2 (aj hTn3 (aj hTp2 (aj hTp3 H)))))))))
        refine rg [1, 4, 26, 27] (k := rs (k := rr (k := ro (pre := [_, _]) (k := rC (h := ref11_tenant ht hfr hxl hxe) (k := rh [1, 4, 5, 26, 27] (k := rs (k := rg [1, 4, 5, 26, 27, 34] (k := rc (ht := fun hc3 => ?_) (hf := fun hc3 => ?_)))))))))
        · refine rs (k := rg [2, 3] (k := rR (k := ?_)))
          refine Ret.pure (by simp only [Try.f22, go_sem] <;> rfl) rfl (by simp only [go_sem, reduceCtorEq, false_implies, implies_true]) hwf (by first | exact ((Fr.refl hwf).new _).blk | exact (K1.fr).blk) ⟨?_, rfl⟩
          · first
              | (rw [tabWhere, if_pos (by simpa using hc0)]; rfl)
              | (rw [tabWhere, if_neg (by simpa using hc0), if_pos (by simp only [Bool.or_eq_true, decide_eq_true_eq] at hc1; omega)]; rfl)
              | (have h0 : ¬ (t.frame < 1 ∨ 2000 < t.frame) := by simpa using hc0
                 have h1 : ¬ (t.tens.length < 1 ∨ 4 < t.tens.length) := by simp only [Bool.or_eq_false_iff, decide_eq_false_iff_not] at hc1; omega
                 rw [tabWhere, if_neg h0, if_neg h1]
                 first
                   | (have e0 : tenAt t x i ≠ 0 := by simpa using hc3
                      rw [tabWhereA_step hxl, hxe] at hidx
                      rw [hidx]
                      unfold tenAt at e0 ⊢
                      by_cases h : tenWhy x t.frame = 0
                      · rw [if_neg (by simp [h])] at e0 ⊢
                        rw [if_neg (by simp [h]), if_pos e0]; rfl
                      · rw [if_pos h] at e0 ⊢
                        rw [if_pos h]; rfl)
                   | (have : i = t.tens.length := by have := of_decide_eq_false hc2; omega
                      rw [this, List.drop_length] at hidx
                      rw [hidx]; rfl))
        · refine rk (k := rB (k := rg [1, 26, 27] (k := ?_)))
          have e0 : tenAt t x i = 0 := by simpa using hc3
          unfold tenAt at e0
          have e1 : tenWhy x t.frame = 0 := by
            by_cases h : tenWhy x t.frame = 0
            · exact h
            · rw [if_pos h] at e0; exact e0
          have e2 : tenBeside x (t.tens.take i) = 0 := by rwa [if_neg (by simp [e1])] at e0
          rw [tabWhereA_step hxl, hxe, if_neg (by simp [e1]), if_neg (by simp [e2])] at hidx
          refine Run.lp ⟨⟨K1, i + 1, rfl, by omega, hidx⟩, ?_⟩
          simp only [ivar, go_sem, ↓reduceIte, Nat.reduceEqDiff]
          omega
      · refine rX (k := rs (k := rg [2, 3] (k := rR (k := ?_))))
        refine Ret.pure (by simp only [Try.f22, go_sem] <;> rfl) rfl (by simp only [go_sem, reduceCtorEq, false_implies, implies_true]) hwf (by first | exact ((Fr.refl hwf).new _).blk | exact (K1.fr).blk) ⟨?_, rfl⟩
        · first
            | (rw [tabWhere, if_pos (by simpa using hc0)]; rfl)
            | (rw [tabWhere, if_neg (by simpa using hc0), if_pos (by simp only [Bool.or_eq_true, decide_eq_true_eq] at hc1; omega)]; rfl)
            | (have h0 : ¬ (t.frame < 1 ∨ 2000 < t.frame) := by simpa using hc0
               have h1 : ¬ (t.tens.length < 1 ∨ 4 < t.tens.length) := by simp only [Bool.or_eq_false_iff, decide_eq_false_iff_not] at hc1; omega
               rw [tabWhere, if_neg h0, if_neg h1]
               first
                 | (have e0 : tenAt t x i ≠ 0 := by simpa using hc3
                    rw [tabWhereA_step hxl, hxe] at hidx
                    rw [hidx]
                    unfold tenAt at e0 ⊢
                    by_cases h : tenWhy x t.frame = 0
                    · rw [if_neg (by simp [h])] at e0 ⊢
                      rw [if_neg (by simp [h]), if_pos e0]; rfl
                    · rw [if_pos h] at e0 ⊢
                      rw [if_pos h]; rfl)
                 | (have : i = t.tens.length := by have := of_decide_eq_false hc2; omega
                    rw [this, List.drop_length] at hidx
                    rw [hidx]; rfl))
theorem Ten.ext5 {a b : Ten} (h1 : a.unit = b.unit) (h2 : a.fns = b.fns) (h3 : a.queue = b.queue) (h4 : a.wins = b.wins) (h5 : a.slts = b.slts) : a = b := by
  cases a; cases b; simp at *; exact ⟨h1, h2, h3, h4, h5⟩
theorem Tab.ext2 {a b : Tab} (h1 : a.frame = b.frame) (h2 : a.tens = b.tens) : a = b := by
  cases a; cases b; simp at *; exact ⟨h1, h2⟩
theorem take_eq_all {α : Type} {l m : List α} {i : Nat} (h : i = l.length) (hl : l.length = m.length) (e : l.take i = m.take i) : l = m := by
  rw [h, List.take_length, hl, List.take_length] at e; exact e
theorem ref11_Same {a b : Ten} (ha : a.ok) {s : St} : ACalls Try.prog 24 [a.pv, b.pv] s (fun r s' => r = .bool (tenSame a b) ∧ s' = s) := by
  refine go Try.func24 (k := fun hwf H => ?_)
  have hbw := ha.bw
  have hbs := ha.bs
  refine rs (k := rg [2, 3] (k := rs (k := rs (k := rg [2, 3, 43] (k := rc (ht := fun hc0 => ?_) (hf := fun hc0 => ?_))))))
  · refine rs (k := rg [4] (k := rR (k := ?_)))
    refine Ret.pure (by simp only [Try.f24, go_sem] <;> rfl) rfl (by simp only [go_sem, reduceCtorEq, false_implies, implies_true]) hwf (by first | exact (((Fr.refl hwf).new _).new _).blk) ⟨?_, rfl⟩
    · first
        | (have hne : a ≠ b := by rintro rfl; simp at hc0
           rw [tenSame, decide_eq_false hne]; rfl)
        | (have hne : a ≠ b := by
             rintro rfl
             rw [hxe] at hye
             subst hye
             first
               | (simp at hc2; done)
               | (simp at hc4; done)
           rw [tenSame, decide_eq_false hne]; rfl)
        | (have he : a = b := Ten.ext5 hfl.1 hfl.2.1 hfl.2.2.1 (take_eq_all (by have := of_decide_eq_false hc1; omega) hfl.2.2.2.1 hbe) (take_eq_all (by have := of_decide_eq_false hc3; omega) hfl.2.2.2.2 hbs2)
           rw [tenSame, decide_eq_true he]; rfl)
  · refine rk (k := rs (k := rs (k := ?_)))
    have hfl : a.unit = b.unit ∧ a.fns = b.fns ∧ a.queue = b.queue ∧ a.wins.length = b.wins.length ∧ a.slts.length = b.slts.length := by
      simp only [Bool.or_eq_false_iff, Bool.not_eq_false', decide_eq_true_eq] at hc0
      omega
    refine rg [2, 3, 46, 47] (k := rb (k := ?_))
    refine Run.loop (fun e s' => s' = (s.new (.row 43 [.agg [.int .i64 (a).unit, .int .u32 (a).fns, .int .i64 (a).queue, .sl .unk ((a).wins.map Win.pv), .sl .unk ((a).slts.map Slt.pv)]])).new (.row 43 [.agg [.int .i64 (b).unit, .int .u32 (b).fns, .int .i64 (b).queue, .sl .unk ((b).wins.map Win.pv), .sl .unk ((b).slts.map Slt.pv)]]) ∧ ∃ i : Nat, e = [(2, .ptr s.nxt 0 0), (3, .ptr (s.nxt + 1) 0 0), (46, .int .i64 a.wins.length), (47, .int .i64 i)] ∧ i ≤ a.wins.length ∧ a.wins.take i = b.wins.take i) (fun e s' => (a.wins).length - ivar e 47) ?_ ?_
    · exact ⟨rfl, 0, rfl, by omega, rfl⟩
    rintro e s' ⟨hs, i, rfl, hi, hbe⟩
    subst s'
    refine rs (k := rg [2, 3, 46, 47, 48] (k := rs (k := rc (ht := fun hc1 => ?_) (hf := fun hc1 => ?_))))
    · refine rk (k := rs (k := rb (k := rs (k := ?_))))
      have hil : i < (a.wins).length := by have := of_decide_eq_true hc1; omega
      have hjl : i < (b.wins).length := by omega
      obtain ⟨x, hxe⟩ : ∃ z_, (a.wins)[i]'hil = z_ := ⟨_, rfl⟩
      have hxx : ((a.wins).map Win.pv)[i]? = some (.agg [.int .i64 (x).space, .int .i64 (x).virt, .int .i64 (x).phys, .int .i64 (x).cnt]) := by rw [map_get hil, hxe]; rfl
      obtain ⟨y, hye⟩ : ∃ z_, (b.wins)[i]'hjl = z_ := ⟨_, rfl⟩
      have hxy : ((b.wins).map Win.pv)[i]? = some (.agg [.int .i64 (y).space, .int .i64 (y).virt, .int .i64 (y).phys, .int .i64 (y).cnt]) := by rw [map_get hjl, hye]; rfl
      have hwi : IntKind.i64.wrap ((i : Int) + 1) = ((i + 1 : Nat) : Int) := by rw [wrap_i64 (by omega)]; omega
      have H := aj hxx (aj hxy (aj hwi (aj hil (aj hjl H))))
      refine rg [2, 3, 5, 46, 47] (k := rs (k := ?_))
      refine Run.drawC [] [2, 3, 46, 47, 60] Try.mixed (by kernel_rfl) ?_
      refine DetC.all au ?_
      refine re (k := rc (ht := fun hc2 => ?_) (hf := fun hc2 => ?_))
      · refine rs (k := rg [4] (k := rR (k := ?_)))
        refine Ret.pure (by simp only [Try.f24, go_sem] <;> rfl) rfl (by simp only [go_sem, reduceCtorEq, false_implies, implies_true]) hwf (by first | exact (((Fr.refl hwf).new _).new _).blk) ⟨?_, rfl⟩
        · first
            | (have hne : a ≠ b := by rintro rfl; simp at hc0
               rw [tenSame, decide_eq_false hne]; rfl)
            | (have hne : a ≠ b := by
                 rintro rfl
                 rw [hxe] at hye
                 subst hye
                 first
                   | (simp at hc2; done)
                   | (simp at hc4; done)
               rw [tenSame, decide_eq_false hne]; rfl)
            | (have he : a = b := Ten.ext5 hfl.1 hfl.2.1 hfl.2.2.1 (take_eq_all (by have := of_decide_eq_false hc1; omega) hfl.2.2.2.1 hbe) (take_eq_all (by have := of_decide_eq_false hc3; omega) hfl.2.2.2.2 hbs2)
               rw [tenSame, decide_eq_true he]; rfl)
      · refine rk (k := rB (k := rg [2, 3, 46, 47] (k := ?_)))
        have hxy : x = y := by
          simp at hc2
          exact Win.ext4 hc2.1 hc2.2.1 hc2.2.2.1 hc2.2.2.2
        refine Run.lp ⟨⟨rfl, i + 1, rfl, by omega, by rw [take_get hil, take_get hjl, hbe, hxe, hye, hxy]⟩, ?_⟩
        simp only [ivar, go_sem, ↓reduceIte, Nat.reduceEqDiff]
        omega
    · refine rX (k := rs (k := rs (k := rg [2, 3, 64, 65] (k := rb (k := ?_)))))
      refine Run.loop (fun e s' => s' = (s.new (.row 43 [.agg [.int .i64 (a).unit, .int .u32 (a).fns, .int .i64 (a).queue, .sl .unk ((a).wins.map Win.pv), .sl .unk ((a).slts.map Slt.pv)]])).new (.row 43 [.agg [.int .i64 (b).unit, .int .u32 (b).fns, .int .i64 (b).queue, .sl .unk ((b).wins.map Win.pv), .sl .unk ((b).slts.map Slt.pv)]]) ∧ ∃ j : Nat, e = [(2, .ptr s.nxt 0 0), (3, .ptr (s.nxt + 1) 0 0), (64, .int .i64 a.slts.length), (65, .int .i64 j)] ∧ j ≤ a.slts.length ∧ a.slts.take j = b.slts.take j) (fun e s' => (a.slts).length - ivar e 65) ?_ ?_
      · exact ⟨rfl, 0, rfl, by omega, rfl⟩
      rintro e s' ⟨hs, j, rfl, hj, hbs2⟩
      subst s'
      refine rs (k := rg [2, 3, 64, 65, 66] (k := rs (k := rc (ht := fun hc3 => ?_) (hf := fun hc3 => ?_))))
      · refine rk (k := rs (k := rb (k := rs (k := ?_))))
        have hil : j < (a.slts).length := by have := of_decide_eq_true hc3; omega
        have hjl : j < (b.slts).length := by omega
        obtain ⟨x, hxe⟩ : ∃ z_, (a.slts)[j]'hil = z_ := ⟨_, rfl⟩
        have hxx : ((a.slts).map Slt.pv)[j]? = some (.agg [.int .i64 (x).pos, .int .i64 (x).len]) := by rw [map_get hil, hxe]; rfl
        obtain ⟨y, hye⟩ : ∃ z_, (b.slts)[j]'hjl = z_ := ⟨_, rfl⟩
        have hxy : ((b.slts).map Slt.pv)[j]? = some (.agg [.int .i64 (y).pos, .int .i64 (y).len]) := by rw [map_get hjl, hye]; rfl
        have hwj : IntKind.i64.wrap ((j : Int) + 1) = ((j + 1 : Nat) : Int) := by rw [wrap_i64 (by omega)]; omega
        have H := aj hxx (aj hxy (aj hwj (aj hil (aj hjl H))))
        refine rg [2, 3, 6, 64, 65] (k := rs (k := ?_))
        refine Run.drawC [] [2, 3, 64, 65, 78] Try.mixed (by kernel_rfl) ?_
        refine DetC.all au ?_
        refine re (k := rc (ht := fun hc4 => ?_) (hf := fun hc4 => ?_))
        · refine rs (k := rg [4] (k := rR (k := ?_)))
          refine Ret.pure (by simp only [Try.f24, go_sem] <;> rfl) rfl (by simp only [go_sem, reduceCtorEq, false_implies, implies_true]) hwf (by first | exact (((Fr.refl hwf).new _).new _).blk) ⟨?_, rfl⟩
          · first
              | (have hne : a ≠ b := by rintro rfl; simp at hc0
                 rw [tenSame, decide_eq_false hne]; rfl)
              | (have hne : a ≠ b := by
                   rintro rfl
                   rw [hxe] at hye
                   subst hye
                   first
                     | (simp at hc2; done)
                     | (simp at hc4; done)
                 rw [tenSame, decide_eq_false hne]; rfl)
              | (have he : a = b := Ten.ext5 hfl.1 hfl.2.1 hfl.2.2.1 (take_eq_all (by have := of_decide_eq_false hc1; omega) hfl.2.2.2.1 hbe) (take_eq_all (by have := of_decide_eq_false hc3; omega) hfl.2.2.2.2 hbs2)
                 rw [tenSame, decide_eq_true he]; rfl)
        · refine rk (k := rB (k := rg [2, 3, 64, 65] (k := ?_)))
          have hxy : x = y := by
            simp at hc4
            exact Slt.ext2 hc4.1 hc4.2
          refine Run.lp ⟨⟨rfl, j + 1, rfl, by omega, by rw [take_get hil, take_get hjl, hbs2, hxe, hye, hxy]⟩, ?_⟩
          simp only [ivar, go_sem, ↓reduceIte, Nat.reduceEqDiff]
          omega
      · refine rX (k := rs (k := rg [4] (k := rR (k := ?_))))
        refine Ret.pure (by simp only [Try.f24, go_sem] <;> rfl) rfl (by simp only [go_sem, reduceCtorEq, false_implies, implies_true]) hwf (by first | exact (((Fr.refl hwf).new _).new _).blk) ⟨?_, rfl⟩
        · first
            | (have hne : a ≠ b := by rintro rfl; simp at hc0
               rw [tenSame, decide_eq_false hne]; rfl)
            | (have hne : a ≠ b := by
                 rintro rfl
                 rw [hxe] at hye
                 subst hye
                 first
                   | (simp at hc2; done)
                   | (simp at hc4; done)
               rw [tenSame, decide_eq_false hne]; rfl)
            | (have he : a = b := Ten.ext5 hfl.1 hfl.2.1 hfl.2.2.1 (take_eq_all (by have := of_decide_eq_false hc1; omega) hfl.2.2.2.1 hbe) (take_eq_all (by have := of_decide_eq_false hc3; omega) hfl.2.2.2.2 hbs2)
               rw [tenSame, decide_eq_true he]; rfl)
theorem ref11_Equal {a b : Tab} (ha : a.ok) {s : St} : ACalls Try.prog 15 [a.pv, b.pv] s (fun r s' => r = .bool (tabSame a b) ∧ s' = s) := by
  refine go Try.func15 (k := fun hwf H => ?_)
  have hbt := ha.bt
  refine rs (k := rg [2, 3] (k := rs (k := rs (k := rg [2, 3, 19] (k := rc (ht := fun hc0 => ?_) (hf := fun hc0 => ?_))))))
  · refine rs (k := rg [4] (k := rR (k := ?_)))
    refine Ret.pure (by simp only [Try.f15, go_sem] <;> rfl) rfl (by simp only [go_sem, reduceCtorEq, false_implies, implies_true]) hwf (by first | exact (((Fr.refl hwf).new _).new _).blk) ⟨?_, rfl⟩
    · first
        | (have hne : a ≠ b := by rintro rfl; simp at hc0
           rw [tabSame, decide_eq_false hne]; rfl)
        | (have hne : a ≠ b := by
             rintro rfl
             rw [hxe] at hye
             subst hye
             simp [tenSame] at hc2
           rw [tabSame, decide_eq_false hne]; rfl)
        | (have he : a = b := Tab.ext2 hfl.1 (take_eq_all (by have := of_decide_eq_false hc1; omega) hfl.2 hbe)
           rw [tabSame, decide_eq_true he]; rfl)
  · refine rk (k := rs (k := rs (k := ?_)))
    have hfl : a.frame = b.frame ∧ a.tens.length = b.tens.length := by
      simp only [Bool.or_eq_false_iff, Bool.not_eq_false', decide_eq_true_eq] at hc0
      omega
    refine rg [2, 3, 22, 23] (k := rb (k := ?_))
    refine Run.loop (fun e s' => s' = (s.new (.row 24 [.agg [.int .i64 (a).frame, .sl .unk ((a).tens.map Ten.pv)]])).new (.row 24 [.agg [.int .i64 (b).frame, .sl .unk ((b).tens.map Ten.pv)]]) ∧ ∃ i : Nat, e = [(2, .ptr s.nxt 0 0), (3, .ptr (s.nxt + 1) 0 0), (22, .int .i64 a.tens.length), (23, .int .i64 i)] ∧ i ≤ a.tens.length ∧ a.tens.take i = b.tens.take i) (fun e s' => (a.tens).length - ivar e 23) ?_ ?_
    · exact ⟨rfl, 0, rfl, by omega, rfl⟩
    rintro e s' ⟨hs, i, rfl, hi, hbe⟩
    subst s'
    refine rs (k := rg [2, 3, 22, 23, 24] (k := rs (k := rc (ht := fun hc1 => ?_) (hf := fun hc1 => ?_))))
    · refine rk (k := rs (k := rb (k := rs (k := ?_))))
      have hil : i < (a.tens).length := by have := of_decide_eq_true hc1; omega
      have hjl : i < (b.tens).length := by omega
      obtain ⟨x, hxe⟩ : ∃ z_, (a.tens)[i]'hil = z_ := ⟨_, rfl⟩
      have hxx : ((a.tens).map Ten.pv)[i]? = some (.agg [.int .i64 (x).unit, .int .u32 (x).fns, .int .i64 (x).queue, .sl .unk ((x).wins.map Win.pv), .sl .unk ((x).slts.map Slt.pv)]) := by rw [map_get hil, hxe]; rfl
      obtain ⟨y, hye⟩ : ∃ z_, (b.tens)[i]'hjl = z_ := ⟨_, rfl⟩
      have hxy : ((b.tens).map Ten.pv)[i]? = some (.agg [.int .i64 (y).unit, .int .u32 (y).fns, .int .i64 (y).queue, .sl .unk ((y).wins.map Win.pv), .sl .unk ((y).slts.map Slt.pv)]) := by rw [map_get hjl, hye]; rfl
      have hwi : IntKind.i64.wrap ((i : Int) + 1) = ((i + 1 : Nat) : Int) := by rw [wrap_i64 (by omega)]; omega
      have H := aj hxx (aj hxy (aj hwi (aj hil (aj hjl H))))
      refine rg [2, 3, 5, 22, 23] (k := rs (k := ?_))
      refine Run.drawC [] [2, 3, 22, 23, 37] Try.mixed (by kernel_rfl) ?_
      refine DetC.pre (pre := [_, _, _, _, _, _, _, _, _, _]) au ?_
      refine DetC.call au au au (by kernel_rfl) (ref11_Same (a := x) (b := y) (by rw [← hxe]; exact ha.tens _ (List.getElem_mem _))) ?_
      refine DetC.all au ?_
      refine re (k := rc (ht := fun hc2 => ?_) (hf := fun hc2 => ?_))
      · refine rs (k := rg [4] (k := rR (k := ?_)))
        refine Ret.pure (by simp only [Try.f15, go_sem] <;> rfl) rfl (by simp only [go_sem, reduceCtorEq, false_implies, implies_true]) hwf (by first | exact (((Fr.refl hwf).new _).new _).blk) ⟨?_, rfl⟩
        · first
            | (have hne : a ≠ b := by rintro rfl; simp at hc0
               rw [tabSame, decide_eq_false hne]; rfl)
            | (have hne : a ≠ b := by
                 rintro rfl
                 rw [hxe] at hye
                 subst hye
                 simp [tenSame] at hc2
               rw [tabSame, decide_eq_false hne]; rfl)
            | (have he : a = b := Tab.ext2 hfl.1 (take_eq_all (by have := of_decide_eq_false hc1; omega) hfl.2 hbe)
               rw [tabSame, decide_eq_true he]; rfl)
      · refine rk (k := rB (k := rg [2, 3, 22, 23] (k := ?_)))
        have hxy : x = y := by simpa [tenSame] using hc2
        refine Run.lp ⟨⟨rfl, i + 1, rfl, by omega, by rw [take_get hil, take_get hjl, hbe, hxe, hye, hxy]⟩, ?_⟩
        simp only [ivar, go_sem, ↓reduceIte, Nat.reduceEqDiff]
        omega
    · refine rX (k := rs (k := rg [4] (k := rR (k := ?_))))
      refine Ret.pure (by simp only [Try.f15, go_sem] <;> rfl) rfl (by simp only [go_sem, reduceCtorEq, false_implies, implies_true]) hwf (by first | exact (((Fr.refl hwf).new _).new _).blk) ⟨?_, rfl⟩
      · first
          | (have hne : a ≠ b := by rintro rfl; simp at hc0
             rw [tabSame, decide_eq_false hne]; rfl)
          | (have hne : a ≠ b := by
               rintro rfl
               rw [hxe] at hye
               subst hye
               simp [tenSame] at hc2
             rw [tabSame, decide_eq_false hne]; rfl)
          | (have he : a = b := Tab.ext2 hfl.1 (take_eq_all (by have := of_decide_eq_false hc1; omega) hfl.2 hbe)
             rw [tabSame, decide_eq_true he]; rfl)
end Go.Proofs
namespace Go.Proofs
open Go.PM
set_option maxHeartbeats 2000000
theorem within_ {n lo hi : Int} (h0 : 0 ≤ lo) (h1 : lo ≤ hi) (h2 : hi ≤ 1152921504606846976) {s : St} : ACalls Try.prog 17 [.int .i64 n, .int .i64 lo, .int .i64 hi] s (fun r s' => r = .int .i64 (withinI n lo hi) ∧ s' = s) := by
  refine go Try.func17 (k := fun hwf H => ?_)
  have hb := tmod_bound n (m := hi - lo + 1) (by omega)
  have hw1 : IntKind.i64.wrap (hi - lo) = hi - lo := wrap_i64 (by omega)
  have hw2 : IntKind.i64.wrap (hi - lo + 1) = hi - lo + 1 := wrap_i64 (by omega)
  have hw3 : IntKind.i64.wrap (n.tmod (hi - lo + 1) + hi) = n.tmod (hi - lo + 1) + hi := wrap_i64 (by omega)
  have hw4 : IntKind.i64.wrap (n.tmod (hi - lo + 1) + hi - lo) = n.tmod (hi - lo + 1) + hi - lo := wrap_i64 (by omega)
  have hw5 : IntKind.i64.wrap (n.tmod (hi - lo + 1) + hi - lo + 1) = n.tmod (hi - lo + 1) + hi - lo + 1 := wrap_i64 (by omega)
  have hne : (hi - lo + 1 = 0) = False := eq_false (by omega)
  have H := aj hw1 (aj hw2 (aj hw3 (aj hw4 (aj hw5 (aj hne H)))))
  refine rs (k := rg [0, 1, 2] (k := rs (k := rs (k := rg [0, 1, 2, 14] (k := rc (ht := fun hc0 => ?_) (hf := fun hc0 => ?_))))))
  · refine rs (k := rg [6] (k := rR (k := rP (by simp only [Try.f17, go_sem]; rfl) hwf ⟨?_, rfl⟩)))
    unfold withinI
    first
      | (have h : lo ≤ n ∧ n ≤ hi := by simpa using hc0
         rw [if_pos h]; rfl)
      | (have h : ¬ (lo ≤ n ∧ n ≤ hi) := by simpa using hc0
         have hm := of_decide_eq_true hc1
         rw [if_neg h, if_pos hm, wrap_i64 (by omega)]; rfl)
      | (have h : ¬ (lo ≤ n ∧ n ≤ hi) := by simpa using hc0
         have hm := of_decide_eq_false hc1
         rw [if_neg h, if_neg hm, wrap_i64 (by omega)]; rfl)
  · refine rk (k := rs (k := rg [0, 1, 2] (k := rs (k := rs (k := rg [0, 1, 2, 23] (k := rc (ht := fun hc1 => ?_) (hf := fun hc1 => ?_)))))))
    · refine rg [0, 1] (k := rs (k := rg [6] (k := rR (k := rP (by simp only [Try.f17, go_sem]; rfl) hwf ⟨?_, rfl⟩))))
      unfold withinI
      first
        | (have h : lo ≤ n ∧ n ≤ hi := by simpa using hc0
           rw [if_pos h]; rfl)
        | (have h : ¬ (lo ≤ n ∧ n ≤ hi) := by simpa using hc0
           have hm := of_decide_eq_true hc1
           rw [if_neg h, if_pos hm, wrap_i64 (by omega)]; rfl)
        | (have h : ¬ (lo ≤ n ∧ n ≤ hi) := by simpa using hc0
           have hm := of_decide_eq_false hc1
           rw [if_neg h, if_neg hm, wrap_i64 (by omega)]; rfl)
    · refine rk (k := rs (k := rg [6] (k := rR (k := rP (by simp only [Try.f17, go_sem]; rfl) hwf ⟨?_, rfl⟩))))
      unfold withinI
      first
        | (have h : lo ≤ n ∧ n ≤ hi := by simpa using hc0
           rw [if_pos h]; rfl)
        | (have h : ¬ (lo ≤ n ∧ n ≤ hi) := by simpa using hc0
           have hm := of_decide_eq_true hc1
           rw [if_neg h, if_pos hm, wrap_i64 (by omega)]; rfl)
        | (have h : ¬ (lo ≤ n ∧ n ≤ hi) := by simpa using hc0
           have hm := of_decide_eq_false hc1
           rw [if_neg h, if_neg hm, wrap_i64 (by omega)]; rfl)
theorem tape_Next {t : Tp} (ht : t.ok) {n : Int} {s : St} {tp : Nat} (hb : s.blk tp = some (.row 29 [t.pv])) : ACalls Try.prog 19 [.ptr tp 0 0, .int .i64 n] s (fun r s' => r = .int .i64 (t.val n) ∧ s' = s.set tp (some (.row 29 [(t.nx n).pv]))) := by
  refine go Try.func19 (k := fun hwf H => ?_)
  rw [Tp.pv] at hb
  have hlen := ht.len
  have hpos := ht.pos
  have H := aj hb H
  refine rs (k := rg [0, 1] (k := rs (k := rs (k := ?_))))
  refine Run.drawC [] [0, 1, 18] Try.mixed (by kernel_rfl) ?_
  refine DetC.all au ?_
  refine re (k := rc (ht := fun hc0 => ?_) (hf := fun hc0 => ?_))
  · refine rs (k := rg [4] (k := rR (k := ?_)))
    first
      | (have h0 : t.l.length ≤ t.pos ∨ n < 1 := by simp only [Bool.or_eq_true, decide_eq_true_eq] at hc0; omega
         refine Ret.all (by simp only [Try.f19, go_sem] <;> rfl) ⟨?_, ?_⟩
         · rw [Tp.val, if_pos h0]
         · rw [Tp.nx, if_pos h0, Tp.pv]; exact (St.set_self hb).symm)
      | (refine Ret.all (by simp only [Try.f19, go_sem] <;> rfl) ⟨?_, ?_⟩
         · rw [Tp.val, if_neg hc1]
         · rw [Tp.nx, if_neg hc1]; rfl)
  · refine rk (k := rs (k := ?_))
    have hc1 : ¬ (t.l.length ≤ t.pos ∨ n < 1) := by simp only [Bool.or_eq_false_iff, decide_eq_false_iff_not] at hc0; omega
    have hw : IntKind.i64.wrap ((t.pos : Int) + 1) = ((t.pos + 1 : Nat) : Int) := by rw [wrap_i64 (by omega)]; omega
    have hw1 : IntKind.i64.wrap (((t.pos + 1 : Nat) : Int) - 1) = ((t.pos : Nat) : Int) := by rw [wrap_i64 (by omega)]; omega
    have hx : (t.l.map (PV.int .i64))[t.pos]? = some (.int .i64 (t.l[t.pos]?.getD 0)) := by rw [List.getElem?_map, List.getElem?_eq_getElem (by omega)]; rfl
    have hn0 : (n = 0) = False := eq_false (by omega)
    have hlt : ((t.pos : Int) < (t.l.length : Int)) = True := eq_true (by omega)
    have H := aj hw (aj hw1 (aj hx (aj hn0 (aj hlt H))))
    refine rg [0, 1] (k := rs (k := ?_))
    refine Run.drawC [] [4] Try.mixed (by kernel_rfl) ?_
    refine DetC.pre (pre := [_, _, _, _, _, _, _, _, _, _, _]) au ?_
    refine DetC.call au au au (by kernel_rfl) (within_ (lo := 0) (hi := 1073741824) (by decide) (by decide) (by decide)) ?_
    refine DetC.all au ?_
    refine re (k := rR (k := ?_))
    first
      | (have h0 : t.l.length ≤ t.pos ∨ n < 1 := by simp only [Bool.or_eq_true, decide_eq_true_eq] at hc0; omega
         refine Ret.all (by simp only [Try.f19, go_sem] <;> rfl) ⟨?_, ?_⟩
         · rw [Tp.val, if_pos h0]
         · rw [Tp.nx, if_pos h0, Tp.pv]; exact (St.set_self hb).symm)
      | (refine Ret.all (by simp only [Try.f19, go_sem] <;> rfl) ⟨?_, ?_⟩
         · rw [Tp.val, if_neg hc1]
         · rw [Tp.nx, if_neg hc1]; rfl)
end Go.Proofs
namespace Go.Proofs
open Go.PM
set_option maxHeartbeats 2000000
attribute [local go_sem] gD_set_map
set_option maxRecDepth 100000 in
theorem tape_windows {T : Tp} (hT : T.ok) {i : Nat} (hi : i ≤ 3) {s : St} {tp : Nat} (hb : s.blk tp = some (.row 29 [T.pv])) : ACalls Try.prog 20 [.ptr tp 0 0, .int .i64 i] s (fun r s' => ∃ (ws : List Win) (T' : Tp), r = .sl .unk (ws.map Win.pv) ∧ s' = s.set tp (some (.row 29 [T'.pv])) ∧ T'.ok ∧ WGood i ws) := by
  refine go Try.func20 (k := fun hwf H => ?_)
  have hlt : tp < s.nxt := lt_blk hwf hb
  have hs0 : s.set tp (some (.row 29 [T.pv])) = s := St.set_self hb
  have hw128 : IntKind.i64.wrap (128 * (i : Int)) = 128 * (i : Int) := wrap_i64 (by omega)
  have hFt : (s.nxt = tp) = False := eq_false (by omega)
  have hVt : (s.nxt + 1 = tp) = False := eq_false (by omega)
  have htF : (tp = s.nxt) = False := eq_false (by omega)
  have htV : (tp = s.nxt + 1) = False := eq_false (by omega)
  have H := aj hw128 (aj hFt (aj hVt (aj htF (aj htV H))))
  refine rs (k := rg [0, 1] (k := rs (k := rg [0, 1, 5] (k := rs (k := rg [0, 5, 6] (k := rs (k := rg [0, 5, 6, 7] (k := rs (k := rs (k := rr (k := ro (pre := [_]) (k := ?_))))))))))))
  refine RunO.callw au au au (by kernel_rfl) ((tape_Next hT (n := 6) (by simp only [go_sem, htF, htV, ↓reduceIte]; exact hb)).mono ?_)
  rintro r s2 ⟨rfl, hs⟩
  subst s2
  refine rh [0, 5, 6, 7, 8] (k := rb (k := ?_))
  refine Run.loop (fun e s' => ∃ (T1 : Tp) (c : Nat) (m : Int) (ws : List Win) (fr vi : List Int) (kk : SK), e = [(0, .ptr tp 0 0), (5, .sl kk (ws.map Win.pv)), (6, .ptr s.nxt 0 0), (7, .ptr (s.nxt + 1) 0 0), (8, .int .i64 m)] ∧ T1.ok ∧ Kp (s.set tp (some (.row 29 [T1.pv]))) s' [(s.nxt + 1, .row 66 [.agg ((vi).map (PV.int .i64))]), (s.nxt, .row 66 [.agg ((fr).map (PV.int .i64))])] ∧ WInv i c ws fr vi ∧ Grows s' kk ws.length 4 ∧ (∀ t z, kk = .tok t z → s.nxt + 1 < t ∧ t < s'.nxt) ∧ -1 ≤ m ∧ c + m ≤ 5) (fun e s' => ivar1 e 8) ?_ ?_
  · have K0 : Kp (s.set tp (some (.row 29 [(T.nx 6).pv]))) ((((s.new (.row 66 [.agg [.int .i64 (128 * (i : Int)), .int .i64 (128 * (i : Int)), .int .i64 (128 * (i : Int)), .int .i64 (128 * (i : Int))]])).new (.row 66 [.agg [.int .i64 0, .int .i64 0, .int .i64 0, .int .i64 0]])).set (s.nxt + 1) (some (.row 66 [.agg [.int .i64 0, .int .i64 0, .int .i64 0, .int .i64 0]]))).set tp (some (.row 29 [(T.nx 6).pv]))) [(s.nxt + 1, .row 66 [.agg [.int .i64 0, .int .i64 0, .int .i64 0, .int .i64 0]]), (s.nxt, .row 66 [.agg [.int .i64 (128 * (i : Int)), .int .i64 (128 * (i : Int)), .int .i64 (128 * (i : Int)), .int .i64 (128 * (i : Int))]])] := by
      have h0 : Kp (s.set tp (some (.row 29 [T.pv]))) (((s.new (.row 66 [.agg [.int .i64 (128 * (i : Int)), .int .i64 (128 * (i : Int)), .int .i64 (128 * (i : Int)), .int .i64 (128 * (i : Int))]])).new (.row 66 [.agg [.int .i64 0, .int .i64 0, .int .i64 0, .int .i64 0]])).set (s.nxt + 1) (some (.row 66 [.agg [.int .i64 0, .int .i64 0, .int .i64 0, .int .i64 0]]))) [(s.nxt + 1, .row 66 [.agg [.int .i64 0, .int .i64 0, .int .i64 0, .int .i64 0]]), (s.nxt, .row 66 [.agg [.int .i64 (128 * (i : Int)), .int .i64 (128 * (i : Int)), .int .i64 (128 * (i : Int)), .int .i64 (128 * (i : Int))]])] := by
        rw [hs0]
        exact ((Kp.nil (Fr.refl hwf)).push _).pushset _ _ rfl
      exact h0.setbase hlt (by simp only [List.forall_mem_cons]; exact ⟨by omega, by omega, by simp⟩) _
    have hv6 := T.val_bound (n := 6) (by decide)
    have hgr0 : Grows s .nil 0 4 := .inl ⟨rfl, rfl⟩
    refine ⟨T.nx 6, 0, T.val 6, [], [128 * (i : Int), 128 * i, 128 * i, 128 * i], [0, 0, 0, 0], .nil, rfl, hT.nx 6, K0, WInv.first i, .inl ⟨rfl, rfl⟩, fun t z e => (by cases e), (by omega), (by omega)⟩
  rintro e s1 ⟨T1, c, m, ws, fr, vi, kk, rfl, hT1, K1, WI, hgr, htk, hm1, hcm⟩
  refine rs (k := rs (k := rg [0, 5, 6, 7, 8, 24] (k := rc (ht := fun hc0 => ?_) (hf := fun hc0 => ?_))))
  · refine rk (k := rs (k := rb (k := rs (k := ?_))))
    have hT1b : s1.blk tp = some (.row 29 [T1.pv]) := by rw [K1.fr.blk tp hlt, blk_set, if_pos rfl]
    have hm0 : 0 ≤ m := of_decide_eq_true hc0
    obtain ⟨u, hu, hue⟩ := T1.val_nat (n := 6) (by decide)
    have hue : T1.val 6 = (u : Int) := hue
    obtain ⟨hsp, hk4⟩ := spL_get (v := u) (by omega)
    obtain ⟨k, hke⟩ : ∃ k, spL u = k := ⟨_, rfl⟩
    rw [hke] at hsp hk4
    have H := aj hue (aj hsp H)
    refine rr (k := rO (k := ro (pre := [_]) (k := ?_)))
    refine RunO.callw au au au (by kernel_rfl) ((tape_Next hT1 (n := 6) hT1b).mono ?_)
    rintro r s2 ⟨rfl, hs⟩
    subst s2
    refine rh [0, 5, 6, 7, 8, 9] (k := rs (k := ?_))
    obtain ⟨x, hx, hxe⟩ := (T1.nx 6).val_nat (n := 4) (by decide)
    have hxe : (T1.nx 6).val 4 = (x : Int) := hxe
    obtain ⟨hg4, hg0, hg5⟩ := g4_get (u := x) (by omega)
    obtain ⟨n3, hn3e⟩ : ∃ y, ((T1.nx 6).nx 4).val 3 = y := ⟨_, rfl⟩
    have hn3 := ((T1.nx 6).nx 4).val_bound (n := 3) (by decide)
    rw [hn3e] at hn3
    obtain ⟨n18, hn18e⟩ : ∃ y, (((T1.nx 6).nx 4).nx 3).val 18 = y := ⟨_, rfl⟩
    have hn18 := (((T1.nx 6).nx 4).nx 3).val_bound (n := 18) (by decide)
    rw [hn18e] at hn18
    have hfb := WI.fb k hk4
    have hvb := WI.vb k hk4
    have hfl := WI.fl
    have hvl := WI.vl
    have hd : ∀ p ∈ ([(s.nxt + 1, .row 66 [.agg ((vi).map (PV.int .i64))]), (s.nxt, .row 66 [.agg ((fr).map (PV.int .i64))])] : List (Nat × Blk)), p.1 ≠ tp := by
      intro p hp
      simp only [List.mem_cons, List.not_mem_nil, or_false] at hp
      rcases hp with rfl | rfl <;> simp only <;> omega
    have hdV : ((vi.map (PV.int .i64)).drop k).head? = some (.int .i64 (gD vi k)) := gD_drop (by omega)
    have hdF : ((fr.map (PV.int .i64)).drop k).head? = some (.int .i64 (gD fr k)) := gD_drop (by omega)
    have hw1 : IntKind.i64.wrap (gD vi k + g4 x) = gD vi k + g4 x := wrap_i64 (by omega)
    have hw2 : IntKind.i64.wrap (gD fr k + n3) = gD fr k + n3 := wrap_i64 (by omega)
    have hw3 : IntKind.i64.wrap (1 + n18) = 1 + n18 := wrap_i64 (by omega)
    have hk40 : ((k : Int) < 4) = True := eq_true (by omega)
    have hV : s1.blk (s.nxt + 1) = some (.row 66 [.agg ((vi).map (PV.int .i64))]) := K1.hd
    have hF : s1.blk s.nxt = some (.row 66 [.agg ((fr).map (PV.int .i64))]) := K1.tl.hd
    have htN' : tp ≠ s1.nxt := by have := K1.tl.lt; simp only at this; omega
    have htN : (tp = s1.nxt) = False := eq_false htN'
    have hFs : (s.nxt = s1.nxt) = False := eq_false (by have := K1.tl.lt; omega)
    have hVs : (s.nxt + 1 = s1.nxt) = False := K1.ne 0
    have H := aj hxe (aj hg4 (aj hn3e (aj hn18e (aj hfl (aj hvl (aj hdV (aj hdF (aj hw1 (aj hw2 (aj hw3 (aj hk40 (aj hk4 (aj hV (aj hF (aj hFs (aj hVs (aj htN H)))))))))))))))))
    refine Run.drawG 21 [6, 14, 17] 20 (fun s => s.new (.row 45 [.agg [.int .i64 0, .int .i64 0, .int .i64 0, .int .i64 0]])) [(s1.set tp (some (.row 29 [(T1.nx 6).pv]))), ((s1.set tp (some (.row 29 [(T1.nx 6).pv]))).set tp (some (.row 29 [((T1.nx 6).nx 4).pv]))), (((s1.set tp (some (.row 29 [(T1.nx 6).pv]))).set tp (some (.row 29 [((T1.nx 6).nx 4).pv]))).set tp (some (.row 29 [(((T1.nx 6).nx 4).nx 3).pv]))), ((((s1.set tp (some (.row 29 [(T1.nx 6).pv]))).set tp (some (.row 29 [((T1.nx 6).nx 4).pv]))).set tp (some (.row 29 [(((T1.nx 6).nx 4).nx 3).pv]))).set tp (some (.row 29 [((((T1.nx 6).nx 4).nx 3).nx 18).pv])))] Try.mixed (by kernel_rfl) (by kernel_rfl) (by decide) (by decide) ?_
    refine DetGC.pre (pre := [_, _, _, _, _, _]) (by decide) List.mem_cons_self au ?_
    refine DetGC.callE (by decide) List.mem_cons_self au au au (by kernel_rfl) (tape_Next (hT1.nx 6) (n := 4) (by simp only [go_sem, ↓reduceIte])) ((tape_Next (hT1.nx 6) (n := 4) (by simp only [go_sem, ↓reduceIte, htN])).new_set (by simp only [go_sem]; exact htN')) ?_
    refine DetGC.pre (pre := [_, _, _, _, _, _, _]) (by decide) (List.mem_cons_of_mem _ List.mem_cons_self) au ?_
    refine DetGC.callE (by decide) (List.mem_cons_of_mem _ List.mem_cons_self) au au au (by kernel_rfl) (tape_Next ((hT1.nx 6).nx 4) (n := 3) (by simp only [go_sem, ↓reduceIte])) ((tape_Next ((hT1.nx 6).nx 4) (n := 3) (by simp only [go_sem, ↓reduceIte, htN])).new_set (by simp only [go_sem]; exact htN')) ?_
    refine DetGC.pre (pre := [_, _]) (by decide) (List.mem_cons_of_mem _ (List.mem_cons_of_mem _ List.mem_cons_self)) au ?_
    refine DetGC.callE (by decide) (List.mem_cons_of_mem _ (List.mem_cons_of_mem _ List.mem_cons_self)) au au au (by kernel_rfl) (tape_Next (((hT1.nx 6).nx 4).nx 3) (n := 18) (by simp only [go_sem, ↓reduceIte])) ((tape_Next (((hT1.nx 6).nx 4).nx 3) (n := 18) (by simp only [go_sem, ↓reduceIte, htN])).new_set (by simp only [go_sem]; exact htN')) ?_
    refine DetGC.pre (pre := [_, _]) (by decide) (List.mem_cons_of_mem _ (List.mem_cons_of_mem _ (List.mem_cons_of_mem _ List.mem_cons_self))) au ?_
    refine DetGC.alloc (v := .ptr s1.nxt 0 0) (by decide) (List.mem_cons_of_mem _ (List.mem_cons_of_mem _ (List.mem_cons_of_mem _ List.mem_cons_self))) au au ?_
    refine DetGC.nil (List.mem_cons_of_mem _ (List.mem_cons_of_mem _ (List.mem_cons_of_mem _ List.mem_cons_self))) ?_
    refine rh [0, 5, 6, 7, 8, 9, 10] (k := rs (k := ?_))
    obtain ⟨sB, hsB⟩ : ∃ y, ((((((s1.set tp (some (.row 29 [(T1.nx 6).pv]))).set tp (some (.row 29 [((T1.nx 6).nx 4).pv]))).set tp (some (.row 29 [(((T1.nx 6).nx 4).nx 3).pv]))).set tp (some (.row 29 [((((T1.nx 6).nx 4).nx 3).nx 18).pv]))).new (.row 45 [.agg [.int .i64 0, .int .i64 0, .int .i64 0, .int .i64 0]])).set s1.nxt (some (.row 45 [.agg [.int .i64 (k : Int), .int .i64 (gD vi k + g4 x), .int .i64 (gD fr k + n3), .int .i64 (1 + n18)]]))) = y := ⟨_, rfl⟩
    have KA := (((K1.setbase (b' := (some (.row 29 [(T1.nx 6).pv]))) hlt hd).setbase (b' := (some (.row 29 [((T1.nx 6).nx 4).pv]))) hlt hd).setbase (b' := (some (.row 29 [(((T1.nx 6).nx 4).nx 3).pv]))) hlt hd).setbase (b' := (some (.row 29 [((((T1.nx 6).nx 4).nx 3).nx 18).pv]))) hlt hd
    have KB : Kp (s.set tp (some (.row 29 [((((T1.nx 6).nx 4).nx 3).nx 18).pv]))) sB [(s1.nxt, .row 45 [.agg [.int .i64 (k : Int), .int .i64 (gD vi k + g4 x), .int .i64 (gD fr k + n3), .int .i64 (1 + n18)]]), (s.nxt + 1, .row 66 [.agg ((vi).map (PV.int .i64))]), (s.nxt, .row 66 [.agg ((fr).map (PV.int .i64))])] := by
      rw [← hsB]
      exact KA.pushset _ _ rfl
    rw [hsB]
    have hBV : sB.blk (s.nxt + 1) = some (.row 66 [.agg ((vi).map (PV.int .i64))]) := KB.tl.hd
    have hBF : sB.blk s.nxt = some (.row 66 [.agg ((fr).map (PV.int .i64))]) := KB.tl.tl.hd
    have hBW : sB.blk s1.nxt = some (.row 45 [.agg [.int .i64 (k : Int), .int .i64 (gD vi k + g4 x), .int .i64 (gD fr k + n3), .int .i64 (1 + n18)]]) := KB.hd
    have hWV : (s1.nxt = s.nxt + 1) = False := eq_false (by have := K1.lt; omega)
    have hWF : (s1.nxt = s.nxt) = False := eq_false (by have := K1.lt; omega)
    have hw4 : IntKind.i64.wrap (gD vi k + g4 x + (1 + n18)) = gD vi k + g4 x + (1 + n18) := wrap_i64 (by omega)
    have hw5 : IntKind.i64.wrap (gD fr k + n3 + (1 + n18)) = gD fr k + n3 + (1 + n18) := wrap_i64 (by omega)
    have hk1 : (k + 1 ≤ 4) = True := eq_true (by omega)
    have H := aj hBV (aj hBF (aj hBW (aj hWV (aj hWF (aj hw4 (aj hw5 (aj hk1 H)))))))
    refine Run.drawM 16 [13, 15] [sB, (sB.set (s.nxt + 1) (some (.row 66 [.agg ((vi.set k (gD vi k + g4 x + (1 + n18))).map (PV.int .i64))]))), ((sB.set (s.nxt + 1) (some (.row 66 [.agg ((vi.set k (gD vi k + g4 x + (1 + n18))).map (PV.int .i64))]))).set s.nxt (some (.row 66 [.agg ((fr.set k (gD fr k + n3 + (1 + n18))).map (PV.int .i64))])))] Try.mixed (by kernel_rfl) (by kernel_rfl) ?_
    refine DetBC.pre (pre := [_, _, _, _, _, _, _, _, _, _, _, _, _]) (by decide) List.mem_cons_self au ?_
    refine DetBC.eff (by decide) List.mem_cons_self au au ?_
    refine DetBC.pre (pre := [_]) (by decide) (List.mem_cons_of_mem _ List.mem_cons_self) au ?_
    refine DetBC.eff (by decide) (List.mem_cons_of_mem _ List.mem_cons_self) au au ?_
    refine DetBC.nil (List.mem_cons_of_mem _ (List.mem_cons_of_mem _ List.mem_cons_self)) ?_
    refine rl [0, 5, 6, 7, 8, 10] (k := ?_)
    have hwl := WI.len
    have hc5 : c ≤ 5 := by omega
    have hlt1 : s.nxt + 1 < s1.nxt := K1.lt
    have hnB : sB.nxt = s1.nxt + 1 := by rw [← hsB]; rfl
    have KC : Kp (s.set tp (some (.row 29 [((((T1.nx 6).nx 4).nx 3).nx 18).pv]))) ((sB.set (s.nxt + 1) (some (.row 66 [.agg ((vi.set k (gD vi k + g4 x + (1 + n18))).map (PV.int .i64))]))).set s.nxt (some (.row 66 [.agg ((fr.set k (gD fr k + n3 + (1 + n18))).map (PV.int .i64))]))) [(s.nxt + 1, .row 66 [.agg ((vi.set k (gD vi k + g4 x + (1 + n18))).map (PV.int .i64))]), (s.nxt, .row 66 [.agg ((fr.set k (gD fr k + n3 + (1 + n18))).map (PV.int .i64))])] := ((KB.tl.setset (b' := .row 66 [.agg ((vi.set k (gD vi k + g4 x + (1 + n18))).map (PV.int .i64))]) (by simp) (by rw [nxt_set]; omega)).swap.setset (b' := .row 66 [.agg ((fr.set k (gD fr k + n3 + (1 + n18))).map (PV.int .i64))]) (by simp) (by rw [nxt_set]; omega)).swap
    obtain ⟨sC, hsC⟩ : ∃ y, ((sB.set (s.nxt + 1) (some (.row 66 [.agg ((vi.set k (gD vi k + g4 x + (1 + n18))).map (PV.int .i64))]))).set s.nxt (some (.row 66 [.agg ((fr.set k (gD fr k + n3 + (1 + n18))).map (PV.int .i64))]))) = y := ⟨_, rfl⟩
    have hnC : sC.nxt = s1.nxt + 1 := by rw [← hsC]; exact hnB
    have hgr2 : Grows sC kk ws.length 4 := by
      refine hgr.mono fun t ht => ?_
      have ht := htk t 4 ht
      have a1 : (t = s.nxt) = False := eq_false (by omega)
      have a2 : (t = s.nxt + 1) = False := eq_false (by omega)
      have a3 : (t = tp) = False := eq_false (by omega)
      have a4 : (t = s1.nxt) = False := eq_false (by omega)
      rw [← hsC, ← hsB]
      simp only [go_sem, a1, a2, a3, a4, ↓reduceIte]
    have hCW : sC.blk s1.nxt = some (.row 45 [.agg [.int .i64 (k : Int), .int .i64 (gD vi k + g4 x), .int .i64 (gD fr k + n3), .int .i64 (1 + n18)]]) := by rw [← hsC]; simp only [go_sem, hWV, hWF, ↓reduceIte]; exact hBW
    rw [hsC] at KC
    rw [hsC]
    have hwm : IntKind.i64.wrap (m - 1) = m - 1 := wrap_i64 (by omega)
    have H := aj hCW (aj hwm H)
    refine rr (k := ro (pre := [_, _]) (k := rO (k := ?_)))
    refine RunO.grow au au au Try.td40 (by rw [Try.zp45]; rfl) (isEls_map (fun a => ⟨rfl, by rw [Try.cz45]; rfl⟩) _) (isEls_map (f := Win.pv) (fun a => ⟨rfl, by rw [Try.cz45]; rfl⟩) [⟨(k : Int), gD vi k + g4 x, gD fr k + n3, 1 + n18⟩]) (by rw [Try.by45]; decide) (by rw [Try.by45]; simp; omega) (by rw [Try.cz45, List.length_map]; exact hgr2) (by simp) ?_
    intro k' s2 hgr' htm
    refine rh [0, 5, 6, 7, 8] (k := rB (k := rg [0, 5, 6, 7, 8] (k := ?_)))
    rw [List.length_map, Try.cz45] at hgr'
    refine Run.lp ⟨⟨_, c + 1, m - 1, ws ++ [⟨(k : Int), gD vi k + g4 x, gD fr k + n3, 1 + n18⟩], fr.set k (gD fr k + n3 + (1 + n18)), vi.set k (gD vi k + g4 x + (1 + n18)), k', by rw [List.map_append]; rfl, (((hT1.nx 6).nx 4).nx 3).nx 18, KC.tm htm (fun t z e => ?_) (fun p hp z e => ?_), WI.step hk4 ⟨hg0, hg5⟩ ⟨hn3.1, by omega⟩ ⟨hn18.1, by omega⟩, by rw [List.length_append]; exact hgr', fun t z e => ?_, by omega, by omega⟩, ?_⟩
    · have := htk t z e
      rw [nxt_set]; omega
    · have := htk _ z e
      simp only [List.mem_cons, List.not_mem_nil, or_false] at hp
      rcases hp with rfl | rfl <;> simp only at this <;> omega
    · have h9 := htm.nxt
      rcases htm.fresh t z e with ⟨z', h⟩ | ⟨h1, h2⟩
      · have := htk t z' h; omega
      · omega
    · simp only [ivar1, go_sem, ↓reduceIte, Nat.reduceEqDiff]
      omega
  · refine rX (k := rs (k := rg [4] (k := rR (k := ?_))))
    refine Ret.baseK (r' := .sl .unk (ws.map Win.pv)) tp (.row 29 [T1.pv]) hlt (by simp only [Try.f20, go_sem, ↓reduceIte] <;> rfl) (by simp only [PV.weak, weaks_wins]) (blw_wins _ _) (by simp only [Blk.blw, PV.blws]; exact ⟨blw_tape _ _, trivial⟩) hwf K1.fr.blk ⟨ws, T1, rfl, rfl, hT1, WI.good hi (by omega)⟩
end Go.Proofs
namespace Go.Proofs
open Go.PM
set_option maxHeartbeats 2000000
set_option maxRecDepth 100000 in
theorem tape_Table {T : Tp} (hT : T.ok) {s : St} {tp : Nat} (hb : s.blk tp = some (.row 29 [T.pv])) : ACalls Try.prog 8 [.ptr tp 0 0] s (fun r s' => ∃ (t : Tab) (T' : Tp), r = t.pv ∧ s' = s.set tp (some (.row 29 [T'.pv])) ∧ T'.ok ∧ tabRight t = true ∧ t.few 6) := by
  refine go Try.func8 (k := fun hwf H => ?_)
  have hlt : tp < s.nxt := lt_blk hwf hb
  have hs0 : s.set tp (some (.row 29 [T.pv])) = s := St.set_self hb
  have hFt : (s.nxt = tp) = False := eq_false (by omega)
  have hVt : (s.nxt + 1 = tp) = False := eq_false (by omega)
  have htF : (tp = s.nxt) = False := eq_false (by omega)
  have htV : (tp = s.nxt + 1) = False := eq_false (by omega)
  have hv4 := T.val_bound (n := 4) (by decide)
  obtain ⟨n, hne⟩ : ∃ y, 1 + T.val 4 = y := ⟨_, rfl⟩
  have hwn : IntKind.i64.wrap (1 + T.val 4) = n := by rw [wrap_i64 (by omega), hne]
  have H := aj hFt (aj hVt (aj htF (aj htV H)))
  refine rs (k := rg [0, 2] (k := rs (k := rr (k := ro (pre := [_]) (k := ?_)))))
  refine RunO.callw au au au (by kernel_rfl) ((tape_Next hT (n := 4) (by simp only [go_sem, htF, ↓reduceIte]; exact hb)).mono ?_)
  rintro r s9 ⟨rfl, hs⟩
  subst s9
  have H := aj hwn H
  refine rh [0, 2, 3] (k := rs (k := rg [0, 2, 3, 4] (k := rs (k := rr (k := ro (pre := [_]) (k := ?_))))))
  refine RunO.callw au au au (by kernel_rfl) ((tape_Next (hT.nx 4) (n := 5) (by simp only [go_sem, htV, ↓reduceIte])).mono ?_)
  rintro r s9 ⟨rfl, hs⟩
  subst s9
  refine rh [0, 2, 3, 4, 5] (k := rs (k := rs (k := rg [0, 2, 3, 4, 5, 6] (k := rb (k := ?_)))))
  refine Run.loop (fun e s' => ∃ (T1 : Tp) (i : Nat) (lo : Int) (tens : List Ten) (kk : SK), e = [(0, .ptr tp 0 0), (2, .ptr s.nxt 0 0), (3, .int .i64 n), (4, .ptr (s.nxt + 1) 0 0), (5, .int .i64 lo), (6, .int .i64 (i : Int))] ∧ T1.ok ∧ Kp (s.set tp (some (.row 29 [(T1).pv]))) s' [(s.nxt + 1, .row 24 [.agg [.int .i64 0, .sl kk (tens.map Ten.pv)]]), (s.nxt, .row 24 [.agg [.int .i64 0, .sl .nil []]])] ∧ TInv i lo tens ∧ Grows s' kk tens.length (Try.prog.cellsOf 43) ∧ (∀ t z, kk = .tok t z → s.nxt + 1 < t ∧ t < s'.nxt) ∧ (i : Int) ≤ n) (fun e s' => n.toNat - ivar e 6) ?_ ?_
  · have K0 : Kp (s.set tp (some (.row 29 [(T.nx 4).pv]))) ((s.new (.row 24 [.agg [.int .i64 0, .sl .nil []]])).set tp (some (.row 29 [(T.nx 4).pv]))) [(s.nxt, .row 24 [.agg [.int .i64 0, .sl .nil []]])] := by
      have h0 : Kp (s.set tp (some (.row 29 [(T).pv]))) (s.new (.row 24 [.agg [.int .i64 0, .sl .nil []]])) [(s.nxt, .row 24 [.agg [.int .i64 0, .sl .nil []]])] := by rw [hs0]; exact (Kp.nil (Fr.refl hwf)).push _
      exact h0.setbase hlt (by simp only [List.forall_mem_cons]; exact ⟨by omega, by simp⟩) _
    have K00 := (K0.push (.row 24 [.agg [.int .i64 0, .sl .nil []]])).setbase (b' := (some (.row 29 [((T.nx 4).nx 5).pv]))) hlt (by simp only [List.forall_mem_cons]; exact ⟨by simp only [go_sem]; omega, by omega, by simp⟩)
    have hv5 := (T.nx 4).val_bound (n := 5) (by decide)
    refine ⟨(T.nx 4).nx 5, 0, (T.nx 4).val 5, [], .nil, rfl, (hT.nx 4).nx 5, K00, TInv.first (by omega), .inl ⟨rfl, rfl⟩, fun t z e => (by cases e), (by omega)⟩
  rintro e s1 ⟨T1, i, lo, tens, kk, rfl, hT1, K1, TI, hgr, htk, hin⟩
  refine rs (k := rs (k := rg [0, 2, 3, 4, 5, 6, 17] (k := rc (ht := fun hc0 => ?_) (hf := fun hc0 => ?_))))
  · refine rk (k := rs (k := rb (k := rs (k := ?_))))
    have hin : (i : Int) < n := of_decide_eq_true hc0
    have hi3 : i ≤ 3 := by omega
    have hT1b : s1.blk tp = some (.row 29 [T1.pv]) := by rw [K1.fr.blk tp hlt, blk_set, if_pos rfl]
    have hv3 := T1.val_bound (n := 3) (by decide)
    have hv2 := (T1.nx 3).val_bound (n := 2) (by decide)
    have hq4 := ((T1.nx 3).nx 2).val_bound (n := 4) (by decide)
    obtain ⟨u, hu⟩ : ∃ y, 1 + T1.val 3 + (i : Int) = y := ⟨_, rfl⟩
    have hwu1 : IntKind.i64.wrap (1 + T1.val 3) = 1 + T1.val 3 := wrap_i64 (by omega)
    have hwu : IntKind.i64.wrap (1 + T1.val 3 + (i : Int)) = u := by rw [wrap_i64 (by omega), hu]
    obtain ⟨q4, hq⟩ : ∃ y, 1 + ((T1.nx 3).nx 2).val 4 = y := ⟨_, rfl⟩
    have hwq : IntKind.i64.wrap (1 + ((T1.nx 3).nx 2).val 4) = q4 := by rw [wrap_i64 (by omega), hq]
    have hlt1 : s.nxt + 1 < s1.nxt := K1.lt
    have htN : (tp = s1.nxt) = False := eq_false (by omega)
    have hNt : (s1.nxt = tp) = False := eq_false (by omega)
    have htl1 : tp < s1.nxt := by omega
    have hs1 : s1.set tp (some (.row 29 [T1.pv])) = s1 := St.set_self hT1b
    have H := aj hwu1 (aj hwu (aj hwq (aj htN (aj hNt H))))
    refine rr (k := ro (pre := [_]) (k := ?_))
    refine RunO.callw au au au (by kernel_rfl) ((tape_Next hT1 (n := 3) hT1b).mono ?_)
    rintro r s9 ⟨rfl, hs⟩
    subst s9
    refine ro (pre := [_, _, _, _]) (k := ?_)
    refine RunO.callw au au au (by kernel_rfl) ((tape_Next (hT1.nx 3) (n := 2) (by simp only [go_sem, ↓reduceIte])).mono ?_)
    rintro r s9 ⟨rfl, hs⟩
    subst s9
    rw [set_set]
    refine ro (pre := [_, _, _, _]) (k := ?_)
    refine RunO.callw au au au (by kernel_rfl) ((tape_Next ((hT1.nx 3).nx 2) (n := 4) (by simp only [go_sem, ↓reduceIte])).mono ?_)
    rintro r s9 ⟨rfl, hs⟩
    subst s9
    rw [set_set]
    refine ro (pre := [_, _, _]) (k := ?_)
    refine RunO.callw au au au (by kernel_rfl) ((tape_windows (((hT1.nx 3).nx 2).nx 4) (i := i) (by omega) (by simp only [go_sem, ↓reduceIte])).mono ?_)
    rintro r s9 ⟨wins, T2, rfl, hs, hT2, WG⟩
    subst s9
    rw [set_set]
    refine rh [0, 2, 3, 4, 5, 6, 7] (k := rs (k := rs (k := ?_)))
    obtain ⟨F0, hF0⟩ : ∃ y, ibits BinOp.or IntKind.u32 12812798 (IntKind.u32.wrap (IntKind.u32.wrap ((T1.nx 3).val 2) * 2 ^ min (Int.toNat 9) 32)) = y := ⟨_, rfl⟩
    have hU0 : U32 F0 := by rw [← hF0]; exact U32_ibits _ _ _
    rw [hF0]
    have K8 : Kp (s1.set tp (some (.row 29 [(T2).pv]))) (((s1.set tp (some (.row 29 [(T2).pv]))).new (.row 43 [.agg [.int .i64 0, .int .u32 0, .int .i64 0, .sl .nil [], .sl .nil []]])).set s1.nxt (some (.row 43 [.agg [.int .i64 u, .int .u32 F0, .int .i64 q4, .sl .unk (wins.map Win.pv), .sl .nil []]]))) [(s1.nxt, .row 43 [.agg [.int .i64 u, .int .u32 F0, .int .i64 q4, .sl .unk (wins.map Win.pv), .sl .nil []]])] :=
      (Kp.nil (show Fr (s1.set tp (some (.row 29 [(T2).pv]))) (s1.set tp (some (.row 29 [(T2).pv]))) from Fr.refl (K1.setbase hlt (by simp only [List.forall_mem_cons]; exact ⟨by omega, by omega, by simp⟩) _).fr.wf)).pushset _ _ rfl
    refine rr (k := ro (pre := [_]) (k := ?_))
    refine RunO.callw au au au (by kernel_rfl) ((tape_Next hT2 (n := 5) (by simp only [go_sem, htN, ↓reduceIte])).mono ?_)
    rintro r s9 ⟨rfl, hs⟩
    subst s9
    refine rh [0, 2, 3, 4, 5, 6, 7, 39] (k := ?_)
    refine Run.join (fun e s' => ∃ (T2 : Tp) (F : Int), e = [(0, .ptr tp 0 0), (2, .ptr s.nxt 0 0), (3, .int .i64 n), (4, .ptr (s.nxt + 1) 0 0), (5, .int .i64 lo), (6, .int .i64 (i : Int)), (7, .ptr s1.nxt 0 0)] ∧ T2.ok ∧ U32 F ∧ Kp (s1.set tp (some (.row 29 [(T2).pv]))) s' [(s1.nxt, .row 43 [.agg [.int .i64 u, .int .u32 F, .int .i64 q4, .sl .unk (wins.map Win.pv), .sl .nil []]])]) ?_ ?_
    · rintro e s2 ⟨T3, F, rfl, hT3, hF, K2⟩
      refine rs (k := rs (k := ?_))
      have hT3b : s2.blk tp = some (.row 29 [T3.pv]) := by rw [K2.fr.blk tp (by rw [nxt_set]; omega), blk_set, if_pos rfl]
      have hv2' := T3.val_bound (n := 2) (by decide)
      refine rr (k := ro (pre := [_]) (k := ?_))
      refine RunO.callw au au au (by kernel_rfl) ((tape_Next hT3 (n := 2) hT3b).mono ?_)
      rintro r s9 ⟨rfl, hs⟩
      subst s9
      refine rh [0, 2, 3, 4, 5, 6, 7, 8] (k := rb (k := ?_))
      refine Run.loop (fun e s' => ∃ (T4 : Tp) (c : Nat) (m q : Int) (slts : List Slt) (k : SK), e = [(0, .ptr tp 0 0), (2, .ptr s.nxt 0 0), (3, .int .i64 n), (4, .ptr (s.nxt + 1) 0 0), (5, .int .i64 q), (6, .int .i64 (i : Int)), (7, .ptr s1.nxt 0 0), (8, .int .i64 m)] ∧ T4.ok ∧ Kp (s1.set tp (some (.row 29 [(T4).pv]))) s' [(s1.nxt, .row 43 [.agg [.int .i64 u, .int .u32 F, .int .i64 q4, .sl .unk (wins.map Win.pv), .sl k (slts.map Slt.pv)]])] ∧ SInv lo q slts ∧ Grows s' k slts.length (Try.prog.cellsOf 48) ∧ (∀ t z, k = .tok t z → s1.nxt < t ∧ t < s'.nxt) ∧ slts.length = c ∧ -1 ≤ m ∧ c + m ≤ 1 ∧ 0 ≤ c + m) (fun e s' => ivar1 e 8) ?_ ?_
      · refine ⟨T3.nx 2, 0, T3.val 2, lo, [], .nil, rfl, hT3.nx 2, K2.setbase htl1 (by simp only [List.forall_mem_cons]; exact ⟨by omega, by simp⟩) _, SInv.first lo, .inl ⟨rfl, rfl⟩, fun t z e => (by cases e), rfl, (by omega), (by omega), (by omega)⟩
      rintro e s2 ⟨T4, c, m, q, slts, k, rfl, hT4, K2, SI, hgr2, htk2, hsl, hm1, hcm, hcm0⟩
      refine rs (k := rs (k := rg [0, 2, 3, 4, 5, 6, 7, 8, 49] (k := rc (ht := fun hc2 => ?_) (hf := fun hc2 => ?_))))
      · refine rk (k := rs (k := rb (k := rs (k := ?_))))
        have hT4b : s2.blk tp = some (.row 29 [T4.pv]) := by rw [K2.fr.blk tp (by rw [nxt_set]; omega), blk_set, if_pos rfl]
        have hlt2 : s1.nxt < s2.nxt := K2.lt
        have hm0 : 0 ≤ m := of_decide_eq_true hc2
        have hv9 := T4.val_bound (n := 9) (by decide)
        have hv7 := (T4.nx 9).val_bound (n := 7) (by decide)
        obtain ⟨n9, hn9⟩ : ∃ y, T4.val 9 = y := ⟨_, rfl⟩
        obtain ⟨n7, hn7⟩ : ∃ y, (T4.nx 9).val 7 = y := ⟨_, rfl⟩
        rw [hn9] at hv9
        rw [hn7] at hv7
        have hq1 := SI.lb
        have hq2 := SI.ub
        have hq3 := TI.lo
        have hq5 := TI.hi
        have hw9 : IntKind.i64.wrap (72 + n9) = 72 + n9 := wrap_i64 (by omega)
        have hwq1 : IntKind.i64.wrap (q + (72 + n9)) = q + (72 + n9) := wrap_i64 (by omega)
        have hwq2 : IntKind.i64.wrap (q + (72 + n9) + n7) = q + (72 + n9) + n7 := wrap_i64 (by omega)
        have hwm : IntKind.i64.wrap (m - 1) = m - 1 := wrap_i64 (by omega)
        have htM : (tp = s2.nxt) = False := eq_false (by omega)
        have hMt : (s2.nxt = tp) = False := eq_false (by omega)
        have H := aj hn9 (aj hn7 (aj hw9 (aj hwq1 (aj hwq2 (aj hwm (aj htM (aj hMt H)))))))
        refine rr (k := ro (pre := [_, _]) (k := ?_))
        refine RunO.callw au au au (by kernel_rfl) ((tape_Next hT4 (n := 9) hT4b).mono ?_)
        rintro r s9 ⟨rfl, hs⟩
        subst s9
        refine rh [0, 2, 3, 4, 6, 7, 8, 9] (k := rs (k := ?_))
        refine Run.drawM 9 [6] [(((s2.set tp (some (.row 29 [(T4.nx 9).pv]))).new (.row 48 [.agg [.int .i64 0, .int .i64 0]])).set s2.nxt (some (.row 48 [.agg [.int .i64 q, .int .i64 (72 + n9)]]))), ((((s2.set tp (some (.row 29 [(T4.nx 9).pv]))).new (.row 48 [.agg [.int .i64 0, .int .i64 0]])).set s2.nxt (some (.row 48 [.agg [.int .i64 q, .int .i64 (72 + n9)]]))).set tp (some (.row 29 [((T4.nx 9).nx 7).pv])))] Try.mixed (by kernel_rfl) (by kernel_rfl) ?_
        refine DetBC.pre (pre := [_, _, _, _, _, _]) (by decide) List.mem_cons_self au ?_
        refine DetBC.callE (by decide) List.mem_cons_self au au au (by kernel_rfl) (tape_Next (hT4.nx 9) (n := 7) (by simp only [go_sem, htM, ↓reduceIte])) ?_
        refine DetBC.all (by decide) (List.mem_cons_of_mem _ List.mem_cons_self) au ?_
        refine rl [0, 2, 3, 4, 5, 6, 7, 8, 9] (k := ?_)
        obtain ⟨sB, hsB⟩ : ∃ y, ((((s2.set tp (some (.row 29 [(T4.nx 9).pv]))).new (.row 48 [.agg [.int .i64 0, .int .i64 0]])).set s2.nxt (some (.row 48 [.agg [.int .i64 q, .int .i64 (72 + n9)]]))).set tp (some (.row 29 [((T4.nx 9).nx 7).pv]))) = y := ⟨_, rfl⟩
        have KB : Kp (s1.set tp (some (.row 29 [((T4.nx 9).nx 7).pv]))) sB [(s2.nxt, .row 48 [.agg [.int .i64 q, .int .i64 (72 + n9)]]), (s1.nxt, .row 43 [.agg [.int .i64 u, .int .u32 F, .int .i64 q4, .sl .unk (wins.map Win.pv), .sl k (slts.map Slt.pv)]])] := by
          rw [← hsB]
          exact ((K2.setbase (b' := (some (.row 29 [(T4.nx 9).pv]))) htl1 (by simp only [List.forall_mem_cons]; exact ⟨by omega, by simp⟩)).pushset _ _ rfl).setbase htl1 (by simp only [List.forall_mem_cons]; exact ⟨by first | omega | (simp only [go_sem]; omega), by omega, by simp⟩) _
        rw [hsB]
        have hBR : sB.blk s1.nxt = some (.row 43 [.agg [.int .i64 u, .int .u32 F, .int .i64 q4, .sl .unk (wins.map Win.pv), .sl k (slts.map Slt.pv)]]) := KB.tl.hd
        have hBS : sB.blk s2.nxt = some (.row 48 [.agg [.int .i64 q, .int .i64 (72 + n9)]]) := KB.hd
        have hnB : sB.nxt = s2.nxt + 1 := by rw [← hsB]; rfl
        have hgr3 : Grows sB k slts.length (Try.prog.cellsOf 48) := by
          refine hgr2.mono fun t ht => ?_
          have ht := htk2 t _ ht
          have a1 : (t = tp) = False := eq_false (by omega)
          have a2 : (t = s2.nxt) = False := eq_false (by omega)
          rw [← hsB]
          simp only [go_sem, a1, a2, ↓reduceIte]
        have H := aj hBR (aj hBS H)
        refine rr (k := ro (pre := [_, _, _]) (k := rO (k := ?_)))
        refine RunO.grow au au au Try.td41 (by rw [Try.zp48]; rfl) (isEls_map (fun a => ⟨rfl, by rw [Try.cz48]; rfl⟩) _) (isEls_map (f := Slt.pv) (fun a => ⟨rfl, by rw [Try.cz48]; rfl⟩) [⟨q, 72 + n9⟩]) (by rw [Try.by48]; decide) (by rw [Try.by48]; simp; omega) (by rw [List.length_map]; exact hgr3) (by simp) ?_
        intro k' s4 hgr' htm
        have KD := KB.tm htm (fun t z e => by have := htk2 t z e; rw [nxt_set]; omega) (fun p hp z e => by have := htk2 _ z e; simp only [List.mem_cons, List.not_mem_nil, or_false] at hp; rcases hp with rfl | rfl <;> simp only at this <;> omega)
        have hR4 : s4.blk s1.nxt = some (.row 43 [.agg [.int .i64 u, .int .u32 F, .int .i64 q4, .sl .unk (wins.map Win.pv), .sl k (slts.map Slt.pv)]]) := KD.tl.hd
        have H := aj hR4 H
        refine rh [0, 2, 3, 4, 5, 6, 7, 8] (k := rB (k := rg [0, 2, 3, 4, 5, 6, 7, 8] (k := ?_)))
        rw [List.length_map] at hgr'
        refine Run.lp ⟨⟨_, c + 1, m - 1, q + (72 + n9) + n7, slts ++ [⟨q, 72 + n9⟩], k', rfl, (hT4.nx 9).nx 7, ?_, SI.step ⟨by omega, by omega⟩ ⟨by omega, by omega⟩, ?_, fun t z e => ?_, by rw [List.length_append, hsl]; rfl, by omega, by omega, by omega⟩, ?_⟩
        · rw [List.map_append]
          exact KD.tl.setset (by simp) (by rw [nxt_set]; omega)
        · rw [List.length_append]
          refine (show Grows s4 k' _ _ from hgr').mono fun t ht => ?_
          rw [blk_set, if_neg (hgr'.ne ht _ hR4 (by simp))]
        · rw [nxt_set]
          have h9 := htm.nxt
          rcases htm.fresh t z e with ⟨z', h⟩ | ⟨h1, h2⟩
          · have := htk2 t z' h; omega
          · omega
        · simp only [ivar1, go_sem, ↓reduceIte, Nat.reduceEqDiff]
          omega
      · refine rX (k := ?_)
        have hcc2 : ¬ 0 ≤ m := of_decide_eq_false hc2
        have hb2 : ∀ j, j < s1.nxt → j ≠ tp → s2.blk j = s1.blk j := fun j hj hne => by rw [K2.fr.blk j (by rw [nxt_set]; omega), blk_set, if_neg hne]
        have hn2 : s1.nxt < s2.nxt := K2.lt
        have KE : Kp (s.set tp (some (.row 29 [(T4).pv]))) s2 [(s1.nxt, .row 43 [.agg [.int .i64 u, .int .u32 F, .int .i64 q4, .sl .unk (wins.map Win.pv), .sl k (slts.map Slt.pv)]]), (s.nxt + 1, .row 24 [.agg [.int .i64 0, .sl kk (tens.map Ten.pv)]]), (s.nxt, .row 24 [.agg [.int .i64 0, .sl .nil []]])] := (K1.setbase hlt (by simp only [List.forall_mem_cons]; exact ⟨by omega, by omega, by simp⟩) _).trans K2
        have hE1 : s2.blk (s.nxt + 1) = some (.row 24 [.agg [.int .i64 0, .sl kk (tens.map Ten.pv)]]) := KE.tl.hd
        have hE2 : s2.blk s1.nxt = some (.row 43 [.agg [.int .i64 u, .int .u32 F, .int .i64 q4, .sl .unk (wins.map Win.pv), .sl k (slts.map Slt.pv)]]) := KE.hd
        have hgr4 : Grows s2 kk tens.length (Try.prog.cellsOf 43) := hgr.mono fun t ht => by
          have := htk t _ ht
          exact hb2 t this.2 (by omega)
        have hTl := TI.len
        have hwi : IntKind.i64.wrap ((i : Int) + 1) = ((i + 1 : Nat) : Int) := by rw [wrap_i64 (by omega)]; omega
        have H := aj hE1 (aj hE2 (aj hwi H))
        refine rr (k := ro (pre := [_, _, _]) (k := ?_))
        refine RunO.wkE 73 (v := .agg [.int .i64 ((⟨u, F, q4, wins, slts⟩ : Ten)).unit, .int .u32 ((⟨u, F, q4, wins, slts⟩ : Ten)).fns, .int .i64 ((⟨u, F, q4, wins, slts⟩ : Ten)).queue, .sl .unk (((⟨u, F, q4, wins, slts⟩ : Ten)).wins.map Win.pv), .sl .unk (((⟨u, F, q4, wins, slts⟩ : Ten)).slts.map Slt.pv)]) (by simp only [go_sem, ↓reduceIte, Nat.reduceEqDiff, PV.weak, PV.weaks, weaks_wins, weaks_slts]) ?_
        refine rO (k := ?_)
        refine RunO.grow au au au Try.td22 (by rw [Try.zp43]; rfl) (isEls_map (fun a => ⟨rfl, by rw [Try.cz43]; rfl⟩) _) (isEls_map (f := Ten.pv) (fun a => ⟨rfl, by rw [Try.cz43]; rfl⟩) [⟨u, F, q4, wins, slts⟩]) (by rw [Try.by43]; decide) (by rw [Try.by43]; simp; omega) (by rw [List.length_map]; exact hgr4) (by simp) ?_
        intro k' s4 hgr' htm
        have KD := KE.tm htm (fun t z e => by have := htk t z e; rw [nxt_set]; omega) (fun p hp z e => by have := htk _ z e; simp only [List.mem_cons, List.not_mem_nil, or_false] at hp; rcases hp with rfl | rfl | rfl <;> simp only at this <;> omega)
        have hR4 : s4.blk (s.nxt + 1) = some (.row 24 [.agg [.int .i64 0, .sl kk (tens.map Ten.pv)]]) := KD.tl.hd
        have H := aj hR4 H
        refine rh [0, 2, 3, 4, 5, 6] (k := rB (k := rg [0, 2, 3, 4, 5, 6] (k := ?_)))
        rw [List.length_map] at hgr'
        have hs1' := SI.lb
        have hs2' := TI.lo
        have hXG : XGood i q ⟨u, F, q4, wins, slts⟩ := ⟨⟨by simp only; omega, by simp only; omega⟩, hF, ⟨by simp only; omega, by simp only; omega⟩, WG, fun a ha => by have := SI.all a ha; omega, ⟨by simp only; omega, by simp only; omega⟩⟩
        refine Run.lp ⟨⟨T4, i + 1, q, tens ++ [⟨u, F, q4, wins, slts⟩], k', rfl, hT4, ?_, TI.step hXG SI, ?_, fun t z e => ?_, by omega⟩, ?_⟩
        · rw [List.map_append]
          exact KD.tl.setset (by simp only [List.forall_mem_cons]; exact ⟨by omega, by simp⟩) (by rw [nxt_set]; omega)
        · rw [List.length_append]
          refine (show Grows s4 k' _ _ from hgr').mono fun t ht => ?_
          rw [blk_set, if_neg (hgr'.ne ht _ hR4 (by simp))]
        · rw [nxt_set]
          have h9 := htm.nxt
          rcases htm.fresh t z e with ⟨z', h⟩ | ⟨h1, h2⟩
          · have := htk t z' h; omega
          · omega
        · simp only [ivar, go_sem, ↓reduceIte, Nat.reduceEqDiff]
          omega
    intro hJc1
    refine rc (ht := fun hc1 => ?_) (hf := fun hc1 => ?_)
    · refine rr (k := ro (pre := [_]) (k := ?_))
      refine RunO.callw au au au (by kernel_rfl) ((tape_Next (hT2.nx 5) (n := 24) (by simp only [go_sem, ↓reduceIte])).mono ?_)
      rintro r s9 ⟨rfl, hs⟩
      subst s9
      refine rh [0, 2, 3, 4, 5, 6, 7] (k := ?_)
      obtain ⟨F1, hF1⟩ : ∃ y, ibits BinOp.or IntKind.u32 65608 (IntKind.u32.wrap (1 * 2 ^ min (IntKind.u64.wrap ((T2.nx 5).val 24)).toNat 32)) = y := ⟨_, rfl⟩
      rw [hF1]
      have hU1 : U32 F1 := by rw [← hF1]; exact U32_ibits _ _ _
      exact hJc1 _ _ ⟨_, F1, rfl, (hT2.nx 5).nx 24, hU1, ((K8.setbase (b' := (some (.row 29 [(T2.nx 5).pv]))) htl1 (by simp only [List.forall_mem_cons]; exact ⟨by omega, by simp⟩)).setbase (b' := (some (.row 29 [((T2.nx 5).nx 24).pv]))) htl1 (by simp only [List.forall_mem_cons]; exact ⟨by omega, by simp⟩)).setset (by simp) (by rw [nxt_set]; omega)⟩
    · refine rk (k := rp [0, 2, 3, 4, 5, 6, 7] (k := ?_))
      exact hJc1 _ _ ⟨_, _, rfl, hT2.nx 5, hU0, K8.setbase htl1 (by simp only [List.forall_mem_cons]; exact ⟨by omega, by simp⟩) _⟩
  · refine rX (k := rs (k := ?_))
    have hT1b : s1.blk tp = some (.row 29 [T1.pv]) := by rw [K1.fr.blk tp hlt, blk_set, if_pos rfl]
    have hin' : ¬ (i : Int) < n := of_decide_eq_false hc0
    have hlt1 : s.nxt + 1 < s1.nxt := K1.lt
    have hv20 := T1.val_bound (n := 20) (by decide)
    obtain ⟨n20, hn20⟩ : ∃ y, T1.val 20 = y := ⟨_, rfl⟩
    rw [hn20] at hv20
    have hq3 := TI.lo
    have hq5 := TI.hi
    have hw20 : IntKind.i64.wrap (lo + n20) = lo + n20 := wrap_i64 (by omega)
    have hE1 : s1.blk (s.nxt + 1) = some (.row 24 [.agg [.int .i64 0, .sl kk (tens.map Ten.pv)]]) := K1.hd
    have hE0 : s1.blk s.nxt = some (.row 24 [.agg [.int .i64 0, .sl .nil []]]) := K1.tl.hd
    have H := aj hn20 (aj hw20 (aj hE1 (aj hE0 H)))
    refine rr (k := ro (pre := [_, _]) (k := ?_))
    refine RunO.callw au au au (by kernel_rfl) ((tape_Next hT1 (n := 20) hT1b).mono ?_)
    rintro r s9 ⟨rfl, hs⟩
    subst s9
    refine rh [2, 4] (k := rs (k := rg [2] (k := rR (k := ?_))))
    have KF := (((K1.setbase (b' := (some (.row 29 [(T1.nx 20).pv]))) hlt (by simp only [List.forall_mem_cons]; exact ⟨by omega, by omega, by simp⟩)).setset (b' := .row 24 [.agg [.int .i64 (lo + n20), .sl kk (tens.map Ten.pv)]]) (by simp) (by rw [nxt_set]; omega)).swap.setset (b' := .row 24 [.agg [.int .i64 (lo + n20), .sl kk (tens.map Ten.pv)]]) (by simp) (by rw [nxt_set]; omega))
    have hpos := TI.pos (by omega)
    refine Ret.baseK (r' := Tab.pv ⟨lo + n20, tens⟩) tp (.row 29 [(T1.nx 20).pv]) hlt (by simp only [Try.f8, go_sem, ↓reduceIte] <;> rfl) (by simp only [Tab.pv, PV.weak, PV.weaks, weaks_tens]) (blw_tab _ _) (by simp only [Blk.blw, PV.blws]; exact ⟨blw_tape _ _, trivial⟩) hwf KF.fr.blk
      ⟨⟨lo + n20, tens⟩, T1.nx 20, rfl, rfl, hT1.nx 20, (TI.right (by omega) (by omega) (by omega)).1, TI.few (by omega) (by omega) (by omega)⟩
end Go.Proofs
namespace Go.Proofs
open Go.PM
set_option maxHeartbeats 2000000
theorem tabSame_self (t : Tab) : tabSame t t = true := by simp [tabSame]
attribute [local go_sem] tabSame_self
theorem law_same {t : Tab} (ht : t.ok) {s : St} : ACalls Try.prog 10 [t.pv] s (fun r s' => r = .bool true ∧ s' = s) := by
  refine go Try.func10 (k := fun hwf H => ?_)
  have hTR : tabRight t = decide ((tabWhere t).1 = 0) := rfl
  have H := aj hTR H
  refine rs (k := rg [1] (k := rs (k := rr (k := ro (pre := [_]) (k := rC (h := table_Where ht) (k := rh [1, 3, 4] (k := rs (k := rr (k := ro (pre := [_]) (k := rC (h := ref11_Where ht) (k := rh [1, 3, 4, 5, 6] (k := rs (k := ?_)))))))))))))
  refine Run.drawC [] [2] Try.mixed (by kernel_rfl) ?_
  refine DetC.pre (pre := [_, _, _, _]) au ?_
  refine DetC.gdo au au ?_
  refine DetC.gdo au au ?_
  refine DetC.gdo au au ?_
  refine DetC.pre (pre := [_, _]) au ?_
  refine DetC.gdo au au ?_
  refine DetC.call au au au (by kernel_rfl) (table_Right ht) ?_
  refine DetC.gdo au au ?_
  refine DetC.gdo au au ?_
  refine DetC.gdo au au ?_
  refine DetC.pre (pre := [_, _]) au ?_
  refine DetC.gdo au au ?_
  refine DetC.gdo au au ?_
  refine DetC.call au au au (by kernel_rfl) (table_Equal (a := t) (b := t) ht) ?_
  refine DetC.pre (pre := [_, _]) au ?_
  refine DetC.gdo au au ?_
  refine DetC.call au au au (by kernel_rfl) (table_Copy ht) ?_
  refine DetC.gdo au au ?_
  refine DetC.call au au au (by kernel_rfl) (ref11_Equal (a := t) (b := t) ht) ?_
  refine DetC.all au ?_
  refine re (k := rR (k := rP (by simp only [Try.f10, go_sem]; rfl) hwf ⟨?_, rfl⟩))
  simp [PV.weak, go_sem]
theorem law_tape {k : Int} {s : St} : ACalls Try.prog 7 [.int .i64 k] s (fun r s' => ∃ l : List Int, r = .sl .unk (l.map (PV.int .i64)) ∧ l.length ≤ 900 ∧ s' = s) := by
  refine go Try.func7 (k := fun hwf H => ?_)
  refine rs (k := rg [0] (k := rs (k := rg [0, 3] (k := rs (k := rs (k := rg [0, 3, 4] (k := rb (k := ?_))))))))
  refine Run.loop (fun e s' => Fr s s' ∧ ∃ (i : Nat) (l : List Int) (kk : SK), e = [(0, .int .i64 k), (3, .sl kk (l.map (PV.int .i64))), (4, .int .i64 (i : Int))] ∧ l.length = i ∧ i ≤ 900 ∧ Grows s' kk l.length (Try.prog.cellsOf 3) ∧ (∀ t z, kk = .tok t z → s.nxt ≤ t ∧ t < s'.nxt)) (fun e s' => 900 - ivar e 4) ?_ ?_
  · exact ⟨Fr.refl hwf, 0, [], .nil, rfl, rfl, by omega, .inl ⟨rfl, rfl⟩, fun t z e => (by cases e)⟩
  rintro e s1 ⟨F1, i, l, kk, rfl, hl, hi, hgr, htk⟩
  refine rs (k := rs (k := rg [0, 3, 4, 6] (k := rc (ht := fun hc0 => ?_) (hf := fun hc0 => ?_))))
  · refine rk (k := rs (k := rb (k := ?_)))
    have hil : (i : Int) < 900 := of_decide_eq_true hc0
    have hw : IntKind.i64.wrap ((i : Int) + 1) = ((i + 1 : Nat) : Int) := by rw [wrap_i64 (by omega)]; omega
    have H := aj hw H
    refine rr (k := ro (pre := [_, _, _, _, _, _, _, _, _, _, _, _, _]) (k := rO (k := ?_)))
    refine RunO.grow au au au Try.td26 (by rw [Try.zp3]; rfl) (isEls_map (fun a => ⟨rfl, by rw [Try.cz3]; rfl⟩) _) (isEls_map (f := PV.int .i64) (fun a => ⟨rfl, by rw [Try.cz3]; rfl⟩) [_]) (by rw [Try.by3]; decide) (by rw [Try.by3]; simp; omega) (by rw [List.length_map]; exact hgr) (by simp) ?_
    intro k' s2 hgr' htm
    refine rh [0, 3, 4] (k := rB (k := rg [0, 3, 4] (k := ?_)))
    rw [List.length_map] at hgr'
    refine Run.lp ⟨⟨F1.tm htm (fun t z e => (htk t z e).1), i + 1, l ++ [_], k', by rw [List.map_append]; rfl, by rw [List.length_append, hl]; rfl, by omega, by rw [List.length_append]; exact hgr', fun t z e => ?_⟩, ?_⟩
    · have h9 := htm.nxt
      have h8 := F1.nxt
      rcases htm.fresh t z e with ⟨z', h⟩ | ⟨h1, h2⟩
      · have := htk t z' h; omega
      · omega
    · simp only [ivar, go_sem, ↓reduceIte, Nat.reduceEqDiff]
      omega
  · refine rX (k := rs (k := rg [2] (k := rR (k := ?_))))
    refine Ret.pure (r' := .sl .unk (l.map (PV.int .i64))) (by simp only [Try.f7, go_sem, ↓reduceIte] <;> rfl) (by rw [PV.weak, weaks_map_id (PV.int .i64) (fun _ => rfl)]) (by simp only [PV.blw]; exact ⟨fun t z e => (by cases e), blws_map (PV.int .i64) _ (fun a => by simp only [PV.blw]) _⟩) hwf F1.blk ⟨l, rfl, by omega, rfl⟩
instance decI64 (n : Int) : Decidable (I64 n) := by unfold I64; exact inferInstance
theorem known_ok {f a b : Int} {l m : List Win} (hf : I64 f) (ha : I64 a) (hb : I64 b) (hl : ∀ w ∈ l, w.ok) (hm : ∀ w ∈ m, w.ok) (nl : l.length ≤ 6) (nm : m.length ≤ 6) : Tab.ok ⟨f, [⟨1, 0, 1, l, [⟨a, 72⟩]⟩, ⟨1, 0, 1, m, [⟨b, 72⟩]⟩]⟩ := by
  refine ⟨hf, fun x hx => ?_, by simp⟩
  simp only [List.mem_cons, List.not_mem_nil, or_false] at hx
  rcases hx with rfl | rfl
  · exact ⟨(show I64 1 by decide), ⟨by simp, by simp⟩, (show I64 1 by decide), hl, fun s hs => by rw [List.mem_singleton.1 hs]; exact ⟨ha, (show I64 72 by decide)⟩, by simp only; omega, by simp⟩
  · exact ⟨(show I64 1 by decide), ⟨by simp, by simp⟩, (show I64 1 by decide), hm, fun s hs => by rw [List.mem_singleton.1 hs]; exact ⟨hb, (show I64 72 by decide)⟩, by simp only; omega, by simp⟩
theorem known_w : ∀ w ∈ [(⟨3, 0, 0, 4⟩ : Win)], w.ok := fun w hw => by rw [List.mem_singleton.1 hw]; exact ⟨by decide, by decide, by decide, by decide⟩
theorem known_n : ∀ w ∈ ([] : List Win), w.ok := fun w hw => by cases hw
set_option maxRecDepth 100000 in
theorem law_known {s : St} : ACalls Try.prog 12 [] s (fun r s' => r = .bool true ∧ s' = s) := by
  refine go Try.func12 (k := fun hwf H => ?_)
  have e0 : tabWhere (⟨0, []⟩ : Tab) = (20, -1) := by decide
  have eA : tabWhere (⟨144, [⟨1, 0, 1, [⟨3, 0, 0, 4⟩], [⟨0, 72⟩]⟩, ⟨1, 0, 1, [⟨3, 0, 0, 4⟩], [⟨72, 72⟩]⟩]⟩ : Tab) = (24, 1) := by decide
  have eX : tabWhere (⟨144, [⟨1, 0, 1, [⟨3, 0, 0, 4⟩], [⟨0, 72⟩]⟩, ⟨1, 0, 1, [], [⟨72, 72⟩]⟩]⟩ : Tab) = (0, -1) := by decide
  have eD : tabWhere (⟨143, [⟨1, 0, 1, [⟨3, 0, 0, 4⟩], [⟨0, 72⟩]⟩, ⟨1, 0, 1, [], [⟨72, 72⟩]⟩]⟩ : Tab) = (25, 1) := by decide
  have eR : tabRight (⟨144, [⟨1, 0, 1, [⟨3, 0, 0, 4⟩], [⟨0, 72⟩]⟩, ⟨1, 0, 1, [], [⟨72, 72⟩]⟩]⟩ : Tab) = true := by decide
  have eE : tabSame (⟨144, [⟨1, 0, 1, [⟨3, 0, 0, 4⟩], [⟨0, 72⟩]⟩, ⟨1, 0, 1, [], [⟨72, 72⟩]⟩]⟩ : Tab) (⟨144, [⟨1, 0, 1, [⟨3, 0, 0, 4⟩], [⟨0, 72⟩]⟩, ⟨1, 0, 1, [], [⟨72, 72⟩]⟩]⟩ : Tab) = true := tabSame_self _
  have eS : tenSame ⟨1, 0, 1, [⟨3, 0, 0, 4⟩], [⟨0, 72⟩]⟩ ⟨1, 0, 1, [], [⟨72, 72⟩]⟩ = false := by decide
  have o0 : Tab.ok ⟨0, []⟩ := ⟨by decide, fun x hx => (by cases hx), by decide⟩
  have oA : Tab.ok (⟨144, [⟨1, 0, 1, [⟨3, 0, 0, 4⟩], [⟨0, 72⟩]⟩, ⟨1, 0, 1, [⟨3, 0, 0, 4⟩], [⟨72, 72⟩]⟩]⟩ : Tab) := known_ok (by decide) (by decide) (by decide) known_w known_w (by decide) (by decide)
  have oX : Tab.ok (⟨144, [⟨1, 0, 1, [⟨3, 0, 0, 4⟩], [⟨0, 72⟩]⟩, ⟨1, 0, 1, [], [⟨72, 72⟩]⟩]⟩ : Tab) := known_ok (by decide) (by decide) (by decide) known_w known_n (by decide) (by decide)
  have oD : Tab.ok (⟨143, [⟨1, 0, 1, [⟨3, 0, 0, 4⟩], [⟨0, 72⟩]⟩, ⟨1, 0, 1, [], [⟨72, 72⟩]⟩]⟩ : Tab) := known_ok (by decide) (by decide) (by decide) known_w known_n (by decide) (by decide)
  refine rs (k := rg [] (k := rs (k := rr (k := ro (pre := [_]) (k := rO (k := ro (pre := [_]) (k := rO (k := rh [1] (k := rs (k := rg [1, 2] (k := rs (k := rr (k := ro (pre := [_]) (k := rO (k := rh [1, 2] (k := rs (k := rr (k := ro (pre := [_]) (k := ?_)))))))))))))))))))
  refine RunO.callw au au au (by kernel_rfl) ((table_Where (t := (⟨0, []⟩ : Tab)) o0).mono ?_)
  rintro r s9 ⟨rfl, hs⟩
  subst s9
  rw [e0]
  refine rh [1, 2, 3, 4] (k := rs (k := rr (k := ro (pre := [_, _]) (k := rO (k := ro (pre := [_]) (k := ?_))))))
  refine RunO.callw au au au (by kernel_rfl) ((table_Where (t := (⟨144, [⟨1, 0, 1, [⟨3, 0, 0, 4⟩], [⟨0, 72⟩]⟩, ⟨1, 0, 1, [⟨3, 0, 0, 4⟩], [⟨72, 72⟩]⟩]⟩ : Tab)) oA).mono ?_)
  rintro r s9 ⟨rfl, hs⟩
  subst s9
  rw [eA]
  refine rh [1, 2, 3, 4, 5, 6] (k := rs (k := rg [1, 2, 3, 4, 5, 6] (k := rs (k := rr (k := ro (pre := [_, _]) (k := rO (k := rh [1, 2, 3, 4, 5, 6, 7] (k := rs (k := rr (k := ro (pre := [_]) (k := ?_)))))))))))
  refine RunO.callw au au au (by kernel_rfl) ((table_Where (t := (⟨144, [⟨1, 0, 1, [⟨3, 0, 0, 4⟩], [⟨0, 72⟩]⟩, ⟨1, 0, 1, [], [⟨72, 72⟩]⟩]⟩ : Tab)) oX).mono ?_)
  rintro r s9 ⟨rfl, hs⟩
  subst s9
  rw [eX]
  refine rh [1, 2, 3, 4, 5, 6, 7, 8, 9] (k := rs (k := rr (k := ro (pre := [_, _]) (k := rO (k := ro (pre := [_]) (k := ?_))))))
  refine RunO.callw au au au (by kernel_rfl) ((table_Where (t := (⟨143, [⟨1, 0, 1, [⟨3, 0, 0, 4⟩], [⟨0, 72⟩]⟩, ⟨1, 0, 1, [], [⟨72, 72⟩]⟩]⟩ : Tab)) oD).mono ?_)
  rintro r s9 ⟨rfl, hs⟩
  subst s9
  rw [eD]
  refine rh [1, 2, 3, 4, 5, 6, 7, 8, 9, 10, 11] (k := rs (k := rr (k := ro (pre := [_]) (k := rC (h := table_Copy (t := (⟨144, [⟨1, 0, 1, [⟨3, 0, 0, 4⟩], [⟨0, 72⟩]⟩, ⟨1, 0, 1, [], [⟨72, 72⟩]⟩]⟩ : Tab)) oX) (k := rh [1, 2, 3, 4, 5, 6, 7, 8, 9, 10, 11, 12] (k := rs (k := rr (k := ro (pre := [_, _, _, _, _, _, _, _, _, _, _, _, _, _, _, _, _, _, _, _, _, _, _, _, _, _, _, _, _, _, _]) (k := ?_)))))))))
  refine rQ 85 (ht := fun hg30 => ?_) (hf := fun hg30 => ?_)
  · refine rg1 (k := rg1 (k := ?_))
    refine RunO.callw au au au (by kernel_rfl) ((table_Equal (a := (⟨144, [⟨1, 0, 1, [⟨3, 0, 0, 4⟩], [⟨0, 72⟩]⟩, ⟨1, 0, 1, [], [⟨72, 72⟩]⟩]⟩ : Tab)) (b := (⟨144, [⟨1, 0, 1, [⟨3, 0, 0, 4⟩], [⟨0, 72⟩]⟩, ⟨1, 0, 1, [], [⟨72, 72⟩]⟩]⟩ : Tab)) oX).mono ?_)
    rintro r s9 ⟨rfl, hs⟩
    subst s9
    rw [eE]
    refine ro (pre := [_, _]) (k := rQ 90 (ht := fun hg35 => ?_) (hf := fun hg35 => ?_))
    · refine rg1 (k := rg1 (k := ?_))
      refine RunO.callw au au au (by kernel_rfl) ((table_Same (a := ⟨1, 0, 1, [⟨3, 0, 0, 4⟩], [⟨0, 72⟩]⟩) (b := ⟨1, 0, 1, [], [⟨72, 72⟩]⟩) (oX.tens _ (by simp))).mono ?_)
      rintro r s9 ⟨rfl, hs⟩
      subst s9
      rw [eS]
      refine rg1 (k := ro (pre := [_, _]) (k := rQ 96 (ht := fun hg41 => ?_) (hf := fun hg41 => ?_)))
      · refine rg1 (k := ?_)
        refine RunO.callw au au au (by kernel_rfl) ((table_Right (t := (⟨144, [⟨1, 0, 1, [⟨3, 0, 0, 4⟩], [⟨0, 72⟩]⟩, ⟨1, 0, 1, [], [⟨72, 72⟩]⟩]⟩ : Tab)) oX).mono ?_)
        rintro r s9 ⟨rfl, hs⟩
        subst s9
        rw [eR]
        refine rh [0] (k := rR (k := rP (by simp only [Try.f12, go_sem]; rfl) hwf ⟨?_, rfl⟩))
        simp [PV.weak, go_sem]
      · cases hg41
    · cases hg35
  · cases hg30
end Go.Proofs
namespace Go.Proofs
open Go.PM
set_option maxHeartbeats 2000000
theorem take_ok {t : Tab} (ht : t.ok) {x : Ten} (hx : x ∈ t.tens) : Ten.ok ⟨x.unit, x.fns, x.queue, x.wins.take 8, x.slts.take 4⟩ :=
  ⟨(ht.tens x hx).unit, (ht.tens x hx).fns, (ht.tens x hx).queue, fun w hw => (ht.tens x hx).wins w (List.mem_of_mem_take hw), fun w hw => (ht.tens x hx).slts w (List.mem_of_mem_take hw), by have := List.length_take_le 8 x.wins; simp only; omega, by have := List.length_take_le 4 x.slts; simp only; omega⟩
theorem law_few {t : Tab} (ht : t.ok) {s : St} : ACalls Try.prog 13 [t.pv] s (fun r s' => ∃ t' : Tab, r = t'.pv ∧ t'.few 8 ∧ s' = s) := by
  refine go Try.func13 (k := fun hwf H => ?_)
  refine rs (k := rg [1, 2] (k := rs (k := rg [1, 2, 3] (k := rs (k := rs (k := rg [1, 2, 3, 4] (k := rb (k := ?_))))))))
  refine Run.loop (fun e s' => ∃ (i : Nat) (l : List Ten) (kk : SK), e = [(1, .ptr s.nxt 0 0), (2, .ptr (s.nxt + 1) 0 0), (3, .sl kk (l.map Ten.pv)), (4, .int .i64 (i : Int))] ∧ Kp s s' [(s.nxt + 1, .row 24 [.agg [.int .i64 0, .sl .nil []]]), (s.nxt, .row 24 [.agg [.int .i64 (t).frame, .sl .unk ((t).tens.map Ten.pv)]])] ∧ l.length = i ∧ i ≤ 5 ∧ (∀ x ∈ l, x.ok ∧ x.wins.length ≤ 8 ∧ x.slts.length ≤ 8) ∧ Grows s' kk l.length (Try.prog.cellsOf 43) ∧ (∀ t z, kk = .tok t z → s.nxt + 1 < t ∧ t < s'.nxt)) (fun e s' => 5 - ivar e 4) ?_ ?_
  · exact ⟨0, [], .nil, rfl, ((Kp.nil (Fr.refl hwf)).push _).push _, rfl, by omega, by simp, .inl ⟨rfl, rfl⟩, fun t z e => (by cases e)⟩
  rintro e s1 ⟨i, l, kk, rfl, K1, hl, hi, hal, hgr, htk⟩
  refine rs (k := rs (k := ?_))
  have hR : s1.blk s.nxt = some (.row 24 [.agg [.int .i64 (t).frame, .sl .unk ((t).tens.map Ten.pv)]]) := K1.tl.hd
  have hZ : s1.blk (s.nxt + 1) = some (.row 24 [.agg [.int .i64 0, .sl .nil []]]) := K1.hd
  have H := aj hR (aj hZ H)
  refine rg [1, 2, 3, 4, 14] (k := rc (ht := fun hc0 => ?_) (hf := fun hc0 => ?_))
  · refine rk (k := rs (k := rb (k := rs (k := ?_))))
    have hcc : i < t.tens.length ∧ (i : Int) < 5 := by simpa using hc0
    obtain ⟨hil, hi5⟩ := hcc
    obtain ⟨x, hxe⟩ : ∃ z_, t.tens[i]'hil = z_ := ⟨_, rfl⟩
    have hxx : (t.tens.map Ten.pv)[i]? = some (.agg [.int .i64 (x).unit, .int .u32 (x).fns, .int .i64 (x).queue, .sl .unk ((x).wins.map Win.pv), .sl .unk ((x).slts.map Slt.pv)]) := by rw [map_get hil, hxe]; rfl
    have hxm : x ∈ t.tens := by rw [← hxe]; exact List.getElem_mem _
    have hw : IntKind.i64.wrap ((i : Int) + 1) = ((i + 1 : Nat) : Int) := by rw [wrap_i64 (by omega)]; omega
    have hlt1 : s.nxt + 1 < s1.nxt := K1.lt
    have hXn : (s.nxt = s1.nxt) = False := eq_false (by omega)
    have hXn1 : (s.nxt + 1 = s1.nxt) = False := eq_false (by omega)
    have H := aj hxx (aj hw H)
    refine rg [1, 2, 3, 4, 5] (k := rs (k := ?_))
    obtain ⟨w8, hw8⟩ : ∃ w : Nat, w = min 8 x.wins.length := ⟨_, rfl⟩
    have hm8 : (if (8 : Int) < (x.wins.length : Int) then (8 : Int) else (x.wins.length : Int)) = (w8 : Int) := by split <;> omega
    have hl8 : ((w8 : Int) ≤ (x.wins.length : Int)) = True := eq_true (by omega)
    have ht8 : (x.wins.map Win.pv).take w8 = (x.wins.take 8).map Win.pv := by
      rw [← List.map_take, hw8]
      congr 1
      by_cases h : 8 ≤ x.wins.length
      · rw [Nat.min_eq_left h]
      · rw [Nat.min_eq_right (by omega), List.take_length, List.take_of_length_le (by omega)]
    obtain ⟨w4, hw4⟩ : ∃ w : Nat, w = min 4 x.slts.length := ⟨_, rfl⟩
    have hm4 : (if (4 : Int) < (x.slts.length : Int) then (4 : Int) else (x.slts.length : Int)) = (w4 : Int) := by split <;> omega
    have hl4 : ((w4 : Int) ≤ (x.slts.length : Int)) = True := eq_true (by omega)
    have ht4 : (x.slts.map Slt.pv).take w4 = (x.slts.take 4).map Slt.pv := by
      rw [← List.map_take, hw4]
      congr 1
      by_cases h : 4 ≤ x.slts.length
      · rw [Nat.min_eq_left h]
      · rw [Nat.min_eq_right (by omega), List.take_length, List.take_of_length_le (by omega)]
    have H := aj hm8 (aj hl8 (aj ht8 (aj hm4 (aj hl4 (aj ht4 (aj hXn (aj hXn1 H)))))))
    refine Run.drawF 18 [15, 17] [1, 3, 8, 10] [(s1.new (.row 43 [.agg [.int .i64 (x).unit, .int .u32 (x).fns, .int .i64 (x).queue, .sl .unk (x.wins.map Win.pv), .sl .unk (x.slts.map Slt.pv)]])), (s1.new (.row 43 [.agg [.int .i64 (x).unit, .int .u32 (x).fns, .int .i64 (x).queue, .sl .unk ((x.wins.take 8).map Win.pv), .sl .unk (x.slts.map Slt.pv)]])), (s1.new (.row 43 [.agg [.int .i64 (x).unit, .int .u32 (x).fns, .int .i64 (x).queue, .sl .unk ((x.wins.take 8).map Win.pv), .sl .unk ((x.slts.take 4).map Slt.pv)]]))] Try.mixed (by kernel_rfl) (by kernel_rfl) ?_
    refine DetFC.pre (pre := [_]) (by decide) List.mem_cons_self au ?_
    refine DetFC.loc (pre := [_]) (by decide) (by decide) List.mem_cons_self au ?_
    refine DetFC.pre (pre := [_]) (by decide) List.mem_cons_self au ?_
    refine DetFC.loc (pre := [_]) (by decide) (by decide) List.mem_cons_self au ?_
    refine DetFC.pre (pre := [_, _, _, _]) (by decide) List.mem_cons_self au ?_
    refine DetFC.loc (pre := [_]) (by decide) (by decide) List.mem_cons_self au ?_
    refine DetFC.pre (pre := [_]) (by decide) List.mem_cons_self au ?_
    refine DetFC.loc (pre := [_]) (by decide) (by decide) List.mem_cons_self au ?_
    refine DetFC.pre (pre := [_, _, _, _]) (by decide) List.mem_cons_self au ?_
    refine DetFC.eff (by decide) List.mem_cons_self au au ?_
    refine DetFC.pre (pre := [_]) (by decide) (List.mem_cons_of_mem _ List.mem_cons_self) au ?_
    refine DetFC.eff (by decide) (List.mem_cons_of_mem _ List.mem_cons_self) au au ?_
    refine DetFC.nil (List.mem_cons_of_mem _ (List.mem_cons_of_mem _ List.mem_cons_self)) ?_
    refine rl [1, 2, 3, 4, 5] (k := rr (k := ro (pre := [_, _]) (k := rO (k := ?_))))
    refine RunO.grow au au au Try.td22 (by rw [Try.zp43]; rfl) (isEls_map (fun a => ⟨rfl, by rw [Try.cz43]; rfl⟩) _) (isEls_map (f := Ten.pv) (fun a => ⟨rfl, by rw [Try.cz43]; rfl⟩) [(⟨x.unit, x.fns, x.queue, x.wins.take 8, x.slts.take 4⟩ : Ten)]) (by rw [Try.by43]; decide) (by rw [Try.by43]; simp; omega) (by rw [List.length_map]; exact hgr.mono fun t' ht => by rw [blk_new, if_neg (by have := (htk t' _ ht).2; omega)]) (by simp) ?_
    intro k' s2 hgr' htm
    refine rh [1, 2, 3, 4] (k := rB (k := rg [1, 2, 3, 4] (k := ?_)))
    rw [List.length_map] at hgr'
    have hok := take_ok ht hxm
    refine Run.lp ⟨⟨i + 1, l ++ [(⟨x.unit, x.fns, x.queue, x.wins.take 8, x.slts.take 4⟩ : Ten)], k', by rw [List.map_append]; rfl, (K1.new _).tm htm (fun t z e => ?_) (fun p hp z e => ?_), by rw [List.length_append, hl]; rfl, by omega, fun y hy => ?_, by rw [List.length_append]; exact hgr', fun t z e => ?_⟩, ?_⟩
    · have := htk t z e; omega
    · have := htk _ z e
      simp only [List.mem_cons, List.not_mem_nil, or_false] at hp
      rcases hp with rfl | rfl <;> simp only at this <;> omega
    · rcases List.mem_append.1 hy with hy | hy
      · exact hal y hy
      · rw [List.mem_singleton.1 hy]
        exact ⟨hok, by have := List.length_take_le 8 x.wins; simp only; omega, by have := List.length_take_le 4 x.slts; simp only; omega⟩
    · have h9 := htm.nxt
      rw [nxt_new] at h9
      rcases htm.fresh t z e with ⟨z', h⟩ | ⟨h1, h2⟩
      · have := htk t z' h; omega
      · rw [nxt_new] at h1; omega
    · simp only [ivar, go_sem, ↓reduceIte, Nat.reduceEqDiff]
      omega
  · refine rX (k := rs (k := rg [1, 2] (k := rs (k := rg [2] (k := rR (k := ?_))))))
    have KF := (K1.swap.setset (b' := .row 24 [.agg [.int .i64 t.frame, .sl kk (l.map Ten.pv)]]) (by simp) (by omega)).swap.setset (b' := .row 24 [.agg [.int .i64 t.frame, .sl kk (l.map Ten.pv)]]) (by simp) (by omega)
    refine Ret.pure (r' := Tab.pv ⟨t.frame, l⟩) (by simp only [Try.f13, go_sem, ↓reduceIte] <;> rfl) (by simp only [Tab.pv, PV.weak, PV.weaks, weaks_tens]) (blw_tab _ _) hwf KF.fr.blk ⟨⟨t.frame, l⟩, rfl, ⟨⟨ht.frame, fun x hx => (hal x hx).1, by simp only; omega⟩, by simp only; omega, fun x hx => (hal x hx).2.1, fun x hx => (hal x hx).2.2⟩, rfl⟩
end Go.Proofs

import Derived.Test.YtaojhcbodijpbaaB3
import Derived.Test.YtaojhcbodijpbaaB1
set_option linter.unusedVariables false
set_option linter.unusedSimpArgs false
namespace Go.Proofs
open Go.PM
set_option maxHeartbeats 2000000
theorem six {K : Int} {W : List Int} {B : List Bool} {a o : Int} (hK : 0 ≤ K ∧ K ≤ 110) (w : Int) (ws : List Int) (hw : W = w :: ws) (hW : W.length ≤ 21) (hB1 : 1 ≤ B.length) (hB : B.length ≤ 21) {D0 : Dev} (hD0 : D0 = Dev.zero 100) {X1 X2 X3 X4 : Rep × Dev}
    (e1 : doF D0 ⟨16, K, W.length, 0, 0, [], W, 0, 0⟩ = X1) (e2 : doF X1.2 ⟨3, K, W.length, 0, 0, [], [], 0, 0⟩ = X2) (e3 : doF X2.2 ⟨15, K, B.length, 0, 0, B, [], 0, 0⟩ = X3) (e4 : doF X3.2 ⟨1, K, B.length, 0, 0, [], [], 0, 0⟩ = X4)
    (o0 : D0.ok) (o1 : X1.2.ok) (o2 : X2.2.ok) (o3 : X3.2.ok) :
    (X1.1.code = 0 ↔ K + W.length ≤ 100) ∧ (X1.1.code = 0 ↔ X2.1.code = 0) ∧ (X1.1.code = 0 → X2.1.vals = W) ∧ (¬ X1.1.code = 0 → X1.1.code = 2) ∧
    (X3.1.code = 0 ↔ K + B.length ≤ 100) ∧ (X3.1.code = 0 → X4.1.bits = B) ∧ X4.2.c0.length = 100 ∧ (X1.1.code = 0 → X4.2.v1[K.toNat]? = some w) := by
  have hW1 : 1 ≤ W.length := by rw [hw]; simp
  have l0 : D0.c0.length = 100 := by rw [hD0]; rfl
  have lv : D0.v1.length = 100 := by rw [hD0]; rfl
  have r1 := doF_w16 (D := D0) (K := K) (W := W) (by omega) hW1 (by omega)
  have l1 : X1.2.c0.length = 100 := by
    rcases Int.lt_or_le (D0.c0.length : Int) (K + W.length) with h | h
    · rw [← e1, r1.2 h]; exact l0
    · rw [← e1, r1.1 h]; exact l0
  have r2 := doF_read (D := X1.2) (F := 3) (A := K) (C := W.length) o1 (by decide) (by omega) (by omega)
  rw [if_neg (show ¬ (3 : Int) ≤ 2 by decide), e2, l1] at r2
  have v2 : X2.2.c0 = X1.2.c0 ∧ X2.2.v1 = X1.2.v1 := by
    rcases Int.lt_or_le 100 (K + W.length) with h | h
    · have := (r2.2.1 (by omega) (by omega)).2; rw [this]; exact ⟨rfl, rfl⟩
    · have := (r2.2.2 (by omega) (by omega)).2.1; rw [this]; exact ⟨rfl, rfl⟩
  have l2 : X2.2.c0.length = 100 := by rw [v2.1]; exact l1
  have r3 := doF_w15 (D := X2.2) (K := K) (W := B) (by omega) hB1 (by omega)
  rw [e3, l2] at r3
  have v3 : X3.2.v1 = X1.2.v1 ∧ X3.2.c0.length = 100 := by
    rcases Int.lt_or_le 100 (K + B.length) with h | h
    · rw [r3.2 (by omega)]; exact ⟨v2.2, l2⟩
    · rw [r3.1 (by omega)]; refine ⟨v2.2, ?_⟩
      show (overF X2.2.c0 K.toNat B).length = 100
      rw [overF_len (by omega)]; exact l2
  have r4 := doF_read (D := X3.2) (F := 1) (A := K) (C := B.length) o3 (by decide) (by omega) (by omega)
  rw [if_pos (show (1 : Int) ≤ 2 by decide), e4, v3.2] at r4
  have v4 : X4.2.v1 = X1.2.v1 ∧ X4.2.c0.length = 100 := by
    rcases Int.lt_or_le 100 (K + B.length) with h | h
    · rw [(r4.2.1 (by omega) (by omega)).2]; exact v3
    · rw [(r4.2.2 (by omega) (by omega)).2.1]; exact v3
  rw [e1, l0] at r1
  have c1 : X1.1.code = 0 ↔ K + W.length ≤ 100 := by
    rcases Int.lt_or_le 100 (K + W.length) with h | h
    · rw [r1.2 (by omega)]; constructor
      · intro h2; exact absurd h2 (by show ¬ (2 : Int) = 0; decide)
      · intro h2; omega
    · rw [r1.1 (by omega)]; exact ⟨fun _ => h, fun _ => rfl⟩
  have c3 : X3.1.code = 0 ↔ K + B.length ≤ 100 := by
    rcases Int.lt_or_le 100 (K + B.length) with h | h
    · rw [r3.2 (by omega)]; constructor
      · intro h2; exact absurd h2 (by show ¬ (2 : Int) = 0; decide)
      · intro h2; omega
    · rw [r3.1 (by omega)]; exact ⟨fun _ => h, fun _ => rfl⟩
  refine ⟨c1, ?_, ?_, ?_, c3, ?_, v4.2, ?_⟩
  · rw [c1]
    rcases Int.lt_or_le 100 (K + W.length) with h | h
    · have := (r2.2.1 (by omega) (by omega)).1; omega
    · have := (r2.2.2 (by omega) (by omega)).1; omega
  · intro h
    have h := c1.1 h
    have h2 := (r2.2.2 (by omega) (by omega)).2.2.2
    rw [if_neg (by decide), if_neg (by decide), if_pos rfl] at h2
    rw [h2]
    show cutF X1.2.v1 K W.length = W
    rw [r1.1 (by omega)]
    have := cut_over (l := D0.v1) (x := W) (a := K.toNat) (m := W.length) (by omega) rfl
    rw [show ((K.toNat : Nat) : Int) = K by omega] at this
    exact this
  · intro h
    rw [r1.2 (by omega)]; rfl
  · intro h
    have h := c3.1 h
    have h2 := (r4.2.2 (by omega) (by omega)).2.2.2
    rw [if_pos rfl] at h2
    rw [h2]
    show cutF X3.2.c0 K B.length = B
    rw [r3.1 (by omega)]
    have := cut_over (l := X2.2.c0) (x := B) (a := K.toNat) (m := B.length) (by omega) rfl
    rw [show ((K.toNat : Nat) : Int) = K by omega] at this
    exact this
  · intro h
    have h := c1.1 h
    rw [v4.1, r1.1 (by omega)]
    show (overF D0.v1 K.toNat W)[K.toNat]? = some w
    rw [hw]
    exact over_get (by omega)
theorem mask_read {D D5 : Dev} {K a o w : Int} {R : Rep} (hD5 : D5.ok) (hv : D.v1.length = D.c0.length) (hK : 0 ≤ K ∧ K ≤ 65535) (h : K + 1 ≤ D.c0.length) (hw : D.v1[K.toNat]? = some w) (e5 : doF D ⟨22, K, 0, 0, 0, [], [], a, o⟩ = (R, D5)) :
    ∃ D6, doF D5 ⟨3, K, 1, 0, 0, [], [], 0, 0⟩ = (⟨3, 0, 0, 0, 0, [], [maskF w ⟨22, K, 0, 0, 0, [], [], a, o⟩], 0, 0, []⟩, D6) := by
  rw [doF_w22 hK h] at e5
  have e5 := (Prod.mk.inj e5).2
  rw [hw] at e5
  have l5 : D5.c0.length = D.c0.length := by rw [← e5]
  have r := (doF_read (D := D5) (F := 3) (A := K) (C := 1) hD5 (by decide) hK (by decide)).2.2 (by rw [if_neg (by decide)]; omega) (by omega)
  refine ⟨_, r.2.2.2.trans (Prod.ext ?_ rfl)⟩
  rw [if_neg (by decide), if_neg (by decide), if_pos rfl]
  show (⟨3, 0, 0, 0, 0, [], cutF D5.v1 K 1, 0, 0, []⟩ : Rep) = _
  rw [← e5]
  have := cut_over (l := D.v1) (x := [maskF w ⟨22, K, 0, 0, 0, [], [], a, o⟩]) (a := K.toNat) (m := 1) (by simp only [List.length_singleton]; omega) rfl
  rw [show ((K.toNat : Nat) : Int) = K by omega] at this
  show (⟨3, 0, 0, 0, 0, [], cutF (overF D.v1 K.toNat [maskF w ⟨22, K, 0, 0, 0, [], [], a, o⟩]) K 1, 0, 0, []⟩ : Rep) = _
  rw [this]
attribute [local go_sem] set_set putDev_hi putDev_nxt weaks_bools Rep.pv
set_option maxRecDepth 100000 in
theorem law9_Writes {at_ : Int} {v : List Int} {l : List Bool} {a o : Int} (hv : OkW v) (ha : U16 a) (ho : U16 o) {s : St} : ACalls Try.prog 3 [.int .i64 at_, .sl .unk (v.map (PV.int .u16)), .sl .unk (l.map PV.bool), .int .u16 a, .int .u16 o] s (fun r s' => r = .bool true ∧ s' = s) := by
  refine go Try.func3 (k := fun hwf H => ?_)
  obtain ⟨b, hb⟩ : ∃ b, b = s.nxt := ⟨_, rfl⟩
  have o0 : (Dev.zero 100).ok := Dev.zero_ok (n := 100) (by decide) (by decide)
  obtain ⟨K, hK⟩ : ∃ K, K = withinI at_ 0 110 := ⟨_, rfl⟩
  have hK1 := withinI_bound (n := at_) (lo := 0) (hi := 110) (by decide)
  rw [← hK] at hK1
  have hKi : I64 K := by constructor <;> omega
  obtain ⟨mv, hmv⟩ : ∃ m : Nat, m = min v.length 20 := ⟨_, rfl⟩
  obtain ⟨ml, hml⟩ : ∃ m : Nat, m = min l.length 20 := ⟨_, rfl⟩
  have hmv1 : (if 20 < (v.length : Int) then 20 else (v.length : Int)) = (mv : Int) := by split <;> omega
  have hml1 : (if 20 < (l.length : Int) then 20 else (l.length : Int)) = (ml : Int) := by split <;> omega
  have hmv2 : ((mv : Int) ≤ (v.length : Int)) = True := eq_true (by omega)
  have hml2 : ((ml : Int) ≤ (l.length : Int)) = True := eq_true (by omega)
  have hmv3 : (v.map (PV.int .u16)).take mv = (v.take mv).map (PV.int .u16) := List.map_take.symm
  have hml3 : (l.map PV.bool).take ml = (l.take ml).map PV.bool := List.map_take.symm
  obtain ⟨W, hW⟩ : ∃ W, W = 3 :: v.take mv := ⟨_, rfl⟩
  obtain ⟨B, hB⟩ : ∃ B, B = true :: l.take ml := ⟨_, rfl⟩
  have hWl : W.length ≤ 21 ∧ 1 ≤ W.length := by rw [hW, List.length_cons, List.length_take]; omega
  have hBl : B.length ≤ 21 ∧ 1 ≤ B.length := by rw [hB, List.length_cons, List.length_take]; omega
  have hWo : OkW W := by
    intro x hx; rw [hW] at hx
    rcases List.mem_cons.1 hx with rfl | hx
    · constructor <;> decide
    · exact hv x (List.mem_of_mem_take hx)
  have c16 : ∀ z : Int, 0 ≤ z ∧ z ≤ 65535 → I64 z := fun z h => by constructor <;> omega
  have q1 : (⟨16, K, W.length, 0, 0, [], W, 0, 0⟩ : Req).ok := ⟨c16 16 (by decide), hKi, c16 W.length (by omega), zI, zI, hWo, zU, zU, by show 0 ≤ _; decide, by show W.length * 2 ≤ _; omega⟩
  have q2 : (⟨3, K, W.length, 0, 0, [], [], 0, 0⟩ : Req).ok := ⟨c16 3 (by decide), hKi, c16 W.length (by omega), zI, zI, zW, zU, zU, by show 0 ≤ _; decide, by show 0 * 2 ≤ _; decide⟩
  have q3 : (⟨15, K, B.length, 0, 0, B, [], 0, 0⟩ : Req).ok := ⟨c16 15 (by decide), hKi, c16 B.length (by omega), zI, zI, zW, zU, zU, by show B.length ≤ _; omega, by show 0 * 2 ≤ _; decide⟩
  have q4 : (⟨1, K, B.length, 0, 0, [], [], 0, 0⟩ : Req).ok := ⟨c16 1 (by decide), hKi, c16 B.length (by omega), zI, zI, zW, zU, zU, by show 0 ≤ _; decide, by show 0 * 2 ≤ _; decide⟩
  have q5 : (⟨22, K, 0, 0, 0, [], [], a, o⟩ : Req).ok := ⟨c16 22 (by decide), hKi, zI, zI, zI, zW, ha, ho, by show 0 ≤ _; decide, by show 0 * 2 ≤ _; decide⟩
  have q6 : (⟨3, K, 1, 0, 0, [], [], 0, 0⟩ : Req).ok := ⟨c16 3 (by decide), hKi, c16 1 (by decide), zI, zI, zW, zU, zU, by show 0 ≤ _; decide, by show 0 * 2 ≤ _; decide⟩
  obtain ⟨X1, e1⟩ : ∃ X, doF (Dev.zero 100) (⟨16, K, W.length, 0, 0, [], W, 0, 0⟩ : Req) = X := ⟨_, rfl⟩
  have z1 : X1.2.c0.length = (Dev.zero 100).c0.length := by have := (doF_ok o0 q1).2; rw [e1] at this; exact this
  have o1 : X1.2.ok := by have := (doF_ok o0 q1).1; rw [e1] at this; exact this
  obtain ⟨X2, e2⟩ : ∃ X, doF X1.2 (⟨3, K, W.length, 0, 0, [], [], 0, 0⟩ : Req) = X := ⟨_, rfl⟩
  have z2 : X2.2.c0.length = (Dev.zero 100).c0.length := by have := (doF_ok o1 q2).2; rw [e2] at this; exact this.trans z1
  have o2 : X2.2.ok := by have := (doF_ok o1 q2).1; rw [e2] at this; exact this
  obtain ⟨X3, e3⟩ : ∃ X, doF X2.2 (⟨15, K, B.length, 0, 0, B, [], 0, 0⟩ : Req) = X := ⟨_, rfl⟩
  have z3 : X3.2.c0.length = (Dev.zero 100).c0.length := by have := (doF_ok o2 q3).2; rw [e3] at this; exact this.trans z2
  have o3 : X3.2.ok := by have := (doF_ok o2 q3).1; rw [e3] at this; exact this
  obtain ⟨X4, e4⟩ : ∃ X, doF X3.2 (⟨1, K, B.length, 0, 0, [], [], 0, 0⟩ : Req) = X := ⟨_, rfl⟩
  have z4 : X4.2.c0.length = (Dev.zero 100).c0.length := by have := (doF_ok o3 q4).2; rw [e4] at this; exact this.trans z3
  have o4 : X4.2.ok := by have := (doF_ok o3 q4).1; rw [e4] at this; exact this
  have n2 : X2.1.vals.length < 140737488355328 := by have := (doF_rep o1 q2).nv; rw [e2] at this; omega
  have n4 : X4.1.bits.length < 140737488355328 := by have := (doF_rep o3 q4).nb; rw [e4] at this; omega
  obtain ⟨g1, g2, g3, g4, g5, g6, g7, g8⟩ := six (K := K) (W := W) (B := B) (D0 := (Dev.zero 100)) (a := a) (o := o) (by omega) 3 _ hW (by omega) (by omega) (by omega) rfl e1 e2 e3 e4 o0 o1 o2 o3
  have hkw : IntKind.i64.wrap (K + W.length) = K + W.length := wrap_i64 (by omega)
  have hkb : IntKind.i64.wrap (K + B.length) = K + B.length := wrap_i64 (by omega)
  have H := aj hmv1 (aj hml1 (aj hmv2 (aj hml2 (aj hmv3 (aj hml3 (aj hkw (aj hkb H)))))))
  refine rs (k := rg [0, 1, 2, 3, 4] (k := rs (k := rr (k := ?_))))
  refine RunO.callw au au au (by kernel_rfl) ((device_New (n := 100) (by decide) (by decide)).mono ?_)
  rintro r s1 ⟨rfl, gA0, gf0, gn0⟩
  rw [← hb] at gA0 gn0
  rw [← hb]
  refine rh [0, 1, 2, 3, 4, 11] (k := rs (k := rs (k := rg [0, 1, 2, 3, 4, 11, 22] (k := rc (ht := fun hc0 => ?_) (hf := fun hc0 => ?_)))))
  · cases hc0
  refine rk (k := rs (k := rr (k := ro (pre := [_]) (k := ?_))))
  refine RunO.callw au au au (by kernel_rfl) ((within_ (lo := 0) (hi := 110) (by decide) (by decide) (by decide)).mono ?_)
  rintro r s9 ⟨rfl, hs⟩
  subst s9
  rw [← hK]
  refine rh [1, 2, 3, 4, 11, 12] (k := rs (k := rr (k := rO (k := ro (pre := [_, _, _, _, _]) (k := ?_)))))
  refine RunO.growL (ky := .unk) (f := PV.int .u16) [3] (v.take mv) W au au au hW Try.td22 (by rw [Try.zp24]; rfl) (fun a => ⟨rfl, by rw [Try.cz24]; rfl⟩) (by rw [Try.by24]; decide) (by rw [Try.by24]; omega) (fun k2 S2 gf2 gn2 => ?_)
  refine rh [2, 3, 4, 11, 12, 13] (k := rs (k := rr (k := rO (k := ro (pre := [_, _, _, _, _]) (k := ?_)))))
  refine RunO.growL (ky := .unk) (f := PV.bool) [true] (l.take ml) B au au au hB Try.td23 (by rw [Try.zp4]; rfl) (fun a => ⟨rfl, by rw [Try.cz4]; rfl⟩) (by rw [Try.by4]; decide) (by rw [Try.by4]; omega) (fun k3 S3 gf3 gn3 => ?_)
  refine rh [3, 4, 11, 12, 13, 14] (k := rs (k := ?_))
  have gA1 := gA0.same (fun j hj => gf2 j (by omega))
  have gA2 := gA1.same (fun j hj => gf3 j (by omega))
  refine rr (k := ro (pre := [_, _, _, _, _, _]) (k := ?_))
  refine RunO.callw au au au (by kernel_rfl) ((device_DoL (R := X1.1) (D' := X1.2) e1 (by repeat' first | exact gA2 | exact gA2.st | (rw [z1]; exact gA2.st) | (rw [z2]; exact gA2.st) | (rw [z3]; exact gA2.st) | (rw [z4]; exact gA2.st) | (rw [z5]; exact gA2.st) | exact gA0 | exact gA0.st | refine DevAt.put' ?_ | refine StoAt.put ?_ | refine StoAt.sv ?_ ?_ _ | refine StoAt.nw ?_ ?_ _ | refine DevAt.sv ?_ ?_ _ | refine DevAt.nw ?_ ?_ _ | (simp only [putDev_nxt, nxt_new, nxt_set]; omega) | omega) o0 q1).mono ?_)
  rintro r s1 ⟨rfl, rfl⟩
  refine rh [3, 4, 11, 12, 13, 14, 15] (k := rs (k := rr (k := ro (pre := [_, _, _, _, _]) (k := ?_))))
  refine RunO.callw au au au (by kernel_rfl) ((device_DoL (R := X2.1) (D' := X2.2) e2 (by repeat' first | exact gA2 | exact gA2.st | (rw [z1]; exact gA2.st) | (rw [z2]; exact gA2.st) | (rw [z3]; exact gA2.st) | (rw [z4]; exact gA2.st) | (rw [z5]; exact gA2.st) | exact gA0 | exact gA0.st | refine DevAt.put' ?_ | refine StoAt.put ?_ | refine StoAt.sv ?_ ?_ _ | refine StoAt.nw ?_ ?_ _ | refine DevAt.sv ?_ ?_ _ | refine DevAt.nw ?_ ?_ _ | (simp only [putDev_nxt, nxt_new, nxt_set]; omega) | omega) o1 q2).mono ?_)
  rintro r s1 ⟨rfl, rfl⟩
  refine rh [3, 4, 11, 12, 13, 14, 15, 16] (k := rs (k := rs (k := rr (k := ro (pre := [_, _, _, _, _, _, _, _, _, _, _, _, _, _, _, _, _, _, _, _, _, _, _, _, _, _]) (k := rG (h := fun hb => book_same16 (xs := X2.1.vals) (ys := W) n2) (k := rh [3, 4, 11, 12, 13, 14, 15, 81] (k := rc (ht := fun hc1 => ?_) (hf := fun hc1 => ?_))))))))
  · refine rs (k := ?_)
    exfalso
    have t1 : decide (X1.1.code = 0) = decide (K + W.length ≤ 100) := decide_eq_decide.2 g1
    have t2 : decide (X2.1.code = 0) = decide (X1.1.code = 0) := decide_eq_decide.2 g2.symm
    have t3 : (decide (X1.1.code = 0) && !decide (X2.1.vals = W)) = false := by
      by_cases h : X1.1.code = 0
      · simp [h, g3 h]
      · simp [h]
    rw [← t1, t2, t3] at hc1
    simp at hc1
  refine rk (k := rs (k := rr (k := ro (pre := [_, _, _, _, _, _]) (k := ?_))))
  refine RunO.callw au au au (by kernel_rfl) ((device_DoL (R := X3.1) (D' := X3.2) e3 (by repeat' first | exact gA2 | exact gA2.st | (rw [z1]; exact gA2.st) | (rw [z2]; exact gA2.st) | (rw [z3]; exact gA2.st) | (rw [z4]; exact gA2.st) | (rw [z5]; exact gA2.st) | exact gA0 | exact gA0.st | refine DevAt.put' ?_ | refine StoAt.put ?_ | refine StoAt.sv ?_ ?_ _ | refine StoAt.nw ?_ ?_ _ | refine DevAt.sv ?_ ?_ _ | refine DevAt.nw ?_ ?_ _ | (simp only [putDev_nxt, nxt_new, nxt_set]; omega) | omega) o2 q3).mono ?_)
  rintro r s1 ⟨rfl, rfl⟩
  refine rh [3, 4, 11, 12, 13, 14, 15, 17] (k := rs (k := rr (k := ro (pre := [_, _, _, _, _]) (k := ?_))))
  refine RunO.callw au au au (by kernel_rfl) ((device_DoL (R := X4.1) (D' := X4.2) e4 (by repeat' first | exact gA2 | exact gA2.st | (rw [z1]; exact gA2.st) | (rw [z2]; exact gA2.st) | (rw [z3]; exact gA2.st) | (rw [z4]; exact gA2.st) | (rw [z5]; exact gA2.st) | exact gA0 | exact gA0.st | refine DevAt.put' ?_ | refine StoAt.put ?_ | refine StoAt.sv ?_ ?_ _ | refine StoAt.nw ?_ ?_ _ | refine DevAt.sv ?_ ?_ _ | refine DevAt.nw ?_ ?_ _ | (simp only [putDev_nxt, nxt_new, nxt_set]; omega) | omega) o3 q4).mono ?_)
  rintro r s1 ⟨rfl, rfl⟩
  refine rh [3, 4, 11, 12, 13, 14, 15, 17, 18] (k := rs (k := rs (k := rr (k := ro (pre := [_, _, _, _, _, _, _, _, _, _, _, _, _, _, _, _, _]) (k := rG (h := fun hb => book_sameb (xs := X4.1.bits) (ys := B) n4) (k := rh [3, 4, 11, 12, 13, 15, 115] (k := rc (ht := fun hc2 => ?_) (hf := fun hc2 => ?_))))))))
  · refine rs (k := ?_)
    exfalso
    have t1 : decide (X3.1.code = 0) = decide (K + B.length ≤ 100) := decide_eq_decide.2 g5
    have t3 : (decide (X3.1.code = 0) && !decide (X4.1.bits = B)) = false := by
      by_cases h : X3.1.code = 0
      · simp [h, g6 h]
      · simp [h]
    rw [← t1, t3] at hc2
    simp at hc2
  refine rk (k := rs (k := rs (k := rg [3, 4, 11, 12, 13, 15, 118] (k := rc (ht := fun hc3 => ?_) (hf := fun hc3 => ?_)))))
  refine rs (k := ?_)
  have hk0 : ¬ X1.1.code = 0 := by simpa using hc3
  have hk2 : decide (X1.1.code = 2) = true := decide_eq_true (g4 hk0)
  have H := aj hk2 H
  refine rr (k := ro (pre := [_, _, _, _]) (k := rG (h := fun hb => law9_known) (k := rh [10] (k := rR (k := ?_)))))
  refine jO 1 ?_; rotate_left
  refine rk (k := rs (k := ?_))
  have hk0 : X1.1.code = 0 := by simpa using hc3
  have hle := g1.1 hk0
  obtain ⟨X5, e5⟩ : ∃ X, doF X4.2 (⟨22, K, 0, 0, 0, [], [], a, o⟩ : Req) = X := ⟨_, rfl⟩
  have z5 : X5.2.c0.length = (Dev.zero 100).c0.length := by have := (doF_ok o4 q5).2; rw [e5] at this; exact this.trans z4
  have o5 : X5.2.ok := by have := (doF_ok o4 q5).1; rw [e5] at this; exact this
  obtain ⟨D6, e6⟩ := mask_read (D := X4.2) (D5 := X5.2) (R := X5.1) (K := K) (a := a) (o := o) (w := 3) o5 o4.v1 (by omega) (by omega) (g8 hk0) e5
  refine rr (k := ro (pre := [_, _, _, _, _]) (k := ?_))
  refine RunO.callw au au au (by kernel_rfl) ((device_DoL (R := X5.1) (D' := X5.2) e5 (by repeat' first | exact gA2 | exact gA2.st | (rw [z1]; exact gA2.st) | (rw [z2]; exact gA2.st) | (rw [z3]; exact gA2.st) | (rw [z4]; exact gA2.st) | (rw [z5]; exact gA2.st) | exact gA0 | exact gA0.st | refine DevAt.put' ?_ | refine StoAt.put ?_ | refine StoAt.sv ?_ ?_ _ | refine StoAt.nw ?_ ?_ _ | refine DevAt.sv ?_ ?_ _ | refine DevAt.nw ?_ ?_ _ | (simp only [putDev_nxt, nxt_new, nxt_set]; omega) | omega) o4 q5).mono ?_)
  rintro r s1 ⟨rfl, rfl⟩
  refine rl [3, 4, 11, 12, 13] (k := rs (k := rr (k := ro (pre := [_, _, _]) (k := ?_))))
  refine RunO.callw au au au (by kernel_rfl) ((device_DoL e6 (by repeat' first | exact gA2 | exact gA2.st | (rw [z1]; exact gA2.st) | (rw [z2]; exact gA2.st) | (rw [z3]; exact gA2.st) | (rw [z4]; exact gA2.st) | (rw [z5]; exact gA2.st) | exact gA0 | exact gA0.st | refine DevAt.put' ?_ | refine StoAt.put ?_ | refine StoAt.sv ?_ ?_ _ | refine StoAt.nw ?_ ?_ _ | refine DevAt.sv ?_ ?_ _ | refine DevAt.nw ?_ ?_ _ | (simp only [putDev_nxt, nxt_new, nxt_set]; omega) | omega) o5 q6).mono ?_)
  rintro r s1 ⟨rfl, rfl⟩
  refine rh [3, 4, 13, 19] (k := rs (k := ?_))
  have hW0 : (W.map (PV.int .u16))[0]? = some (.int .u16 3) := by rw [hW]; rfl
  have hW1 : (0 < W.length) = True := eq_true (by omega)
  have hmk : decide (maskF 3 (⟨22, K, 0, 0, 0, [], [], a, o⟩ : Req) = ibits .or .u16 (ibits .and .u16 3 a) (ibits .andNot .u16 o a)) = true := decide_eq_true rfl
  have H := aj hW0 (aj hW1 (aj hmk H))
  refine Run.drawC [] [10] Try.mixed (by kernel_rfl) ?_
  refine DetC.pre (pre := [_, _, _, _, _]) au ?_
  refine DetC.gdo au au ?_
  refine DetC.gdo au au ?_
  refine DetC.gdo au au ?_
  refine DetC.gdo au au ?_
  refine DetC.gdo au au ?_
  refine DetC.gdo au au ?_
  refine DetC.gdo au au ?_
  refine DetC.gdo au au ?_
  refine DetC.gdo au au ?_
  refine DetC.gdo au au ?_
  refine DetC.gdo au au ?_
  refine DetC.gdo au au ?_
  refine DetC.gdo au au ?_
  refine DetC.gdo au au ?_
  refine DetC.pre (pre := [_, _]) au ?_
  refine DetC.call au au au (by kernel_rfl) (law9_known) ?_
  refine DetC.all au ?_
  refine re (k := rR (k := ?_))
  refine jO 1 ?_; rotate_left
  any_goals
    refine jI 1 ?_
    refine Ret.pure (r' := .bool true) (by simp only [Try.f3, go_sem, ↓reduceIte] <;> rfl) (by simp only [PV.weak] <;> rfl) (by simp only [PV.blw]) hwf (fun i hi => by
      have hi2 : i < b := by omega
      simp (disch := first | omega | (simp only [putDev_nxt, nxt_set, nxt_new] <;> omega) | fail) only [putDev_lo, blk_set_ne, blk_new_ne]
      first
      | (rw [gf3 i (by omega), gf2 i (by omega)]; exact gf0 i hi)
      | (rw [blk_set_ne (by omega), blk_new_ne (by omega), gf3 i (by omega), gf2 i (by omega)]; exact gf0 i hi)) ⟨rfl, rfl⟩
end Go.Proofs

import Derived.Test.YtegdcamfhldcoaaPmG
set_option linter.unusedVariables false
set_option linter.unusedSimpArgs false
namespace Go.PM
open Go

theorem sl_head {g : G} {w : World} {k : SK} {els : List PV} {a : Value} (hx : R g w (.sl k els) a) (hk : k ≠ .nil) (hb : k.base = true) : ∃ b o cap sz vs, a = .slice (some ⟨b, o, none⟩) els.length cap ∧ els.length ≤ cap ∧ 0 < sz ∧ (k = .clip → cap = els.length) ∧
    (0 < els.length → g.free b (o + els.length * sz)) ∧ cellsAt w b o (flat vs) ∧ (∀ v ∈ vs, v.cells.size = sz) ∧
    (∀ t z, k = .tok t z → sz = z ∧ t < g.nxt ∧ ∀ b' L, g.toks t = some (b', L) → els.length ≤ L ∧ (els.length = L → b' = b ∧ g.lim b = some (o + L * sz) ∧ o + cap * sz ≤ csize w b)) ∧ RA g w els vs := by
  simp only [R] at hx
  obtain ⟨vs, hr, hs⟩ := hx
  rw [slHead_base hb] at hs
  obtain ⟨b, o, cap, sz, h1, h2, h3, h4, h5, h6, h7, h8⟩ := slHead0_open hs hk
  exact ⟨b, o, cap, sz, vs, h1, h2, h3, h4, h5, h6, h7, h8, hr⟩

theorem toNat_sub {a b : Int} (h0 : 0 ≤ b) (h : b ≤ a) : (a - b).toNat = a.toNat - b.toNat := by omega

theorem aSlice_run0 {P g s w t x lo hi mx v a} {vlo vhi vmx : Option Value} (hbase : ∀ k els, x = .sl k els → k.base = true) (h : Inv P g s w) (hx : R g w x a)
    (hlo : optR g w lo vlo) (hhi : optR g w hi vhi) (hmx : optR g w mx vmx) (ha : aSlice P t x lo hi mx s = some v) :
    ∃ val, (Instr.sliceAt t a vlo vhi vmx).run P w = .ok val w ∧ R g w v val := by
  unfold aSlice at ha
  cases e1 : optInt lo with
  | none => rw [e1] at ha; simp at ha
  | some lo' =>
  cases e2 : optInt hi with
  | none => rw [e1, e2] at ha; simp at ha
  | some hi' =>
  cases e3 : optInt mx with
  | none => rw [e1, e2, e3] at ha; simp at ha
  | some mx' =>
  rw [e1, e2, e3] at ha
  simp only at ha
  have q1 := optVal_of e1 hlo
  have q2 := optVal_of e2 hhi
  have q3 := optVal_of e3 hmx
  split at ha
  · -- a string
    rename_i b htd
    split at ha
    · rename_i hc
      obtain ⟨rfl, c1, c2, c3⟩ := hc
      cases ha
      simp only [R] at hx
      subst hx
      have hu := td_str htd
      refine ⟨.string (b.extract (lo'.getD 0).toNat (hi'.getD b.size).toNat), ?_, by simp only [R]⟩
      unfold Instr.sliceAt
      simp only [bind_run, underlying_run hu]
      unfold Instr.slice
      simp only [bind_run, underlying_run hu]
      simp only [optI] at q3
      subst q3
      simp only [Option.isSome_none, Bool.false_eq_true, if_false]
      have := bounds_run (P := P) (w := w) (isSlice := false) (cap := b.size) q1 q2 (mx' := none) rfl rfl rfl c1 c2 c3 (Nat.le_refl _) (fun m e => by cases e)
      simp only [bind_run, pure_run, this]
    · cases ha
  · -- a slice whose elements stay
    rename_i e k els htd
    have hkb := hbase k els rfl
    have hu := td_slice htd
    split at ha
    · rename_i hc
      obtain ⟨hpos, c1, c2, c3, c4⟩ := hc
      have hat : ∀ ad len cap r, (Instr.sliceAt t (.slice ad len cap) vlo vhi vmx).run P w = r ↔ (Instr.slice t (.slice ad len cap) vlo vhi vmx).run P w = r := by
        intro ad len cap r
        unfold Instr.sliceAt
        rw [bind_run, underlying_run hu]
      cases hk : decide (k = .nil) with
      | true =>
        have hk := of_decide_eq_true hk
        subst hk
        have hels : a = .slice none 0 0 ∧ els = [] := by
          exact R_nil.1 hx
        obtain ⟨rfl, rfl⟩ := hels
        have hres : v = .sl .nil [] := by
          cases mx' with
          | none => simp only at ha; cases ha; simp
          | some m =>
            simp only at ha
            split at ha
            · cases ha; simp
            · cases ha
        subst hres
        refine ⟨.slice none 0 0, ?_, R_nil.2 ⟨rfl, rfl⟩⟩
        rw [hat]
        unfold Instr.slice
        simp only [bind_run, underlying_run hu, sizeOf_run hpos]
        have hm : ∀ m, mx' = some m → m = hi'.getD (([] : List PV).length : Nat) ∧ hi' ≠ none := by
          intro m e
          subst e
          simp only at ha
          split at ha
          · rename_i hh; subst hh; exact ⟨rfl, by simp⟩
          · cases ha
        have hb := bounds_run (P := P) (w := w) (isSlice := true) (len := 0) (cap := 0) q1 q2 q3 rfl rfl c1 c2 c3 (Nat.le_refl _) hm
        simp only [hb, pure_run]
        have z1 : (hi'.getD ((0 : Nat) : Int)).toNat = 0 := by simp at c3 ⊢; omega
        have z2 : (lo'.getD 0).toNat = 0 := by simp at c3 c2 ⊢; omega
        have z3 : (mx'.getD ((0 : Nat) : Int)).toNat = 0 := by
          cases mx' with
          | none => simp
          | some m => have := (hm m rfl).1; simp at this z1 ⊢; omega
        simp only [z1, z2, z3]
        rfl
      | false =>
        have hk := of_decide_eq_false hk
        -- the address, the room
        obtain ⟨b, o, cap, sz, vs, hav, hcap, hsz, hclip, hfr, hce, hvs, htk, hra⟩ : ∃ b o cap sz vs, a = .slice (some ⟨b, o, none⟩) els.length cap ∧ els.length ≤ cap ∧ 0 < sz ∧ (k = .clip → cap = els.length) ∧
            (0 < els.length → g.free b (o + els.length * sz)) ∧ cellsAt w b o (flat vs) ∧ (∀ v ∈ vs, v.cells.size = sz) ∧
            (∀ t z, k = .tok t z → sz = z ∧ t < g.nxt ∧ ∀ b' L, g.toks t = some (b', L) → els.length ≤ L ∧ (els.length = L → b' = b ∧ g.lim b = some (o + L * sz) ∧ o + cap * sz ≤ csize w b)) ∧ RA g w els vs := by
          exact sl_head hx hk hkb
        subst hav
        have hm : ∀ m, mx' = some m → m = hi'.getD (els.length : Nat) ∧ hi' ≠ none := by
          intro m e
          subst e
          simp only at ha
          split at ha
          · rename_i hh; subst hh; exact ⟨rfl, by simp⟩
          · cases ha
        have hb := bounds_run (P := P) (w := w) (isSlice := true) (len := els.length) (cap := cap) q1 q2 q3 rfl rfl c1 c2 c3 hcap hm
        have hn := RA_length hra
        -- names
        obtain ⟨l, hl⟩ : ∃ l : Nat, (lo'.getD 0).toNat = l := ⟨_, rfl⟩
        obtain ⟨hh, hhh⟩ : ∃ l : Nat, (hi'.getD (els.length : Nat)).toNat = l := ⟨_, rfl⟩
        have lh : l ≤ hh := by omega
        have hle : hh ≤ els.length := by omega
        have hsub : (hi'.getD (els.length : Nat) - lo'.getD 0).toNat = hh - l := by omega
        -- sizes agree, but where l = 0
        have hszl : l ≠ 0 → l < hh → sz = P.cellsOf e := by
          intro h0 h1
          rcases c4 with c4 | c4
          · omega
          · obtain ⟨el, hel⟩ : ∃ el, els[0]? = some el := ⟨els[0]'(by omega), by simp⟩
            obtain ⟨u, hu', hru⟩ := RA_get hra 0 el hel
            obtain ⟨k1, k2⟩ := c4 el (List.mem_of_getElem? hel)
            obtain ⟨_, _, c3⟩ := RA_cells hru k1
            have := hvs u (List.mem_of_getElem? hu')
            omega
        have run : (Instr.sliceAt t (.slice (some ⟨b, o, none⟩) els.length cap) vlo vhi vmx).run P w = .ok (.slice (if (mx'.getD (cap : Nat)).toNat = l then some ⟨b, o, none⟩ else some ⟨b, o + l * P.cellsOf e, none⟩) (hh - l) ((mx'.getD (cap : Nat)).toNat - l)) w := by
          rw [hat]
          unfold Instr.slice
          simp only [bind_run, underlying_run hu, sizeOf_run hpos, hb, pure_run, hl, hhh, Option.map_some, addr_add]
        refine ⟨_, run, ?_⟩
        -- what it is
        have hcapm : hh ≤ (mx'.getD (cap : Nat)).toNat ∧ (mx'.getD (cap : Nat)).toNat ≤ cap := by
          cases mx' with
          | none => simp; omega
          | some m => have := (hm m rfl).1; simp; omega
        obtain ⟨b', o', hadr, hbo⟩ : ∃ b' o', (if (mx'.getD (cap : Nat)).toNat = l then some ⟨b, o, none⟩ else some ⟨b, o + l * P.cellsOf e, none⟩) = some (⟨b', o', none⟩ : Addr) ∧ (l < hh → b' = b ∧ o' = o + l * sz) := by
          split
          · exact ⟨b, o, rfl, fun _ => by omega⟩
          · refine ⟨b, o + l * P.cellsOf e, rfl, fun hlt => ⟨rfl, ?_⟩⟩
            by_cases h0 : l = 0
            · rw [h0]; simp
            · rw [hszl h0 hlt]
        rw [hadr]
        have key : ∀ k' : SK, k'.base = true → k' ≠ .nil → (k' = .clip → (mx'.getD (cap : Nat)).toNat - l = hh - l) → (∀ t z, k' ≠ .tok t z) → R g w (.sl k' ((els.drop l).take (hh - l))) (.slice (some ⟨b', o', none⟩) (hh - l) ((mx'.getD (cap : Nat)).toNat - l)) := by
          intro k' n0 n1 n2 n3
          simp only [R]
          refine ⟨(vs.drop l).take (hh - l), RA_take _ (RA_drop _ hra), ?_⟩
          have := slHead_part (g := g) (w := w) (k := k) (k' := k') (n := els.length) (vs := vs) (b := b) (o := o) (cap := cap) (sz := sz) (l := l) (h := hh) (cap' := (mx'.getD (cap : Nat)).toNat - l) hn hsz hfr hce hvs lh hle (by omega) n1 n2 n3 n0 b' o' hbo
          have hlen : ((els.drop l).take (hh - l)).length = hh - l := by simp; omega
          rw [hlen]
          exact this
        cases mx' with
        | none =>
          simp only at ha
          cases ha
          rw [hl, hsub]
          cases k with
          | nil => exact absurd rfl hk
          | clip =>
            simp only
            split
            · rename_i hfull
              refine key .clip rfl (by simp) (fun _ => ?_) (by simp)
              have := hclip rfl
              simp only [Option.getD_none, Int.toNat_natCast]
              omega
            · exact key .any rfl (by simp) (by simp) (by simp)
          | any => exact key .any rfl (by simp) (by simp) (by simp)
          | tok t z =>
            simp only
            split
            · rename_i hfull
              obtain ⟨f1, f2⟩ := hfull
              have l0 : l = 0 := by omega
              have hhe : hh = els.length := by omega
              subst l0
              subst hhe
              have hadr' : (⟨b', o', none⟩ : Addr) = ⟨b, o, none⟩ := by
                split at hadr
                · exact (Option.some.inj hadr).symm
                · have := (Option.some.inj hadr).symm
                  simpa using this
              rw [hadr']
              simp only [List.drop_zero, Nat.sub_zero, List.take_length, Option.getD_none, Int.toNat_natCast]
              exact hx
            · exact key .any rfl (by simp) (by simp) (by simp)
          | unk => simp [SK.base] at hkb
          | unc => simp [SK.base] at hkb
        | some m =>
          simp only at ha
          split at ha
          · rename_i hh'
            subst hh'
            cases ha
            simp only [Option.getD_some] at *
            rw [hl, hsub]
            have : R g w (.sl .clip ((els.drop l).take (hh - l))) (.slice (some ⟨b', o', none⟩) (hh - l) (m.toNat - l)) := by
              refine key .clip rfl (by simp) (fun _ => ?_) (by simp)
              omega
            cases k with
            | nil => exact absurd rfl hk
            | clip => exact this
            | any => exact this
            | tok t z => exact this
            | unk => simp [SK.base] at hkb
            | unc => simp [SK.base] at hkb
          · cases ha
    · cases ha
  · -- a row of one's own
    rename_i e id off len htd
    have hu := td_slice htd
    split at ha
    · rename_i hc
      obtain ⟨hpos, c1, c2, c3, rfl⟩ := hc
      split at ha
      case h_2 => cases ha
      rename_i ty els hb
      split at ha
      case isFalse => cases ha
      rename_i heq
      simp only [R] at hx
      obtain ⟨h0, b, sz, cap, hr, hcap, rfl, hcs⟩ := hx
      have hat := h.at' id
      rw [hb] at hat
      obtain ⟨_, _, b', vs, hr', _⟩ := hat
      rw [hr] at hr'; cases hr'
      have hbd := bounds_run (P := P) (w := w) (isSlice := true) (len := len) (cap := cap) q1 q2 q3 rfl rfl c1 c2 c3 hcap (fun m e => by cases e)
      obtain ⟨l, hl⟩ : ∃ l : Nat, (lo'.getD 0).toNat = l := ⟨_, rfl⟩
      obtain ⟨hh, hhh⟩ : ∃ l : Nat, (hi'.getD (len : Nat)).toNat = l := ⟨_, rfl⟩
      have run : (Instr.sliceAt t (.slice (some ⟨b, off * P.cellsOf ty, none⟩) len cap) vlo vhi vmx).run P w = .ok (.slice (if cap = l then some ⟨b, off * P.cellsOf ty, none⟩ else some ⟨b, off * P.cellsOf ty + l * P.cellsOf e, none⟩) (hh - l) (cap - l)) w := by
        unfold Instr.sliceAt
        rw [bind_run, underlying_run hu]
        simp only
        unfold Instr.slice
        simp only [bind_run, underlying_run hu, sizeOf_run hpos, hbd, pure_run, hl, hhh, Option.map_some, addr_add, Option.getD_none, Int.toNat_natCast]
      refine ⟨_, run, ?_⟩
      split at ha
      · rename_i l0
        cases ha
        have : l = 0 := by omega
        subst this
        simp only [R]
        refine ⟨h0, b, P.cellsOf ty, cap, hr, by omega, ?_, hcs⟩
        rw [hhh]
        split <;> simp
      · rename_i l0
        split at ha
        · rename_i ll
          cases ha
          have : hh - l = 0 := by omega
          rw [this]
          simp only [R, RA]
          refine ⟨[], rfl, ?_⟩
          rw [slHead_base rfl]
          simp only [slHead0, List.length_nil]
          by_cases hcl : cap = l
          · rw [if_pos hcl]
            exact ⟨b, _, _, 1, rfl, Nat.zero_le _, Nat.one_pos, by simp, by simp, fun j hj => by simp [flat] at hj, by simp, by simp⟩
          · rw [if_neg hcl]
            exact ⟨b, _, _, 1, rfl, Nat.zero_le _, Nat.one_pos, by simp, by simp, fun j hj => by simp [flat] at hj, by simp, by simp⟩
        · rename_i ll
          cases ha
          rw [if_neg (by omega)]
          simp only [R]
          refine ⟨h0, b, P.cellsOf ty, cap - l, hr, by omega, ?_, ?_⟩
          · rw [heq, Nat.add_mul, hl]
            congr 1
            omega
          · rw [hl, show off + l + (cap - l) = off + cap by omega]
            exact hcs
    · cases ha
  · cases ha

theorem aSlice_run {P g s w t x lo hi mx v a} {vlo vhi vmx : Option Value} (h : Inv P g s w) (hx : R g w x a)
    (hlo : optR g w lo vlo) (hhi : optR g w hi vhi) (hmx : optR g w mx vmx) (ha : aSlice P t x lo hi mx s = some v) :
    ∃ val, (Instr.sliceAt t a vlo vhi vmx).run P w = .ok val w ∧ R g w v val := by
  by_cases hbase : ∀ k els, x = .sl k els → k.base = true
  · exact aSlice_run0 hbase h hx hlo hhi hmx ha
  · have hx' : ∃ els, x = .sl .unk els ∨ x = .sl .unc els := by
      cases x with
      | sl k els => cases k <;> first | exact ⟨els, .inl rfl⟩ | exact ⟨els, .inr rfl⟩ | (exact absurd (fun k' e' hh => by cases hh; rfl) hbase)
      | _ => exact absurd (fun k' e' hh => by cases hh) hbase
    have split : ∀ {k1 k2 : SK} {els : List PV}, aSlice P t (.sl k1 els) lo hi mx s = some v → (k1 = .unk ∨ k1 = .unc) → (k2 = .nil ∨ k2 = .any ∨ k2 = .clip) →
        ∃ ys kr k', v = .sl kr ys ∧ aSlice P t (.sl k2 els) lo hi mx s = some (.sl k' ys) ∧ ((kr = .unk ∧ (k' = .nil ∨ k' = .any ∨ k' = .clip)) ∨ (kr = .unc ∧ (k' = .nil ∨ k' = .clip))) := by
      intro k1 k2 els hs h1 h2
      unfold aSlice at hs ⊢
      cases e1 : optInt lo with
      | none => rw [e1] at hs; simp at hs
      | some lo' =>
      cases e2 : optInt hi with
      | none => rw [e1, e2] at hs; simp at hs
      | some hi' =>
      cases e3 : optInt mx with
      | none => rw [e1, e2, e3] at hs; simp at hs
      | some mx' =>
      rw [e1, e2, e3] at hs
      simp only at hs ⊢
      cases htd : td P t with
      | sl e =>
        rw [htd] at hs
        simp only at hs ⊢
        split at hs
        · rename_i hc
          rw [if_pos hc]
          cases mx' with
          | none =>
            simp only at hs ⊢
            cases hs
            rcases h1 with rfl | rfl <;> rcases h2 with rfl | rfl | rfl <;> refine ⟨_, _, _, rfl, rfl, .inl ⟨rfl, ?_⟩⟩ <;> simp only [true_or, or_true] <;> (try split) <;> simp
          | some m =>
            simp only at hs ⊢
            split at hs
            · rename_i hm
              cases hs
              rw [if_pos hm]
              rcases h1 with rfl | rfl <;> rcases h2 with rfl | rfl | rfl <;> refine ⟨_, _, _, rfl, rfl, .inr ⟨rfl, ?_⟩⟩ <;> simp
            · cases hs
        · cases hs
      | _ => rw [htd] at hs; cases hs
    have weak : ∀ {kr k' : SK} {ys : List PV} {val : Value}, ((kr = .unk ∧ (k' = .nil ∨ k' = .any ∨ k' = .clip)) ∨ (kr = .unc ∧ (k' = .nil ∨ k' = .clip))) → R g w (.sl k' ys) val → R g w (.sl kr ys) val := by
      intro kr k' ys val hk hr
      rcases hk with ⟨rfl, rfl | rfl | rfl⟩ | ⟨rfl, rfl | rfl⟩
      · exact R_unk.2 (.inl hr)
      · exact R_unk.2 (.inr hr)
      · refine R_unk.2 (.inr ?_)
        simp only [R] at hr ⊢
        obtain ⟨vs, h1, h2⟩ := hr
        refine ⟨vs, h1, ?_⟩
        rw [slHead_base rfl] at h2 ⊢
        obtain ⟨b, o, cap, sz, k1, k2, k3, k4, k5, k6, k7, k8⟩ := slHead0_open h2 (by simp)
        exact ⟨b, o, cap, sz, k1, k2, k3, (fun e => by cases e), k5, k6, k7, fun t z e => by cases e⟩
      · exact R_unc.2 (.inl hr)
      · exact R_unc.2 (.inr hr)
    obtain ⟨els, rfl | rfl⟩ := hx'
    · rcases R_unk.1 hx with hx1 | hx1
      · obtain ⟨ys, kr, k', rfl, e2, e3⟩ := split ha (.inl rfl) (.inl rfl)
        obtain ⟨val, r1, r2⟩ := aSlice_run0 (by intro k e h; cases h; rfl) h hx1 hlo hhi hmx e2
        exact ⟨val, r1, weak e3 r2⟩
      · obtain ⟨ys, kr, k', rfl, e2, e3⟩ := split ha (.inl rfl) (.inr (.inl rfl))
        obtain ⟨val, r1, r2⟩ := aSlice_run0 (by intro k e h; cases h; rfl) h hx1 hlo hhi hmx e2
        exact ⟨val, r1, weak e3 r2⟩
    · rcases R_unc.1 hx with hx1 | hx1
      · obtain ⟨ys, kr, k', rfl, e2, e3⟩ := split ha (.inr rfl) (.inl rfl)
        obtain ⟨val, r1, r2⟩ := aSlice_run0 (by intro k e h; cases h; rfl) h hx1 hlo hhi hmx e2
        exact ⟨val, r1, weak e3 r2⟩
      · obtain ⟨ys, kr, k', rfl, e2, e3⟩ := split ha (.inr rfl) (.inr (.inr rfl))
        obtain ⟨val, r1, r2⟩ := aSlice_run0 (by intro k e h; cases h; rfl) h hx1 hlo hhi hmx e2
        exact ⟨val, r1, weak e3 r2⟩

end Go.PM

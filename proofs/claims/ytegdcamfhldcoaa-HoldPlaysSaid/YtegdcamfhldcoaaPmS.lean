import Derived.Test.YtegdcamfhldcoaaPmV
import Derived.Attr
set_option linter.unusedVariables false
set_option linter.unusedSimpArgs false
namespace Go.PM
open Go

/-! ## What simp uses in a walk -/

theorem get_nil (i : Nat) : Env.get [] i = .junk := rfl
theorem get_cons (k : Nat) (v : PV) (e : Env) (i : Nat) : Env.get ((k, v) :: e) i = if i = k then v else Env.get e i := rfl
theorem put_some (e : Env) (d : Nat) (v : PV) : Env.put e (some d) v = (d, v) :: e := rfl
theorem put_none (e : Env) (v : PV) : Env.put e none v = e := rfl
theorem ev_tmp (e : Env) (t : Nat) : ev e (.tmp t) = e.get t := rfl
theorem ev_func (e : Env) (f : FuncId) : ev e (.func f) = .fn (.func f) [] [] := rfl
theorem ev_int (e : Env) (k : IntKind) (n : Int) : ev e (.const (.int k n)) = .int k n := rfl
theorem ev_bool (e : Env) (b : Bool) : ev e (.const (.bool b)) = .bool b := rfl
theorem ev_str (e : Env) (s : ByteArray) : ev e (.const (.string s)) = .str s := rfl
theorem ev_nilp (e : Env) : ev e (.const (.pointer none)) = .nilp := rfl
theorem ev_nils (e : Env) : ev e (.const (.slice none 0 0)) = .sl .nil [] := rfl
theorem ev_nilm (e : Env) : ev e (.const (.map none)) = .nilm := rfl
theorem ev_nilf (e : Env) : ev e (.const .nilFunc) = .nilf := rfl
theorem ev_nili (e : Env) : ev e (.const .nilIface) = .nili := rfl
theorem keep_nil (e : Env) : Env.keep [] e = [] := rfl
theorem keep_cons (i : Nat) (l : List Nat) (e : Env) : Env.keep (i :: l) e = (i, e.get i) :: Env.keep l e := rfl

theorem blk_new (s : St) (b : Blk) (i : Nat) : (s.new b).blk i = if i = s.nxt then some b else s.blk i := rfl
theorem nxt_new (s : St) (b : Blk) : (s.new b).nxt = s.nxt + 1 := rfl
theorem blk_set (s : St) (id : Nat) (b : Option Blk) (i : Nat) : (s.set id b).blk i = if i = id then b else s.blk i := rfl
theorem blk_set_self (s : St) (id : Nat) (b : Option Blk) : (s.set id b).blk id = b := if_pos rfl
theorem nxt_set (s : St) (id : Nat) (b : Option Blk) : (s.set id b).nxt = s.nxt := rfl
attribute [go_sem] get_nil get_cons put_some put_none ev_tmp ev_func ev_int ev_bool ev_str ev_nilp ev_nils ev_nilm ev_nilf ev_nili keep_nil keep_cons blk_new nxt_new blk_set nxt_set set_new

attribute [go_sem] aops_nil aops_cons anext_some aop1 acore apure aeff aLoad loadC aStore setC spl aFieldAddr aIndexAddr aPart aField aIndex aExtract optInt aSlice
  aBin iBin aEql aUn aConv fillP aBuild pickv aLen aMin aMax aMakeIface aTypeAssert ung gslot guard? PV.cells PV.ok acall retv ret1 rets okOp dops_nil dops_cons dnext_some dop1 dcore slotsOf aBuildSlice ainvoke aAppendOwn aAppendFirst seqParts Op.operands Call.operands aLookup aMapUpdate


theorem argEnv_nil (i : Nat) : argEnv i [] = [] := rfl
theorem argEnv_cons (i : Nat) (p : PV) (ps : List PV) : argEnv i (p :: ps) = (i, p) :: argEnv (i + 1) ps := rfl
attribute [go_sem] argEnv_nil argEnv_cons List.getElem?_cons_zero List.getElem?_cons_succ List.getElem?_toArray Option.bind_some Option.map_some Option.map_none List.length_cons List.length_nil List.drop_succ_cons List.drop_zero List.take_succ_cons List.take_zero
  List.set_cons_zero List.set_cons_succ List.head?_cons and_true true_and and_self Bool.or_false Bool.false_or Bool.and_false Bool.false_and Bool.true_and Bool.and_true Bool.not_true Bool.not_false Bool.true_or Bool.or_true
  beq_true beq_false beq_self_eq_true cond_true cond_false List.map_cons List.map_nil List.all_cons List.all_nil if_true if_false Bool.false_eq_true List.cons_append List.nil_append List.append_nil List.filterMap_cons List.filterMap_nil Option.toList_some Option.toList_none List.map_cons List.map_nil List.isEmpty_nil Nat.zero_add Nat.add_zero ne_eq not_true_eq_false not_false_eq_true
  Bool.cond_false_right Bool.cond_false_left Bool.cond_true_left Bool.cond_true_right Bool.not_or_self Bool.or_not_self Bool.not_not Bool.not_and_self Option.some.injEq Option.getD_some Option.getD_none Int.toNat_natCast

theorem nx1 (n : Nat) : (n = n + 1) = False := by simp
theorem ny1 (n : Nat) : (n + 1 = n) = False := by simp
theorem nx2 (n : Nat) : (n = n + 2) = False := by simp
theorem ny2 (n : Nat) : (n + 2 = n) = False := by simp
theorem nx3 (n : Nat) : (n = n + 3) = False := by simp
theorem ny3 (n : Nat) : (n + 3 = n) = False := by simp
theorem nx4 (n : Nat) : (n = n + 4) = False := by simp
theorem ny4 (n : Nat) : (n + 4 = n) = False := by simp
theorem nx5 (n : Nat) : (n = n + 5) = False := by simp
theorem ny5 (n : Nat) : (n + 5 = n) = False := by simp
theorem nx6 (n : Nat) : (n = n + 6) = False := by simp
theorem ny6 (n : Nat) : (n + 6 = n) = False := by simp
theorem nx7 (n : Nat) : (n = n + 7) = False := by simp
theorem ny7 (n : Nat) : (n + 7 = n) = False := by simp
theorem nx8 (n : Nat) : (n = n + 8) = False := by simp
theorem ny8 (n : Nat) : (n + 8 = n) = False := by simp
theorem nx9 (n : Nat) : (n = n + 9) = False := by simp
theorem ny9 (n : Nat) : (n + 9 = n) = False := by simp
theorem nx10 (n : Nat) : (n = n + 10) = False := by simp
theorem ny10 (n : Nat) : (n + 10 = n) = False := by simp
theorem nx11 (n : Nat) : (n = n + 11) = False := by simp
theorem ny11 (n : Nat) : (n + 11 = n) = False := by simp
theorem nx12 (n : Nat) : (n = n + 12) = False := by simp
theorem ny12 (n : Nat) : (n + 12 = n) = False := by simp
theorem nx13 (n : Nat) : (n = n + 13) = False := by simp
theorem ny13 (n : Nat) : (n + 13 = n) = False := by simp
theorem nx14 (n : Nat) : (n = n + 14) = False := by simp
theorem ny14 (n : Nat) : (n + 14 = n) = False := by simp
theorem nx15 (n : Nat) : (n = n + 15) = False := by simp
theorem ny15 (n : Nat) : (n + 15 = n) = False := by simp
theorem nx16 (n : Nat) : (n = n + 16) = False := by simp
theorem ny16 (n : Nat) : (n + 16 = n) = False := by simp
theorem nx17 (n : Nat) : (n = n + 17) = False := by simp
theorem ny17 (n : Nat) : (n + 17 = n) = False := by simp
theorem nx18 (n : Nat) : (n = n + 18) = False := by simp
theorem ny18 (n : Nat) : (n + 18 = n) = False := by simp
theorem nx19 (n : Nat) : (n = n + 19) = False := by simp
theorem ny19 (n : Nat) : (n + 19 = n) = False := by simp
theorem nx20 (n : Nat) : (n = n + 20) = False := by simp
theorem ny20 (n : Nat) : (n + 20 = n) = False := by simp
theorem nx21 (n : Nat) : (n = n + 21) = False := by simp
theorem ny21 (n : Nat) : (n + 21 = n) = False := by simp
theorem nx22 (n : Nat) : (n = n + 22) = False := by simp
theorem ny22 (n : Nat) : (n + 22 = n) = False := by simp
theorem nx23 (n : Nat) : (n = n + 23) = False := by simp
theorem ny23 (n : Nat) : (n + 23 = n) = False := by simp
theorem nx24 (n : Nat) : (n = n + 24) = False := by simp
theorem ny24 (n : Nat) : (n + 24 = n) = False := by simp
attribute [go_sem] nx1 ny1 nx2 ny2 nx3 ny3 nx4 ny4 nx5 ny5 nx6 ny6 nx7 ny7 nx8 ny8 nx9 ny9 nx10 ny10 nx11 ny11 nx12 ny12 nx13 ny13 nx14 ny14 nx15 ny15 nx16 ny16 nx17 ny17 nx18 ny18 nx19 ny19 nx20 ny20 nx21 ny21 nx22 ny22 nx23 ny23 nx24 ny24

attribute [go_sem] PV.weak PV.weaks PV.blw PV.blws SK.base
theorem weaks_map_id {α : Type} (f : α → PV) (h : ∀ x, (f x).weak = f x) (l : List α) : PV.weaks (l.map f) = l.map f := by
  rw [weaks_map, List.map_map]
  exact List.map_congr_left fun x _ => h x
theorem blws_map {α : Type} (f : α → PV) (n : Nat) (h : ∀ x, (f x).blw n) : ∀ (l : List α), PV.blws n (l.map f)
  | [] => by simp only [List.map_nil, PV.blws]
  | x :: l => by simp only [List.map_cons, PV.blws]; exact ⟨h x, blws_map f n h l⟩

end Go.PM

namespace Go.PM
open Go
section
variable {P : Program} {N : Nat} {k : List KI} {e e' : Env} {s : St} {rt : Env → St → Prop}

theorem RunO.live' {ops : Array Oper} (l : List Nat) (he : Env.keep l e = e') (h : Run P N k e' s rt) : RunO P N ops [] k e s rt := by
  subst he; exact RunO.live l h

theorem Run.draw' {ops : Array Oper} {id : Nat} {e2 : Env} {s' : St} (ws : List Nat) (l : List Nat) (hm : P.follows .mixedOrders = true) (hs : drawOK ops ws = true) (hd : Det P ops ws 0 ops.toList e s e2 s') (he : Env.keep l e2 = e')
    (h : Run P N k e' s' rt) : Run P N (.code (.region id ops true) :: k) e s rt := by
  subst he; exact Run.draw ws hm hs hd l h

/-- the order of a region that draws, and what comes behind -/
def DetC (P : Program) (ops : Array Oper) (ws : List Nat) (i : Nat) (l : List Oper) (e : Env) (s : St) (K : Env → St → Prop) : Prop := ∃ e' s', Det P ops ws i l e s e' s' ∧ K e' s'

theorem Run.drawC {ops : Array Oper} {id : Nat} (ws : List Nat) (l : List Nat) (hm : P.follows .mixedOrders = true) (hs : drawOK ops ws = true)
    (hd : DetC P ops ws 0 ops.toList e s (fun e2 s2 => Run P N k (Env.keep l e2) s2 rt)) : Run P N (.code (.region id ops true) :: k) e s rt := by
  obtain ⟨e2, s2, h1, h2⟩ := hd
  exact Run.draw ws hm hs h1 l h2

theorem DetC.nil {ops : Array Oper} {ws : List Nat} {i : Nat} {K : Env → St → Prop} (h : K e s) : DetC P ops ws i [] e s K := ⟨e, s, Det.nil, h⟩
theorem DetC.pre {ops : Array Oper} {ws : List Nat} {i : Nat} {K : Env → St → Prop} {pre l : List Oper} {e1 : Env} (h : dops P ops pre e s = some e1) (hd : DetC P ops ws (i + pre.length) l e1 s K) : DetC P ops ws i (pre ++ l) e s K := by
  obtain ⟨e2, s2, h1, h2⟩ := hd
  exact ⟨e2, s2, Det.pre h h1, h2⟩
theorem DetC.all {ops : Array Oper} {ws : List Nat} {i : Nat} {K : Env → St → Prop} {l : List Oper} {e1 : Env} (h : dops P ops l e s = some e1) (hk : K e1 s) : DetC P ops ws i l e s K := ⟨e1, s, Det.all h, hk⟩
theorem DetC.call {ops : Array Oper} {ws : List Nat} {i : Nat} {K : Env → St → Prop} {d : Option Nat} {c : Call} {t : TypeId} {pos : String} {af : Array Edge} {gd : Option (Nat × Bool)} {l : List Oper} {f : FuncId} {args args' : List PV} {v : PV}
    (hg : guard? ops ⟨d, .call c, t, pos, af, gd⟩ (Env.keep (slotsOf ops ⟨d, .call c, t, pos, af, gd⟩) e) = some true)
    (ha : acall c (Env.keep (slotsOf ops ⟨d, .call c, t, pos, af, gd⟩) e) = some (f, args)) (hw : PV.weaks args = args') (hc : callable P f = true)
    (h : ACalls P f args' s fun r s1 => r = v ∧ s1 = s) (hd : DetC P ops ws (i + 1) l (e.put d v) s K) : DetC P ops ws i (⟨d, .call c, t, pos, af, gd⟩ :: l) e s K := by
  obtain ⟨e2, s2, h1, h2⟩ := hd
  exact ⟨e2, s2, Det.call hg ha hw hc h h1, h2⟩
theorem DetC.eff {ops : Array Oper} {ws : List Nat} {i : Nat} {K : Env → St → Prop} {o : Oper} {l : List Oper} {v : PV} {s1 : St} (hi : ws.contains i = true) (hg : guard? ops o (Env.keep (slotsOf ops o) e) = some true)
    (ha : acore P o.op (ev (Env.keep (slotsOf ops o) e)) s = some (v, s1)) (hd : DetC P ops ws (i + 1) l (e.put o.dst v) s1 K) : DetC P ops ws i (o :: l) e s K := by
  obtain ⟨e2, s2, h1, h2⟩ := hd
  exact ⟨e2, s2, Det.eff hi hg ha h1, h2⟩

theorem DetC.effect {ops : Array Oper} {ws : List Nat} {i : Nat} {K : Env → St → Prop} {o : Oper} {l : List Oper} {v : PV} {s1 : St} (hi : ws.contains i = true) (hg : guard? ops o (Env.keep (slotsOf ops o) e) = some true)
    (he : ∀ g w (a : Act), Inv P g s w → EnvOK g w (Env.keep (slotsOf ops o) e) a.tmps → Effect P o g w a v s1) (hd : DetC P ops ws (i + 1) l (e.put o.dst v) s1 K) : DetC P ops ws i (o :: l) e s K := by
  obtain ⟨e2, s2, h1, h2⟩ := hd
  have hi' : i ∈ ws := by simpa using hi
  exact ⟨e2, s2, Det.cons (DOp.of_effect hg he) (fun h => absurd hi' h) (fun _ h => absurd hi' h) h1, h2⟩

theorem DetC.appendOwn {ops : Array Oper} {ws : List Nat} {i : Nat} {K : Env → St → Prop} {d : Option Nat} {x y : Operand} {t ty : TypeId} {pos : String} {af : Array Edge} {gd : Option (Nat × Bool)} {l : List Oper} {el : TypeId} {id len : Nat} {ky : SK} {ys : List PV} {v : PV} {s1 : St}
    (hi : ws.contains i = true) (hg : guard? ops ⟨d, .call ⟨.builtin .append, #[x, y], #[t, t]⟩, ty, pos, af, gd⟩ (Env.keep (slotsOf ops ⟨d, .call ⟨.builtin .append, #[x, y], #[t, t]⟩, ty, pos, af, gd⟩) e) = some true)
    (hx : ev (Env.keep (slotsOf ops ⟨d, .call ⟨.builtin .append, #[x, y], #[t, t]⟩, ty, pos, af, gd⟩) e) x = .own id 0 len) (hy : ev (Env.keep (slotsOf ops ⟨d, .call ⟨.builtin .append, #[x, y], #[t, t]⟩, ty, pos, af, gd⟩) e) y = .sl ky ys)
    (htd : td P t = .sl el) (hz : (zpv P el).isSome = true) (hey : isEls P el ys) (hb0 : 0 < P.bytesOf el) (hlen : (len + ys.length) * P.bytesOf el ≤ 140737488355328) (ha : aAppendOwn P el id len ys s = some (v, s1))
    (hd : DetC P ops ws (i + 1) l (e.put d v) s1 K) : DetC P ops ws i (⟨d, .call ⟨.builtin .append, #[x, y], #[t, t]⟩, ty, pos, af, gd⟩ :: l) e s K := by
  refine DetC.effect hi hg (fun g w a hI hE => ?_) hd
  have h1 := ev_R hE x
  have h2 := ev_R hE y
  rw [hx] at h1
  rw [hy] at h2
  obtain ⟨val, w', g', r1, r2, r3, r4⟩ := aAppendOwn_run (ty := ty) hI h1 h2 htd hz hey hb0 hlen ha
  exact ⟨val, w', g', .inl (append_exec rfl r1), r2, r3, r4⟩

theorem DetC.appendFirst {ops : Array Oper} {ws : List Nat} {i : Nat} {K : Env → St → Prop} {d : Option Nat} {x y : Operand} {t ty : TypeId} {pos : String} {af : Array Edge} {gd : Option (Nat × Bool)} {l : List Oper} {el : TypeId} {kx ky : SK} {xs ys : List PV} {v : PV} {s1 : St}
    (hi : ws.contains i = true) (hg : guard? ops ⟨d, .call ⟨.builtin .append, #[x, y], #[t, t]⟩, ty, pos, af, gd⟩ (Env.keep (slotsOf ops ⟨d, .call ⟨.builtin .append, #[x, y], #[t, t]⟩, ty, pos, af, gd⟩) e) = some true)
    (hx : ev (Env.keep (slotsOf ops ⟨d, .call ⟨.builtin .append, #[x, y], #[t, t]⟩, ty, pos, af, gd⟩) e) x = .sl kx xs) (hy : ev (Env.keep (slotsOf ops ⟨d, .call ⟨.builtin .append, #[x, y], #[t, t]⟩, ty, pos, af, gd⟩) e) y = .sl ky ys)
    (htd : td P t = .sl el) (hz : (zpv P el).isSome = true) (hex : isEls P el xs) (hey : isEls P el ys) (hb0 : 0 < P.bytesOf el) (hlen : (xs.length + ys.length) * P.bytesOf el ≤ 140737488355328) (ha : aAppendFirst P el kx xs ys s = some (v, s1))
    (hd : DetC P ops ws (i + 1) l (e.put d v) s1 K) : DetC P ops ws i (⟨d, .call ⟨.builtin .append, #[x, y], #[t, t]⟩, ty, pos, af, gd⟩ :: l) e s K := by
  refine DetC.effect hi hg (fun g w a hI hE => ?_) hd
  have h1 := ev_R hE x
  have h2 := ev_R hE y
  rw [hx] at h1
  rw [hy] at h2
  obtain ⟨val, w', g', r1, r2, r3, r4⟩ := aAppendFirst_run (ty := ty) hI h1 h2 htd hz hex hey hb0 hlen ha
  exact ⟨val, w', g', .inl (append_exec rfl r1), r2, r3, r4⟩

theorem RunO.invokew {ops : Array Oper} {d : Option Nat} {c : Call} {t : TypeId} {pos : String} {af : Array Edge} {gd : Option (Nat × Bool)} {l : List Oper} {f : FuncId} {args args' : List PV}
    (hg : guard? ops ⟨d, .call c, t, pos, af, gd⟩ e = some true) (ha : ainvoke P c e s = some (f, args)) (hw : PV.weaks args = args') (hc : callable P f = true)
    (h : ACalls P f args' s fun r s' => RunO P N ops l k (e.put d r) s' rt) : RunO P N ops (⟨d, .call c, t, pos, af, gd⟩ :: l) k e s rt := by
  subst hw
  refine RunO.call_ hg (fun g w a hI hE => ?_) h
  obtain ⟨vs, h1, h2⟩ := ainvoke_run (o := ⟨d, .call c, t, pos, af, gd⟩) rfl hI hE ha hc
  exact ⟨vs, h1, RA_weak _ _ h2⟩

/-- a bool that is asked -/
theorem RunO.bcase {ops : Array Oper} {l : List Oper} {b : Bool} (i : Nat) (hi : e.get i = .bool b) (ht : b = true → RunO P N ops l k ((i, .bool true) :: e) s rt) (hf : b = false → RunO P N ops l k ((i, .bool false) :: e) s rt) : RunO P N ops l k e s rt := by
  intro ok okk idx hidx g w a hI hE hd hN
  have hv := hE i
  rw [hi] at hv
  cases b with
  | true => exact ht rfl ok okk idx hidx g w a hI (hE.cons hv) hd hN
  | false => exact hf rfl ok okk idx hidx g w a hI (hE.cons hv) hd hN

def ivar (e : Env) (i : Nat) : Nat := match e.get i with
  | .int _ n => n.toNat
  | _ => 0

theorem wrap_i64 {n : Int} (h : -9223372036854775808 ≤ n ∧ n ≤ 9223372036854775807) : IntKind.i64.wrap n = n := by
  simp [IntKind.wrap, IntKind.signed, IntKind.bits]
  omega

theorem Run.envEq' (he : e = e') (h : Run P N k e' s rt) : Run P N k e s rt := by
  subst he; exact h

theorem Run.envEq {c : Code} (he : e = e') (h : Run P N (.code c :: k) e' s rt) : Run P N (.code c :: k) e s rt := by
  subst he; exact h
end
end Go.PM

import Derived.Test.YtdeiiaohdcpecaaGreatB2
import Derived.Test.YtdeiiaohdcpecaaGreatB1
set_option linter.unusedVariables false
set_option linter.unusedSimpArgs false
namespace Go.Proofs
open Go.PM
set_option maxHeartbeats 2000000
theorem zbW {xs ys zs:List Int} (hz:zs=xs++((ys.length:Int)::ys)) (hx:xs.length≤1000) (hy:ys.length≤255) {t:Nat} {s:St} (ht:s.blk t=some (.tok xs.length)):za Tryz.prog 57 [.sl (.tok t 1) (xs.map (PV.int .u8)),.sl .unk (ys.map (PV.int .u8))] s (fun r s'=>r=.sl .unk (zs.map (PV.int .u8))∧s'=s.set t none):=by
 refine go Tryz.func57 (k:=fun hwf H=>?_)
 have hw1:IntKind.u8.wrap (ys.length:Int)=ys.length:=zan
 have H:=aj hw1 H
 obtain ⟨X1,hX1⟩:∃ X,X=xs++[(ys.length:Int)]:=⟨_,rfl⟩
 have htl:=xN hwf ht
 refine rs (k:=rg [0,1] (k:=rs (k:=rr (k:=ro (pre:=[_,_,_,_]) (k:=rO (k:=?_))))))
 refine zm.append au au au Tryz.td41 Y26 (zp (P:=Tryz.prog) (e:=5) (f:=PV.int .u8) (fun a=>⟨rfl,Y27⟩) _) (zp (P:=Tryz.prog) (e:=5) (f:=PV.int .u8) (fun a=>⟨rfl,Y27⟩) _) Y28 Y86 (xi (f:=PV.int .u8) (ys:=[(ys.length:Int)]) hX1 Y71 ht rfl Tryz.cz5) ?_
 refine ro (pre:=[_]) (k:=?_)
 refine zm.grow' au au au Tryz.td41 Y26 (zp (P:=Tryz.prog) (e:=5) (f:=PV.int .u8) (fun a=>⟨rfl,Y27⟩) X1) (zp (P:=Tryz.prog) (e:=5) (f:=PV.int .u8) (fun a=>⟨rfl,Y27⟩) ys) Y28 (by rw [Tryz.by5,List.length_map,List.length_map,hX1,List.length_append];simp;omega) (by rw [Tryz.cz5];exact .inr (.inr ⟨t,rfl,by simp (disch:=omega) only [go_sem,List.length_map]<;>rfl⟩)) ?_
 intro k2 s2 hgr htm
 refine rh [4] (k:=rR (k:=?_))
 refine Ret.drop t (r':=.sl .unk (zs.map (PV.int .u8))) (by simp only [Tryz.f57,go_sem,↓reduceIte]<;>rfl) (by rw [PV.weak,← List.map_append,zB,hz,hX1];simp) Y23 hwf (fun i hi hit=>?_) ⟨rfl,rfl⟩
 rw [htm.rest i (by simpa only [zt] using hi) (fun z e=>hit (by cases e;rfl)),wd,if_neg hit]
attribute [local go_sem] zf Req.pv
theorem zoO {p:Prop} (h:p:=by first | exact .inl (of_decide_eq_true hc6) | exact .inr (of_decide_eq_true hc7)):p:=h
set_option maxRecDepth 100000 in
theorem zbS {q:Req} (hq:q.ok) (hr:zD q=0) {s:St}:za Tryz.prog 29 [q.pv] s (fun r s'=>r=.sl .unk ((yF q).map (PV.int .u8))∧s'=s):=by
 refine go Tryz.func29 (k:=fun hwf H=>?_)
 refine rs (k:=rg [1] (k:=rs (k:=?_)))
 have hR:=vF hr
 have hfn:=yM hR.has
 have hu8:IntKind.u8.wrap q.fn=q.fn:=zan
 have hmv:=hR.mv
 have hmb:=hR.mb
 have hpl:=xe q.bits
 have ia:=hq.at_
 have ic:=hq.count
 have iw:=hq.wat
 have is_:=hq.sub
 have ie:I64 65280:=Y20
 have iz:I64 0:=Y20
 have ivl:I64 (q.vals.length:Int):=Y76
 obtain ⟨V,hV⟩:∃ V,V=q.vals.flatMap zx:=⟨_,rfl⟩
 have hvl:V.length=2*q.vals.length:=zlM
 obtain ⟨v,hv⟩:∃ v,v=(q.vals[0]?).getD 0:=⟨_,rfl⟩
 have hv16:U16 v:=by
  rw [hv]
  cases hx:q.vals[0]? with
  | none=>constructor<;>decide
  | some x=>exact hq.vals x (List.mem_of_getElem? hx)
 have iv:I64 v:=by unfold U16 at hv16;constructor<;>omega
 have iA:I64 q.and_:=by have:=hq.and_;unfold U16 at this;constructor<;>omega
 have iO:I64 q.or_:=by have:=hq.or_;unfold U16 at this;constructor<;>omega
 obtain ⟨L1,hL1⟩:∃ L,L=[q.fn]++zx q.at_:=⟨_,rfl⟩
 obtain ⟨L2,hL2⟩:∃ L,L=L1++zx q.count:=⟨_,rfl⟩
 obtain ⟨L3,hL3⟩:∃ L,L=L2++zx q.wat:=⟨_,rfl⟩
 obtain ⟨L4,hL4⟩:∃ L,L=L3++zx q.vals.length:=⟨_,rfl⟩
 obtain ⟨L5,hL5⟩:∃ L,L=[q.fn]++zx q.sub:=⟨_,rfl⟩
 obtain ⟨L6,hL6⟩:∃ L,L=L1++zx q.and_:=⟨_,rfl⟩
 obtain ⟨L7,hL7⟩:∃ L,L=L6++zx q.or_:=⟨_,rfl⟩
 obtain ⟨L8,hL8⟩:∃ L,L=L5++zx v:=⟨_,rfl⟩
 obtain ⟨L9,hL9⟩:∃ L,L=L1++zx v:=⟨_,rfl⟩
 obtain ⟨La,hLa⟩:∃ L,L=L1++zx 65280:=⟨_,rfl⟩
 obtain ⟨Lb,hLb⟩:∃ L,L=L1++zx 0:=⟨_,rfl⟩
 obtain ⟨Xb,hXb⟩:∃ X,X=L2++(((xk q.bits).length:Int)::xk q.bits):=⟨_,rfl⟩
 obtain ⟨Xv,hXv⟩:∃ X,X=L2++((V.length:Int)::V):=⟨_,rfl⟩
 obtain ⟨Xw,hXw⟩:∃ X,X=L4++((V.length:Int)::V):=⟨_,rfl⟩
 have hll1:L1.length=3:=zlY
 have hll2:L2.length=5:=by rw [hL2];simp [zx,hll1]
 have hll3:L3.length=7:=by rw [hL3];simp [zx,hll2]
 have hll4:L4.length=9:=by rw [hL4];simp [zx,hll3]
 have hll5:L5.length=3:=by rw [hL5];simp [zx]
 have hll6:L6.length=5:=by rw [hL6];simp [zx,hll1]
 have h16v:IntKind.i64.wrap v=v:=zi (by unfold U16 at hv16;omega)
 have h16a:IntKind.i64.wrap q.and_=q.and_:=zi (by have:=hq.and_;unfold U16 at this;omega)
 have h16o:IntKind.i64.wrap q.or_=q.or_:=zi (by have:=hq.or_;unfold U16 at this;omega)
 have H:=aj hu8 (aj h16v (aj h16a (aj h16o H)))
 refine rr (k:=ro (pre:=[_,_,_]) (k:=rO (k:=rh [1,3] (k:=rs (k:=rr (k:=ro (pre:=[_,_,_]) (k:=rC (h:=xF (l:=[q.fn]) hL1 ia Y71) (k:=rh [1,3,4] (k:=rs (k:=rs (k:=rg [1,3,4,15] (k:=rb (k:=rs (k:=rs (k:=rg [1,3,4,15,16] (k:=?_))))))))))))))))
 refine Run.join (fun e s'=>e=[(1,.ptr s.nxt 0 0),(3,.sl .clip [.int .u8 q.fn]),(4,.sl .unk (L1.map (PV.int .u8))),(15,.int .i64 q.fn),(16,.bool (decide (1≤q.fn∧q.fn≤4)))]∧s'=(s.new (.row 47 [.agg [.int .i64 q.fn,.int .i64 q.at_,.int .i64 q.count,.int .i64 q.wat,.int .i64 q.sub,.sl .unk (q.bits.map PV.bool),.sl .unk (q.vals.map (PV.int .u16)),.int .u16 q.and_,.int .u16 q.or_]]))) ?_ ?_
 rintro e s1 ⟨rfl,rfl⟩
 refine rc (ht:=fun hc3=>?_) (hf:=fun hc3=>?_)
 refine rs (k:=rr (k:=ro (pre:=[_,_,_]) (k:=rC (h:=xF hL2 ic Y18) (k:=rh [2] (k:=rR (k:=?_))))))
 refine jO 1 ?_;rotate_left
 refine rs (k:=rg [1,3,4,15,25] (k:=rc (ht:=fun hc4=>?_) (hf:=fun hc4=>?_)))
 refine rs (k:=rs (k:=?_))
 obtain ⟨b,hb⟩:∃ b,q.bits=[b]:=by
  have:=hR.nb
  simp only [Zl,decide_eq_true_eq] at *
  simp [*] at this
  exact List.length_eq_one_iff.1 Y18
 have hb2:(q.bits.map PV.bool)[0]? =some (.bool b):=by rw [hb];rfl
 have hb3:(0<q.bits.length)=True:=by rw [hb];simp
 have H:=aj hb2 (aj hb3 H)
 refine rg [4,30] (k:=rc (ht:=fun hc5=>?_) (hf:=fun hc5=>?_))
 refine rs (k:=rr (k:=ro (pre:=[_]) (k:=rC (h:=xF hLa ie Y18) (k:=rh [2] (k:=rR (k:=?_))))))
 refine jO 1 ?_;rotate_left
 refine rk (k:=rs (k:=rr (k:=ro (pre:=[_]) (k:=rC (h:=xF hLb iz Y18) (k:=rh [2] (k:=rR (k:=?_)))))))
 refine jO 1 ?_;rotate_left
 refine rs (k:=rg [1,3,4,15,35] (k:=rc (ht:=fun hc6=>?_) (hf:=fun hc6=>?_)))
 refine rs (k:=?_)
 have hv1:q.vals.length=1:=by
  have:=hR.nv
  have h68:q.fn=6∨q.fn=8:=zoO
  unfold uN at this
  rw [if_pos h68] at this
  omega
 obtain ⟨v',hvv⟩:=List.length_eq_one_iff.1 hv1
 have hve:v'=v:=by rw [hv,hvv];rfl
 subst hve
 clear hv
 have hv2:(q.vals.map (PV.int .u16))[0]? =some (.int .u16 v'):=by rw [hvv];rfl
 have hv3:(0<q.vals.length)=True:=by rw [hvv];simp
 have H:=aj hv2 (aj hv3 H)
 refine rr (k:=ro (pre:=[_,_,_,_,_,_]) (k:=rC (h:=xF hL9 iv Y18) (k:=rh [2] (k:=rR (k:=?_)))))
 refine jO 1 ?_;rotate_left
 refine rs (k:=rg [1,3,4,15,44] (k:=rc (ht:=fun hc7=>?_) (hf:=fun hc7=>?_)))
 refine rs (k:=?_)
 have hv1:q.vals.length=1:=by
  have:=hR.nv
  have h68:q.fn=6∨q.fn=8:=zoO
  unfold uN at this
  rw [if_pos h68] at this
  omega
 obtain ⟨v',hvv⟩:=List.length_eq_one_iff.1 hv1
 have hve:v'=v:=by rw [hv,hvv];rfl
 subst hve
 clear hv
 have hv2:(q.vals.map (PV.int .u16))[0]? =some (.int .u16 v'):=by rw [hvv];rfl
 have hv3:(0<q.vals.length)=True:=by rw [hvv];simp
 have H:=aj hv2 (aj hv3 H)
 refine Run.drawC [] [2] Tryz.mixed Y22 ?_
 refine zj.pre (pre:=[_,_,_]) au ?_
 refine zj.call au au au Y22 (xF (l:=[q.fn]) hL5 is_ Y71) ?_
 refine zj.pre (pre:=[_,_,_,_,_]) au ?_
 refine zj.call au au au Y22 (xF hL8 iv Y18) ?_
 refine jO 2 ?_;rotate_left
 refine rs (k:=rg [1,3,4,15,56] (k:=rc (ht:=fun hc8=>?_) (hf:=fun hc8=>?_)))
 refine rs (k:=?_)
 refine Run.drawM 7 [3] [(s.new (.row 47 [.agg [.int .i64 q.fn,.int .i64 q.at_,.int .i64 q.count,.int .i64 q.wat,.int .i64 q.sub,.sl .unk (q.bits.map PV.bool),.sl .unk (q.vals.map (PV.int .u16)),.int .u16 q.and_,.int .u16 q.or_]])),((s.new (.row 47 [.agg [.int .i64 q.fn,.int .i64 q.at_,.int .i64 q.count,.int .i64 q.wat,.int .i64 q.sub,.sl .unk (q.bits.map PV.bool),.sl .unk (q.vals.map (PV.int .u16)),.int .u16 q.and_,.int .u16 q.or_]])).new (.tok L2.length))] Tryz.mixed Y22 Y22 ?_
 refine zG.pre (pre:=[_,_,_]) Y19 List.mem_cons_self au ?_
 refine zG.callE Y19 List.mem_cons_self au au au Y22 (WK hL2 ic Y18) ?_
 refine zG.pre (pre:=[_,_]) Y19 (List.mem_cons_of_mem _ List.mem_cons_self) au ?_
 refine zG.call Y19 au au au Y22 (List.mem_cons_of_mem _ List.mem_cons_self) (fun s _=>zc1 (l:=q.bits) Y18) ?_
 refine zG.nil (List.mem_cons_of_mem _ List.mem_cons_self) ?_
 refine zm.call au au Y22 ((zbW hXb Y18 Y18 Y87).mono ?_)
 refine jO 3 ?_;rotate_left
 refine rs (k:=rg [1,3,4,15,66] (k:=rc (ht:=fun hc9=>?_) (hf:=fun hc9=>?_)))
 refine rs (k:=?_)
 refine Run.drawM 7 [3] [(s.new (.row 47 [.agg [.int .i64 q.fn,.int .i64 q.at_,.int .i64 q.count,.int .i64 q.wat,.int .i64 q.sub,.sl .unk (q.bits.map PV.bool),.sl .unk (q.vals.map (PV.int .u16)),.int .u16 q.and_,.int .u16 q.or_]])),((s.new (.row 47 [.agg [.int .i64 q.fn,.int .i64 q.at_,.int .i64 q.count,.int .i64 q.wat,.int .i64 q.sub,.sl .unk (q.bits.map PV.bool),.sl .unk (q.vals.map (PV.int .u16)),.int .u16 q.and_,.int .u16 q.or_]])).new (.tok L2.length))] Tryz.mixed Y22 Y22 ?_
 refine zG.pre (pre:=[_,_,_]) Y19 List.mem_cons_self au ?_
 refine zG.callE Y19 List.mem_cons_self au au au Y22 (WK hL2 ic Y18) ?_
 refine zG.pre (pre:=[_,_]) Y19 (List.mem_cons_of_mem _ List.mem_cons_self) au ?_
 refine zG.call Y19 au au au Y22 (List.mem_cons_of_mem _ List.mem_cons_self) (fun s _=>Wa hV Y18) ?_
 refine zG.nil (List.mem_cons_of_mem _ List.mem_cons_self) ?_
 refine zm.call au au Y22 ((zbW hXv Y18 Y18 Y87).mono ?_)
 refine jO 3 ?_;rotate_left
 refine rs (k:=rg [1,3,4,15,76] (k:=rc (ht:=fun hc10=>?_) (hf:=fun hc10=>?_)))
 refine rs (k:=?_)
 refine Run.drawC [] [2] Tryz.mixed Y22 ?_
 refine zj.pre (pre:=[_,_,_,_]) au ?_
 refine zj.call au au au Y22 (xF hL6 iA Y18) ?_
 refine zj.pre (pre:=[_,_,_]) au ?_
 refine zj.call au au au Y22 (xF hL7 iO Y18) ?_
 refine jO 2 ?_;rotate_left
 refine rs (k:=rg [1,3,4,87] (k:=rc (ht:=fun hc11=>?_) (hf:=fun hc11=>?_)))
 refine rs (k:=?_)
 refine Run.drawM 11 [10] [(s.new (.row 47 [.agg [.int .i64 q.fn,.int .i64 q.at_,.int .i64 q.count,.int .i64 q.wat,.int .i64 q.sub,.sl .unk (q.bits.map PV.bool),.sl .unk (q.vals.map (PV.int .u16)),.int .u16 q.and_,.int .u16 q.or_]])),((s.new (.row 47 [.agg [.int .i64 q.fn,.int .i64 q.at_,.int .i64 q.count,.int .i64 q.wat,.int .i64 q.sub,.sl .unk (q.bits.map PV.bool),.sl .unk (q.vals.map (PV.int .u16)),.int .u16 q.and_,.int .u16 q.or_]])).new (.tok L4.length))] Tryz.mixed Y22 Y22 ?_
 refine zG.pre (pre:=[_,_,_]) Y19 List.mem_cons_self au ?_
 refine zG.call Y19 au au au Y22 List.mem_cons_self (fun s _=>xF hL2 ic Y18) ?_
 refine zG.pre (pre:=[_,_]) Y19 List.mem_cons_self au ?_
 refine zG.call Y19 au au au Y22 List.mem_cons_self (fun s _=>xF hL3 iw Y18) ?_
 refine zG.pre (pre:=[_,_,_]) Y19 List.mem_cons_self au ?_
 refine zG.callE Y19 List.mem_cons_self au au au Y22 (WK hL4 ivl Y18) ?_
 refine zG.nil (List.mem_cons_of_mem _ List.mem_cons_self) ?_
 refine rh [1,5] (k:=rs (k:=rr (k:=ro (pre:=[_,_,_]) (k:=rC (h:=Wa hV Y18) (k:=?_)))))
 refine zm.call au au Y22 ((zbW hXw Y18 Y18 Y87).mono ?_)
 refine jO 3 ?_;rotate_left
 refine rk (k:=rB (k:=rs (k:=rg [2] (k:=rR (k:=?_)))))
 refine jO 1 ?_;rotate_left
 intro hJc0
 refine rc (ht:=fun hc0=>?_) (hf:=fun hc0=>?_)
 ·refine rk (k:=?_)
  have hd:decide (1≤q.fn∧q.fn≤4)=decide (q.fn=1):=by
   rw [Bool.eq_iff_iff,decide_eq_true_eq,decide_eq_true_eq]
   simp only [decide_eq_true_eq,decide_eq_false_iff_not] at *
   omega
  exact hJc0 _ _ ⟨by rw [hd],rfl⟩
 ·refine rs (k:=rg [1,3,4,15,16] (k:=rc (ht:=fun hc1=>?_) (hf:=fun hc1=>?_)))
  ·refine rk (k:=?_)
   have hd:decide (1≤q.fn∧q.fn≤4)=decide (q.fn=2):=by
    rw [Bool.eq_iff_iff,decide_eq_true_eq,decide_eq_true_eq]
    simp only [decide_eq_true_eq,decide_eq_false_iff_not] at *
    omega
   exact hJc0 _ _ ⟨by rw [hd],rfl⟩
  ·refine rs (k:=rg [1,3,4,15,16] (k:=rc (ht:=fun hc2=>?_) (hf:=fun hc2=>?_)))
   ·refine rk (k:=?_)
    have hd:decide (1≤q.fn∧q.fn≤4)=decide (q.fn=3):=by
     rw [Bool.eq_iff_iff,decide_eq_true_eq,decide_eq_true_eq]
     simp only [decide_eq_true_eq,decide_eq_false_iff_not] at *
     omega
    exact hJc0 _ _ ⟨by rw [hd],rfl⟩
   ·refine rg [1,3,4,15,16] (k:=?_)
    have hd:decide (1≤q.fn∧q.fn≤4)=decide (q.fn=4):=by
     rw [Bool.eq_iff_iff,decide_eq_true_eq,decide_eq_true_eq]
     simp only [decide_eq_true_eq,decide_eq_false_iff_not] at *
     omega
    exact hJc0 _ _ ⟨by rw [hd],rfl⟩
 any_goals
  refine jI 3 ?_
  rintro r s1 ⟨rfl,rfl⟩
  refine jO 4 ?_;rotate_left
 any_goals
  refine jI 2 ?_
  refine zj.all au ?_
  refine jO 5 ?_;rotate_left
 any_goals
  refine jI 4 ?_
  refine rh [2] (k:=rR (k:=?_))
  refine jO 1 ?_;rotate_left
 any_goals
  refine jI 5 ?_
  refine re (k:=rR (k:=?_))
  refine jO 1 ?_;rotate_left
 any_goals
  refine jI 1 ?_
  refine Ret.pure (r':=.sl .unk ((yF q).map (PV.int .u8))) (by simp only [Tryz.f29,go_sem,↓reduceIte]<;>rfl) ?_ Y23 hwf Y34 ⟨rfl,rfl⟩
  refine jO 6 ?_;rotate_left
 any_goals
  refine jI 6 ?_
  simp only [PV.weak,zB]
  refine jO 7 ?_;rotate_left
 any_goals
  refine jI 7 ?_
  refine congrArg (fun x=>PV.sl .unk x) ?_
  refine jO 8 ?_;rotate_left
 any_goals
  refine jI 8 ?_
  first | refine congrArg (List.map (PV.int .u8)) ?_ | refine congrArg (List.map (PV.int .u8)) (a₂:=[q.fn]) ?_
  refine jO 9 ?_;rotate_left
 any_goals
  refine jI 9 ?_
  clear hll1 hll2 hll3 hll4 hll5 hll6 hvl hpl hu8 hwf h16a h16o h16v H
  refine jO 10 ?_;rotate_left
 any_goals
  refine jI 10 ?_
  simp only [decide_eq_true_eq,decide_eq_false_iff_not] at *
  refine jO 11 ?_;rotate_left
 any_goals
  refine jI 11 ?_
  first
   |(simp [yF, *];done)
   |(have e:q.fn=17:=by omega
     simp [yF,e];done)
   |(have e:q.fn=1∨q.fn=2∨q.fn=3∨q.fn=4:=by omega
     rcases e with e | e | e | e<;>simp [yF,e,hL2,hL1])
end Go.Proofs
namespace Go.Proofs
open Go.PM
set_option maxHeartbeats 2000000
theorem uC {b:List Int} (hb:OkB b) (hl:b.length≤140737488351232) {i:Int} {a:Int} (ha:1+2*i=a) (hi:0≤i∧i≤100) {s:St}:za Tryz.prog 105 [.sl .unk (b.map (PV.int .u8)),.int .i64 i] s (fun r s'=>r=.int .i64 (zP b a)∧s'=s):=by
 refine go Tryz.func105 (k:=fun hwf H=>?_)
 have hw1:IntKind.i64.wrap (2*i)=2*i:=zi Y18
 have hw2:IntKind.i64.wrap (1+2*i)=a:=by rw [zi Y18,ha]
 have H:=aj hw1 (aj hw2 H)
 refine rs (k:=rg [0,1] (k:=rs (k:=rr (k:=ro (pre:=[_,_,_,_]) (k:=rC (h:=Uz hb (a:=a) Y76 Y18) (k:=rh [5] (k:=rs (k:=rg [4] (k:=rR (k:=rP (by simp only [Tryz.f105,go_sem];rfl) hwf ⟨?_,rfl⟩))))))))))
 rfl
theorem Wm {b:List Int} (hb:OkB b) (hl:b.length≤140737488351232) {n:Nat} (hn:n≤100) {s:St}:za Tryz.prog 106 [.sl .unk (b.map (PV.int .u8)),.int .i64 (n:Int)] s (fun r s'=>r=.sl .unk ((uk b n).map (PV.int .u16))∧s'=s):=by
 refine go Tryz.func106 (k:=fun hwf H=>?_)
 refine rs (k:=rg [0,1] (k:=rs (k:=rs (k:=rg [0,1,10] (k:=rc (ht:=fun hc0=>?_) (hf:=fun hc0=>?_))))))
 refine rs (k:=rg [4] (k:=rR (k:=rP (by simp only [Tryz.f106,go_sem];rfl) hwf ⟨?_,rfl⟩)))
 refine jO 1 ?_;rotate_left
 refine rk (k:=rs (k:=?_))
 have hlt:n<b.length:=Y30
 have hw1:IntKind.i64.wrap ((b.length:Int)-n)=((b.length-n:Nat):Int):=Y24
 have hm1:((b.length-n:Nat):Int).tmod 2=(((b.length-n)%2:Nat):Int):=zhS
 have hw2:IntKind.i64.wrap (((b.length-n)%2:Nat):Int)=(((b.length-n)%2:Nat):Int):=zi Y18
 have hw3:IntKind.i64.wrap ((b.length:Int)-(((b.length-n)%2:Nat):Int))=((b.length-(b.length-n)%2:Nat):Int):=Y24
 have h20:((2:Int)=0)=False:=Y19
 have hd1:(0≤(n:Int))=True:=eq_true Y18
 have hd2:((n:Int)≤((b.length-(b.length-n)%2:Nat):Int))=True:=eq_true Y18
 have hd3:(((b.length-(b.length-n)%2:Nat):Int)≤(b.length:Int))=True:=eq_true Y18
 have htk:((((b.length-(b.length-n)%2:Nat):Int)-(n:Int)).toNat)=b.length-n-(b.length-n)%2:=Y18
 have hlm:((b.map (PV.int .u8)).drop n).take (b.length-n-(b.length-n)%2)=(((b.drop n).take (b.length-n-(b.length-n)%2)).map (PV.int .u8)):=by rw [List.map_take,List.map_drop]
 have H:=aj hw1 (aj hm1 (aj hw2 (aj hw3 (aj hd1 (aj hd2 (aj hd3 (aj htk (aj hlm (aj h20 H)))))))))
 refine rr (k:=ro (pre:=[_,_,_,_,_,_,_,_,_,_,_]) (k:=rC (h:=UY (b:=(b.drop n).take (b.length-n-(b.length-n)%2)) (OkB.take (OkB.drop hb n) _) Yk) (k:=rh [5] (k:=rs (k:=rg [4] (k:=rR (k:=rP (by simp only [Tryz.f106,go_sem];rfl) hwf ⟨?_,rfl⟩)))))))
 refine jO 1 ?_;rotate_left
 any_goals
  refine jI 1 ?_
  first
   |(have:b.length≤n:=by have:=of_decide_eq_true hc0;omega
     have hz:uk b n=[]:=by unfold uk;rw [List.drop_eq_nil_of_le this,List.take_nil];rfl
     rw [hz];rfl)
   |(simp only [PV.weak,zA];rfl)
theorem wQ {b:List Int} (hb:OkB b) (hl:b.length≤140737488351232) {i:Int} (hi:0≤i∧i≤100) {s:St}:za Tryz.prog 36 [.sl .unk (b.map (PV.int .u8)),.int .i64 i] s (fun r s'=>r=.int .i64 (zP b i)∧s'=s):=by
 refine go Tryz.func36 (k:=fun hwf H=>?_)
 refine rs (k:=rg [0,1] (k:=rs (k:=rr (k:=ro (pre:=[_,_]) (k:=rC (h:=zkd hb (a:=i) Y76 Y18) (k:=rh [5] (k:=rs (k:=rg [4] (k:=rR (k:=rP (by simp only [Tryz.f36,go_sem];rfl) hwf ⟨?_,rfl⟩))))))))))
 rfl
theorem ux {b:List Int} (hb:OkB b) (hl:b.length≤140737488351232) {n:Nat} (hn:n≤100) {s:St}:za Tryz.prog 38 [.sl .unk (b.map (PV.int .u8)),.int .i64 (n:Int)] s (fun r s'=>r=.sl .unk ((xl b n).map (PV.int .u16))∧s'=s):=by
 refine go Tryz.func38 (k:=fun hwf H=>?_)
 refine rs (k:=rg [0,1] (k:=rs (k:=rs (k:=rg [0,1,10] (k:=rc (ht:=fun hc0=>?_) (hf:=fun hc0=>?_))))))
 refine rs (k:=rg [4] (k:=rR (k:=rP (by simp only [Tryz.f38,go_sem];rfl) hwf ⟨?_,rfl⟩)))
 refine jO 1 ?_;rotate_left
 refine rk (k:=rs (k:=?_))
 have hlt:n<b.length:=Y30
 have hd1:(0≤(n:Int))=True:=eq_true Y18
 have hd2:((n:Int)≤(b.length:Int))=True:=eq_true Y18
 have htk:(((b.length:Int)-(n:Int)).toNat)=b.length-n:=Y18
 have hlm:((b.map (PV.int .u8)).drop n).take (b.length-n)=((b.drop n).map (PV.int .u8)):=by rw [List.map_drop,List.take_of_length_le Y71]
 have H:=aj hd1 (aj hd2 (aj htk (aj hlm H)))
 refine rr (k:=ro (pre:=[_,_,_]) (k:=rC (h:=zgW (b:=b.drop n) (OkB.drop hb n) Yk) (k:=rh [5] (k:=rs (k:=rg [4] (k:=rR (k:=rP (by simp only [Tryz.f38,go_sem];rfl) hwf ⟨?_,rfl⟩)))))))
 refine jO 1 ?_;rotate_left
 any_goals
  refine jI 1 ?_
  first
   |(have:b.length≤n:=by have:=of_decide_eq_true hc0;omega
     have hz:xl b n=[]:=by unfold xl;rw [List.drop_eq_nil_of_le this];rfl
     rw [hz];rfl)
   |(simp only [PV.weak,zA];rfl)
end Go.Proofs
namespace Go.Proofs
open Go.PM
set_option maxHeartbeats 2000000
theorem zk6 {x:Int}:97∈uT x↔1≤x∧x≤4∨x=5∨x=6∨x=15∨x=16∨x=22∨x=23:=by
 unfold uT
 repeat' split
 all_goals (simp only [List.mem_cons,List.not_mem_nil,Int.reduceEq,or_true,true_or,or_false,false_or,true_iff,false_iff];omega)
theorem zld {x:Int}:99∈uT x↔1≤x∧x≤4∨x=15∨x=16∨x=23:=by
 unfold uT
 repeat' split
 all_goals (simp only [List.mem_cons,List.not_mem_nil,Int.reduceEq,or_true,true_or,or_false,false_or,true_iff,false_iff];omega)
attribute [local go_sem] zf
theorem zgb {p:Prop} (h:p:=by rw [List.getElem?_map,hx];rfl):p:=h
theorem zeC {p:Prop} (h:p:=by unfold U8 at hx8;omega):p:=h
theorem znr {p:Prop} (h:p:=by have:=wn hb 3;rw [wM];unfold U16 at this;omega):p:=h
theorem znG {p:Prop} (h:p:=by have:=wn hb 5;rw [wM];unfold U16 at this;omega):p:=h
theorem zps {p:Prop} (h:p:=by show ((b.map (PV.int .u8)).drop 6).take (b.length-6)=_;rw [List.map_drop,List.take_of_length_le Y71]):p:=h
theorem zn9 {p:Prop} (h:p:=by cases b with | nil=>cases hx | cons _ _=>simp):p:=h
theorem zgi {p:Prop} (h:p:=by rw [hx];rfl):p:=h
theorem znx {p:Prop} (h:p:=by have:=of_decide_eq_true hc6;omega):p:=h
theorem zph {p:Prop} (h:p:=by have:=wn hb 3;unfold U16 at this;constructor<;>omega):p:=h
set_option maxRecDepth 100000 in
theorem zjE {b:List Int} (hb:OkB b) (hl:b.length≤140737488351232) {x:Int} (hx:b[0]? =some x) {s:St}:za Tryz.prog 83 [.sl .unk (b.map (PV.int .u8))] s (fun r s'=>r=(xM b).pv∧s'=s):=by
 refine go Tryz.func83 (k:=fun hwf H=>?_)
 have hlt:0<b.length:=zn9
 have hxx:(b.map (PV.int .u8))[0]? =some (.int .u8 x):=zgb
 have hlT:(0<b.length)=True:=eq_true hlt
 have hx8:U8 x:=hb x (List.mem_of_getElem? hx)
 have hxw:IntKind.i64.wrap x=x:=zi zeC
 have hn3:IntKind.u16.wrap (zP b 3)=zP b 3:=znr
 have hn5:IntKind.u16.wrap (zP b 5)=zP b 5:=znG
 have hi3:I64 (zP b 3):=zph
 have hm3:zP b 3≤140737488351232:=by have:=wn hb 3;unfold U16 at this;omega
 have hg0:(b[0]?).getD 0=x:=zgi
 have H:=aj hxx (aj hlT (aj hxw (aj hn3 (aj hn5 H))))
 refine rs (k:=rg [0,2] (k:=rs (k:=rg [0,2,3] (k:=rs (k:=rs (k:=rg [0,2,3,11] (k:=rb (k:=rs (k:=rg [0,2,3,11,12] (k:=rc (ht:=fun hc0=>?_) (hf:=fun hc0=>?_)))))))))))
 refine rs (k:=rg [2] (k:=rR (k:=?_)))
 refine jO 1 ?_;rotate_left
 refine rs (k:=rg [0,2,3,15] (k:=rc (ht:=fun hc1=>?_) (hf:=fun hc1=>?_)))
 refine rs (k:=rr (k:=ro (pre:=[_]) (k:=rC (h:=uC (b:=b) hb hl (a:=1) Y18 Y18) (k:=ro (pre:=[_]) (k:=rC (h:=Wm (b:=b) hb hl (n:=3) Y18) (k:=rh [2,3] (k:=rs (k:=rg [2] (k:=rR (k:=?_))))))))))
 refine jO 1 ?_;rotate_left
 refine rk (k:=rB (k:=rs (k:=rr (k:=ro (pre:=[_]) (k:=rC (h:=uC (b:=b) hb hl (a:=1) Y18 Y18) (k:=rh [0,2,3] (k:=rs (k:=rs (k:=rg [0,2,3,28] (k:=rb (k:=rs (k:=rg [0,2,3,28,32] (k:=rc (ht:=fun hc2=>?_) (hf:=fun hc2=>?_))))))))))))))
 refine rr (k:=ro (pre:=[_]) (k:=rC (h:=uC (b:=b) hb hl (a:=3) Y18 Y18) (k:=ro (pre:=[_]) (k:=rO (k:=rh [2,3] (k:=rB (k:=rs (k:=rg [2] (k:=rR (k:=?_))))))))))
 refine jO 1 ?_;rotate_left
 refine rs (k:=rg [0,2,3,28,39] (k:=rc (ht:=fun hc3=>?_) (hf:=fun hc3=>?_)))
 refine rr (k:=ro (pre:=[_]) (k:=rC (h:=Wm (b:=b) hb hl (n:=3) Y18) (k:=rh [2,3] (k:=rB (k:=rs (k:=rg [2] (k:=rR (k:=?_))))))))
 refine jO 1 ?_;rotate_left
 refine rs (k:=rg [0,2,3,28,44] (k:=rc (ht:=fun hc4=>?_) (hf:=fun hc4=>?_)))
 refine rr (k:=ro (pre:=[_]) (k:=rC (h:=uC (b:=b) hb hl (a:=3) Y18 Y18) (k:=ro (pre:=[_,_]) (k:=rC (h:=uC (b:=b) hb hl (a:=5) Y18 Y18) (k:=rh [2,3] (k:=rB (k:=rs (k:=rg [2] (k:=rR (k:=?_))))))))))
 refine jO 1 ?_;rotate_left
 refine rs (k:=rg [0,2,3,28,54] (k:=rc (ht:=fun hc5=>?_) (hf:=fun hc5=>?_)))
 refine rs (k:=rr (k:=ro (pre:=[_]) (k:=rC (h:=uC (b:=b) hb hl (a:=3) Y18 Y18) (k:=rh [0,2,3] (k:=rs (k:=rg [0,2,3,4] (k:=rs (k:=rg [0,2,3,4,62] (k:=rc (ht:=fun hc6=>?_) (hf:=fun hc6=>?_))))))))))
 have hlen:6≤b.length:=znx
 have hd1:((6:Int)≤(b.length:Int))=True:=eq_true Y18
 have htk:((b.length:Int)-6).toNat=b.length-6:=Y18
 have hlm:((b.map (PV.int .u8)).drop (6:Int).toNat).take (b.length-6)=((b.drop 6).map (PV.int .u8)):=zps
 have hd2:((0:Int)≤6)=True:=Y19
 have hd3:((6:Int)=0)=False:=Y19
 have H:=aj hd1 (aj htk (aj hlm (aj hd2 (aj hd3 H))))
 refine Run.drawC [10] [2,3] Tryz.mixed Y22 ?_
 refine zj.pre (pre:=[_,_,_,_,_]) au ?_
 refine zj.call au au au Y22 (zbz (b:=b.drop 6) (hb.drop 6) Yk hi3 (.inl hm3)) ?_
 refine zj.pre (pre:=[_,_,_,_]) au ?_
 refine zj.eff Y19 au au ?_
 refine zj.nil ?_
 refine re (k:=rB (k:=rs (k:=rg [2] (k:=rR (k:=?_)))))
 refine jO 1 ?_;rotate_left
 refine rk (k:=rB (k:=rs (k:=rg [2] (k:=rR (k:=?_)))))
 refine jO 1 ?_;rotate_left
 refine rs (k:=rg [0,2,3,28,73] (k:=rc (ht:=fun hc7=>?_) (hf:=fun hc7=>?_)))
 refine rr (k:=ro (pre:=[_]) (k:=rC (h:=uC (b:=b) hb hl (a:=3) Y18 Y18) (k:=ro (pre:=[_]) (k:=rC (h:=Wm (b:=b) hb hl (n:=6) Y18) (k:=rh [2,3] (k:=rB (k:=rs (k:=rg [2] (k:=rR (k:=?_))))))))))
 refine jO 1 ?_;rotate_left
 refine rs (k:=rg [0,2,3,81] (k:=rc (ht:=fun hc8=>?_) (hf:=fun hc8=>?_)))
 refine rr (k:=ro (pre:=[_]) (k:=rC (h:=uC (b:=b) hb hl (a:=3) Y18 Y18) (k:=ro (pre:=[_]) (k:=rC (h:=uC (b:=b) hb hl (a:=5) Y18 Y18) (k:=ro (pre:=[_]) (k:=rC (h:=Wm (b:=b) hb hl (n:=10) Y18) (k:=rh [2,3] (k:=rB (k:=rs (k:=rg [2] (k:=rR (k:=?_))))))))))))
 refine jO 1 ?_;rotate_left
 refine rr (k:=ro (pre:=[_]) (k:=rC (h:=uC (b:=b) hb hl (a:=3) Y18 Y18) (k:=rh [2,3] (k:=rB (k:=rs (k:=rg [2] (k:=rR (k:=?_))))))))
 refine jO 1 ?_;rotate_left
 any_goals
  refine jI 1 ?_
  refine Ret.pure (r':=(xM b).pv) (by simp only [Tryz.f83,go_sem,↓reduceIte]<;>rfl) ?_ (zd6 _ _) hwf Y34 ⟨rfl,rfl⟩
  refine jO 2 ?_;rotate_left
 any_goals
  refine jI 2 ?_
  simp only [PV.weak,PV.weaks,zA,zf]
  refine jO 3 ?_;rotate_left
 any_goals
  refine jI 3 ?_
  clear hxx hlT hxw hn3 hn5 H hi3 hwf hb hl hx8 hx
  refine jO 4 ?_;rotate_left
 any_goals
  refine jI 4 ?_
  simp only [decide_eq_true_eq,decide_eq_false_iff_not] at *
  refine jO 5 ?_;rotate_left
 any_goals
  refine jI 5 ?_
  try simp only [zk6,zld] at hc0 hc1
  refine jO 6 ?_;rotate_left
 any_goals
  refine jI 6 ?_
  first
   |(exfalso;omega)
   |(simp only [xM,hg0,Req.pv];simp [*];done)
   |(have h6n:¬ 6≤b.length:=by omega
     simp only [xM,hg0,Req.pv];simp [*];done)
   |(have h6n:¬ 6<b.length:=by omega
     simp only [xM,hg0,Req.pv];simp [*];done)
   |(have h6n:6<b.length:=by omega
     have h14:¬ (1≤x∧x≤4):=by omega
     simp only [xM,hg0,Req.pv];simp [*];done)
   |(have h14:1≤x∧x≤4:=by omega
     simp only [xM,hg0,Req.pv];simp [*];done)
   |(have h14:¬ (1≤x∧x≤4):=by omega
     simp only [xM,hg0,Req.pv];simp [*];done)
   | skip
attribute [local go_sem] zf
set_option maxRecDepth 100000 in
theorem zbj {b:List Int} (hb:OkB b) (hl:b.length≤140737488351232) {x:Int} (hx:b[0]? =some x) {s:St}:za Tryz.prog 39 [.sl .unk (b.map (PV.int .u8))] s (fun r s'=>r=(zC b).pv∧s'=s):=by
 refine go Tryz.func39 (k:=fun hwf H=>?_)
 have hlt:0<b.length:=zn9
 have hxx:(b.map (PV.int .u8))[0]? =some (.int .u8 x):=zgb
 have hlT:(0<b.length)=True:=eq_true hlt
 have hx8:U8 x:=hb x (List.mem_of_getElem? hx)
 have hxw:IntKind.i64.wrap x=x:=zi zeC
 have hn3:IntKind.u16.wrap (zP b 3)=zP b 3:=znr
 have hn5:IntKind.u16.wrap (zP b 5)=zP b 5:=znG
 have hi3:I64 (zP b 3):=zph
 have hm3:zP b 3≤140737488351232:=by have:=wn hb 3;unfold U16 at this;omega
 have hg0:(b[0]?).getD 0=x:=zgi
 have H:=aj hxx (aj hlT (aj hxw (aj hn3 (aj hn5 H))))
 refine rs (k:=rg [0,2] (k:=rs (k:=rg [0,2,3] (k:=rs (k:=rr (k:=ro (pre:=[_,_]) (k:=rC (h:=zcT (fn:=x)) (k:=rh [0,2,3,4] (k:=rs (k:=rs (k:=rr (k:=ro (pre:=[_]) (k:=rC (h:=xJ (vo x) (vu x)) (k:=rl [0,2,3,4,14] (k:=rc (ht:=fun hc0=>?_) (hf:=fun hc0=>?_))))))))))))))))
 refine rr (k:=ro (pre:=[_]) (k:=rC (h:=wQ (b:=b) hb hl (i:=1) Y18) (k:=rh [0,2,3,4] (k:=rs (k:=rs (k:=rr (k:=ro (pre:=[_]) (k:=rC (h:=xJ (vo x) (vu x)) (k:=rl [0,2,3,19] (k:=rc (ht:=fun hc1=>?_) (hf:=fun hc1=>?_)))))))))))
 refine rr (k:=ro (pre:=[_]) (k:=rC (h:=wQ (b:=b) hb hl (i:=3) Y18) (k:=rh [0,2,3] (k:=rs (k:=rs (k:=rg [0,2,3,24] (k:=rb (k:=rs (k:=rg [0,2,3,24,25] (k:=rc (ht:=fun hc2=>?_) (hf:=fun hc2=>?_)))))))))))
 refine jO 1 ?_;rotate_left
 refine rs (k:=rg [0,2,3,24,32] (k:=rc (ht:=fun hc3=>?_) (hf:=fun hc3=>?_)))
 refine jO 2 ?_;rotate_left
 refine rs (k:=rg [0,2,3,24,37] (k:=rc (ht:=fun hc4=>?_) (hf:=fun hc4=>?_)))
 refine jO 3 ?_;rotate_left
 refine rs (k:=rg [0,2,3,24,45] (k:=rc (ht:=fun hc5=>?_) (hf:=fun hc5=>?_)))
 refine rs (k:=rg [0,2,3,49] (k:=rc (ht:=fun hc6=>?_) (hf:=fun hc6=>?_)))
 have hlen:6≤b.length:=znx
 have hd1:((6:Int)≤(b.length:Int))=True:=eq_true Y18
 have htk:((b.length:Int)-6).toNat=b.length-6:=Y18
 have hlm:((b.map (PV.int .u8)).drop (6:Int).toNat).take (b.length-6)=((b.drop 6).map (PV.int .u8)):=zps
 have hd2:((0:Int)≤6)=True:=Y19
 have hd3:((6:Int)=0)=False:=Y19
 have H:=aj hd1 (aj htk (aj hlm (aj hd2 (aj hd3 H))))
 refine Run.drawC [9] [2,3] Tryz.mixed Y22 ?_
 refine zj.pre (pre:=[_,_,_,_]) au ?_
 refine zj.call au au au Y22 (Ua (b:=b.drop 6) (hb.drop 6) Yk hi3 (.inl hm3)) ?_
 refine zj.pre (pre:=[_,_,_,_]) au ?_
 refine zj.eff Y19 au au ?_
 refine zj.nil ?_
 refine re (k:=rB (k:=rs (k:=rg [2] (k:=rR (k:=?_)))))
 refine jO 4 ?_;rotate_left
 refine jO 5 ?_;rotate_left
 refine jO 6 ?_;rotate_left
 refine jO 7 ?_;rotate_left
 refine rk (k:=rs (k:=rs (k:=rr (k:=ro (pre:=[_]) (k:=rC (h:=xJ (vo x) (vu x)) (k:=rl [0,2,3,19] (k:=rc (ht:=fun hc1=>?_) (hf:=fun hc1=>?_))))))))
 refine rr (k:=ro (pre:=[_]) (k:=rC (h:=wQ (b:=b) hb hl (i:=3) Y18) (k:=rh [0,2,3] (k:=rs (k:=rs (k:=rg [0,2,3,24] (k:=rb (k:=rs (k:=rg [0,2,3,24,25] (k:=rc (ht:=fun hc2=>?_) (hf:=fun hc2=>?_)))))))))))
 refine jO 1 ?_;rotate_left
 refine jO 8 ?_;rotate_left
 refine jO 7 ?_;rotate_left
 any_goals
  refine jI 7 ?_
  refine rk (k:=rs (k:=rs (k:=rg [0,2,3,24] (k:=rb (k:=rs (k:=rg [0,2,3,24,25] (k:=rc (ht:=fun hc2=>?_) (hf:=fun hc2=>?_))))))))
  refine jO 1 ?_;rotate_left
  refine jO 8 ?_;rotate_left
 any_goals
  refine jI 8 ?_
  refine rs (k:=rg [0,2,3,24,32] (k:=rc (ht:=fun hc3=>?_) (hf:=fun hc3=>?_)))
  refine jO 2 ?_;rotate_left
  refine jO 9 ?_;rotate_left
 any_goals
  refine jI 9 ?_
  refine rs (k:=rg [0,2,3,24,37] (k:=rc (ht:=fun hc4=>?_) (hf:=fun hc4=>?_)))
  refine jO 3 ?_;rotate_left
  refine jO 10 ?_;rotate_left
 any_goals
  refine jI 10 ?_
  refine rs (k:=rg [0,2,3,24,45] (k:=rc (ht:=fun hc5=>?_) (hf:=fun hc5=>?_)))
  refine jO 11 ?_;rotate_left
  refine jO 6 ?_;rotate_left
 any_goals
  refine jI 6 ?_
  refine rs (k:=rg [0,2,3,24,59] (k:=rc (ht:=fun hc7=>?_) (hf:=fun hc7=>?_)))
  refine jO 12 ?_;rotate_left
  refine jO 13 ?_;rotate_left
 any_goals
  refine jI 13 ?_
  refine rs (k:=rg [0,2,3,24,64] (k:=rc (ht:=fun hc8=>?_) (hf:=fun hc8=>?_)))
  refine jO 14 ?_;rotate_left
  refine jO 15 ?_;rotate_left
 any_goals
  refine jI 15 ?_
  refine rs (k:=rg [0,2,3,74] (k:=rc (ht:=fun hc9=>?_) (hf:=fun hc9=>?_)))
  refine jO 16 ?_;rotate_left
  refine jO 5 ?_;rotate_left
 any_goals
  refine jI 11 ?_
  refine rs (k:=rg [0,2,3,49] (k:=rc (ht:=fun hc6=>?_) (hf:=fun hc6=>?_)))
  ·exfalso
   simp only [zk6,zld,decide_eq_true_eq,decide_eq_false_iff_not] at *
   omega
  refine jO 5 ?_;rotate_left
 any_goals
  refine jI 14 ?_
  refine rr (k:=ro (pre:=[_]) (k:=rC (h:=wQ (b:=b) hb hl (i:=3) Y18) (k:=ro (pre:=[_,_]) (k:=rC (h:=wQ (b:=b) hb hl (i:=5) Y18) (k:=rh [2,3] (k:=rB (k:=rs (k:=rg [2] (k:=rR (k:=?_))))))))))
  refine jO 4 ?_;rotate_left
 any_goals
  refine jI 16 ?_
  refine rr (k:=ro (pre:=[_]) (k:=rC (h:=wQ (b:=b) hb hl (i:=5) Y18) (k:=ro (pre:=[_]) (k:=rC (h:=ux (b:=b) hb hl (n:=10) Y18) (k:=rh [2,3] (k:=rB (k:=rs (k:=rg [2] (k:=rR (k:=?_))))))))))
  refine jO 4 ?_;rotate_left
 any_goals
  refine jI 3 ?_
  refine rr (k:=ro (pre:=[_]) (k:=rC (h:=wQ (b:=b) hb hl (i:=1) Y18) (k:=ro (pre:=[_]) (k:=rC (h:=ux (b:=b) hb hl (n:=3) Y18) (k:=rh [2,3] (k:=rB (k:=rs (k:=rg [2] (k:=rR (k:=?_))))))))))
  refine jO 4 ?_;rotate_left
 any_goals
  refine jI 1 ?_
  refine rr (k:=ro (pre:=[_]) (k:=rC (h:=wQ (b:=b) hb hl (i:=3) Y18) (k:=ro (pre:=[_]) (k:=rO (k:=rh [2,3] (k:=rB (k:=rs (k:=rg [2] (k:=rR (k:=?_))))))))))
  refine jO 4 ?_;rotate_left
 any_goals
  refine jI 2 ?_
  refine rr (k:=ro (pre:=[_]) (k:=rC (h:=ux (b:=b) hb hl (n:=3) Y18) (k:=rh [2,3] (k:=rB (k:=rs (k:=rg [2] (k:=rR (k:=?_))))))))
  refine jO 4 ?_;rotate_left
 any_goals
  refine jI 12 ?_
  refine rr (k:=ro (pre:=[_]) (k:=rC (h:=ux (b:=b) hb hl (n:=6) Y18) (k:=rh [2,3] (k:=rB (k:=rs (k:=rg [2] (k:=rR (k:=?_))))))))
  refine jO 4 ?_;rotate_left
 any_goals
  refine jI 5 ?_
  refine rk (k:=rB (k:=rs (k:=rg [2] (k:=rR (k:=?_)))))
  refine jO 4 ?_;rotate_left
 any_goals
  refine jI 4 ?_
  refine Ret.pure (r':=(zC b).pv) (by simp only [Tryz.f39,go_sem,↓reduceIte]<;>rfl) ?_ (zd6 _ _) hwf Y34 ⟨rfl,rfl⟩
  refine jO 17 ?_;rotate_left
 any_goals
  refine jI 17 ?_
  simp only [PV.weak,PV.weaks,zA,zf]
  refine jO 18 ?_;rotate_left
 any_goals
  refine jI 18 ?_
  clear hxx hlT hxw hn3 hn5 H hi3 hwf hb hl hx8 hx
  refine jO 19 ?_;rotate_left
 any_goals
  refine jI 19 ?_
  simp only [decide_eq_true_eq,decide_eq_false_iff_not] at *
  refine jO 20 ?_;rotate_left
 any_goals
  refine jI 20 ?_
  try simp only [zk6,zld] at hc0 hc1
  refine jO 21 ?_;rotate_left
 any_goals
  refine jI 21 ?_
  first
   |(exfalso;omega)
   |(simp only [zC,hg0,Req.pv];simp [*];done)
   |(have h6n:¬ 6≤b.length:=by omega
     simp only [zC,hg0,Req.pv];simp [*];done)
   |(have h6n:¬ 6<b.length:=by omega
     simp only [zC,hg0,Req.pv];simp [*];done)
   |(have h6n:6<b.length:=by omega
     have h14:¬ (1≤x∧x≤4):=by omega
     simp only [zC,hg0,Req.pv];simp [*];done)
   |(have h14:1≤x∧x≤4:=by omega
     simp only [zC,hg0,Req.pv];simp [*];done)
   |(have h14:¬ (1≤x∧x≤4):=by omega
     simp only [zC,hg0,Req.pv];simp [*];done)
   | skip
attribute [local go_sem] zf Req.pv
theorem Zz {q:Req} (hq:q.ok) {s:St}:za Tryz.prog 13 [q.pv] s (fun r s'=>r=.tuple [.sl .unk ((zL q).map (PV.int .u8)),.int .i64 (zD q)]∧s'=s):=by
 refine go Tryz.func13 (k:=fun hwf H=>?_)
 refine rs (k:=rg [1] (k:=rs (k:=rs (k:=rr (k:=ro (pre:=[_]) (k:=rC (h:=zgS (q:=q)) (k:=rh [1,4] (k:=rs (k:=rg [1,4,8] (k:=rc (ht:=fun hc0=>?_) (hf:=fun hc0=>?_)))))))))))
 refine rs (k:=rg [2,3] (k:=rR (k:=rP (by simp only [Tryz.f13,go_sem];rfl) hwf ⟨?_,rfl⟩)))
 refine jO 1 ?_;rotate_left
 refine rk (k:=rs (k:=?_))
 have hr0:zD q=0:=Y85
 refine rr (k:=ro (pre:=[_]) (k:=rC (h:=zbS hq hr0) (k:=rh [2,3] (k:=rR (k:=rP (by simp only [Tryz.f13,go_sem];rfl) hwf ⟨?_,rfl⟩)))))
 refine jO 1 ?_;rotate_left
 any_goals
  refine jI 1 ?_
  first
   |(have hr1:¬ zD q=0:=by simpa using hc0
     unfold zL
     rw [if_neg hr1];rfl)
   |(unfold zL
     rw [if_pos hr0,hr0];simp only [PV.weak,PV.weaks,zB])
attribute [local go_sem] zf Req.pv
theorem zpR {p:Prop} (h:p:=by simp at hc0;cases b with | nil=>exact absurd rfl hc0 | cons _ _=>simp):p:=h
theorem zfE {b:List Int} (hb:OkB b) (hl:b.length≤140737488351232) {s:St}:za Tryz.prog 61 [.sl .unk (b.map (PV.int .u8))] s (fun r s'=>r=.tuple [(xx b).1.pv,.int .i64 (xx b).2]∧s'=s):=by
 refine go Tryz.func61 (k:=fun hwf H=>?_)
 refine rs (k:=rg [0,2] (k:=rs (k:=rb (k:=rs (k:=rg [0,2,7] (k:=rc (ht:=fun hc0=>?_) (hf:=fun hc0=>?_)))))))
 refine jO 1 ?_;rotate_left
 refine rs (k:=?_)
 have hlt:0<b.length:=zpR
 obtain ⟨x,hx⟩:∃ x,b[0]? =some x:=⟨b[0],List.getElem?_eq_getElem hlt⟩
 have hxx:(b.map (PV.int .u8))[0]? =some (.int .u8 x):=zgb
 have hlT:(0<b.length)=True:=eq_true hlt
 have hx8:U8 x:=hb x (List.mem_of_getElem? hx)
 have hxw:IntKind.i64.wrap x=x:=zi zeC
 have hg0:(b[0]?).getD 0=x:=zgi
 have hbl:(zL (xM b)).length<140737488355328:=zg7 _
 have H:=aj hxx (aj hlT (aj hxw H))
 refine rr (k:=ro (pre:=[_,_,_,_]) (k:=rC (h:=VV (fn:=x)) (k:=rh [0,2,12] (k:=rc (ht:=fun hc1=>?_) (hf:=fun hc1=>?_)))))
 refine jO 1 ?_;rotate_left
 refine rk (k:=rB (k:=rs (k:=rr (k:=ro (pre:=[_]) (k:=rC (h:=zjE hb hl hx) (k:=rh [0,2,4] (k:=rs (k:=rs (k:=rr (k:=ro (pre:=[_]) (k:=rC (h:=zde (zc4 hb hl)) (k:=rh [0,2,4,5,6] (k:=rs (k:=rr (k:=ro (pre:=[_,_,_,_,_]) (k:=rG (h:=fun hb=>XW (xs:=zL (xM b)) (ys:=b) hbl) (k:=?_)))))))))))))))))
 refine rh [2,4,34] (k:=rc (ht:=fun hc2=>?_) (hf:=fun hc2=>?_))
 refine jO 1 ?_;rotate_left
 refine rk (k:=rs (k:=rg [2,3] (k:=rR (k:=?_))))
 refine jO 2 ?_;rotate_left
 any_goals
  refine jI 1 ?_
  refine rs (k:=rg [2,3] (k:=rR (k:=?_)))
  refine jO 2 ?_;rotate_left
 any_goals
  refine jI 2 ?_
  refine Ret.pure (r':=.tuple [(xx b).1.pv,.int .i64 (xx b).2]) (by simp only [Tryz.f61,go_sem,↓reduceIte]<;>rfl) ?_ (by simp only [PV.blw,PV.blws,and_true,true_and];exact zd6 _ _) hwf Y34 ⟨rfl,rfl⟩
  refine jO 3 ?_;rotate_left
 any_goals
  refine jI 3 ?_
  simp only [PV.weak,PV.weaks,zf,zA]
  refine jO 4 ?_;rotate_left
 any_goals
  refine jI 4 ?_
  first
   |(have h0:b=[]:=by simp at hc0;exact hc0
     unfold xx;rw [if_pos h0];rfl)
   |(have h0:¬ b=[]:=by intro h;rw [h] at hlt;cases hlt
     have h1:xO x=false:=by simpa using hc1
     unfold xx;rw [if_neg h0,hg0,if_pos h1];rfl)
   |(have h0:¬ b=[]:=by intro h;rw [h] at hlt;cases hlt
     have h1:¬ xO x=false:=by simpa using hc1
     have h2:¬ (zD (xM b)=0∧yF (xM b)=b):=by
      rintro ⟨e1,e2⟩
      have e3:zL (xM b)=b:=by unfold zL;rw [if_pos e1,e2]
      simp [e1,e3] at hc2
     unfold xx;rw [if_neg h0,hg0,if_neg h1,if_neg h2];rfl)
   |(have h0:¬ b=[]:=by intro h;rw [h] at hlt;cases hlt
     have h1:¬ xO x=false:=by simpa using hc1
     have h2:zD (xM b)=0∧yF (xM b)=b:=by
      simp at hc2
      have e1:=hc2.1
      have e3:=hc2.2
      unfold zL at e3
      rw [if_pos e1] at e3
      exact ⟨e1,e3⟩
     unfold xx;rw [if_neg h0,hg0,if_neg h1,if_pos h2];rfl)
end Go.Proofs
namespace Go.Proofs
open Go.PM
set_option maxHeartbeats 2000000
theorem zhv {xs ys:List Bool} (nx:xs.length<140737488355328) {s:St}:za Tryz.prog 119 [.sl .unk (xs.map PV.bool),.sl .unk (ys.map PV.bool)] s (fun r s'=>r=.bool (decide (xs=ys))∧s'=s):=by
 refine go Tryz.func119 (k:=fun hwf H=>?_)
 refine rs (k:=rg [0,1] (k:=rs (k:=rs (k:=rg [0,1,10] (k:=rc (ht:=fun hc0=>?_) (hf:=fun hc0=>?_))))))
 refine jO 1 ?_;rotate_left
 refine rk (k:=rs (k:=rs (k:=?_)))
 have hlen:xs.length=ys.length:=Y78
 refine rg [0,1,12,13] (k:=rb (k:=?_))
 refine Run.loop (fun e s'=>s'=s∧∃ i:Nat,e=[(0,.sl .unk (xs.map PV.bool)),(1,.sl .unk (ys.map PV.bool)),(12,.int .i64 xs.length),(13,.int .i64 i)]∧i≤xs.length∧xs.take i=ys.take i) (fun e s'=>xs.length-xB e 13) ?_ ?_
 ·exact zgc
 rintro e s' ⟨hs,i,rfl,hi,hbe⟩
 subst s'
 refine rs (k:=rg [0,1,12,13,14] (k:=rs (k:=rc (ht:=fun hc1=>?_) (hf:=fun hc1=>?_))))
 refine rk (k:=rs (k:=rb (k:=rs (k:=?_))))
 have hil:i<xs.length:=Y79
 have hjl:i<ys.length:=Y18
 obtain ⟨x,hxe⟩:∃ z_,xs[i]'hil=z_:=⟨_,rfl⟩
 have hxx:(xs.map PV.bool)[i]? =some (.bool x):=Y80
 obtain ⟨y,hye⟩:∃ z_,ys[i]'hjl=z_:=⟨_,rfl⟩
 have hxy:(ys.map PV.bool)[i]? =some (.bool y):=zj2
 have hw:IntKind.i64.wrap ((i:Int)+1)=((i+1:Nat):Int):=Y24
 have H:=aj hxx (aj hxy (aj hw H))
 refine rg [0,1,5,12,13] (k:=rs (k:=?_))
 refine Run.drawC [] [0,1,12,13,24] Tryz.mixed Y22 ?_
 refine zj.all au ?_
 refine re (k:=rc (ht:=fun hc2=>?_) (hf:=fun hc2=>?_))
 refine jO 1 ?_;rotate_left
 ·exact Y25
 refine rX (k:=rs (k:=rg [4] (k:=rR (k:=rP (by simp only [Tryz.f119,go_sem];rfl) hwf ⟨?_,rfl⟩))))
 refine jO 2 ?_;rotate_left
 any_goals
  refine jI 1 ?_
  refine rs (k:=rg [4] (k:=rR (k:=rP (by simp only [Tryz.f119,go_sem];rfl) hwf ⟨?_,rfl⟩)))
  refine jO 2 ?_;rotate_left
 any_goals
  refine jI 2 ?_
  first
   |(have hne:xs≠ys:=by rintro rfl;simp at hc0
     rw [decide_eq_false hne];rfl)
   |(have hne:xs≠ys:=by
      rintro rfl
      rw [hxe] at hye
      subst hye
      simp at hc2
     rw [decide_eq_false hne];rfl)
   |(have hlen:xs.length=ys.length:=by simp at hc0;omega
     have:i=xs.length:=by have:=of_decide_eq_false hc1;omega
     rw [this,List.take_length,hlen,List.take_length] at hbe
     rw [decide_eq_true hbe];rfl)
theorem Xd {n:Int} {s:St}:za Tryz.prog 102 [.int .i64 n] s (fun r s'=>r=.bool (xD n)∧s'=s):=by
 refine go Tryz.func102 (k:=fun hwf H=>?_)
 refine rs (k:=rg [0] (k:=rs (k:=rg [2] (k:=rR (k:=rP (by simp only [Tryz.f102,go_sem];rfl) hwf ⟨?_,rfl⟩)))))
 unfold xD;by_cases h1:0≤n<;>by_cases h2:n≤65535<;>simp [h1,h2,PV.weak]
attribute [local go_sem] zf Rep.pv
set_option maxRecDepth 100000 in
theorem zbo {a b:Rep} (ha:a.ok) {s:St}:za Tryz.prog 100 [a.pv,b.pv] s (fun r s'=>r=.bool (decide (a=b))∧s'=s):=by
 refine go Tryz.func100 (k:=fun hwf H=>?_)
 refine rs (k:=rg [2,3] (k:=rs (k:=rrA [some 5,some 6,some 7,some 8,some 9,some 10,some 11,some 12,some 13,some 14,some 15,some 16,some 17,some 18,some 19,some 20,some 21,some 22,some 23,some 24,some 25,some 26,some 27,some 28,some 29,some 30,some 31,some 32,some 33,some 34,some 35,some 36,some 37,some 38,some 39,some 40,some 41,some 42,some 43,some 44,some 45,some 46,some 47,some 48,some 49,some 50,some 51,some 52,some 53,some 54,some 55,some 56,some 57,some 58,some 59,some 60,some 61,some 62,some 63,some 64,some 65,some 66,some 67,some 68,some 69,some 70,some 71,some 72,some 4] (k:=fun ops hops=>?_))))
 have H:=aj hops H
 refine ro (pre:=[_,_,_,_,_,_,_,_,_,_,_,_,_,_,_,_,_,_,_,_,_,_,_,_,_,_,_,_,_,_,_,_,_,_,_,_,_,_,_,_,_,_,_,_,_,_,_,_,_,_,_,_]) (k:=rG (h:=fun hb=>zhv (xs:=a.bits) (ys:=b.bits) (by have:=ha.nb;omega)) (k:=ro (pre:=[_,_,_,_,_,_]) (k:=rG (h:=fun hb=>ziV (xs:=a.vals) (ys:=b.vals) (by have:=ha.nv;omega)) (k:=?_))))
 refine ro (pre:=[_,_,_,_,_,_]) (k:=rG (h:=fun hb=>XW (xs:=a.data) (ys:=b.data) (by have:=ha.nd;omega)) (k:=rh [4] (k:=rR (k:=rP (by simp only [Tryz.f100,go_sem];rfl) hwf ⟨?_,rfl⟩))))
 simp only [PV.weak]
 congr 1
 rw [Bool.eq_iff_iff]
 simp only [Bool.and_eq_true,decide_eq_true_eq]
 constructor
 ·intro h
  cases a;cases b
  simp_all
 ·intro h
  subst h
  simp
theorem yf {fn code:Int} (hf:I64 fn) (hc:I64 code) {s:St}:za Tryz.prog 62 [.int .i64 fn,.int .i64 code] s (fun r s'=>r=(zE fn code).pv∧s'=s):=by
 refine go Tryz.func62 (k:=fun hwf H=>?_)
 have zgz:zR .and .i64 fn 127=fn%128:=VT fn
 have and255:zR .and .i64 code 255=code%256:=VW code
 have H:=aj zgz (aj and255 H)
 have H:=aj zgz (aj and255 H)
 refine rs (k:=rg [0,1,4] (k:=rs (k:=rg [4] (k:=rR (k:=rP (by simp only [Tryz.f62,go_sem];rfl) hwf ⟨?_,rfl⟩)))))
 rfl
attribute [local go_sem] zf Req.pv
theorem zmT {p:Prop} (h:p:=by exact Bool.noConfusion (hc3.symm.trans hc4)):p:=h
theorem znm {p:Prop} (h:p:=by simp only [Tryz.f109,go_sem];rfl):p:=h
set_option maxRecDepth 100000 in
theorem za1 {q:Req} {s:St}:za Tryz.prog 109 [q.pv] s (fun r s'=>r=.bool (yu q)∧s'=s):=by
 refine go Tryz.func109 (k:=fun hwf H=>?_)
 refine rs (k:=rg [1] (k:=rs (k:=rs (k:=rr (k:=ro (pre:=[_]) (k:=rC (h:=Ym (q:=q)) (k:=rh [1,6] (k:=rc (ht:=fun hc0=>?_) (hf:=fun hc0=>?_)))))))))
 refine jO 1 ?_;rotate_left
 refine rk (k:=rs (k:=rg [1] (k:=rs (k:=rs (k:=rg [1,8] (k:=rb (k:=rs (k:=rs (k:=rg [1,8,9] (k:=rc (ht:=fun hc1=>?_) (hf:=fun hc1=>?_)))))))))))
 refine rk (k:=rc (ht:=fun hc2=>?_) (hf:=fun hc2=>?_))
 refine jO 2 ?_;rotate_left
 ·exact zjm
 refine rg [1,8,9] (k:=rc (ht:=fun hc2=>?_) (hf:=fun hc2=>?_))
 refine jO 2 ?_;rotate_left
 refine rs (k:=rs (k:=rg [1,8,12] (k:=rc (ht:=fun hc3=>?_) (hf:=fun hc3=>?_))))
 refine rk (k:=rc (ht:=fun hc4=>?_) (hf:=fun hc4=>?_))
 refine jO 2 ?_;rotate_left
 ·exact zmT
 refine rg [1,8,12] (k:=rc (ht:=fun hc4=>?_) (hf:=fun hc4=>?_))
 refine jO 2 ?_;rotate_left
 refine rs (k:=rg [1,8,15] (k:=rc (ht:=fun hc5=>?_) (hf:=fun hc5=>?_)))
 refine jO 2 ?_;rotate_left
 refine rs (k:=rg [1,8,17] (k:=rc (ht:=fun hc6=>?_) (hf:=fun hc6=>?_)))
 refine jO 2 ?_;rotate_left
 refine rs (k:=rg [1,19] (k:=rc (ht:=fun hc7=>?_) (hf:=fun hc7=>?_)))
 refine rs (k:=rs (k:=rg [1,30] (k:=rc (ht:=fun hc8=>?_) (hf:=fun hc8=>?_))))
 refine jO 1 ?_;rotate_left
 refine rk (k:=rg [1,3] (k:=rB (k:=rs (k:=rg [2] (k:=rR (k:=rP znm hwf ⟨?_,rfl⟩))))))
 refine jO 3 ?_;rotate_left
 refine jO 1 ?_;rotate_left
 any_goals
  refine jI 2 ?_
  refine rg [1,3] (k:=rB (k:=rs (k:=rg [2] (k:=rR (k:=rP znm hwf ⟨?_,rfl⟩)))))
  refine jO 3 ?_;rotate_left
 any_goals
  refine jI 1 ?_
  refine rs (k:=rg [2] (k:=rR (k:=rP znm hwf ⟨?_,rfl⟩)))
  refine jO 3 ?_;rotate_left
 any_goals
  refine jI 3 ?_
  simp only [PV.weak]
  refine jO 4 ?_;rotate_left
 any_goals
  refine jI 4 ?_
  congr 1
  refine jO 5 ?_;rotate_left
 any_goals
  refine jI 5 ?_
  unfold yu
  refine jO 6 ?_;rotate_left
 any_goals
  refine jI 6 ?_
  simp only [Bool.not_eq_true',Bool.not_eq_false',Bool.or_eq_true,Bool.or_eq_false_iff,decide_eq_true_eq,decide_eq_false_iff_not] at *
  refine jO 7 ?_;rotate_left
 any_goals
  refine jI 7 ?_
  rw [Bool.eq_iff_iff]
  refine jO 8 ?_;rotate_left
 any_goals
  refine jI 8 ?_
  simp only [Bool.and_eq_true,decide_eq_true_eq,Bool.false_eq_true,false_iff,true_iff]
  refine jO 9 ?_;rotate_left
 any_goals
  refine jI 9 ?_
  first
   | omega
   |(simp only [*,Int.reduceEq,or_true,true_or,or_self,if_true,if_false,true_and,and_true,false_and,and_false,not_false_eq_true,ite_true,ite_false];first | done | omega)
   | skip
end Go.Proofs
namespace Go.Proofs
open Go.PM
set_option maxHeartbeats 2000000
attribute [local go_sem] ye zf Rep.pv
theorem znl {p:Prop} (h:p:=by exact Bool.noConfusion (hc2.symm.trans hc4)):p:=h
set_option maxRecDepth 100000 in
theorem zi4 {r:Rep} {s:St}:za Tryz.prog 101 [r.pv] s (fun v s'=>v=.tuple [(if xO r.fn=true then Xq r else zeroP).pv,.bool (xO r.fn)]∧s'=s):=by
 refine go Tryz.func101 (k:=fun hwf H=>?_)
 refine rs (k:=rg [1,2] (k:=rs (k:=rg [1,2] (k:=rs (k:=rs (k:=rg [1,2,8] (k:=rb (k:=rs (k:=rs (k:=rg [1,2,8,10] (k:=rc (ht:=fun hc0=>?_) (hf:=fun hc0=>?_))))))))))))
 refine rk (k:=rc (ht:=fun hc1=>?_) (hf:=fun hc1=>?_))
 refine jO 1 ?_;rotate_left
 ·exact zlW
 refine rg [1,2,8,10] (k:=rc (ht:=fun hc1=>?_) (hf:=fun hc1=>?_))
 refine jO 1 ?_;rotate_left
 refine rs (k:=rs (k:=rg [1,2,8,16] (k:=rc (ht:=fun hc2=>?_) (hf:=fun hc2=>?_))))
 refine rk (k:=rc (ht:=fun hc4=>?_) (hf:=fun hc4=>?_))
 refine jO 1 ?_;rotate_left
 ·exact znl
 refine rs (k:=rg [1,2,8,16] (k:=rc (ht:=fun hc3=>?_) (hf:=fun hc3=>?_)))
 refine rk (k:=rc (ht:=fun hc4=>?_) (hf:=fun hc4=>?_))
 refine jO 1 ?_;rotate_left
 ·exact zmT
 refine rg [1,2,8,16] (k:=rc (ht:=fun hc4=>?_) (hf:=fun hc4=>?_))
 refine jO 1 ?_;rotate_left
 refine rs (k:=rg [1,2,8,23] (k:=rc (ht:=fun hc5=>?_) (hf:=fun hc5=>?_)))
 refine Run.drawM 8 [5,7] [((((s.new (.row 52 [.agg [.int .i64 r.fn,.int .i64 r.code,.int .i64 r.at_,.int .i64 r.count,.int .i64 r.sub,.sl .unk (r.bits.map PV.bool),.sl .unk (r.vals.map (PV.int .u16)),.int .u16 r.and_,.int .u16 r.or_,.sl .unk (r.data.map (PV.int .u8))]]))).new (.row 52 [.agg [.int .i64 0,.int .i64 0,.int .i64 0,.int .i64 0,.int .i64 0,.sl .nil [],.sl .nil [],.int .u16 0,.int .u16 0,.sl .nil []]])).set (s.nxt+1) (some (.row 52 [.agg [.int .i64 r.fn,.int .i64 0,.int .i64 0,.int .i64 0,.int .i64 0,.sl .nil [],.sl .nil [],.int .u16 0,.int .u16 0,.sl .nil []]]))),((((s.new (.row 52 [.agg [.int .i64 r.fn,.int .i64 r.code,.int .i64 r.at_,.int .i64 r.count,.int .i64 r.sub,.sl .unk (r.bits.map PV.bool),.sl .unk (r.vals.map (PV.int .u16)),.int .u16 r.and_,.int .u16 r.or_,.sl .unk (r.data.map (PV.int .u8))]]))).new (.row 52 [.agg [.int .i64 0,.int .i64 0,.int .i64 0,.int .i64 0,.int .i64 0,.sl .nil [],.sl .nil [],.int .u16 0,.int .u16 0,.sl .nil []]])).set (s.nxt+1) (some (.row 52 [.agg [.int .i64 r.fn,.int .i64 0,.int .i64 r.at_,.int .i64 0,.int .i64 0,.sl .nil [],.sl .nil [],.int .u16 0,.int .u16 0,.sl .nil []]]))),((((s.new (.row 52 [.agg [.int .i64 r.fn,.int .i64 r.code,.int .i64 r.at_,.int .i64 r.count,.int .i64 r.sub,.sl .unk (r.bits.map PV.bool),.sl .unk (r.vals.map (PV.int .u16)),.int .u16 r.and_,.int .u16 r.or_,.sl .unk (r.data.map (PV.int .u8))]]))).new (.row 52 [.agg [.int .i64 0,.int .i64 0,.int .i64 0,.int .i64 0,.int .i64 0,.sl .nil [],.sl .nil [],.int .u16 0,.int .u16 0,.sl .nil []]])).set (s.nxt+1) (some (.row 52 [.agg [.int .i64 r.fn,.int .i64 0,.int .i64 r.at_,.int .i64 0,.int .i64 0,.sl .unk (r.bits.map PV.bool),.sl .nil [],.int .u16 0,.int .u16 0,.sl .nil []]])))] Tryz.mixed Y22 Y22 ?_
 refine jO 2 ?_;rotate_left
 refine rs (k:=rg [1,2,8,31] (k:=rc (ht:=fun hc6=>?_) (hf:=fun hc6=>?_)))
 refine Run.drawM 8 [5,7] [((((s.new (.row 52 [.agg [.int .i64 r.fn,.int .i64 r.code,.int .i64 r.at_,.int .i64 r.count,.int .i64 r.sub,.sl .unk (r.bits.map PV.bool),.sl .unk (r.vals.map (PV.int .u16)),.int .u16 r.and_,.int .u16 r.or_,.sl .unk (r.data.map (PV.int .u8))]]))).new (.row 52 [.agg [.int .i64 0,.int .i64 0,.int .i64 0,.int .i64 0,.int .i64 0,.sl .nil [],.sl .nil [],.int .u16 0,.int .u16 0,.sl .nil []]])).set (s.nxt+1) (some (.row 52 [.agg [.int .i64 r.fn,.int .i64 0,.int .i64 0,.int .i64 0,.int .i64 0,.sl .nil [],.sl .nil [],.int .u16 0,.int .u16 0,.sl .nil []]]))),((((s.new (.row 52 [.agg [.int .i64 r.fn,.int .i64 r.code,.int .i64 r.at_,.int .i64 r.count,.int .i64 r.sub,.sl .unk (r.bits.map PV.bool),.sl .unk (r.vals.map (PV.int .u16)),.int .u16 r.and_,.int .u16 r.or_,.sl .unk (r.data.map (PV.int .u8))]]))).new (.row 52 [.agg [.int .i64 0,.int .i64 0,.int .i64 0,.int .i64 0,.int .i64 0,.sl .nil [],.sl .nil [],.int .u16 0,.int .u16 0,.sl .nil []]])).set (s.nxt+1) (some (.row 52 [.agg [.int .i64 r.fn,.int .i64 0,.int .i64 r.at_,.int .i64 0,.int .i64 0,.sl .nil [],.sl .nil [],.int .u16 0,.int .u16 0,.sl .nil []]]))),((((s.new (.row 52 [.agg [.int .i64 r.fn,.int .i64 r.code,.int .i64 r.at_,.int .i64 r.count,.int .i64 r.sub,.sl .unk (r.bits.map PV.bool),.sl .unk (r.vals.map (PV.int .u16)),.int .u16 r.and_,.int .u16 r.or_,.sl .unk (r.data.map (PV.int .u8))]]))).new (.row 52 [.agg [.int .i64 0,.int .i64 0,.int .i64 0,.int .i64 0,.int .i64 0,.sl .nil [],.sl .nil [],.int .u16 0,.int .u16 0,.sl .nil []]])).set (s.nxt+1) (some (.row 52 [.agg [.int .i64 r.fn,.int .i64 0,.int .i64 r.at_,.int .i64 0,.int .i64 0,.sl .nil [],.sl .unk (r.vals.map (PV.int .u16)),.int .u16 0,.int .u16 0,.sl .nil []]])))] Tryz.mixed Y22 Y22 ?_
 refine jO 2 ?_;rotate_left
 refine rs (k:=rg [1,2,8,39] (k:=rc (ht:=fun hc7=>?_) (hf:=fun hc7=>?_)))
 refine Run.drawM 8 [5,7] [((((s.new (.row 52 [.agg [.int .i64 r.fn,.int .i64 r.code,.int .i64 r.at_,.int .i64 r.count,.int .i64 r.sub,.sl .unk (r.bits.map PV.bool),.sl .unk (r.vals.map (PV.int .u16)),.int .u16 r.and_,.int .u16 r.or_,.sl .unk (r.data.map (PV.int .u8))]]))).new (.row 52 [.agg [.int .i64 0,.int .i64 0,.int .i64 0,.int .i64 0,.int .i64 0,.sl .nil [],.sl .nil [],.int .u16 0,.int .u16 0,.sl .nil []]])).set (s.nxt+1) (some (.row 52 [.agg [.int .i64 r.fn,.int .i64 0,.int .i64 0,.int .i64 0,.int .i64 0,.sl .nil [],.sl .nil [],.int .u16 0,.int .u16 0,.sl .nil []]]))),((((s.new (.row 52 [.agg [.int .i64 r.fn,.int .i64 r.code,.int .i64 r.at_,.int .i64 r.count,.int .i64 r.sub,.sl .unk (r.bits.map PV.bool),.sl .unk (r.vals.map (PV.int .u16)),.int .u16 r.and_,.int .u16 r.or_,.sl .unk (r.data.map (PV.int .u8))]]))).new (.row 52 [.agg [.int .i64 0,.int .i64 0,.int .i64 0,.int .i64 0,.int .i64 0,.sl .nil [],.sl .nil [],.int .u16 0,.int .u16 0,.sl .nil []]])).set (s.nxt+1) (some (.row 52 [.agg [.int .i64 r.fn,.int .i64 0,.int .i64 0,.int .i64 0,.int .i64 r.sub,.sl .nil [],.sl .nil [],.int .u16 0,.int .u16 0,.sl .nil []]]))),((((s.new (.row 52 [.agg [.int .i64 r.fn,.int .i64 r.code,.int .i64 r.at_,.int .i64 r.count,.int .i64 r.sub,.sl .unk (r.bits.map PV.bool),.sl .unk (r.vals.map (PV.int .u16)),.int .u16 r.and_,.int .u16 r.or_,.sl .unk (r.data.map (PV.int .u8))]]))).new (.row 52 [.agg [.int .i64 0,.int .i64 0,.int .i64 0,.int .i64 0,.int .i64 0,.sl .nil [],.sl .nil [],.int .u16 0,.int .u16 0,.sl .nil []]])).set (s.nxt+1) (some (.row 52 [.agg [.int .i64 r.fn,.int .i64 0,.int .i64 0,.int .i64 0,.int .i64 r.sub,.sl .nil [],.sl .unk (r.vals.map (PV.int .u16)),.int .u16 0,.int .u16 0,.sl .nil []]])))] Tryz.mixed Y22 Y22 ?_
 refine jO 2 ?_;rotate_left
 refine rs (k:=rs (k:=rg [1,2,8,47] (k:=rc (ht:=fun hc8=>?_) (hf:=fun hc8=>?_))))
 refine rk (k:=rc (ht:=fun hc9=>?_) (hf:=fun hc9=>?_))
 refine jO 3 ?_;rotate_left
 ·exact Bool.noConfusion (hc8.symm.trans hc9)
 refine rg [1,2,8,47] (k:=rc (ht:=fun hc9=>?_) (hf:=fun hc9=>?_))
 refine jO 3 ?_;rotate_left
 refine rs (k:=rg [1,2,8,56] (k:=rc (ht:=fun hc10=>?_) (hf:=fun hc10=>?_)))
 refine Run.drawM 12 [7,9,11] [((((s.new (.row 52 [.agg [.int .i64 r.fn,.int .i64 r.code,.int .i64 r.at_,.int .i64 r.count,.int .i64 r.sub,.sl .unk (r.bits.map PV.bool),.sl .unk (r.vals.map (PV.int .u16)),.int .u16 r.and_,.int .u16 r.or_,.sl .unk (r.data.map (PV.int .u8))]]))).new (.row 52 [.agg [.int .i64 0,.int .i64 0,.int .i64 0,.int .i64 0,.int .i64 0,.sl .nil [],.sl .nil [],.int .u16 0,.int .u16 0,.sl .nil []]])).set (s.nxt+1) (some (.row 52 [.agg [.int .i64 r.fn,.int .i64 0,.int .i64 0,.int .i64 0,.int .i64 0,.sl .nil [],.sl .nil [],.int .u16 0,.int .u16 0,.sl .nil []]]))),((((s.new (.row 52 [.agg [.int .i64 r.fn,.int .i64 r.code,.int .i64 r.at_,.int .i64 r.count,.int .i64 r.sub,.sl .unk (r.bits.map PV.bool),.sl .unk (r.vals.map (PV.int .u16)),.int .u16 r.and_,.int .u16 r.or_,.sl .unk (r.data.map (PV.int .u8))]]))).new (.row 52 [.agg [.int .i64 0,.int .i64 0,.int .i64 0,.int .i64 0,.int .i64 0,.sl .nil [],.sl .nil [],.int .u16 0,.int .u16 0,.sl .nil []]])).set (s.nxt+1) (some (.row 52 [.agg [.int .i64 r.fn,.int .i64 0,.int .i64 r.at_,.int .i64 0,.int .i64 0,.sl .nil [],.sl .nil [],.int .u16 0,.int .u16 0,.sl .nil []]]))),((((s.new (.row 52 [.agg [.int .i64 r.fn,.int .i64 r.code,.int .i64 r.at_,.int .i64 r.count,.int .i64 r.sub,.sl .unk (r.bits.map PV.bool),.sl .unk (r.vals.map (PV.int .u16)),.int .u16 r.and_,.int .u16 r.or_,.sl .unk (r.data.map (PV.int .u8))]]))).new (.row 52 [.agg [.int .i64 0,.int .i64 0,.int .i64 0,.int .i64 0,.int .i64 0,.sl .nil [],.sl .nil [],.int .u16 0,.int .u16 0,.sl .nil []]])).set (s.nxt+1) (some (.row 52 [.agg [.int .i64 r.fn,.int .i64 0,.int .i64 r.at_,.int .i64 0,.int .i64 0,.sl .nil [],.sl .nil [],.int .u16 r.and_,.int .u16 0,.sl .nil []]]))),((((s.new (.row 52 [.agg [.int .i64 r.fn,.int .i64 r.code,.int .i64 r.at_,.int .i64 r.count,.int .i64 r.sub,.sl .unk (r.bits.map PV.bool),.sl .unk (r.vals.map (PV.int .u16)),.int .u16 r.and_,.int .u16 r.or_,.sl .unk (r.data.map (PV.int .u8))]]))).new (.row 52 [.agg [.int .i64 0,.int .i64 0,.int .i64 0,.int .i64 0,.int .i64 0,.sl .nil [],.sl .nil [],.int .u16 0,.int .u16 0,.sl .nil []]])).set (s.nxt+1) (some (.row 52 [.agg [.int .i64 r.fn,.int .i64 0,.int .i64 r.at_,.int .i64 0,.int .i64 0,.sl .nil [],.sl .nil [],.int .u16 r.and_,.int .u16 r.or_,.sl .nil []]])))] Tryz.mixed Y22 Y22 ?_
 refine zG.pre (pre:=[_,_,_,_,_,_,_]) Y19 List.mem_cons_self au ?_
 refine zG.eff Y19 List.mem_cons_self au au ?_
 refine zG.pre (pre:=[_]) Y19 (List.mem_cons_of_mem _ List.mem_cons_self) au ?_
 refine zG.eff Y19 (List.mem_cons_of_mem _ List.mem_cons_self) au au ?_
 refine zG.pre (pre:=[_]) Y19 (List.mem_cons_of_mem _ (List.mem_cons_of_mem _ List.mem_cons_self)) au ?_
 refine zG.eff Y19 (List.mem_cons_of_mem _ (List.mem_cons_of_mem _ List.mem_cons_self)) au au ?_
 refine zG.nil (List.mem_cons_of_mem _ (List.mem_cons_of_mem _ (List.mem_cons_of_mem _ List.mem_cons_self))) ?_
 refine jO 4 ?_;rotate_left
 refine rs (k:=rg [1,2,67] (k:=rc (ht:=fun hc11=>?_) (hf:=fun hc11=>?_)))
 refine jO 1 ?_;rotate_left
 refine rs (k:=rg [2,3] (k:=rR (k:=?_)))
 refine jO 5 ?_;rotate_left
 any_goals
  refine jI 3 ?_
  refine Run.drawM 8 [5,7] [((((s.new (.row 52 [.agg [.int .i64 r.fn,.int .i64 r.code,.int .i64 r.at_,.int .i64 r.count,.int .i64 r.sub,.sl .unk (r.bits.map PV.bool),.sl .unk (r.vals.map (PV.int .u16)),.int .u16 r.and_,.int .u16 r.or_,.sl .unk (r.data.map (PV.int .u8))]]))).new (.row 52 [.agg [.int .i64 0,.int .i64 0,.int .i64 0,.int .i64 0,.int .i64 0,.sl .nil [],.sl .nil [],.int .u16 0,.int .u16 0,.sl .nil []]])).set (s.nxt+1) (some (.row 52 [.agg [.int .i64 r.fn,.int .i64 0,.int .i64 0,.int .i64 0,.int .i64 0,.sl .nil [],.sl .nil [],.int .u16 0,.int .u16 0,.sl .nil []]]))),((((s.new (.row 52 [.agg [.int .i64 r.fn,.int .i64 r.code,.int .i64 r.at_,.int .i64 r.count,.int .i64 r.sub,.sl .unk (r.bits.map PV.bool),.sl .unk (r.vals.map (PV.int .u16)),.int .u16 r.and_,.int .u16 r.or_,.sl .unk (r.data.map (PV.int .u8))]]))).new (.row 52 [.agg [.int .i64 0,.int .i64 0,.int .i64 0,.int .i64 0,.int .i64 0,.sl .nil [],.sl .nil [],.int .u16 0,.int .u16 0,.sl .nil []]])).set (s.nxt+1) (some (.row 52 [.agg [.int .i64 r.fn,.int .i64 0,.int .i64 r.at_,.int .i64 0,.int .i64 0,.sl .nil [],.sl .nil [],.int .u16 0,.int .u16 0,.sl .nil []]]))),((((s.new (.row 52 [.agg [.int .i64 r.fn,.int .i64 r.code,.int .i64 r.at_,.int .i64 r.count,.int .i64 r.sub,.sl .unk (r.bits.map PV.bool),.sl .unk (r.vals.map (PV.int .u16)),.int .u16 r.and_,.int .u16 r.or_,.sl .unk (r.data.map (PV.int .u8))]]))).new (.row 52 [.agg [.int .i64 0,.int .i64 0,.int .i64 0,.int .i64 0,.int .i64 0,.sl .nil [],.sl .nil [],.int .u16 0,.int .u16 0,.sl .nil []]])).set (s.nxt+1) (some (.row 52 [.agg [.int .i64 r.fn,.int .i64 0,.int .i64 r.at_,.int .i64 r.count,.int .i64 0,.sl .nil [],.sl .nil [],.int .u16 0,.int .u16 0,.sl .nil []]])))] Tryz.mixed Y22 Y22 ?_
  refine jO 2 ?_;rotate_left
 any_goals
  refine jI 2 ?_
  refine zG.pre (pre:=[_,_,_,_,_]) Y19 List.mem_cons_self au ?_
  refine jO 6 ?_;rotate_left
 any_goals
  refine jI 6 ?_
  refine zG.eff Y19 List.mem_cons_self au au ?_
  refine jO 7 ?_;rotate_left
 any_goals
  refine jI 7 ?_
  refine zG.pre (pre:=[_]) Y19 (List.mem_cons_of_mem _ List.mem_cons_self) au ?_
  refine jO 8 ?_;rotate_left
 any_goals
  refine jI 8 ?_
  refine zG.eff Y19 (List.mem_cons_of_mem _ List.mem_cons_self) au au ?_
  refine jO 9 ?_;rotate_left
 any_goals
  refine jI 9 ?_
  refine zG.nil (List.mem_cons_of_mem _ (List.mem_cons_of_mem _ List.mem_cons_self)) ?_
  refine jO 4 ?_;rotate_left
 any_goals
  refine jI 1 ?_
  refine rg [2] (k:=rB (k:=rs (k:=rg [2,3] (k:=rR (k:=?_)))))
  refine jO 5 ?_;rotate_left
 any_goals
  refine jI 4 ?_
  refine rl [2] (k:=rB (k:=rs (k:=rg [2,3] (k:=rR (k:=?_)))))
  refine jO 5 ?_;rotate_left
 any_goals
  refine jI 5 ?_
  refine Ret.pure (r':=.tuple [(if xO r.fn=true then Xq r else zeroP).pv,.bool (xO r.fn)]) (by simp only [Tryz.f101,go_sem,↓reduceIte]<;>rfl) ?_ (by simp only [PV.blw,PV.blws,and_true];exact zS _ _) hwf Y34 ⟨rfl,rfl⟩
  refine jO 10 ?_;rotate_left
 any_goals
  refine jI 10 ?_
  simp only [PV.weak,PV.weaks,zA,zf,zB]
  refine jO 11 ?_;rotate_left
 any_goals
  refine jI 11 ?_
  clear H hwf
  refine jO 12 ?_;rotate_left
 any_goals
  refine jI 12 ?_
  simp only [decide_eq_true_eq,decide_eq_false_iff_not] at *
  refine jO 13 ?_;rotate_left
 any_goals
  refine jI 13 ?_
  have hhas:xO r.fn=decide (1≤r.fn∧r.fn≤6∨r.fn=8∨r.fn=15∨r.fn=16∨r.fn=17∨r.fn=22∨r.fn=23):=rfl
  refine jO 14 ?_;rotate_left
 any_goals
  refine jI 14 ?_
  first
   |(have e:xO r.fn=true:=by rw [hhas];exact decide_eq_true Y18
     rw [e]
     clear hhas e
     simp only [Xq,if_true]
     simp [Rep.pv, *];done)
   |(have e:xO r.fn=false:=by rw [hhas];exact decide_eq_false Y18
     rw [e];rfl)
   | skip
end Go.Proofs
namespace Go.Proofs
open Go.PM
set_option maxHeartbeats 2000000
attribute [local go_sem] zf Rep.pv
theorem Y36 {p:Prop} (h:p:=by exact .inr (.inr (.inr (.inr (.inr (.inr (.inl Y18))))))):p:=h
theorem Y37 {p:Prop} (h:p:=by exact .inr (.inr (.inr (.inr (.inr (.inr (.inr (.inl Y18)))))))):p:=h
theorem zn7 {p:Prop} (h:p:=by exact .inr (.inr (.inr (.inr (.inl ⟨h.1,Y18⟩))))):p:=h
theorem znW {p:Prop} (h:p:=by simp only [Tryz.f68,go_sem];rfl):p:=h
theorem zko {p:Prop} (h:p:=by simpa using hc1.2):p:=h
theorem ziT {p:Prop} (h:p:=by rw [hc2];decide):p:=h
theorem zj9 {p:Prop} (h:p:=by exact .inr (.inr (.inl h))):p:=h
theorem Y35 {p:Prop} (h:p:=by
 refine rs (k:=rg [2] (k:=rR (k:=rP znW hwf ⟨?_,rfl⟩)))
 refine congrArg (PV.int .i64) ?_
 simp only [Bool.not_eq_true',Bool.not_eq_false',Bool.or_eq_true,Bool.or_eq_false_iff,Bool.and_eq_true,Bool.and_eq_false_iff,decide_eq_true_eq,decide_eq_false_iff_not] at *
 first
  |(unfold yg;rw [if_pos hc0,if_neg];intro h;obtain ⟨h1,h2,h3,h4,h5⟩:=h;rcases hc1 with (((h | h) | h) | h) | h<;>first | omega | exact h h5)
  |(unfold yg;rw [if_pos hc0,if_pos];exact ⟨Y18,Y18,Y18,Y18,zko⟩)
  |(have e0:¬ ¬ r.code=0:=by simpa using hc0
    unfold yg;rw [if_neg e0,if_pos hc2];done)
  |(have e0:¬ ¬ r.code=0:=by simpa using hc0
    have hXe:X=Xq r:=by rw [hX,if_pos hc2]
    unfold yg;rw [if_neg e0,if_neg ziT,← hXe]
    first
    |(rw [if_neg]
      rintro (h | h | h | h | h | h | h | h | h)
      ·exact h hc3.1.1.1
      ·rw [hc3.1.1.2] at h;cases h
      ·rw [hc3.1.2] at h;cases h
      ·rw [hc3.2] at h;cases h
      all_goals omega)
    |(rw [if_pos]
      rcases hc5 with (h | h) | h
      ·exact Y36
      ·exact Y37
      ·exact .inr (.inr (.inr (.inr (.inr (.inr (.inr (.inr Y18))))))))
    |(rw [if_pos]
      rcases hc4 with h | h
      ·exact zn7
      ·exact .inr (.inr (.inr (.inr (.inr (.inl ⟨h.1,Y18⟩))))))
    |(rw [if_pos]
      rcases hc3 with ((h | h) | h) | h
      ·exact .inl h
      ·exact .inr (.inl h)
      ·exact zj9
      ·exact .inr (.inr (.inr (.inl h)))))
  | skip):p:=h
theorem Y38 {p:Prop} (h:p:=by exact .inr (.inr (.inr (.inr (.inl ⟨h.1,Y18⟩))))):p:=h
set_option maxRecDepth 100000 in
theorem UH {r:Rep} (hr:r.ok) {s:St}:za Tryz.prog 68 [r.pv] s (fun v s'=>v=.int .i64 (yg r)∧s'=s):=by
 refine go Tryz.func68 (k:=fun hwf H=>?_)
 obtain ⟨X,hX⟩:∃ X,X=(if xO r.fn=true then Xq r else zeroP):=⟨_,rfl⟩
 refine rs (k:=rg [1] (k:=rs (k:=rs (k:=rg [1,7] (k:=rc (ht:=fun hc0=>?_) (hf:=fun hc0=>?_))))))
 ·refine rs (k:=rs (k:=rr (k:=ro (pre:=[_,_,_,_,_,_,_,_,_,_,_,_,_,_,_,_,_,_,_,_,_,_,_,_,_]) (k:=rG (h:=fun hb=>zbo (a:=r) (b:=⟨r.fn,r.code,0,0,0,[],[],0,0,[]⟩) hr) (k:=rh [35] (k:=rc (ht:=fun hc1=>?_) (hf:=fun hc1=>?_)))))))
  ·exact Y35
  ·refine rk (k:=rs (k:=rg [2] (k:=rR (k:=rP znW hwf ⟨?_,rfl⟩))))
   refine congrArg (PV.int .i64) ?_
   simp only [Bool.not_eq_true',Bool.not_eq_false',Bool.or_eq_true,Bool.or_eq_false_iff,Bool.and_eq_true,Bool.and_eq_false_iff,decide_eq_true_eq,decide_eq_false_iff_not] at *
   first
    |(unfold yg;rw [if_pos hc0,if_neg];intro h;obtain ⟨h1,h2,h3,h4,h5⟩:=h;rcases hc1 with (((h | h) | h) | h) | h<;>first | omega | exact h h5)
    |(unfold yg;rw [if_pos hc0,if_pos];exact ⟨Y18,Y18,Y18,Y18,zko⟩)
    |(have e0:¬ ¬ r.code=0:=by simpa using hc0
      unfold yg;rw [if_neg e0,if_pos hc2];done)
    |(have e0:¬ ¬ r.code=0:=by simpa using hc0
      have hXe:X=Xq r:=by rw [hX,if_pos hc2]
      unfold yg;rw [if_neg e0,if_neg ziT,← hXe]
      first
      |(rw [if_neg]
        rintro (h | h | h | h | h | h | h | h | h)
        ·exact h hc3.1.1.1
        ·rw [hc3.1.1.2] at h;cases h
        ·rw [hc3.1.2] at h;cases h
        ·rw [hc3.2] at h;cases h
        all_goals omega)
      |(rw [if_pos]
        rcases hc5 with (h | h) | h
        ·exact Y36
        ·exact Y37
        ·exact .inr (.inr (.inr (.inr (.inr (.inr (.inr (.inr Y18))))))))
      |(rw [if_pos]
        rcases hc4 with h | h
        ·exact Y38
        ·exact .inr (.inr (.inr (.inr (.inr (.inl ⟨h.1,Y18⟩))))))
      |(rw [if_pos]
        rcases hc3 with ((h | h) | h) | h
        ·exact .inl h
        ·exact .inr (.inl h)
        ·exact zj9
        ·exact .inr (.inr (.inr (.inl h)))))
    | skip
 ·refine rk (k:=rs (k:=rr (k:=ro (pre:=[_]) (k:=rC (h:=(by rw [hX];exact zi4 (r:=r):za Tryz.prog 101 [r.pv] _ (fun v s'=>v=.tuple [X.pv,.bool (xO r.fn)]∧s'=_))) (k:=rh [1,3,4] (k:=rs (k:=rb (k:=rs (k:=rg [1,3,41] (k:=rc (ht:=fun hc2=>?_) (hf:=fun hc2=>?_)))))))))))
  ·exact Y35
  ·refine rs (k:=rr (k:=ro (pre:=[_,_]) (k:=rC (h:=zbo (a:=r) (b:=X) hr) (k:=ro (pre:=[_,_,_,_]) (k:=rG (h:=fun hb=>Xd) (k:=ro (pre:=[_,_,_,_,_]) (k:=rG (h:=fun hb=>Xd) (k:=ro (pre:=[_,_,_,_,_]) (k:=rG (h:=fun hb=>Xd) (k:=rh [1,44] (k:=rc (ht:=fun hc3=>?_) (hf:=fun hc3=>?_))))))))))))
   ·exact Y35
   ·refine rs (k:=rg [1,67] (k:=rc (ht:=fun hc4=>?_) (hf:=fun hc4=>?_)))
    ·exact Y35
    ·refine rs (k:=rg [93] (k:=rc (ht:=fun hc5=>?_) (hf:=fun hc5=>?_)))
     ·exact Y35
     ·refine rk (k:=rB (k:=rs (k:=rg [2] (k:=rR (k:=rP znW hwf ⟨?_,rfl⟩)))))
      refine congrArg (PV.int .i64) ?_
      simp only [Bool.not_eq_true',Bool.not_eq_false',Bool.or_eq_true,Bool.or_eq_false_iff,Bool.and_eq_true,Bool.and_eq_false_iff,decide_eq_true_eq,decide_eq_false_iff_not] at *
      first
       |(unfold yg;rw [if_pos hc0,if_neg];intro h;obtain ⟨h1,h2,h3,h4,h5⟩:=h;rcases hc1 with (((h | h) | h) | h) | h<;>first | omega | exact h h5)
       |(unfold yg;rw [if_pos hc0,if_pos];exact ⟨Y18,Y18,Y18,Y18,zko⟩)
       |(have e0:¬ ¬ r.code=0:=by simpa using hc0
         unfold yg;rw [if_neg e0,if_pos hc2];done)
       |(have e0:¬ ¬ r.code=0:=by simpa using hc0
         have hXe:X=Xq r:=by rw [hX,if_pos hc2]
         unfold yg;rw [if_neg e0,if_neg ziT,← hXe]
         first
         |(rw [if_neg]
           rintro (h | h | h | h | h | h | h | h | h)
           ·exact h hc3.1.1.1
           ·rw [hc3.1.1.2] at h;cases h
           ·rw [hc3.1.2] at h;cases h
           ·rw [hc3.2] at h;cases h
           all_goals omega)
         |(rw [if_pos]
           rcases hc5 with (h | h) | h
           ·exact Y36
           ·exact Y37
           ·exact .inr (.inr (.inr (.inr (.inr (.inr (.inr (.inr Y18))))))))
         |(rw [if_pos]
           rcases hc4 with h | h
           ·exact Y38
           ·exact .inr (.inr (.inr (.inr (.inr (.inl ⟨h.1,Y18⟩))))))
         |(rw [if_pos]
           rcases hc3 with ((h | h) | h) | h
           ·exact .inl h
           ·exact .inr (.inl h)
           ·exact zj9
           ·exact .inr (.inr (.inr (.inl h)))))
       | skip
attribute [local go_sem] zf Rep.pv
theorem zmo {p:Prop} (h:p:=by exact Bool.noConfusion (hc5.symm.trans hc6)):p:=h
theorem zoY {p:Prop} (h:p:=by first | exact .inl (of_decide_eq_true hc9) | exact .inr (of_decide_eq_true hc10)):p:=h
theorem znk {p:Prop} (h:p:=by exact Bool.noConfusion (hc11.symm.trans hc12)):p:=h
set_option maxRecDepth 100000 in
theorem uG {r:Rep} (hr:r.ok) {s:St}:za Tryz.prog 33 [r.pv] s (fun v s'=>v=.tuple [.sl .unk ((yO r).map (PV.int .u8)),.int .i64 (yg r)]∧s'=s):=by
 refine go Tryz.func33 (k:=fun hwf H=>?_)
 refine rs (k:=rg [1] (k:=rs (k:=rs (k:=rr (k:=ro (pre:=[_]) (k:=rC (h:=UH hr) (k:=rh [1,4] (k:=rs (k:=rg [1,4,10] (k:=rc (ht:=fun hc0=>?_) (hf:=fun hc0=>?_)))))))))))
 refine rs (k:=rg [2,3] (k:=rR (k:=?_)))
 refine jO 1 ?_;rotate_left
 refine rk (k:=rs (k:=rs (k:=?_)))
 have hr0:yg r=0:=Y85
 have hu8c:IntKind.u8.wrap r.code=r.code∨r.code=0:=by
  by_cases hcz:r.code=0
  ·exact .inr hcz
  ·have:=zaP hr0 hcz
   left;rw [wg];omega
 have hfr:0≤r.fn∧r.fn≤127:=by
  by_cases hcz:r.code=0
  ·have:=(WH hr0 hcz).has
   have:=yM this
   omega
  ·have:=zaP hr0 hcz
   omega
 have hor:zR .or .i64 r.fn 128=r.fn+128:=We Y18
 have hu8:IntKind.u8.wrap r.fn=r.fn:=zan
 have hu8r:IntKind.u8.wrap (r.fn+128)=r.fn+128:=zan
 have H:=aj hor (aj hu8 (aj hu8r H))
 refine rg [1,14] (k:=rc (ht:=fun hc1=>?_) (hf:=fun hc1=>?_))
 refine rs (k:=?_)
 have hcz:¬ r.code=0:=by simpa using hc1
 have hu8d:IntKind.u8.wrap r.code=r.code:=by rcases hu8c with h | h;exact h;exact absurd h hcz
 have H:=aj hu8d H
 refine rr (k:=ro (pre:=[_,_,_,_,_,_,_]) (k:=rO (k:=rh [2,3] (k:=rR (k:=?_)))))
 refine jO 1 ?_;rotate_left
 refine rk (k:=rs (k:=?_))
 have hcz:r.code=0:=by simpa using hc1
 have hG:=WH hr0 hcz
 have hfn:=yM hG.has
 have hmv:=hG.mv
 have hmb:=hG.mb
 have hmd:=hG.md
 have hpl:=xe r.bits
 obtain ⟨V,hV⟩:∃ V,V=r.vals.flatMap zx:=⟨_,rfl⟩
 have hvl:V.length=2*r.vals.length:=zlM
 obtain ⟨L1,hL1⟩:∃ L,L=[r.fn]++zx r.at_:=⟨_,rfl⟩
 obtain ⟨L2,hL2⟩:∃ L,L=L1++zx r.count:=⟨_,rfl⟩
 obtain ⟨L5,hL5⟩:∃ L,L=[r.fn]++zx r.sub:=⟨_,rfl⟩
 obtain ⟨L6,hL6⟩:∃ L,L=L1++zx r.and_:=⟨_,rfl⟩
 obtain ⟨L7,hL7⟩:∃ L,L=L6++zx r.or_:=⟨_,rfl⟩
 obtain ⟨La,hLa⟩:∃ L,L=L1++zx 65280:=⟨_,rfl⟩
 obtain ⟨Lb,hLb⟩:∃ L,L=L1++zx 0:=⟨_,rfl⟩
 obtain ⟨X6,hX6⟩:∃ L,L=L1++V:=⟨_,rfl⟩
 obtain ⟨X8,hX8⟩:∃ L,L=L5++V:=⟨_,rfl⟩
 obtain ⟨C,hC⟩:∃ C,C=r.fn::(V.length:Int)::V:=⟨_,rfl⟩
 obtain ⟨B,hB⟩:∃ B,B=r.fn::((xk r.bits).length:Int)::xk r.bits:=⟨_,rfl⟩
 obtain ⟨D,hD⟩:∃ D,D=r.fn::(r.data.length:Int)::r.data:=⟨_,rfl⟩
 have hll1:L1.length=3:=zlY
 have hll2:L2.length=5:=by rw [hL2];simp [zx,hll1]
 have hll5:L5.length=3:=by rw [hL5];simp [zx]
 have hll6:L6.length=5:=by rw [hL6];simp [zx,hll1]
 have h16a:IntKind.i64.wrap r.and_=r.and_:=zi (by have:=hr.and_;unfold U16 at this;omega)
 have h16o:IntKind.i64.wrap r.or_=r.or_:=zi (by have:=hr.or_;unfold U16 at this;omega)
 have H:=aj h16a (aj h16o H)
 refine rr (k:=ro (pre:=[_,_,_]) (k:=rO (k:=rh [1,5] (k:=rs (k:=rs (k:=rg [1,5,28] (k:=rb (k:=rs (k:=rs (k:=rg [1,5,28,29] (k:=rc (ht:=fun hc2=>?_) (hf:=fun hc2=>?_))))))))))))
 refine rk (k:=rc (ht:=fun hc3=>?_) (hf:=fun hc3=>?_))
 refine jO 2 ?_;rotate_left
 ·exact zkN
 refine rg [1,5,28,29] (k:=rc (ht:=fun hc3=>?_) (hf:=fun hc3=>?_))
 refine jO 2 ?_;rotate_left
 refine rs (k:=rs (k:=rg [1,5,28,38] (k:=rc (ht:=fun hc4=>?_) (hf:=fun hc4=>?_))))
 refine rk (k:=rc (ht:=fun hc6=>?_) (hf:=fun hc6=>?_))
 refine jO 3 ?_;rotate_left
 ·exact Bool.noConfusion (hc4.symm.trans hc6)
 refine rs (k:=rg [1,5,28,38] (k:=rc (ht:=fun hc5=>?_) (hf:=fun hc5=>?_)))
 refine rk (k:=rc (ht:=fun hc6=>?_) (hf:=fun hc6=>?_))
 refine jO 3 ?_;rotate_left
 ·exact zmo
 refine rg [1,5,28,38] (k:=rc (ht:=fun hc6=>?_) (hf:=fun hc6=>?_))
 refine jO 3 ?_;rotate_left
 refine rs (k:=rg [1,5,28,48] (k:=rc (ht:=fun hc7=>?_) (hf:=fun hc7=>?_)))
 refine rs (k:=rg [1,5,6] (k:=rs (k:=rs (k:=?_))))
 have h5:r.fn=5:=by simpa using hc7
 obtain ⟨b,hb⟩:∃ b,r.bits=[b]:=List.length_eq_one_iff.1 (hG.b5 h5)
 have hb2:(r.bits.map PV.bool)[0]? =some (.bool b):=by rw [hb];rfl
 have hb3:(0<r.bits.length)=True:=by rw [hb];simp
 have H:=aj hb2 (aj hb3 H)
 refine rg [1,5,6,53] (k:=rc (ht:=fun hc8=>?_) (hf:=fun hc8=>?_))
 refine rg [1,5,6] (k:=rr (k:=ro (pre:=[_,_,_]) (k:=rC (h:=xV (l:=[r.fn]) hL1 Y71) (k:=ro (pre:=[_]) (k:=?_)))))
 refine jO 4 ?_;rotate_left
 refine rk (k:=rr (k:=ro (pre:=[_,_,_]) (k:=rC (h:=xV (l:=[r.fn]) hL1 Y71) (k:=ro (pre:=[_]) (k:=?_)))))
 refine jO 4 ?_;rotate_left
 refine rs (k:=rg [1,5,28,60] (k:=rc (ht:=fun hc9=>?_) (hf:=fun hc9=>?_)))
 have hvn:V≠[]:=by
  intro h
  have h68:r.fn=6∨r.fn=8:=zoY
  have:=hG.v6 h68
  rw [h] at hvl;simp at hvl;omega
 refine Run.drawM 7 [3] [(s.new (.row 52 [.agg [.int .i64 r.fn,.int .i64 r.code,.int .i64 r.at_,.int .i64 r.count,.int .i64 r.sub,.sl .unk (r.bits.map PV.bool),.sl .unk (r.vals.map (PV.int .u16)),.int .u16 r.and_,.int .u16 r.or_,.sl .unk (r.data.map (PV.int .u8))]])),((s.new (.row 52 [.agg [.int .i64 r.fn,.int .i64 r.code,.int .i64 r.at_,.int .i64 r.count,.int .i64 r.sub,.sl .unk (r.bits.map PV.bool),.sl .unk (r.vals.map (PV.int .u16)),.int .u16 r.and_,.int .u16 r.or_,.sl .unk (r.data.map (PV.int .u8))]])).new (.tok L1.length))] Tryz.mixed Y22 Y22 ?_
 refine zG.pre (pre:=[_,_,_]) Y19 List.mem_cons_self au ?_
 refine zG.callE Y19 List.mem_cons_self au au au Y22 (vG (l:=[r.fn]) hL1 Y71) ?_
 refine zG.pre (pre:=[_,_]) Y19 (List.mem_cons_of_mem _ List.mem_cons_self) au ?_
 refine zG.call Y19 au au au Y22 (List.mem_cons_of_mem _ List.mem_cons_self) (fun s _=>wF hV Y18) ?_
 refine zG.nil (List.mem_cons_of_mem _ List.mem_cons_self) ?_
 refine zm.append au au au Tryz.td41 Y26 (zp (P:=Tryz.prog) (e:=5) (f:=PV.int .u8) (fun a=>⟨rfl,Y27⟩) _) (zp (P:=Tryz.prog) (e:=5) (f:=PV.int .u8) (fun a=>⟨rfl,Y27⟩) _) Y28 Y86 (xi hX6 hvn Y87 rfl Tryz.cz5) ?_
 refine jO 5 ?_;rotate_left
 refine rs (k:=rg [1,5,28,70] (k:=rc (ht:=fun hc10=>?_) (hf:=fun hc10=>?_)))
 have hvn:V≠[]:=by
  intro h
  have h68:r.fn=6∨r.fn=8:=zoY
  have:=hG.v6 h68
  rw [h] at hvl;simp at hvl;omega
 refine Run.drawM 7 [3] [(s.new (.row 52 [.agg [.int .i64 r.fn,.int .i64 r.code,.int .i64 r.at_,.int .i64 r.count,.int .i64 r.sub,.sl .unk (r.bits.map PV.bool),.sl .unk (r.vals.map (PV.int .u16)),.int .u16 r.and_,.int .u16 r.or_,.sl .unk (r.data.map (PV.int .u8))]])),((s.new (.row 52 [.agg [.int .i64 r.fn,.int .i64 r.code,.int .i64 r.at_,.int .i64 r.count,.int .i64 r.sub,.sl .unk (r.bits.map PV.bool),.sl .unk (r.vals.map (PV.int .u16)),.int .u16 r.and_,.int .u16 r.or_,.sl .unk (r.data.map (PV.int .u8))]])).new (.tok L5.length))] Tryz.mixed Y22 Y22 ?_
 refine zG.pre (pre:=[_,_,_]) Y19 List.mem_cons_self au ?_
 refine zG.callE Y19 List.mem_cons_self au au au Y22 (vG (l:=[r.fn]) hL5 Y71) ?_
 refine zG.pre (pre:=[_,_]) Y19 (List.mem_cons_of_mem _ List.mem_cons_self) au ?_
 refine zG.call Y19 au au au Y22 (List.mem_cons_of_mem _ List.mem_cons_self) (fun s _=>wF hV Y18) ?_
 refine zG.nil (List.mem_cons_of_mem _ List.mem_cons_self) ?_
 refine zm.append au au au Tryz.td41 Y26 (zp (P:=Tryz.prog) (e:=5) (f:=PV.int .u8) (fun a=>⟨rfl,Y27⟩) _) (zp (P:=Tryz.prog) (e:=5) (f:=PV.int .u8) (fun a=>⟨rfl,Y27⟩) _) Y28 Y86 (xi hX8 hvn Y87 rfl Tryz.cz5) ?_
 refine jO 5 ?_;rotate_left
 refine rs (k:=rs (k:=rg [1,5,28,80] (k:=rc (ht:=fun hc11=>?_) (hf:=fun hc11=>?_))))
 refine rk (k:=rc (ht:=fun hc12=>?_) (hf:=fun hc12=>?_))
 refine jO 6 ?_;rotate_left
 ·exact znk
 refine rg [1,5,28,80] (k:=rc (ht:=fun hc12=>?_) (hf:=fun hc12=>?_))
 refine jO 6 ?_;rotate_left
 refine rs (k:=rg [1,5,28,90] (k:=rc (ht:=fun hc13=>?_) (hf:=fun hc13=>?_)))
 refine Run.drawC [] [5] Tryz.mixed Y22 ?_
 refine zj.pre (pre:=[_,_,_]) au ?_
 refine zj.call au au au Y22 (xV (l:=[r.fn]) hL1 Y71) ?_
 refine zj.pre (pre:=[_,_,_]) au ?_
 refine zj.call au au au Y22 (xV hL6 Y18) ?_
 refine zj.pre (pre:=[_,_,_]) au ?_
 refine zj.call au au au Y22 (xV hL7 Y18) ?_
 refine jO 7 ?_;rotate_left
 refine rs (k:=rg [1,5,104] (k:=rc (ht:=fun hc14=>?_) (hf:=fun hc14=>?_)))
 refine rr (k:=ro (pre:=[_,_,_,_]) (k:=rC (h:=Zy hD Y18 Y18) (k:=rh [5] (k:=rB (k:=rs (k:=rr (k:=ro (pre:=[_]) (k:=rC (h:=vX) (k:=rh [2,3] (k:=rR (k:=?_)))))))))))
 refine jO 1 ?_;rotate_left
 ·refine rk (k:=rB (k:=rs (k:=?_)))
  exfalso
  simp only [decide_eq_true_eq,decide_eq_false_iff_not] at *
  omega
 any_goals
  refine jI 6 ?_
  refine Run.drawC [] [5] Tryz.mixed Y22 ?_
  refine jO 8 ?_;rotate_left
 any_goals
  refine jI 2 ?_
  refine Run.drawC [] [5] Tryz.mixed Y22 ?_
  refine jO 9 ?_;rotate_left
 any_goals
  refine jI 3 ?_
  refine Run.drawC [] [5] Tryz.mixed Y22 ?_
  refine jO 10 ?_;rotate_left
 any_goals
  refine jI 8 ?_
  refine zj.pre (pre:=[_,_,_]) au ?_
  refine jO 11 ?_;rotate_left
 any_goals
  refine jI 9 ?_
  refine zj.pre (pre:=[_,_,_,_]) au ?_
  refine jO 12 ?_;rotate_left
 any_goals
  refine jI 10 ?_
  refine zj.pre (pre:=[_,_,_,_]) au ?_
  refine jO 13 ?_;rotate_left
 any_goals
  refine jI 11 ?_
  refine zj.call au au au Y22 (xV (l:=[r.fn]) hL1 Y71) ?_
  refine jO 14 ?_;rotate_left
 any_goals
  refine jI 12 ?_
  refine zj.call au au au Y22 (WN (l:=r.bits) Y18) ?_
  refine jO 15 ?_;rotate_left
 any_goals
  refine jI 13 ?_
  refine zj.call au au au Y22 (wF hV Y18) ?_
  refine jO 16 ?_;rotate_left
 any_goals
  refine jI 14 ?_
  refine zj.pre (pre:=[_,_]) au ?_
  refine jO 17 ?_;rotate_left
 any_goals
  refine jI 4 ?_
  refine zm.callw au au au Y22 ((VZ (l:=L1) Y18).mono ?_)
  refine jO 18 ?_;rotate_left
 any_goals
  refine jI 15 ?_
  refine zj.call au au au Y22 (Zy hB Y18 Y18) ?_
  refine jO 7 ?_;rotate_left
 any_goals
  refine jI 16 ?_
  refine zj.call au au au Y22 (Zy hC Y18 Y18) ?_
  refine jO 7 ?_;rotate_left
 any_goals
  refine jI 17 ?_
  refine zj.call au au au Y22 (xV hL2 Y18) ?_
  refine jO 7 ?_;rotate_left
 any_goals
  refine jI 18 ?_
  rintro v s1 ⟨rfl,hs⟩
  refine jO 19 ?_;rotate_left
 any_goals
  refine jI 7 ?_
  refine zj.all au ?_
  refine jO 20 ?_;rotate_left
 any_goals
  refine jI 19 ?_
  subst s1
  refine jO 5 ?_;rotate_left
 any_goals
  refine jI 5 ?_
  refine rh [5] (k:=rB (k:=rs (k:=rr (k:=ro (pre:=[_]) (k:=rC (h:=vX) (k:=rh [2,3] (k:=rR (k:=?_))))))))
  refine jO 1 ?_;rotate_left
 any_goals
  refine jI 20 ?_
  refine re (k:=rB (k:=rs (k:=rr (k:=ro (pre:=[_]) (k:=rC (h:=vX) (k:=rh [2,3] (k:=rR (k:=?_))))))))
  refine jO 1 ?_;rotate_left
 any_goals
  refine jI 1 ?_
  refine Ret.pure (r':=.tuple [.sl .unk ((yO r).map (PV.int .u8)),.int .i64 (yg r)]) (by simp only [Tryz.f33,go_sem,↓reduceIte]<;>rfl) ?_ zoA hwf Y34 ⟨rfl,rfl⟩
  refine jO 21 ?_;rotate_left
 any_goals
  refine jI 21 ?_
  simp only [PV.weak,PV.weaks,zB]
  refine jO 22 ?_;rotate_left
 any_goals
  refine jI 22 ?_
  first
   |(have hr0':¬ yg r=0:=by simpa using hc0
     unfold yO
     rw [if_neg hr0']
     rfl)
   |(unfold yO yK
     rw [if_pos hr0,hr0,if_pos hcz]
     rfl)
   |(rw [hr0]
     refine congrArg (fun x=>PV.tuple [PV.sl .unk x,.int .i64 0]) ?_
     refine congrArg (List.map (PV.int .u8)) ?_
     clear hll1 hll2 hll5 hll6 hvl hpl hu8 hu8r hu8c hor hwf h16a h16o H hfr hc1
     simp only [decide_eq_true_eq,decide_eq_false_iff_not] at *
     have hcz':¬ ¬ r.code=0:=fun h=>h hcz
     unfold yO yK
     rw [if_pos hr0,if_neg hcz']
     clear hcz' hr0 hcz
     first
     |(simp [*];done)
     |(have e:r.fn=17:=by omega
       simp [*];done)
     | skip)
end Go.Proofs
namespace Go.Proofs
open Go.PM
set_option maxHeartbeats 2000000
theorem zjC {xs ys:List Bool} (nx:xs.length<140737488355328) {s:St}:za Tryz.prog 103 [.sl .unk (xs.map PV.bool),.sl .unk (ys.map PV.bool)] s (fun r s'=>r=.bool (decide (xs=ys))∧s'=s):=by
 refine go Tryz.func103 (k:=fun hwf H=>?_)
 refine rs (k:=rg [0,1] (k:=rs (k:=rs (k:=rg [0,1,10] (k:=rc (ht:=fun hc0=>?_) (hf:=fun hc0=>?_))))))
 refine jO 1 ?_;rotate_left
 refine rk (k:=rs (k:=rs (k:=?_)))
 have hlen:xs.length=ys.length:=Y78
 refine rg [0,1,12,13] (k:=rb (k:=?_))
 refine Run.loop (fun e s'=>s'=s∧∃ i:Nat,e=[(0,.sl .unk (xs.map PV.bool)),(1,.sl .unk (ys.map PV.bool)),(12,.int .i64 xs.length),(13,.int .i64 (i:Int))]∧i≤xs.length∧xs.take i=ys.take i) (fun e s'=>xs.length-xB e 13) ?_ ?_
 ·exact zgc
 rintro e s' ⟨hs,i,rfl,hi,hbe⟩
 subst s'
 refine rs (k:=rg [0,1,12,13,14] (k:=rs (k:=rc (ht:=fun hc1=>?_) (hf:=fun hc1=>?_))))
 refine rk (k:=rs (k:=rb (k:=rs (k:=?_))))
 have hil:i<xs.length:=Y79
 have hjl:i<ys.length:=Y18
 obtain ⟨x,hxe⟩:∃ z_,xs[i]'hil=z_:=⟨_,rfl⟩
 have hxx:(xs.map PV.bool)[i]? =some (.bool x):=Y80
 obtain ⟨y,hye⟩:∃ z_,ys[i]'hjl=z_:=⟨_,rfl⟩
 have hxy:(ys.map PV.bool)[i]? =some (.bool y):=zj2
 have hw:IntKind.i64.wrap ((i:Int)+1)=((i+1:Nat):Int):=Y24
 have H:=aj hxx (aj hxy (aj hw H))
 refine rg [0,1,5,12,13] (k:=rs (k:=?_))
 refine Run.drawC [] [0,1,12,13,24] Tryz.mixed Y22 ?_
 refine zj.all au ?_
 refine re (k:=rc (ht:=fun hc2=>?_) (hf:=fun hc2=>?_))
 refine jO 1 ?_;rotate_left
 ·exact Y25
 refine rX (k:=rs (k:=rg [4] (k:=rR (k:=rP (by simp only [Tryz.f103,go_sem];rfl) hwf ⟨?_,rfl⟩))))
 refine jO 2 ?_;rotate_left
 any_goals
  refine jI 1 ?_
  refine rs (k:=rg [4] (k:=rR (k:=rP (by simp only [Tryz.f103,go_sem];rfl) hwf ⟨?_,rfl⟩)))
  refine jO 2 ?_;rotate_left
 any_goals
  refine jI 2 ?_
  first
   |(have hne:xs≠ys:=by rintro rfl;simp at hc0
     rw [decide_eq_false hne];rfl)
   |(have hne:xs≠ys:=by
      rintro rfl
      rw [hxe] at hye
      subst hye
      simp at hc2
     rw [decide_eq_false hne];rfl)
   |(have hlen:xs.length=ys.length:=by simp at hc0;omega
     have:i=xs.length:=by have:=of_decide_eq_false hc1;omega
     rw [this,List.take_length,hlen,List.take_length] at hbe
     rw [decide_eq_true hbe];rfl)
theorem ziX {xs ys:List Int} (nx:xs.length<140737488355328) {s:St}:za Tryz.prog 104 [.sl .unk (xs.map (PV.int .u16)),.sl .unk (ys.map (PV.int .u16))] s (fun r s'=>r=.bool (decide (xs=ys))∧s'=s):=by
 refine go Tryz.func104 (k:=fun hwf H=>?_)
 refine rs (k:=rg [0,1] (k:=rs (k:=rs (k:=rg [0,1,10] (k:=rc (ht:=fun hc0=>?_) (hf:=fun hc0=>?_))))))
 refine jO 1 ?_;rotate_left
 refine rk (k:=rs (k:=rs (k:=?_)))
 have hlen:xs.length=ys.length:=Y78
 refine rg [0,1,12,13] (k:=rb (k:=?_))
 refine Run.loop (fun e s'=>s'=s∧∃ i:Nat,e=[(0,.sl .unk (xs.map (PV.int .u16))),(1,.sl .unk (ys.map (PV.int .u16))),(12,.int .i64 xs.length),(13,.int .i64 (i:Int))]∧i≤xs.length∧xs.take i=ys.take i) (fun e s'=>xs.length-xB e 13) ?_ ?_
 ·exact zgc
 rintro e s' ⟨hs,i,rfl,hi,hbe⟩
 subst s'
 refine rs (k:=rg [0,1,12,13,14] (k:=rs (k:=rc (ht:=fun hc1=>?_) (hf:=fun hc1=>?_))))
 refine rk (k:=rs (k:=rb (k:=rs (k:=?_))))
 have hil:i<xs.length:=Y79
 have hjl:i<ys.length:=Y18
 obtain ⟨x,hxe⟩:∃ z_,xs[i]'hil=z_:=⟨_,rfl⟩
 have hxx:(xs.map (PV.int .u16))[i]? =some (.int .u16 x):=Y80
 obtain ⟨y,hye⟩:∃ z_,ys[i]'hjl=z_:=⟨_,rfl⟩
 have hxy:(ys.map (PV.int .u16))[i]? =some (.int .u16 y):=zj2
 have hw:IntKind.i64.wrap ((i:Int)+1)=((i+1:Nat):Int):=Y24
 have H:=aj hxx (aj hxy (aj hw H))
 refine rg [0,1,5,12,13] (k:=rs (k:=?_))
 refine Run.drawC [] [0,1,12,13,24] Tryz.mixed Y22 ?_
 refine zj.all au ?_
 refine re (k:=rc (ht:=fun hc2=>?_) (hf:=fun hc2=>?_))
 refine jO 1 ?_;rotate_left
 ·exact Y25
 refine rX (k:=rs (k:=rg [4] (k:=rR (k:=rP (by simp only [Tryz.f104,go_sem];rfl) hwf ⟨?_,rfl⟩))))
 refine jO 2 ?_;rotate_left
 any_goals
  refine jI 1 ?_
  refine rs (k:=rg [4] (k:=rR (k:=rP (by simp only [Tryz.f104,go_sem];rfl) hwf ⟨?_,rfl⟩)))
  refine jO 2 ?_;rotate_left
 any_goals
  refine jI 2 ?_
  first
   |(have hne:xs≠ys:=by rintro rfl;simp at hc0
     rw [decide_eq_false hne];rfl)
   |(have hne:xs≠ys:=by
      rintro rfl
      rw [hxe] at hye
      subst hye
      simp at hc2
     rw [decide_eq_false hne];rfl)
   |(have hlen:xs.length=ys.length:=by simp at hc0;omega
     have:i=xs.length:=by have:=of_decide_eq_false hc1;omega
     rw [this,List.take_length,hlen,List.take_length] at hbe
     rw [decide_eq_true hbe];rfl)
attribute [local go_sem] zf Rep.pv
set_option maxRecDepth 100000 in
theorem zha {a b:Rep} (ha:a.ok) (hb:b.ok) {s:St}:za Tryz.prog 75 [a.pv,b.pv] s (fun r s'=>r=.bool (decide (a=b))∧s'=s):=by
 refine go Tryz.func75 (k:=fun hwf H=>?_)
 have hst:((vf a.data).toList==(vf b.data).toList)=decide (a.data=b.data):=zf9 ha.data hb.data
 have H:=aj hst H
 refine rs (k:=rg [2,3] (k:=rs (k:=rrA [some 5,some 6,some 7,some 8,some 9,some 10,some 11,some 12,some 13,some 14,some 15,some 16,some 17,some 18,some 19,some 20,some 21,some 22,some 23,some 24,some 25,some 26,some 27,some 28,some 29,some 30,some 31,some 32,some 33,some 34,some 35,some 36,some 37,some 38,some 39,some 40,some 41,some 42,some 43,some 44,some 45,some 46,some 47,some 48,some 49,some 50,some 51,some 52,some 53,some 54,some 55,some 56,some 57,some 58,some 59,some 60,some 61,some 62,some 63,some 64,some 65,some 66,some 67,some 68,some 69,some 70,some 71,some 72,some 73,some 74,some 4] (k:=fun ops hops=>?_))))
 have H:=aj hops H
 refine ro (pre:=[_,_,_,_,_,_,_,_,_,_,_,_,_,_,_,_,_,_,_,_,_,_,_,_,_,_,_,_,_,_,_,_,_,_,_,_,_,_,_,_,_,_,_,_,_,_,_,_,_,_,_,_]) (k:=rG (h:=fun hb=>zjC (xs:=a.bits) (ys:=b.bits) (by have:=ha.nb;omega)) (k:=ro (pre:=[_,_,_,_,_,_]) (k:=rG (h:=fun hb=>ziX (xs:=a.vals) (ys:=b.vals) (by have:=ha.nv;omega)) (k:=?_))))
 refine rh [4] (k:=rR (k:=rP (by simp only [Tryz.f75,go_sem];rfl) hwf ⟨?_,rfl⟩))
 simp only [PV.weak]
 congr 1
 rw [Bool.eq_iff_iff]
 simp only [Bool.and_eq_true,decide_eq_true_eq]
 constructor
 ·intro h
  cases a;cases b
  simp_all
 ·intro h
  subst h
  simp
theorem uL (fn:Int):OkB (wU fn):=by
 unfold wU
 repeat' split
 all_goals (intro x hx;first |(exact absurd hx List.not_mem_nil) |(simp only [List.mem_cons,List.not_mem_nil,or_false] at hx;unfold U8;omega))
theorem uO (fn:Int):(wU fn).length≤1000:=by
 unfold wU
 repeat' split
 all_goals simp
theorem zbM {r:Rep} (hc:r.code=0) (h:xO r.fn=true):r=Xq r↔((((((97∈wU r.fn∨r.at_=0)∧(99∈wU r.fn∨r.count=0))∧(115∈wU r.fn∨r.sub=0))∧(98∈wU r.fn∨¬(0:Int)<(r.bits.length:Int)))∧(118∈wU r.fn∨¬(0:Int)<(r.vals.length:Int)))∧(109∈wU r.fn∨r.and_=0∧r.or_=0))∧(100∈wU r.fn∨¬(0:Int)<(r.data.length:Int)):=by
 have hl:∀ {α:Type} (l:List α),(¬ (0:Int)<(l.length:Int))↔l=[]:=by
  intro α l
  cases l with
  | nil=>simp
  | cons a l=>simp
 rw [hl,hl,hl]
 clear hl
 obtain ⟨fn,code,at_,count,sub,bits,vals,and_,or_,data⟩:=r
 simp only at hc h ⊢
 subst hc
 rcases yM h with e | e | e | e | e | e | e | e | e | e | e | e<;>subst e <;>
  simp only [Xq,wU,Int.reduceEq,or_true,true_or,or_false,false_or,or_self,if_true,if_false,Rep.mk.injEq,List.mem_cons,List.not_mem_nil,true_and,and_true]<;>constructor<;>intro q<;>simp only [q,and_self,true_and,and_true]<;>first |(obtain ⟨q1,q2,q3,q4,q5,q6,q7⟩:=q;simp only [*];simp only [and_self]) | simp_all
theorem zfB {fn:Int} {s:St}:za Tryz.prog 34 [.int .i64 fn] s (fun r s'=>r=.str (vf (wU fn))∧s'=s):=by
 refine go Tryz.func34 (k:=fun hwf H=>?_)
 refine rs (k:=rg [0] (k:=rs (k:=rs (k:=rg [3] (k:=rb (k:=rs (k:=rs (k:=rg [3,4] (k:=rc (ht:=fun hc0=>?_) (hf:=fun hc0=>?_))))))))))
 refine rk (k:=rc (ht:=fun hc1=>?_) (hf:=fun hc1=>?_))
 refine jO 1 ?_;rotate_left
 ·exact zlW
 refine rg [3,4] (k:=rc (ht:=fun hc1=>?_) (hf:=fun hc1=>?_))
 refine jO 1 ?_;rotate_left
 refine rs (k:=rs (k:=rg [3,7] (k:=rc (ht:=fun hc2=>?_) (hf:=fun hc2=>?_))))
 refine rk (k:=rc (ht:=fun hc4=>?_) (hf:=fun hc4=>?_))
 refine jO 1 ?_;rotate_left
 ·exact znl
 refine rs (k:=rg [3,7] (k:=rc (ht:=fun hc3=>?_) (hf:=fun hc3=>?_)))
 refine rk (k:=rc (ht:=fun hc4=>?_) (hf:=fun hc4=>?_))
 refine jO 1 ?_;rotate_left
 ·exact zmT
 refine rg [3,7] (k:=rc (ht:=fun hc4=>?_) (hf:=fun hc4=>?_))
 refine jO 1 ?_;rotate_left
 refine rs (k:=rg [3,11] (k:=rc (ht:=fun hc5=>?_) (hf:=fun hc5=>?_)))
 refine jO 1 ?_;rotate_left
 refine rs (k:=rg [3,13] (k:=rc (ht:=fun hc6=>?_) (hf:=fun hc6=>?_)))
 refine jO 1 ?_;rotate_left
 refine rs (k:=rg [3,15] (k:=rc (ht:=fun hc7=>?_) (hf:=fun hc7=>?_)))
 refine jO 1 ?_;rotate_left
 refine rs (k:=rs (k:=rg [3,17] (k:=rc (ht:=fun hc8=>?_) (hf:=fun hc8=>?_))))
 refine rk (k:=rc (ht:=fun hc9=>?_) (hf:=fun hc9=>?_))
 refine jO 1 ?_;rotate_left
 ·exact Bool.noConfusion (hc8.symm.trans hc9)
 refine rg [3,17] (k:=rc (ht:=fun hc9=>?_) (hf:=fun hc9=>?_))
 refine jO 1 ?_;rotate_left
 refine rs (k:=rg [20] (k:=rc (ht:=fun hc10=>?_) (hf:=fun hc10=>?_)))
 refine jO 1 ?_;rotate_left
 refine rk (k:=rB (k:=rs (k:=rg [2] (k:=rR (k:=rP (by simp only [Tryz.f34,go_sem];rfl) hwf ⟨?_,rfl⟩)))))
 refine jO 2 ?_;rotate_left
 any_goals
  refine jI 1 ?_
  refine rs (k:=rg [2] (k:=rR (k:=rP (by simp only [Tryz.f34,go_sem];rfl) hwf ⟨?_,rfl⟩)))
  refine jO 2 ?_;rotate_left
 any_goals
  refine jI 2 ?_
  simp only [decide_eq_true_eq,decide_eq_false_iff_not] at *
  refine jO 3 ?_;rotate_left
 any_goals
  refine jI 3 ?_
  unfold wU
  refine jO 4 ?_;rotate_left
 any_goals
  refine jI 4 ?_
  first
   |(rw [if_pos Y18];rfl)
   |(rw [if_neg Y18,if_pos Y18];rfl)
   |(rw [if_neg Y18,if_neg Y18,if_pos Y18];rfl)
   |(rw [if_neg Y18,if_neg Y18,if_neg Y18,if_pos Y18];rfl)
   |(rw [if_neg Y18,if_neg Y18,if_neg Y18,if_neg Y18,if_pos Y18];rfl)
   |(rw [if_neg Y18,if_neg Y18,if_neg Y18,if_neg Y18,if_neg Y18,if_pos Y18];rfl)
   |(rw [if_neg Y18,if_neg Y18,if_neg Y18,if_neg Y18,if_neg Y18,if_neg Y18,if_pos Y18];rfl)
   |(rw [if_neg Y18,if_neg Y18,if_neg Y18,if_neg Y18,if_neg Y18,if_neg Y18,if_neg Y18];rfl)
attribute [local go_sem] zf Rep.pv
theorem zp6 {p:Prop} (h:p:=by exact f.elim h.1 (fun k=>h.2.elim (fun q=>q k.1) (fun q=>q k.2))):p:=h
theorem Y39 {p:Prop} (h:p:=by
 refine rs (k:=rg [2] (k:=rR (k:=rP (by simp only [Tryz.f40,go_sem];rfl) hwf ⟨?_,rfl⟩)))
 refine congrArg (PV.int .i64) ?_
 simp only [Bool.not_eq_true',Bool.not_eq_false',Bool.or_eq_true,Bool.or_eq_false_iff,Bool.and_eq_true,Bool.and_eq_false_iff,decide_eq_true_eq,decide_eq_false_iff_not] at *
 first
  |(unfold yg;rw [if_pos hc0,if_neg];intro h;obtain ⟨h1,h2,h3,h4,h5⟩:=h;rcases hc1 with (((h | h) | h) | h) | h<;>first | omega | exact h h5)
  |(unfold yg;rw [if_pos hc0,if_pos];exact ⟨Y18,Y18,Y18,Y18,zko⟩)
  |(have e0:¬ ¬ r.code=0:=by simpa using hc0
    unfold yg;rw [if_neg e0,if_pos hc2];done)
  |(have e0:¬ ¬ r.code=0:=by simpa using hc0
    have hff:=zbM hc0 hc2
    unfold yg;rw [if_neg e0,if_neg ziT]
    first
    |(have hne:=hff.2 hc3
      first
      |(rw [if_neg]
        rintro (h | h | h | h | h | h | h | h | h)
        ·exact h hne
        ·rw [hc4.1.1.1.1.1.1.1] at h;cases h
        ·rw [hc4.1.1.1.1.1.2] at h;cases h
        ·rw [hc4.1.1.1.1.1.1.2] at h;cases h
        all_goals omega)
      |(rw [if_pos]
        rcases hc4 with ((((((h | h) | h) | h) | h) | h) | h) | h
        ·exact .inr (.inl h)
        ·exact .inr (.inr (.inr (.inl h)))
        ·exact zj9
        ·exact zn7
        ·exact .inr (.inr (.inr (.inr (.inr (.inl ⟨h.1,Y18⟩)))))
        ·exact Y36
        ·exact Y37
        ·exact .inr (.inr (.inr (.inr (.inr (.inr (.inr (.inr Y18))))))))
      )
    |(have hne:¬ r=Xq r:=by
       rw [hff]
       rintro ⟨⟨⟨⟨⟨⟨a,b⟩,c⟩,d⟩,e⟩,f⟩,g⟩
       rcases hc3 with (((((h | h) | h) | h) | h) | h) | h
       ·exact a.elim h.1 h.2
       ·exact b.elim h.1 h.2
       ·exact c.elim h.1 h.2
       ·exact d.elim h.1 (fun k=>k h.2)
       ·exact e.elim h.1 (fun k=>k h.2)
       ·exact zp6
       ·exact g.elim h.1 (fun k=>k h.2)
      rw [if_pos (.inl hne)]))):p:=h
theorem Y40 {p:Prop} (h:p:=by
 refine rk (k:=rs (k:=rg [2] (k:=rR (k:=rP (by simp only [Tryz.f40,go_sem];rfl) hwf ⟨?_,rfl⟩))))
 refine congrArg (PV.int .i64) ?_
 simp only [Bool.not_eq_true',Bool.not_eq_false',Bool.or_eq_true,Bool.or_eq_false_iff,Bool.and_eq_true,Bool.and_eq_false_iff,decide_eq_true_eq,decide_eq_false_iff_not] at *
 first
  |(unfold yg;rw [if_pos hc0,if_neg];intro h;obtain ⟨h1,h2,h3,h4,h5⟩:=h;rcases hc1 with (((h | h) | h) | h) | h<;>first | omega | exact h h5)
  |(unfold yg;rw [if_pos hc0,if_pos];exact ⟨Y18,Y18,Y18,Y18,zko⟩)
  |(have e0:¬ ¬ r.code=0:=by simpa using hc0
    unfold yg;rw [if_neg e0,if_pos hc2];done)
  |(have e0:¬ ¬ r.code=0:=by simpa using hc0
    have hff:=zbM hc0 hc2
    unfold yg;rw [if_neg e0,if_neg ziT]
    first
    |(have hne:=hff.2 hc3
      first
      |(rw [if_neg]
        rintro (h | h | h | h | h | h | h | h | h)
        ·exact h hne
        ·rw [hc4.1.1.1.1.1.1.1] at h;cases h
        ·rw [hc4.1.1.1.1.1.2] at h;cases h
        ·rw [hc4.1.1.1.1.1.1.2] at h;cases h
        all_goals omega)
      |(rw [if_pos]
        rcases hc4 with ((((((h | h) | h) | h) | h) | h) | h) | h
        ·exact .inr (.inl h)
        ·exact .inr (.inr (.inr (.inl h)))
        ·exact zj9
        ·exact zn7
        ·exact .inr (.inr (.inr (.inr (.inr (.inl ⟨h.1,Y18⟩)))))
        ·exact Y36
        ·exact Y37
        ·exact .inr (.inr (.inr (.inr (.inr (.inr (.inr (.inr Y18))))))))
      )
    |(have hne:¬ r=Xq r:=by
       rw [hff]
       rintro ⟨⟨⟨⟨⟨⟨a,b⟩,c⟩,d⟩,e⟩,f⟩,g⟩
       rcases hc3 with (((((h | h) | h) | h) | h) | h) | h
       ·exact a.elim h.1 h.2
       ·exact b.elim h.1 h.2
       ·exact c.elim h.1 h.2
       ·exact d.elim h.1 (fun k=>k h.2)
       ·exact e.elim h.1 (fun k=>k h.2)
       ·exact zp6
       ·exact g.elim h.1 (fun k=>k h.2)
      rw [if_pos (.inl hne)]))):p:=h
theorem zhI {p:Prop} (h:p:=by show (_:Int)≤0;decide):p:=h
theorem zgM {p:Prop} (h:p:=by show (0:Int)≤_;decide):p:=h
set_option maxRecDepth 100000 in
theorem zjo {r:Rep} (hr:r.ok) {s:St}:za Tryz.prog 40 [r.pv] s (fun v s'=>v=.int .i64 (yg r)∧s'=s):=by
 refine go Tryz.func40 (k:=fun hwf H=>?_)
 have hz:(⟨r.fn,r.code,0,0,0,[],[],0,0,[]⟩:Rep).ok:=⟨hr.fn,hr.code,⟨zhI,zgM⟩,⟨zhI,zgM⟩,⟨zhI,zgM⟩,fun x hx=>(List.not_mem_nil hx).elim,⟨zhI,zgM⟩,⟨zhI,zgM⟩,fun x hx=>(List.not_mem_nil hx).elim,zjJ,ziL,zjJ⟩
 refine rs (k:=rg [1] (k:=rs (k:=rs (k:=rg [1,6] (k:=rc (ht:=fun hc0=>?_) (hf:=fun hc0=>?_))))))
 ·refine rs (k:=rs (k:=rr (k:=ro (pre:=[_,_,_,_,_,_,_,_,_,_,_,_,_,_,_,_,_,_,_,_,_,_,_,_,_]) (k:=rG (h:=fun hb=>zha (a:=r) (b:=⟨r.fn,r.code,0,0,0,[],[],0,0,[]⟩) hr hz) (k:=rh [34] (k:=rc (ht:=fun hc1=>?_) (hf:=fun hc1=>?_)))))))
  ·exact Y39
  ·exact Y40
 ·refine rk (k:=rs (k:=rs (k:=rr (k:=ro (pre:=[_,_]) (k:=rC (h:=ze4) (k:=rh [1,38] (k:=rc (ht:=fun hc2=>?_) (hf:=fun hc2=>?_))))))))
  ·exact Y39
  ·refine rk (k:=rs (k:=rr (k:=ro (pre:=[_,_]) (k:=rC (h:=zfB) (k:=rh [1,3] (k:=rs (k:=rs (k:=rrA [some 42,some 43,some 44,some 45,some 46,some 47,some 48,some 49,some 50,some 51,some 52,some 53,some 54,some 55,some 56,some 57,some 58,some 59,some 60,some 61,some 62,some 63,some 64,some 65,some 66,some 67,some 68,some 69,some 70,some 71,some 72,some 73,some 74,some 75,some 76,some 77,some 78,some 79,some 80,some 81,some 82,some 83,some 84,some 85,some 86,some 87,some 88,some 89,some 90,some 91,some 92,some 93,some 94,some 95,some 96,some 97,some 98,some 99,some 100,some 101,some 102,some 103,some 104,some 105,some 106,some 107,some 108,some 109,some 110,some 111,some 112,some 113,some 114,some 115,some 116,some 117] (k:=fun ops hops=>?_)))))))))
   have H:=aj hops H
   refine ro (pre:=[_]) (k:=rC (h:=xJ (uL r.fn) (uO r.fn)) (k:=ro (pre:=[_,_,_,_,_,_,_,_]) (k:=rG (h:=fun hb=>xJ (uL r.fn) (uO r.fn)) (k:=ro (pre:=[_,_,_,_,_,_,_,_,_]) (k:=rG (h:=fun hb=>xJ (uL r.fn) (uO r.fn)) (k:=ro (pre:=[_,_,_,_,_,_,_,_,_]) (k:=rG (h:=fun hb=>xJ (uL r.fn) (uO r.fn)) (k:=?_))))))))
   refine ro (pre:=[_,_,_,_,_,_,_,_,_,_]) (k:=rG (h:=fun hb=>xJ (uL r.fn) (uO r.fn)) (k:=ro (pre:=[_,_,_,_,_,_,_,_,_,_]) (k:=rG (h:=fun hb=>xJ (uL r.fn) (uO r.fn)) (k:=ro (pre:=[_,_,_,_,_,_,_,_,_,_,_,_,_,_]) (k:=rG (h:=fun hb=>xJ (uL r.fn) (uO r.fn)) (k:=rh [1,117] (k:=?_)))))))
   refine rc (ht:=fun hc3=>?_) (hf:=fun hc3=>?_)
   ·exact Y39
   ·refine rk (k:=rs (k:=rs (k:=rrA [some 118,some 119,some 120,some 121,some 122,some 123,some 124,some 125,some 126,some 127,some 128,some 129,some 130,some 131,some 132,some 133,some 134,some 135,some 136,some 137,some 138,some 139,some 140,some 141,some 142,some 143,some 144,some 145,some 146,some 147,some 148,some 149,some 150,some 151,some 152,some 153,some 154,some 155,some 156,some 157,some 158,some 159,some 160,some 161,some 162,some 163,some 164,some 165,some 166,some 167,some 168,some 169,some 170,some 171,some 172,some 173,some 174,some 175,some 176,some 177,some 178] (k:=fun ops hops=>?_))))
    have H:=aj hops H
    refine ro (pre:=[_,_]) (k:=rC (h:=uw) (k:=ro (pre:=[_,_,_,_]) (k:=rG (h:=fun hb=>uw) (k:=ro (pre:=[_,_,_,_,_]) (k:=rG (h:=fun hb=>uw) (k:=rh [178] (k:=rc (ht:=fun hc4=>?_) (hf:=fun hc4=>?_))))))))
    ·exact Y39
    ·exact Y40
end Go.Proofs
namespace Go.Proofs
open Go.PM
set_option maxHeartbeats 2000000
theorem Uo {x:Int} {ys zs:List Int} (hz:zs=x::(ys.length:Int)::ys) (hy:ys.length≤255) {s:St}:za Tryz.prog 57 [.sl .clip [.int .u8 x],.sl .unk (ys.map (PV.int .u8))] s (fun r s'=>r=.sl .unk (zs.map (PV.int .u8))∧s'=s):=by
 refine go Tryz.func57 (k:=fun hwf H=>?_)
 have hw1:IntKind.u8.wrap (ys.length:Int)=ys.length:=zan
 have H:=aj hw1 H
 refine rs (k:=rg [0,1] (k:=rs (k:=rr (k:=ro (pre:=[_,_,_,_]) (k:=rO (k:=?_))))))
 refine zm.grow' au au au Tryz.td41 Y26 (zp (P:=Tryz.prog) (e:=5) (f:=PV.int .u8) (fun a=>⟨rfl,Y27⟩) [_]) (zp (P:=Tryz.prog) (e:=5) (f:=PV.int .u8) (fun a=>⟨rfl,Y27⟩) [_]) Y28 (by rw [Tryz.by5];simp) (.inr (.inl (.inl rfl))) ?_
 intro k1 s1 hgr1 htm1
 refine ro (pre:=[_]) (k:=?_)
 refine zm.grow' au au au Tryz.td41 Y26 (zp (P:=Tryz.prog) (e:=5) (f:=PV.int .u8) (fun a=>⟨rfl,Y27⟩) [_,_]) (zp (P:=Tryz.prog) (e:=5) (f:=PV.int .u8) (fun a=>⟨rfl,Y27⟩) ys) Y28 Y81 (by simpa using hgr1) ?_
 intro k2 s2 hgr htm
 refine rh [4] (k:=rR (k:=?_))
 refine Ret.pure (r':=.sl .unk (zs.map (PV.int .u8))) (by simp only [Tryz.f57,go_sem,↓reduceIte]<;>rfl) (by subst hz;simp [PV.weak,PV.weaks,zB]) Y23 hwf (((Fr.refl hwf).tm htm1 (fun t z e=>Y17)).tm htm (fun t z e=>(htm1.fresh t z e).elim (fun ⟨z',h⟩=>by cases h) (fun h=>h.1))).blk ⟨rfl,rfl⟩
theorem zj5 {r:Rep} (hr:r.ok) (hg:yg r=0) (hc:r.code=0) (hf:r.fn=5∨r.fn=6∨r.fn=8∨r.fn=22):(⟨r.fn,r.at_,0,0,r.sub,r.bits,r.vals,r.and_,r.or_⟩:Req).ok∧zD ⟨r.fn,r.at_,0,0,r.sub,r.bits,r.vals,r.and_,r.or_⟩=0∧yF ⟨r.fn,r.at_,0,0,r.sub,r.bits,r.vals,r.and_,r.or_⟩=yK r:=by
 have hG:=WH hg hc
 have hE:=hG.eq
 refine ⟨⟨hr.fn,hr.at_,⟨zhI,zgM⟩,⟨zhI,zgM⟩,hr.sub,hr.vals,hr.and_,hr.or_,hr.nb,hr.nv⟩,?_,?_⟩
 ·refine zgr ⟨hG.has,?_,hG.wa,by show xD 0=true;decide,hG.ws,by show xD 0=true;decide,?_,?_,hG.mb,hG.mv⟩
  ·obtain ⟨fn,code,at_,count,sub,bits,vals,and_,or_,data⟩:=r
   simp only at hc hf hE ⊢
   rcases hf with e | e | e | e<;>subst e<;>simp [Xq,vL] at hE ⊢<;>simp [hE]
  ·obtain ⟨fn,code,at_,count,sub,bits,vals,and_,or_,data⟩:=r
   have h5:=hG.b5
   simp only at hc hf hE h5 ⊢
   rcases hf with e | e | e | e<;>subst e<;>simp [Xq,Zl] at hE h5 ⊢<;>simp [hE,h5]
  ·obtain ⟨fn,code,at_,count,sub,bits,vals,and_,or_,data⟩:=r
   have h5:=hG.v6
   simp only at hc hf hE h5 ⊢
   rcases hf with e | e | e | e<;>subst e<;>simp [Xq,uN] at hE h5 ⊢<;>simp [hE,h5]
 ·unfold yK
  rw [if_neg (fun k=>k hc)]
  unfold yF
  rcases hf with e | e | e | e<;>simp only [e]<;>simp
attribute [local go_sem] zf Rep.pv Req.pv
theorem znD {p:Prop} (h:p:=by exact Bool.noConfusion (hc4.symm.trans hc5)):p:=h
set_option maxRecDepth 100000 in
theorem zk2 {r:Rep} (hr:r.ok) (hr0:yg r=0) {s:St}:za Tryz.prog 41 [r.pv] s (fun v s'=>v=.sl .unk ((yK r).map (PV.int .u8))∧s'=s):=by
 refine go Tryz.func41 (k:=fun hwf H=>?_)
 have hu8c:IntKind.u8.wrap r.code=r.code∨r.code=0:=by
  by_cases hcz:r.code=0
  ·exact .inr hcz
  ·have:=zaP hr0 hcz
   left;rw [wg];omega
 have hfr:0≤r.fn∧r.fn≤127:=by
  by_cases hcz:r.code=0
  ·have:=(WH hr0 hcz).has
   have:=yM this
   omega
  ·have:=zaP hr0 hcz
   omega
 have hor:zR .or .i64 r.fn 128=r.fn+128:=We Y18
 have hu8:IntKind.u8.wrap r.fn=r.fn:=zan
 have hu8r:IntKind.u8.wrap (r.fn+128)=r.fn+128:=zan
 have H:=aj hor (aj hu8 (aj hu8r H))
 refine rs (k:=rg [1] (k:=rs (k:=rr (k:=ro (pre:=[_,_,_]) (k:=rO (k:=rh [1,3] (k:=rs (k:=rs (k:=rg [1,3,10] (k:=rc (ht:=fun hc0=>?_) (hf:=fun hc0=>?_)))))))))))
 refine rs (k:=?_)
 have hcz:¬ r.code=0:=Y85
 have hu8d:IntKind.u8.wrap r.code=r.code:=by rcases hu8c with h | h;exact h;exact absurd h hcz
 have H:=aj hu8d H
 refine rr (k:=ro (pre:=[_,_,_,_,_,_,_]) (k:=rO (k:=rh [2] (k:=rR (k:=?_)))))
 refine jO 1 ?_;rotate_left
 refine rk (k:=rs (k:=rs (k:=?_)))
 have hcz:r.code=0:=Y85
 have hG:=WH hr0 hcz
 have hfn:=yM hG.has
 have hmv:=hG.mv
 have hmb:=hG.mb
 have hmd:=hG.md
 have ia:=hr.at_
 have ic:=hr.count
 have hpl:=xe r.bits
 obtain ⟨V,hV⟩:∃ V,V=r.vals.flatMap zx:=⟨_,rfl⟩
 have hvl:V.length=2*r.vals.length:=zlM
 obtain ⟨L1,hL1⟩:∃ L,L=[r.fn]++zx r.at_:=⟨_,rfl⟩
 obtain ⟨L2,hL2⟩:∃ L,L=L1++zx r.count:=⟨_,rfl⟩
 obtain ⟨C,hC⟩:∃ C,C=r.fn::(V.length:Int)::V:=⟨_,rfl⟩
 obtain ⟨B,hB⟩:∃ B,B=r.fn::((xk r.bits).length:Int)::xk r.bits:=⟨_,rfl⟩
 obtain ⟨D,hD⟩:∃ D,D=r.fn::(r.data.length:Int)::r.data:=⟨_,rfl⟩
 have hll1:L1.length=3:=zlY
 refine rg [1,3,20] (k:=rb (k:=rs (k:=rs (k:=rg [1,3,20,21] (k:=rc (ht:=fun hc1=>?_) (hf:=fun hc1=>?_))))))
 refine rk (k:=rc (ht:=fun hc2=>?_) (hf:=fun hc2=>?_))
 refine jO 2 ?_;rotate_left
 ·exact zjm
 refine rg [1,3,20,21] (k:=rc (ht:=fun hc2=>?_) (hf:=fun hc2=>?_))
 refine jO 2 ?_;rotate_left
 refine rs (k:=rs (k:=rg [1,3,20,29] (k:=rc (ht:=fun hc3=>?_) (hf:=fun hc3=>?_))))
 refine rk (k:=rc (ht:=fun hc5=>?_) (hf:=fun hc5=>?_))
 refine jO 3 ?_;rotate_left
 ·exact Bool.noConfusion (hc3.symm.trans hc5)
 refine rs (k:=rg [1,3,20,29] (k:=rc (ht:=fun hc4=>?_) (hf:=fun hc4=>?_)))
 refine rk (k:=rc (ht:=fun hc5=>?_) (hf:=fun hc5=>?_))
 refine jO 3 ?_;rotate_left
 ·exact znD
 refine rg [1,3,20,29] (k:=rc (ht:=fun hc5=>?_) (hf:=fun hc5=>?_))
 refine jO 3 ?_;rotate_left
 refine rs (k:=rs (k:=rg [1,3,20,38] (k:=rc (ht:=fun hc6=>?_) (hf:=fun hc6=>?_))))
 refine rk (k:=rc (ht:=fun hc7=>?_) (hf:=fun hc7=>?_))
 refine jO 4 ?_;rotate_left
 ·exact Bool.noConfusion (hc6.symm.trans hc7)
 refine rg [1,3,20,38] (k:=rc (ht:=fun hc7=>?_) (hf:=fun hc7=>?_))
 refine jO 4 ?_;rotate_left
 refine rs (k:=rg [1,3,48] (k:=rc (ht:=fun hc8=>?_) (hf:=fun hc8=>?_)))
 refine rs (k:=rr (k:=ro (pre:=[_,_,_]) (k:=?_)))
 refine zm.call au au Y22 ((Uo hD Y18).mono ?_)
 refine jO 5 ?_;rotate_left
 refine rk (k:=rB (k:=rs (k:=?_)))
 have hf4:r.fn=5∨r.fn=6∨r.fn=8∨r.fn=22:=by
  clear H hL1 hL2 hB hC hD hV
  simp only [decide_eq_true_eq,decide_eq_false_iff_not] at *
  omega
 obtain ⟨hwo,hwr,hww⟩:=zj5 hr hr0 hcz hf4
 refine rr (k:=ro (pre:=[_,_,_,_,_,_,_,_,_,_,_,_,_,_,_]) (k:=rC (h:=zbS hwo hwr) (k:=rh [2] (k:=rR (k:=?_)))))
 refine jO 1 ?_;rotate_left
 any_goals
  refine jI 4 ?_
  refine rs (k:=?_)
  refine jO 6 ?_;rotate_left
 any_goals
  refine jI 6 ?_
  refine Run.drawC [] [2] Tryz.mixed Y22 ?_
  refine jO 7 ?_;rotate_left
 any_goals
  refine jI 7 ?_
  refine zj.pre (pre:=[_,_,_]) au ?_
  refine jO 8 ?_;rotate_left
 any_goals
  refine jI 8 ?_
  refine zj.call au au au Y22 (xF (l:=[r.fn]) hL1 ia Y71) ?_
  refine jO 9 ?_;rotate_left
 any_goals
  refine jI 2 ?_
  refine rs (k:=rr (k:=ro (pre:=[_,_,_]) (k:=rC (h:=zc1 (l:=r.bits) Y18) (k:=?_))))
  refine jO 10 ?_;rotate_left
 any_goals
  refine jI 3 ?_
  refine rs (k:=rr (k:=ro (pre:=[_,_,_]) (k:=rC (h:=Wa hV Y18) (k:=?_))))
  refine jO 11 ?_;rotate_left
 any_goals
  refine jI 9 ?_
  refine zj.pre (pre:=[_,_]) au ?_
  refine jO 12 ?_;rotate_left
 any_goals
  refine jI 10 ?_
  refine zm.call au au Y22 ((Uo hB Y18).mono ?_)
  refine jO 5 ?_;rotate_left
 any_goals
  refine jI 11 ?_
  refine zm.call au au Y22 ((Uo hC Y18).mono ?_)
  refine jO 5 ?_;rotate_left
 any_goals
  refine jI 12 ?_
  refine zj.call au au au Y22 (xF hL2 ic Y18) ?_
  refine jO 13 ?_;rotate_left
 any_goals
  refine jI 5 ?_
  rintro v s1 ⟨rfl,hs1⟩
  refine jO 14 ?_;rotate_left
 any_goals
  refine jI 13 ?_
  refine zj.all au ?_
  refine jO 15 ?_;rotate_left
 any_goals
  refine jI 14 ?_
  subst s1
  refine jO 16 ?_;rotate_left
 any_goals
  refine jI 16 ?_
  refine rh [2] (k:=rR (k:=?_))
  refine jO 1 ?_;rotate_left
 any_goals
  refine jI 15 ?_
  refine re (k:=rR (k:=?_))
  refine jO 1 ?_;rotate_left
 any_goals
  refine jI 1 ?_
  refine Ret.pure (r':=.sl .unk ((yK r).map (PV.int .u8))) (by simp only [Tryz.f41,go_sem,↓reduceIte]<;>rfl) ?_ Y23 hwf Y34 ⟨rfl,rfl⟩
  refine jO 17 ?_;rotate_left
 any_goals
  refine jI 17 ?_
  simp only [PV.weak,zB]
  refine jO 18 ?_;rotate_left
 any_goals
  refine jI 18 ?_
  first
   |(rw [← hww])
   |(unfold yK
     rw [if_pos hcz]
     rfl)
   |(refine congrArg (fun x=>PV.sl .unk x) ?_
     refine congrArg (List.map (PV.int .u8)) ?_
     clear hll1 hvl hpl hu8 hu8r hu8c hor hwf H hfr hc0
     simp only [decide_eq_true_eq,decide_eq_false_iff_not] at *
     have hcz':¬ ¬ r.code=0:=fun h=>h hcz
     unfold yK
     rw [if_neg hcz']
     clear hcz' hr0 hcz
     first
     |(simp [*];done)
     |(have e:r.fn=17:=by omega
       simp [*];done)
     | skip)
end Go.Proofs
namespace Go.Proofs
open Go.PM
set_option maxHeartbeats 2000000
attribute [local go_sem] ye zf Req.pv Rep.pv
theorem Y41 {p:Prop} (h:p:=by simp (disch:=first | omega |(simp only [zt,zq]<;>omega) | fail) only [go_sem]<;>rfl):p:=h
theorem Y42 {p:Prop} (h:p:=by have h0:=ltn hi;have h1:=lte hi;simp (disch:=first | omega |(simp only [zt,zq]<;>omega) | fail) only [go_sem,Nat.add_assoc,Nat.reduceAdd,↓reduceIte,h0,h1]):p:=h
theorem Y43 {p:Prop} (h:p:=by rw [hS];simp (disch:=first | omega |(simp only [zt,zq]<;>omega) | fail) only [go_sem]<;>rfl):p:=h
theorem Y88 {p:Prop} (h:p:=by show ((b.map (PV.int .u8)).drop 2).take (b.length-2)=_;rw [List.map_drop,List.take_of_length_le Y71]):p:=h
theorem Y89 {p:Prop} (h:p:=by simp (disch:=first | omega |(simp only [zt,zq]<;>omega) | fail) only [hmb,go_sem]<;>rfl):p:=h
theorem Y90 {p:Prop} (h:p:=by simp (disch:=first | omega |(simp only [zt,zq]<;>omega) | fail) only [g0,g1,g2,g3,gf,go_sem]<;>rfl):p:=h
theorem zpc {p:Prop} (h:p:=by have h0:=ltn hi;have h1:=lte hi;simp (disch:=first | omega |(simp only [zt,zq]<;>omega) | fail) only [hmb,go_sem,Nat.add_assoc,Nat.reduceAdd,↓reduceIte,h0,h1]):p:=h
theorem zoy {p:Prop} (h:p:=by have h0:=ltn hi;have h1:=lte hi;simp (disch:=first | omega |(simp only [zt,zq]<;>omega) | fail) only [g0,g1,g2,g3,gf,go_sem,Nat.add_assoc,Nat.reduceAdd,↓reduceIte,h0,h1]):p:=h
theorem zlJ {p:Prop} (h:p:=by simp only [PV.blw,PV.blws,and_true,true_and];exact zS _ _):p:=h
theorem znV {p:Prop} (h:p:=by have:=of_decide_eq_true hc3;omega):p:=h
theorem zpt {p:Prop} (h:p:=by show (b.map (PV.int .u8))[1]? =_;rw [List.getElem?_map,hy];rfl):p:=h
set_option maxRecDepth 100000 in
theorem zjY {b:List Int} (hb:OkB b) (hl:b.length≤10000000) {q:Req} (hq:q.ok) {s:St}:za Tryz.prog 15 [.sl .unk (b.map (PV.int .u8)),q.pv] s (fun r s'=>r=.tuple [(XO b q).1.pv,.int .i64 (XO b q).2]∧s'=s):=by
 refine go Tryz.func15 (k:=fun hwf H=>?_)
 have hor:∃ z,zR .or .i64 q.fn 128=z:=⟨_,rfl⟩
 obtain ⟨o,ho⟩:=hor
 have H:=aj ho H
 refine rs (k:=rg [0,3,4] (k:=rs (k:=rs (k:=rg [0,3,4,12] (k:=rc (ht:=fun hc0=>?_) (hf:=fun hc0=>?_))))))
 refine jO 1 ?_;rotate_left
 refine rk (k:=rs (k:=?_))
 have hlt:0<b.length:=zpR
 obtain ⟨x,hx⟩:∃ x,b[0]? =some x:=⟨b[0],List.getElem?_eq_getElem hlt⟩
 have hxx:(b.map (PV.int .u8))[0]? =some (.int .u8 x):=zgb
 have hlT:(0<b.length)=True:=eq_true hlt
 have hx8:U8 x:=hb x (List.mem_of_getElem? hx)
 have hxw:IntKind.i64.wrap x=x:=zi zeC
 have hg0:(b[0]?).getD 0=x:=zgi
 have ha127:zR .and .i64 x 127=x%128:=VT x
 have h00:¬ b=[]:=by intro h;rw [h] at hlt;cases hlt
 have H:=aj hxx (aj hlT (aj hxw (aj ha127 H)))
 refine rg [0,3,4,6] (k:=rs (k:=rs (k:=rg [0,3,4,6,38] (k:=rc (ht:=fun hc1=>?_) (hf:=fun hc1=>?_)))))
 refine jO 1 ?_;rotate_left
 refine rk (k:=rs (k:=?_))
 obtain ⟨T,hT⟩:∃ T,T=xL b q:=⟨_,rfl⟩
 have hTo:T.ok:=by rw [hT];exact zkw hb Y18 q
 refine rg [0,3,4,6,7] (k:=rs (k:=rs (k:=rg [0,3,4,6,7,43] (k:=?_))))
 refine Run.join (fun e s'=>∃ kb kv kd:SK,e=[(0,.sl .unk (b.map (PV.int .u8))),(3,.ptr s.nxt 0 0),(4,.ptr (s.nxt+1) 0 0),(6,.int .i64 x),(7,.ptr (s.nxt+2) 0 0)]∧s'.blk s.nxt=some (.row 47 [.agg [.int .i64 q.fn,.int .i64 q.at_,.int .i64 q.count,.int .i64 q.wat,.int .i64 q.sub,.sl .unk (q.bits.map PV.bool),.sl .unk (q.vals.map (PV.int .u16)),.int .u16 q.and_,.int .u16 q.or_]])∧s'.blk (s.nxt+1)=some (.row 52 [.agg [.int .i64 0,.int .i64 0,.int .i64 0,.int .i64 0,.int .i64 0,.sl .nil [],.sl .nil [],.int .u16 0,.int .u16 0,.sl .nil []]])∧s'.blk (s.nxt+2)=some (.row 52 [.agg [.int .i64 T.fn,.int .i64 T.code,.int .i64 T.at_,.int .i64 T.count,.int .i64 T.sub,.sl kb (T.bits.map PV.bool),.sl kv (T.vals.map (PV.int .u16)),.int .u16 T.and_,.int .u16 T.or_,.sl kd (T.data.map (PV.int .u8))]])∧(∀ i,i<s.nxt→s'.blk i=s.blk i)) ?_ ?_
 rintro e s2 ⟨kb,kv,kd,rfl,r0,r1,r2,hfr⟩
 have H:=aj r0 (aj r1 (aj r2 H))
 refine rs (k:=rs (k:=?_))
 have hst:((vf (yK T)).toList==(vf b).toList)=decide (yK T=b)∨¬ yg T=0:=by
  by_cases hg:yg T=0
  ·exact .inl (zf9 (zig hTo hg) hb)
  ·exact .inr hg
 refine Run.drawC [] [4,7,165] Tryz.mixed Y22 ?_
 refine zj.pre (pre:=[_]) au ?_
 refine zj.call au au au Y22 (zjo hTo) ?_
 refine zj.pre (pre:=[_,_]) au ?_
 rcases hd3:(!decide (yg T=0)) with _ | _
 have H:=aj hd3 H
 have hst2:((vf (yK T)).toList==(vf b).toList)=decide (yK T=b):=hst.resolve_right (by simpa using hd3)
 have H:=aj hst2 H
 refine zj.gdo au au ?_
 refine zj.call au au au Y22 (zk2 hTo (by simpa using hd3)) ?_
 refine zj.gdo au au ?_
 refine zj.gdo au au ?_
 refine zj.gdo au au ?_
 refine zj.gdo au au ?_
 refine jO 2 ?_;rotate_left
 have H:=aj hd3 H
 refine zj.gskip' au ?_
 refine zj.gskip' au ?_
 refine zj.gskip' au ?_
 refine zj.gskip' au ?_
 refine zj.gskip' au ?_
 refine zj.gskip' au ?_
 refine jO 2 ?_;rotate_left
 intro hJc2
 refine rc (ht:=fun hc2=>?_) (hf:=fun hc2=>?_)
 ·refine rs (k:=rg [0,3,4,6,7] (k:=rs (k:=rg [0,3,4,6,7,49] (k:=rc (ht:=fun hc3=>?_) (hf:=fun hc3=>?_)))))
  ·have hl1:1<b.length:=znV
   obtain ⟨y,hy⟩:∃ y,b[1]? =some y:=⟨b[1],List.getElem?_eq_getElem hl1⟩
   have hyy:(b.map (PV.int .u8))[Int.toNat 1]? =some (.int .u8 y):=zpt
   have hlT1:((1:Int)<(b.length:Int))=True:=eq_true Y18
   have hy8:U8 y:=hb y (List.mem_of_getElem? hy)
   have hyw:IntKind.i64.wrap y=y:=zi (by unfold U8 at hy8;omega)
   have hy0:(b[1]?).getD 0=y:=by rw [hy];rfl
   have H:=aj hyy (aj hlT1 (aj hyw H))
   refine rg [0,3,4,6,7] (k:=rp [0,3,4,6,7] (k:=?_))
   refine hJc2 _ _ ⟨.nil,.nil,.nil,rfl,Y41,Y41,?_,fun i hi=>Y42⟩
   simp (disch:=first | omega |(simp only [zt,zq]<;>omega) | fail) only [go_sem]
   simp only [decide_eq_true_eq,decide_eq_false_iff_not] at *
   have hTe:T=⟨x%128,if 1<b.length then (b[1]?).getD 0 else 0,0,0,0,[],[],0,0,[]⟩:=by
    rw [hT]
    unfold xL
    simp only [hg0]
    rw [if_pos Y18]
   rw [hTe]
   simp only [if_pos (show 1<b.length from Y18)]
   rw [hy0]
   rfl
  ·refine rk (k:=rp [0,3,4,6,7] (k:=?_))
   refine hJc2 _ _ ⟨.nil,.nil,.nil,rfl,Y41,Y41,?_,fun i hi=>Y42⟩
   simp (disch:=first | omega |(simp only [zt,zq]<;>omega) | fail) only [go_sem]
   simp only [decide_eq_true_eq,decide_eq_false_iff_not] at *
   have hTe:T=⟨x%128,if 1<b.length then (b[1]?).getD 0 else 0,0,0,0,[],[],0,0,[]⟩:=by
    rw [hT]
    unfold xL
    simp only [hg0]
    rw [if_pos Y18]
   rw [hTe]
   simp only [if_neg (show ¬ 1<b.length from Y18)]
   rfl
 refine rs (k:=rr (k:=ro (pre:=[_]) (k:=rC (h:=zfB) (k:=rh [0,3,4,6,7,8] (k:=rs (k:=rs (k:=rr (k:=ro (pre:=[_]) (k:=rC (h:=xJ (uL x) (uO x)) (k:=rl [0,3,4,6,7,58] (k:=rc (ht:=fun hc4=>?_) (hf:=fun hc4=>?_))))))))))))
 refine rr (k:=ro (pre:=[_]) (k:=rC (h:=wQ (b:=b) hb Y18 (i:=1) Y18) (k:=rh [0,3,4,6,7] (k:=rs (k:=rg [0,3,4,6,7,62] (k:=rb (k:=rs (k:=rs (k:=rg [0,3,4,6,7,62,80] (k:=rc (ht:=fun hc5=>?_) (hf:=fun hc5=>?_)))))))))))
 refine rk (k:=rc (ht:=fun hc6=>?_) (hf:=fun hc6=>?_))
 refine jO 3 ?_;rotate_left
 ·exact zmo
 refine rg [0,3,4,6,7,62,80] (k:=rc (ht:=fun hc6=>?_) (hf:=fun hc6=>?_))
 refine jO 3 ?_;rotate_left
 refine rs (k:=rs (k:=rg [0,3,4,6,7,62,95] (k:=rc (ht:=fun hc8=>?_) (hf:=fun hc8=>?_))))
 refine rk (k:=rc (ht:=fun hc10=>?_) (hf:=fun hc10=>?_))
 refine jO 4 ?_;rotate_left
 ·exact Bool.noConfusion (hc8.symm.trans hc10)
 refine rs (k:=rg [0,3,4,6,7,62,95] (k:=rc (ht:=fun hc9=>?_) (hf:=fun hc9=>?_)))
 refine rk (k:=rc (ht:=fun hc10=>?_) (hf:=fun hc10=>?_))
 refine jO 4 ?_;rotate_left
 ·exact Bool.noConfusion (hc9.symm.trans hc10)
 refine rg [0,3,4,6,7,62,95] (k:=rc (ht:=fun hc10=>?_) (hf:=fun hc10=>?_))
 refine jO 4 ?_;rotate_left
 refine rs (k:=rs (k:=rg [0,3,4,6,7,62,102] (k:=rc (ht:=fun hc11=>?_) (hf:=fun hc11=>?_))))
 refine rk (k:=rc (ht:=fun hc12=>?_) (hf:=fun hc12=>?_))
 refine jO 5 ?_;rotate_left
 ·exact znk
 refine rg [0,3,4,6,7,62,102] (k:=rc (ht:=fun hc12=>?_) (hf:=fun hc12=>?_))
 refine jO 5 ?_;rotate_left
 ·refine rs (k:=rg [0,3,4,6,7,108] (k:=rc (ht:=fun hc13=>?_) (hf:=fun hc13=>?_)))
  ·refine rs (k:=rg [0,3,4,6,7,112] (k:=rc (ht:=fun hc14=>?_) (hf:=fun hc14=>?_)))
   ·have hlen:1<b.length:=by have:=of_decide_eq_true hc14;omega
    have hd1:((2:Int)≤(b.length:Int))=True:=eq_true Y18
    have htk:((b.length:Int)-2).toNat=b.length-2:=Y18
    have hlm:((b.map (PV.int .u8)).drop (2:Int).toNat).take (b.length-2)=((b.drop 2).map (PV.int .u8)):=Y88
    have hd2:((0:Int)≤2)=True:=Y19
    have hd3:((2:Int)=0)=False:=Y19
    have H:=aj hd1 (aj htk (aj hlm (aj hd2 (aj hd3 H))))
    refine rr (k:=rO (k:=ro (pre:=[_,_]) (k:=?_)))
    refine zm.made au au au Tryz.td41 Y26 (zp (P:=Tryz.prog) (e:=5) (f:=PV.int .u8) (fun a=>⟨rfl,Y27⟩) _) Y28 Y86 (.inr rfl) ?_
    intro k1 s1 hm1
    have hmb:=hm1.blk
    have H:=aj hmb H
    refine rh [0,3,4,6,7] (k:=rB (k:=rp [0,3,4,6,7] (k:=?_)))
    refine hJc2 _ _ ⟨.nil,.nil,k1,rfl,Y89,Y89,?_,fun i hi=>zpc⟩
    simp (disch:=first | omega |(simp only [zt,zq]<;>omega) | fail) only [hmb,go_sem]
    simp only [decide_eq_true_eq,decide_eq_false_iff_not] at *
    have hTe:T=⟨x,0,if 97∈wU x then zP b 1 else 0,0,0,[],[],0,0,if 1<b.length then b.drop 2 else []⟩:=by
     rw [hT]
     unfold xL
     simp only [hg0]
     rw [if_neg Y18,if_neg Y18,if_neg Y18,if_neg Y18,if_pos Y18]
    rw [hTe]
    simp only [if_pos hc4]
    simp only [if_pos (show 1<b.length from Y18)]
    rfl
   ·refine rk (k:=rB (k:=rp [0,3,4,6,7] (k:=?_)))
    refine hJc2 _ _ ⟨.nil,.nil,.nil,rfl,Y41,Y41,?_,fun i hi=>Y42⟩
    simp (disch:=first | omega |(simp only [zt,zq]<;>omega) | fail) only [go_sem]
    simp only [decide_eq_true_eq,decide_eq_false_iff_not] at *
    have hTe:T=⟨x,0,if 97∈wU x then zP b 1 else 0,0,0,[],[],0,0,if 1<b.length then b.drop 2 else []⟩:=by
     rw [hT]
     unfold xL
     simp only [hg0]
     rw [if_neg Y18,if_neg Y18,if_neg Y18,if_neg Y18,if_pos Y18]
    rw [hTe]
    simp only [if_pos hc4]
    simp only [if_neg (show ¬ 1<b.length from Y18)]
    rfl
  ·refine rs (k:=rr (k:=ro (pre:=[_]) (k:=rC (h:=zbj hb Y18 hx) (k:=rh [0,3,4,6,7,9] (k:=?_)))))
   refine Run.genS fun S hS=>?_
   have g0:S.blk s.nxt=some (.row 47 [.agg [.int .i64 q.fn,.int .i64 q.at_,.int .i64 q.count,.int .i64 q.wat,.int .i64 q.sub,.sl .unk (q.bits.map PV.bool),.sl .unk (q.vals.map (PV.int .u16)),.int .u16 q.and_,.int .u16 q.or_]]):=Y43
   have g1:S.blk (s.nxt+1)=some (.row 52 [.agg [.int .i64 0,.int .i64 0,.int .i64 0,.int .i64 0,.int .i64 0,.sl .nil [],.sl .nil [],.int .u16 0,.int .u16 0,.sl .nil []]]):=Y43
   have g2:S.blk (s.nxt+1+1)=some (.row 52 [.agg [.int .i64 x,.int .i64 0,.int .i64 (zP b 1),.int .i64 0,.int .i64 0,.sl .nil [],.sl .nil [],.int .u16 0,.int .u16 0,.sl .nil []]]):=Y43
   have g3:S.blk (s.nxt+1+1+1)=some (.row 47 [.agg [.int .i64 (zC b).fn,.int .i64 (zC b).at_,.int .i64 (zC b).count,.int .i64 (zC b).wat,.int .i64 (zC b).sub,.sl .unk ((zC b).bits.map PV.bool),.sl .unk ((zC b).vals.map (PV.int .u16)),.int .u16 (zC b).and_,.int .u16 (zC b).or_]]):=Y43
   have gf:∀ i,i<s.nxt→S.blk i=s.blk i:=by
    intro i hi
    rw [hS]
    have h0:=ltn hi;have h1:=lte hi
    simp (disch:=first | omega |(simp only [zt,zq]<;>omega) | fail) only [go_sem,Nat.add_assoc,Nat.reduceAdd,↓reduceIte,h0,h1]
   clear hS
   have H:=aj g0 (aj g1 (aj g2 (aj g3 (aj gf H))))
   refine Run.drawM 20 [11,13,15,17,19] [S,(S.set (s.nxt+1+1) (some (.row 52 [.agg [.int .i64 x,.int .i64 0,.int .i64 (zP b 1),.int .i64 0,.int .i64 (zC b).sub,.sl .nil [],.sl .nil [],.int .u16 0,.int .u16 0,.sl .nil []]]))),(S.set (s.nxt+1+1) (some (.row 52 [.agg [.int .i64 x,.int .i64 0,.int .i64 (zP b 1),.int .i64 0,.int .i64 (zC b).sub,.sl .unk ((zC b).bits.map PV.bool),.sl .nil [],.int .u16 0,.int .u16 0,.sl .nil []]]))),(S.set (s.nxt+1+1) (some (.row 52 [.agg [.int .i64 x,.int .i64 0,.int .i64 (zP b 1),.int .i64 0,.int .i64 (zC b).sub,.sl .unk ((zC b).bits.map PV.bool),.sl .unk ((zC b).vals.map (PV.int .u16)),.int .u16 0,.int .u16 0,.sl .nil []]]))),(S.set (s.nxt+1+1) (some (.row 52 [.agg [.int .i64 x,.int .i64 0,.int .i64 (zP b 1),.int .i64 0,.int .i64 (zC b).sub,.sl .unk ((zC b).bits.map PV.bool),.sl .unk ((zC b).vals.map (PV.int .u16)),.int .u16 (zC b).and_,.int .u16 0,.sl .nil []]]))),(S.set (s.nxt+1+1) (some (.row 52 [.agg [.int .i64 x,.int .i64 0,.int .i64 (zP b 1),.int .i64 0,.int .i64 (zC b).sub,.sl .unk ((zC b).bits.map PV.bool),.sl .unk ((zC b).vals.map (PV.int .u16)),.int .u16 (zC b).and_,.int .u16 (zC b).or_,.sl .nil []]])))] Tryz.mixed Y22 Y22 ?_
   refine zG.pre (pre:=[_,_,_,_,_,_,_,_,_,_,_]) Y19 List.mem_cons_self au ?_
   refine zG.eff Y19 List.mem_cons_self au au ?_
   refine zG.pre (pre:=[_]) Y19 (List.mem_cons_of_mem _ List.mem_cons_self) au ?_
   refine zG.eff Y19 (List.mem_cons_of_mem _ List.mem_cons_self) au au ?_
   refine zG.pre (pre:=[_]) Y19 (List.mem_cons_of_mem _ (List.mem_cons_of_mem _ List.mem_cons_self)) au ?_
   refine zG.eff Y19 (List.mem_cons_of_mem _ (List.mem_cons_of_mem _ List.mem_cons_self)) au au ?_
   refine zG.pre (pre:=[_]) Y19 (List.mem_cons_of_mem _ (List.mem_cons_of_mem _ (List.mem_cons_of_mem _ List.mem_cons_self))) au ?_
   refine zG.eff Y19 (List.mem_cons_of_mem _ (List.mem_cons_of_mem _ (List.mem_cons_of_mem _ List.mem_cons_self))) au au ?_
   refine zG.pre (pre:=[_]) Y19 (List.mem_cons_of_mem _ (List.mem_cons_of_mem _ (List.mem_cons_of_mem _ (List.mem_cons_of_mem _ List.mem_cons_self)))) au ?_
   refine zG.eff Y19 (List.mem_cons_of_mem _ (List.mem_cons_of_mem _ (List.mem_cons_of_mem _ (List.mem_cons_of_mem _ List.mem_cons_self)))) au au ?_
   refine zG.nil (List.mem_cons_of_mem _ (List.mem_cons_of_mem _ (List.mem_cons_of_mem _ (List.mem_cons_of_mem _ (List.mem_cons_of_mem _ List.mem_cons_self))))) ?_
   refine rl [0,3,4,6,7] (k:=rB (k:=rp [0,3,4,6,7] (k:=?_)))
   refine hJc2 _ _ ⟨.unk,.unk,.nil,rfl,Y90,Y90,?_,fun i hi=>zoy⟩
   simp (disch:=first | omega |(simp only [zt,zq]<;>omega) | fail) only [g0,g1,g2,g3,gf,go_sem]
   simp only [decide_eq_true_eq,decide_eq_false_iff_not] at *
   have hTe:T=⟨x,0,if 97∈wU x then zP b 1 else 0,0,(zC b).sub,(zC b).bits,(zC b).vals,(zC b).and_,(zC b).or_,[]⟩:=by
    rw [hT]
    unfold xL
    simp only [hg0]
    rw [if_neg Y18,if_neg Y18,if_neg Y18,if_neg Y18,if_neg Y18]
   rw [hTe]
   simp only [if_pos hc4]
   rfl
 refine rk (k:=rs (k:=rg [0,3,4,6,7,62] (k:=rb (k:=rs (k:=rs (k:=rg [0,3,4,6,7,62,80] (k:=rc (ht:=fun hc5=>?_) (hf:=fun hc5=>?_))))))))
 refine rk (k:=rc (ht:=fun hc6=>?_) (hf:=fun hc6=>?_))
 refine jO 6 ?_;rotate_left
 ·exact zmo
 refine rg [0,3,4,6,7,62,80] (k:=rc (ht:=fun hc6=>?_) (hf:=fun hc6=>?_))
 refine jO 6 ?_;rotate_left
 refine rs (k:=rs (k:=rg [0,3,4,6,7,62,95] (k:=rc (ht:=fun hc8=>?_) (hf:=fun hc8=>?_))))
 refine rk (k:=rc (ht:=fun hc10=>?_) (hf:=fun hc10=>?_))
 refine jO 7 ?_;rotate_left
 ·exact Bool.noConfusion (hc8.symm.trans hc10)
 refine rs (k:=rg [0,3,4,6,7,62,95] (k:=rc (ht:=fun hc9=>?_) (hf:=fun hc9=>?_)))
 refine rk (k:=rc (ht:=fun hc10=>?_) (hf:=fun hc10=>?_))
 refine jO 7 ?_;rotate_left
 ·exact Bool.noConfusion (hc9.symm.trans hc10)
 refine rg [0,3,4,6,7,62,95] (k:=rc (ht:=fun hc10=>?_) (hf:=fun hc10=>?_))
 refine jO 7 ?_;rotate_left
 refine rs (k:=rs (k:=rg [0,3,4,6,7,62,102] (k:=rc (ht:=fun hc11=>?_) (hf:=fun hc11=>?_))))
 refine rk (k:=rc (ht:=fun hc12=>?_) (hf:=fun hc12=>?_))
 refine jO 8 ?_;rotate_left
 ·exact znk
 refine rg [0,3,4,6,7,62,102] (k:=rc (ht:=fun hc12=>?_) (hf:=fun hc12=>?_))
 refine jO 8 ?_;rotate_left
 ·refine rs (k:=rg [0,3,4,6,7,108] (k:=rc (ht:=fun hc13=>?_) (hf:=fun hc13=>?_)))
  ·refine rs (k:=rg [0,3,4,6,7,112] (k:=rc (ht:=fun hc14=>?_) (hf:=fun hc14=>?_)))
   ·have hlen:1<b.length:=by have:=of_decide_eq_true hc14;omega
    have hd1:((2:Int)≤(b.length:Int))=True:=eq_true Y18
    have htk:((b.length:Int)-2).toNat=b.length-2:=Y18
    have hlm:((b.map (PV.int .u8)).drop (2:Int).toNat).take (b.length-2)=((b.drop 2).map (PV.int .u8)):=Y88
    have hd2:((0:Int)≤2)=True:=Y19
    have hd3:((2:Int)=0)=False:=Y19
    have H:=aj hd1 (aj htk (aj hlm (aj hd2 (aj hd3 H))))
    refine rr (k:=rO (k:=ro (pre:=[_,_]) (k:=?_)))
    refine zm.made au au au Tryz.td41 Y26 (zp (P:=Tryz.prog) (e:=5) (f:=PV.int .u8) (fun a=>⟨rfl,Y27⟩) _) Y28 Y86 (.inr rfl) ?_
    intro k1 s1 hm1
    have hmb:=hm1.blk
    have H:=aj hmb H
    refine rh [0,3,4,6,7] (k:=rB (k:=rp [0,3,4,6,7] (k:=?_)))
    refine hJc2 _ _ ⟨.nil,.nil,k1,rfl,Y89,Y89,?_,fun i hi=>zpc⟩
    simp (disch:=first | omega |(simp only [zt,zq]<;>omega) | fail) only [hmb,go_sem]
    simp only [decide_eq_true_eq,decide_eq_false_iff_not] at *
    have hTe:T=⟨x,0,if 97∈wU x then zP b 1 else 0,0,0,[],[],0,0,if 1<b.length then b.drop 2 else []⟩:=by
     rw [hT]
     unfold xL
     simp only [hg0]
     rw [if_neg Y18,if_neg Y18,if_neg Y18,if_neg Y18,if_pos Y18]
    rw [hTe]
    simp only [if_neg hc4]
    simp only [if_pos (show 1<b.length from Y18)]
    rfl
   ·refine rk (k:=rB (k:=rp [0,3,4,6,7] (k:=?_)))
    refine hJc2 _ _ ⟨.nil,.nil,.nil,rfl,Y41,Y41,?_,fun i hi=>Y42⟩
    simp (disch:=first | omega |(simp only [zt,zq]<;>omega) | fail) only [go_sem]
    simp only [decide_eq_true_eq,decide_eq_false_iff_not] at *
    have hTe:T=⟨x,0,if 97∈wU x then zP b 1 else 0,0,0,[],[],0,0,if 1<b.length then b.drop 2 else []⟩:=by
     rw [hT]
     unfold xL
     simp only [hg0]
     rw [if_neg Y18,if_neg Y18,if_neg Y18,if_neg Y18,if_pos Y18]
    rw [hTe]
    simp only [if_neg hc4]
    simp only [if_neg (show ¬ 1<b.length from Y18)]
    rfl
  ·refine rs (k:=rr (k:=ro (pre:=[_]) (k:=rC (h:=zbj hb Y18 hx) (k:=rh [0,3,4,6,7,9] (k:=?_)))))
   refine Run.genS fun S hS=>?_
   have g0:S.blk s.nxt=some (.row 47 [.agg [.int .i64 q.fn,.int .i64 q.at_,.int .i64 q.count,.int .i64 q.wat,.int .i64 q.sub,.sl .unk (q.bits.map PV.bool),.sl .unk (q.vals.map (PV.int .u16)),.int .u16 q.and_,.int .u16 q.or_]]):=Y43
   have g1:S.blk (s.nxt+1)=some (.row 52 [.agg [.int .i64 0,.int .i64 0,.int .i64 0,.int .i64 0,.int .i64 0,.sl .nil [],.sl .nil [],.int .u16 0,.int .u16 0,.sl .nil []]]):=Y43
   have g2:S.blk (s.nxt+1+1)=some (.row 52 [.agg [.int .i64 x,.int .i64 0,.int .i64 0,.int .i64 0,.int .i64 0,.sl .nil [],.sl .nil [],.int .u16 0,.int .u16 0,.sl .nil []]]):=Y43
   have g3:S.blk (s.nxt+1+1+1)=some (.row 47 [.agg [.int .i64 (zC b).fn,.int .i64 (zC b).at_,.int .i64 (zC b).count,.int .i64 (zC b).wat,.int .i64 (zC b).sub,.sl .unk ((zC b).bits.map PV.bool),.sl .unk ((zC b).vals.map (PV.int .u16)),.int .u16 (zC b).and_,.int .u16 (zC b).or_]]):=Y43
   have gf:∀ i,i<s.nxt→S.blk i=s.blk i:=by
    intro i hi
    rw [hS]
    have h0:=ltn hi;have h1:=lte hi
    simp (disch:=first | omega |(simp only [zt,zq]<;>omega) | fail) only [go_sem,Nat.add_assoc,Nat.reduceAdd,↓reduceIte,h0,h1]
   clear hS
   have H:=aj g0 (aj g1 (aj g2 (aj g3 (aj gf H))))
   refine Run.drawM 20 [11,13,15,17,19] [S,(S.set (s.nxt+1+1) (some (.row 52 [.agg [.int .i64 x,.int .i64 0,.int .i64 0,.int .i64 0,.int .i64 (zC b).sub,.sl .nil [],.sl .nil [],.int .u16 0,.int .u16 0,.sl .nil []]]))),(S.set (s.nxt+1+1) (some (.row 52 [.agg [.int .i64 x,.int .i64 0,.int .i64 0,.int .i64 0,.int .i64 (zC b).sub,.sl .unk ((zC b).bits.map PV.bool),.sl .nil [],.int .u16 0,.int .u16 0,.sl .nil []]]))),(S.set (s.nxt+1+1) (some (.row 52 [.agg [.int .i64 x,.int .i64 0,.int .i64 0,.int .i64 0,.int .i64 (zC b).sub,.sl .unk ((zC b).bits.map PV.bool),.sl .unk ((zC b).vals.map (PV.int .u16)),.int .u16 0,.int .u16 0,.sl .nil []]]))),(S.set (s.nxt+1+1) (some (.row 52 [.agg [.int .i64 x,.int .i64 0,.int .i64 0,.int .i64 0,.int .i64 (zC b).sub,.sl .unk ((zC b).bits.map PV.bool),.sl .unk ((zC b).vals.map (PV.int .u16)),.int .u16 (zC b).and_,.int .u16 0,.sl .nil []]]))),(S.set (s.nxt+1+1) (some (.row 52 [.agg [.int .i64 x,.int .i64 0,.int .i64 0,.int .i64 0,.int .i64 (zC b).sub,.sl .unk ((zC b).bits.map PV.bool),.sl .unk ((zC b).vals.map (PV.int .u16)),.int .u16 (zC b).and_,.int .u16 (zC b).or_,.sl .nil []]])))] Tryz.mixed Y22 Y22 ?_
   refine zG.pre (pre:=[_,_,_,_,_,_,_,_,_,_,_]) Y19 List.mem_cons_self au ?_
   refine zG.eff Y19 List.mem_cons_self au au ?_
   refine zG.pre (pre:=[_]) Y19 (List.mem_cons_of_mem _ List.mem_cons_self) au ?_
   refine zG.eff Y19 (List.mem_cons_of_mem _ List.mem_cons_self) au au ?_
   refine zG.pre (pre:=[_]) Y19 (List.mem_cons_of_mem _ (List.mem_cons_of_mem _ List.mem_cons_self)) au ?_
   refine zG.eff Y19 (List.mem_cons_of_mem _ (List.mem_cons_of_mem _ List.mem_cons_self)) au au ?_
   refine zG.pre (pre:=[_]) Y19 (List.mem_cons_of_mem _ (List.mem_cons_of_mem _ (List.mem_cons_of_mem _ List.mem_cons_self))) au ?_
   refine zG.eff Y19 (List.mem_cons_of_mem _ (List.mem_cons_of_mem _ (List.mem_cons_of_mem _ List.mem_cons_self))) au au ?_
   refine zG.pre (pre:=[_]) Y19 (List.mem_cons_of_mem _ (List.mem_cons_of_mem _ (List.mem_cons_of_mem _ (List.mem_cons_of_mem _ List.mem_cons_self)))) au ?_
   refine zG.eff Y19 (List.mem_cons_of_mem _ (List.mem_cons_of_mem _ (List.mem_cons_of_mem _ (List.mem_cons_of_mem _ List.mem_cons_self)))) au au ?_
   refine zG.nil (List.mem_cons_of_mem _ (List.mem_cons_of_mem _ (List.mem_cons_of_mem _ (List.mem_cons_of_mem _ (List.mem_cons_of_mem _ List.mem_cons_self))))) ?_
   refine rl [0,3,4,6,7] (k:=rB (k:=rp [0,3,4,6,7] (k:=?_)))
   refine hJc2 _ _ ⟨.unk,.unk,.nil,rfl,Y90,Y90,?_,fun i hi=>zoy⟩
   simp (disch:=first | omega |(simp only [zt,zq]<;>omega) | fail) only [g0,g1,g2,g3,gf,go_sem]
   simp only [decide_eq_true_eq,decide_eq_false_iff_not] at *
   have hTe:T=⟨x,0,if 97∈wU x then zP b 1 else 0,0,(zC b).sub,(zC b).bits,(zC b).vals,(zC b).and_,(zC b).or_,[]⟩:=by
    rw [hT]
    unfold xL
    simp only [hg0]
    rw [if_neg Y18,if_neg Y18,if_neg Y18,if_neg Y18,if_neg Y18]
   rw [hTe]
   simp only [if_neg hc4]
   rfl
 any_goals
  refine jI 2 ?_
  refine zj.all au ?_
  refine jO 9 ?_;rotate_left
 any_goals
  refine jI 9 ?_
  refine re (k:=rc (ht:=fun hc15=>?_) (hf:=fun hc15=>?_))
  refine jO 1 ?_;rotate_left
  refine jO 10 ?_;rotate_left
 any_goals
  refine jI 3 ?_
  refine rs (k:=rg [0,3,4,6,7,85] (k:=rc (ht:=fun hc7=>?_) (hf:=fun hc7=>?_)))
  refine jO 11 ?_;rotate_left
  refine jO 12 ?_;rotate_left
 any_goals
  refine jI 6 ?_
  refine rs (k:=rg [0,3,4,6,7,85] (k:=rc (ht:=fun hc7=>?_) (hf:=fun hc7=>?_)))
  refine jO 13 ?_;rotate_left
  refine jO 14 ?_;rotate_left
 any_goals
  refine jI 10 ?_
  refine rk (k:=rs (k:=rg [4,5] (k:=rR (k:=?_))))
  refine jO 15 ?_;rotate_left
 any_goals
  refine jI 1 ?_
  refine rs (k:=rg [4,5] (k:=rR (k:=?_)))
  refine jO 15 ?_;rotate_left
 any_goals
  refine jI 15 ?_
  refine Ret.pure (r':=.tuple [(XO b q).1.pv,.int .i64 (XO b q).2]) (by simp only [Tryz.f15,go_sem,↓reduceIte]<;>rfl) ?_ zlJ hwf (fun i hi=>by have h0:=ltn hi;have h1:=lte hi;first |(simp (disch:=first | omega |(simp only [zt,zq]<;>omega) | fail) only [hfr i hi,go_sem,Nat.add_assoc,Nat.reduceAdd,↓reduceIte,h0,h1];done) | simp (disch:=first | omega |(simp only [zt,zq]<;>omega) | fail) only [go_sem,Nat.add_assoc,Nat.reduceAdd,↓reduceIte,h0,h1]) ⟨rfl,rfl⟩
  refine jO 16 ?_;rotate_left
 any_goals
  refine jI 11 ?_
  have hlen:1<b.length:=by have:=of_decide_eq_true hc7;omega
  refine jO 17 ?_;rotate_left
 any_goals
  refine jI 13 ?_
  have hlen:1<b.length:=by have:=of_decide_eq_true hc7;omega
  refine jO 18 ?_;rotate_left
 any_goals
  refine jI 17 ?_
  have hd1:((2:Int)≤(b.length:Int))=True:=eq_true Y18
  refine jO 19 ?_;rotate_left
 any_goals
  refine jI 18 ?_
  have hd1:((2:Int)≤(b.length:Int))=True:=eq_true Y18
  refine jO 20 ?_;rotate_left
 any_goals
  refine jI 19 ?_
  have htk:((b.length:Int)-2).toNat=b.length-2:=Y18
  refine jO 21 ?_;rotate_left
 any_goals
  refine jI 20 ?_
  have htk:((b.length:Int)-2).toNat=b.length-2:=Y18
  refine jO 22 ?_;rotate_left
 any_goals
  refine jI 21 ?_
  have hlm:((b.map (PV.int .u8)).drop (2:Int).toNat).take (b.length-2)=((b.drop 2).map (PV.int .u8)):=Y88
  refine jO 23 ?_;rotate_left
 any_goals
  refine jI 22 ?_
  have hlm:((b.map (PV.int .u8)).drop (2:Int).toNat).take (b.length-2)=((b.drop 2).map (PV.int .u8)):=Y88
  refine jO 24 ?_;rotate_left
 any_goals
  refine jI 23 ?_
  have hd2:((0:Int)≤2)=True:=Y19
  refine jO 25 ?_;rotate_left
 any_goals
  refine jI 24 ?_
  have hd2:((0:Int)≤2)=True:=Y19
  refine jO 26 ?_;rotate_left
 any_goals
  refine jI 16 ?_
  simp only [PV.weak,PV.weaks,zA,zf,zB]
  refine jO 27 ?_;rotate_left
 any_goals
  refine jI 25 ?_
  have hd3:((2:Int)=0)=False:=Y19
  refine jO 28 ?_;rotate_left
 any_goals
  refine jI 26 ?_
  have hd3:((2:Int)=0)=False:=Y19
  refine jO 29 ?_;rotate_left
 any_goals
  refine jI 28 ?_
  have H:=aj hd1 (aj htk (aj hlm (aj hd2 (aj hd3 H))))
  refine jO 30 ?_;rotate_left
 any_goals
  refine jI 29 ?_
  have H:=aj hd1 (aj htk (aj hlm (aj hd2 (aj hd3 H))))
  refine jO 31 ?_;rotate_left
 any_goals
  refine jI 27 ?_
  simp only [Bool.not_eq_true',Bool.not_eq_false',Bool.or_eq_true,Bool.or_eq_false_iff,Bool.and_eq_true,Bool.and_eq_false_iff,decide_eq_true_eq,decide_eq_false_iff_not] at *
  refine jO 32 ?_;rotate_left
 any_goals
  refine jI 30 ?_
  refine Run.drawC [9] [0,3,4,6,7] Tryz.mixed Y22 ?_
  refine jO 33 ?_;rotate_left
 any_goals
  refine jI 31 ?_
  refine Run.drawC [9] [0,3,4,6,7] Tryz.mixed Y22 ?_
  refine jO 34 ?_;rotate_left
 any_goals
  refine jI 33 ?_
  refine zj.pre (pre:=[_,_,_,_]) au ?_
  refine jO 35 ?_;rotate_left
 any_goals
  refine jI 34 ?_
  refine zj.pre (pre:=[_,_,_,_]) au ?_
  refine jO 36 ?_;rotate_left
 any_goals
  refine jI 35 ?_
  refine zj.call au au au Y22 (Ua (b:=b.drop 2) (hb.drop 2) Yk hq.count (.inr Yk)) ?_
  refine jO 37 ?_;rotate_left
 any_goals
  refine jI 36 ?_
  refine zj.call au au au Y22 (Ua (b:=b.drop 2) (hb.drop 2) Yk hq.count (.inr Yk)) ?_
  refine jO 38 ?_;rotate_left
 any_goals
  refine jI 32 ?_
  first
   |(cases hc15;done)
   |(have h0:b=[]:=List.length_eq_zero_iff.1 Y18
     unfold XO;simp only;rw [if_pos h0];rfl)
   |(have hcc:¬ x=q.fn∧¬ x=o∨q.fn<0∨255<q.fn:=by omega
     unfold XO;simp only [hg0,ho];rw [if_neg h00,if_pos hcc];rfl)
   |(have hcc:¬ (¬ x=q.fn∧¬ x=o∨q.fn<0∨255<q.fn):=by omega
     have e:XO b q=if ¬ yg T=0∨¬ yK T=b∨T.code=0∧(x≤2∧¬ (T.bits.length:Int)=q.count∨(x=3∨x=4∨x=23)∧¬ (T.vals.length:Int)=q.count) then (zeroP,12) else (T,0):=by
      unfold XO;simp only [hg0,ho];rw [if_neg h00,if_neg hcc,← hT]
     rw [e]
     clear e hcc
     first
     |(rw [if_pos]
       ·rfl
       ·rcases hc15 with h | h
        ·exact .inr (.inl h)
        ·refine .inr (.inr ⟨h.1,?_⟩)
         have h2:=h.2
         clear H
         omega)
     |(rw [if_neg]
       ·rfl
       ·rintro (h | h | h)
        ·exact h hd3
        ·exact h hc15.1
        ·obtain ⟨h1,h2⟩:=h
         rcases hc15.2 with h3 | h3
         ·exact h3 h1
         ·clear H
          omega)
     |(rw [if_pos (.inl hd3)];rfl))
 any_goals
  refine jI 37 ?_
  refine zj.pre (pre:=[_,_,_,_]) au ?_
  refine jO 39 ?_;rotate_left
 any_goals
  refine jI 38 ?_
  refine zj.pre (pre:=[_,_,_,_]) au ?_
  refine jO 40 ?_;rotate_left
 any_goals
  refine jI 39 ?_
  refine zj.eff Y19 au au ?_
  refine jO 41 ?_;rotate_left
 any_goals
  refine jI 40 ?_
  refine zj.eff Y19 au au ?_
  refine jO 42 ?_;rotate_left
 any_goals
  refine jI 5 ?_
  refine rr (k:=ro (pre:=[_]) (k:=rC (h:=wQ (b:=b) hb Y18 (i:=3) Y18) (k:=rh [0,3,4,6,7] (k:=rB (k:=rp [0,3,4,6,7] (k:=?_))))))
  refine jO 43 ?_;rotate_left
 any_goals
  refine jI 8 ?_
  refine rr (k:=ro (pre:=[_]) (k:=rC (h:=wQ (b:=b) hb Y18 (i:=3) Y18) (k:=rh [0,3,4,6,7] (k:=rB (k:=rp [0,3,4,6,7] (k:=?_))))))
  refine jO 44 ?_;rotate_left
 any_goals
  refine jI 4 ?_
  refine rr (k:=ro (pre:=[_]) (k:=rC (h:=ux (b:=b) hb Y18 (n:=2) Y18) (k:=rh [0,3,4,6,7] (k:=rB (k:=rp [0,3,4,6,7] (k:=?_))))))
  refine jO 45 ?_;rotate_left
 any_goals
  refine jI 7 ?_
  refine rr (k:=ro (pre:=[_]) (k:=rC (h:=ux (b:=b) hb Y18 (n:=2) Y18) (k:=rh [0,3,4,6,7] (k:=rB (k:=rp [0,3,4,6,7] (k:=?_))))))
  refine jO 46 ?_;rotate_left
 any_goals
  refine jI 41 ?_
  refine zj.nil ?_
  refine jO 47 ?_;rotate_left
 any_goals
  refine jI 42 ?_
  refine zj.nil ?_
  refine jO 48 ?_;rotate_left
 any_goals
  refine jI 12 ?_
  refine rk (k:=rB (k:=rp [0,3,4,6,7] (k:=?_)))
  refine jO 49 ?_;rotate_left
 any_goals
  refine jI 14 ?_
  refine rk (k:=rB (k:=rp [0,3,4,6,7] (k:=?_)))
  refine jO 50 ?_;rotate_left
 any_goals
  refine jI 47 ?_
  refine re (k:=rB (k:=rp [0,3,4,6,7] (k:=?_)))
  refine jO 51 ?_;rotate_left
 any_goals
  refine jI 48 ?_
  refine re (k:=rB (k:=rp [0,3,4,6,7] (k:=?_)))
  refine jO 52 ?_;rotate_left
 any_goals
  refine jI 49 ?_
  refine hJc2 _ _ ⟨.nil,.nil,.nil,rfl,Y41,Y41,?_,fun i hi=>Y42⟩
  refine jO 53 ?_;rotate_left
 any_goals
  refine jI 50 ?_
  refine hJc2 _ _ ⟨.nil,.nil,.nil,rfl,Y41,Y41,?_,fun i hi=>Y42⟩
  refine jO 54 ?_;rotate_left
 any_goals
  refine jI 51 ?_
  refine hJc2 _ _ ⟨.unk,.nil,.nil,rfl,Y41,Y41,?_,fun i hi=>Y42⟩
  refine jO 55 ?_;rotate_left
 any_goals
  refine jI 52 ?_
  refine hJc2 _ _ ⟨.unk,.nil,.nil,rfl,Y41,Y41,?_,fun i hi=>Y42⟩
  refine jO 56 ?_;rotate_left
 any_goals
  refine jI 43 ?_
  refine hJc2 _ _ ⟨.nil,.nil,.nil,rfl,Y41,Y41,?_,fun i hi=>Y42⟩
  refine jO 57 ?_;rotate_left
 any_goals
  refine jI 44 ?_
  refine hJc2 _ _ ⟨.nil,.nil,.nil,rfl,Y41,Y41,?_,fun i hi=>Y42⟩
  refine jO 58 ?_;rotate_left
 any_goals
  refine jI 45 ?_
  refine hJc2 _ _ ⟨.nil,.unk,.nil,rfl,Y41,Y41,?_,fun i hi=>Y42⟩
  refine jO 59 ?_;rotate_left
 any_goals
  refine jI 46 ?_
  refine hJc2 _ _ ⟨.nil,.unk,.nil,rfl,Y41,Y41,?_,fun i hi=>Y42⟩
  refine jO 60 ?_;rotate_left
 any_goals
  refine jI 53 ?_
  simp (disch:=first | omega |(simp only [zt,zq]<;>omega) | fail) only [go_sem]
  refine jO 61 ?_;rotate_left
 any_goals
  refine jI 54 ?_
  simp (disch:=first | omega |(simp only [zt,zq]<;>omega) | fail) only [go_sem]
  refine jO 62 ?_;rotate_left
 any_goals
  refine jI 55 ?_
  simp (disch:=first | omega |(simp only [zt,zq]<;>omega) | fail) only [go_sem]
  refine jO 63 ?_;rotate_left
 any_goals
  refine jI 56 ?_
  simp (disch:=first | omega |(simp only [zt,zq]<;>omega) | fail) only [go_sem]
  refine jO 64 ?_;rotate_left
 any_goals
  refine jI 57 ?_
  simp (disch:=first | omega |(simp only [zt,zq]<;>omega) | fail) only [go_sem]
  refine jO 65 ?_;rotate_left
 any_goals
  refine jI 58 ?_
  simp (disch:=first | omega |(simp only [zt,zq]<;>omega) | fail) only [go_sem]
  refine jO 66 ?_;rotate_left
 any_goals
  refine jI 59 ?_
  simp (disch:=first | omega |(simp only [zt,zq]<;>omega) | fail) only [go_sem]
  refine jO 67 ?_;rotate_left
 any_goals
  refine jI 60 ?_
  simp (disch:=first | omega |(simp only [zt,zq]<;>omega) | fail) only [go_sem]
  refine jO 68 ?_;rotate_left
 any_goals
  refine jI 61 ?_
  simp only [decide_eq_true_eq,decide_eq_false_iff_not] at *
  refine jO 69 ?_;rotate_left
 any_goals
  refine jI 62 ?_
  simp only [decide_eq_true_eq,decide_eq_false_iff_not] at *
  refine jO 70 ?_;rotate_left
 any_goals
  refine jI 63 ?_
  simp only [decide_eq_true_eq,decide_eq_false_iff_not] at *
  refine jO 71 ?_;rotate_left
 any_goals
  refine jI 64 ?_
  simp only [decide_eq_true_eq,decide_eq_false_iff_not] at *
  refine jO 72 ?_;rotate_left
 any_goals
  refine jI 69 ?_
  have hTe:T=⟨x,0,if 97∈wU x then zP b 1 else 0,0,0,if 1<b.length then (xy (b.drop 2) q.count).getD [] else [],[],0,0,[]⟩:=by
   rw [hT]
   unfold xL
   simp only [hg0]
   rw [if_neg Y18,if_pos Y18]
  rw [hTe]
  simp only [if_pos hc4]
  simp only [if_neg (show ¬ 1<b.length from Y18)]
  rfl
 any_goals
  refine jI 70 ?_
  have hTe:T=⟨x,0,if 97∈wU x then zP b 1 else 0,0,0,if 1<b.length then (xy (b.drop 2) q.count).getD [] else [],[],0,0,[]⟩:=by
   rw [hT]
   unfold xL
   simp only [hg0]
   rw [if_neg Y18,if_pos Y18]
  rw [hTe]
  simp only [if_neg hc4]
  simp only [if_neg (show ¬ 1<b.length from Y18)]
  rfl
 any_goals
  refine jI 71 ?_
  have hTe:T=⟨x,0,if 97∈wU x then zP b 1 else 0,0,0,if 1<b.length then (xy (b.drop 2) q.count).getD [] else [],[],0,0,[]⟩:=by
   rw [hT]
   unfold xL
   simp only [hg0]
   rw [if_neg Y18,if_pos Y18]
  rw [hTe]
  simp only [if_pos hc4]
  simp only [if_pos (show 1<b.length from Y18)]
  rfl
 any_goals
  refine jI 72 ?_
  have hTe:T=⟨x,0,if 97∈wU x then zP b 1 else 0,0,0,if 1<b.length then (xy (b.drop 2) q.count).getD [] else [],[],0,0,[]⟩:=by
   rw [hT]
   unfold xL
   simp only [hg0]
   rw [if_neg Y18,if_pos Y18]
  rw [hTe]
  simp only [if_neg hc4]
  simp only [if_pos (show 1<b.length from Y18)]
  rfl
 any_goals
  refine jI 65 ?_
  simp only [decide_eq_true_eq,decide_eq_false_iff_not] at *
  refine jO 73 ?_;rotate_left
 any_goals
  refine jI 66 ?_
  simp only [decide_eq_true_eq,decide_eq_false_iff_not] at *
  refine jO 74 ?_;rotate_left
 any_goals
  refine jI 67 ?_
  simp only [decide_eq_true_eq,decide_eq_false_iff_not] at *
  refine jO 75 ?_;rotate_left
 any_goals
  refine jI 68 ?_
  simp only [decide_eq_true_eq,decide_eq_false_iff_not] at *
  refine jO 76 ?_;rotate_left
 any_goals
  refine jI 73 ?_
  have hTe:T=⟨x,0,if 97∈wU x then zP b 1 else 0,zP b 3,0,[],[],0,0,[]⟩:=by
   rw [hT]
   unfold xL
   simp only [hg0]
   rw [if_neg Y18,if_neg Y18,if_neg Y18,if_pos Y18]
  rw [hTe]
  simp only [if_pos hc4]
  rfl
 any_goals
  refine jI 74 ?_
  have hTe:T=⟨x,0,if 97∈wU x then zP b 1 else 0,zP b 3,0,[],[],0,0,[]⟩:=by
   rw [hT]
   unfold xL
   simp only [hg0]
   rw [if_neg Y18,if_neg Y18,if_neg Y18,if_pos Y18]
  rw [hTe]
  simp only [if_neg hc4]
  rfl
 any_goals
  refine jI 75 ?_
  have hTe:T=⟨x,0,if 97∈wU x then zP b 1 else 0,0,0,[],xl b 2,0,0,[]⟩:=by
   rw [hT]
   unfold xL
   simp only [hg0]
   rw [if_neg Y18,if_neg Y18,if_pos Y18]
  rw [hTe]
  simp only [if_pos hc4]
  rfl
 any_goals
  refine jI 76 ?_
  have hTe:T=⟨x,0,if 97∈wU x then zP b 1 else 0,0,0,[],xl b 2,0,0,[]⟩:=by
   rw [hT]
   unfold xL
   simp only [hg0]
   rw [if_neg Y18,if_neg Y18,if_pos Y18]
  rw [hTe]
  simp only [if_neg hc4]
  rfl
end Go.Proofs
namespace Go.Proofs
open Go.PM
set_option maxHeartbeats 2000000
theorem St.eq_of {a b:St} (h1:a.nxt=b.nxt) (h2:∀ i,a.blk i=b.blk i):a=b:=by
 cases a;cases b
 simp only [St.mk.injEq]
 exact ⟨h1,funext h2⟩
attribute [local go_sem] ye
theorem znR {p:Prop} (h:p:=by simp (disch:=first | omega |(simp only [zt,zq]<;>omega) | fail) only [go_sem]):p:=h
theorem zpL {p:Prop} (h:p:=by (simp only [wd,YN,zq,zt];(repeat' split)<;>first | rfl |(exfalso;omega))):p:=h
theorem Y91 {p:Prop} (h:p:=by intro q hq;simp only [List.mem_cons,List.not_mem_nil,or_false] at hq;rcases hq with rfl | rfl<;>refine ⟨znR,?_⟩<;>first | rfl | exact St.eq_of rfl fun i=>zpL):p:=h
theorem Y92 {p:Prop} (h:p:=by intro q hq;simp only [List.mem_cons,List.not_mem_nil,or_false] at hq;rcases hq with rfl | rfl | rfl<;>refine ⟨znR,?_⟩<;>first | rfl | exact St.eq_of rfl fun i=>zpL):p:=h
set_option maxRecDepth 100000 in
theorem zjw {n:Nat} {s:St} (h1:1≤n) (h2:n≤65536):za Tryz.prog 25 [.int .i64 (n:Int)] s (fun r s'=>r=.ptr s.nxt 0 0∧s'=(((((((((((s.new (.row 121 [.agg [.sl .nil [],.sl .nil [],.sl .nil [],.sl .nil []]])).new .res).new .res).set (s.nxt+1) (some (.row 4 (List.replicate n (.bool false))))).set (s.nxt+2) (some (.row 39 (List.replicate n (.int .u16 0))))).set s.nxt (some (.row 121 [.agg [.own (s.nxt+1) 0 n,.sl .nil [],.own (s.nxt+2) 0 n,.sl .nil []]]))).new .res).new .res).set (s.nxt+3) (some (.row 4 (List.replicate n (.bool false))))).set (s.nxt+4) (some (.row 39 (List.replicate n (.int .u16 0))))).set s.nxt (some (.row 121 [.agg [.own (s.nxt+1) 0 n,.own (s.nxt+3) 0 n,.own (s.nxt+2) 0 n,.own (s.nxt+4) 0 n]])))):=by
 refine go Tryz.func25 (k:=fun hwf H=>?_)
 refine rs (k:=rg [0] (k:=rs (k:=rs (k:=rg [0,10] (k:=rc (ht:=fun hc0=>?_) (hf:=fun hc0=>?_))))))
 ·refine rs (k:=?_)
  exfalso
  simp only [Bool.or_eq_true,decide_eq_true_eq] at hc0
  omega
 ·refine rk (k:=rs (k:=rg [0,3] (k:=rs (k:=rs (k:=rg [0,3,13] (k:=rb (k:=?_)))))))
  refine Run.loop (fun e s'=>∃ i:Nat,i≤2∧e=[(0,.int .i64 (n:Int)),(3,.ptr s.nxt 0 0),(13,.int .i64 (i:Int))]∧s'=(if i=0 then (s.new (.row 121 [.agg [.sl .nil [],.sl .nil [],.sl .nil [],.sl .nil []]])) else if i=1 then ((((((s.new (.row 121 [.agg [.sl .nil [],.sl .nil [],.sl .nil [],.sl .nil []]])).new .res).new .res).set (s.nxt+1) (some (.row 4 (List.replicate n (.bool false))))).set (s.nxt+2) (some (.row 39 (List.replicate n (.int .u16 0))))).set s.nxt (some (.row 121 [.agg [.own (s.nxt+1) 0 n,.sl .nil [],.own (s.nxt+2) 0 n,.sl .nil []]]))) else (((((((((((s.new (.row 121 [.agg [.sl .nil [],.sl .nil [],.sl .nil [],.sl .nil []]])).new .res).new .res).set (s.nxt+1) (some (.row 4 (List.replicate n (.bool false))))).set (s.nxt+2) (some (.row 39 (List.replicate n (.int .u16 0))))).set s.nxt (some (.row 121 [.agg [.own (s.nxt+1) 0 n,.sl .nil [],.own (s.nxt+2) 0 n,.sl .nil []]]))).new .res).new .res).set (s.nxt+3) (some (.row 4 (List.replicate n (.bool false))))).set (s.nxt+4) (some (.row 39 (List.replicate n (.int .u16 0))))).set s.nxt (some (.row 121 [.agg [.own (s.nxt+1) 0 n,.own (s.nxt+3) 0 n,.own (s.nxt+2) 0 n,.own (s.nxt+4) 0 n]]))))) (fun e s'=>2-xB e 13) ?_ ?_
  ·exact ⟨0,Y19,rfl,rfl⟩
  rintro e s' ⟨i,hi,rfl,hs⟩
  subst hs
  obtain rfl | rfl | rfl:i=0∨i=1∨i=2:=Y18
  ·refine rs (k:=rg [0,3,13,14] (k:=rs (k:=rc (ht:=fun hc1=>?_) (hf:=fun hc1=>?_))))
   ·refine rk (k:=rs (k:=rb (k:=rs (k:=rg [0,3,4,13] (k:=?_)))))
    refine Run.reserve (Run.reserve ?_)
    refine rH 16 [5,7,11,15] [[false,false,false,false],[true,false,false,false],[false,true,false,false],[true,true,false,false],[true,false,true,false],[true,true,true,false],[true,true,true,true]] [(((s.new (.row 121 [.agg [.sl .nil [],.sl .nil [],.sl .nil [],.sl .nil []]])).new .res).new .res),((((s.new (.row 121 [.agg [.sl .nil [],.sl .nil [],.sl .nil [],.sl .nil []]])).new .res).new .res).set (s.nxt+1) (some (.row 4 (List.replicate n (.bool false))))),((((s.new (.row 121 [.agg [.sl .nil [],.sl .nil [],.sl .nil [],.sl .nil []]])).new .res).new .res).set (s.nxt+2) (some (.row 39 (List.replicate n (.int .u16 0))))),(((((s.new (.row 121 [.agg [.sl .nil [],.sl .nil [],.sl .nil [],.sl .nil []]])).new .res).new .res).set (s.nxt+1) (some (.row 4 (List.replicate n (.bool false))))).set (s.nxt+2) (some (.row 39 (List.replicate n (.int .u16 0))))),(((((s.new (.row 121 [.agg [.sl .nil [],.sl .nil [],.sl .nil [],.sl .nil []]])).new .res).new .res).set (s.nxt+1) (some (.row 4 (List.replicate n (.bool false))))).set s.nxt (some (.row 121 [.agg [.own (s.nxt+1) 0 n,.sl .nil [],.sl .nil [],.sl .nil []]]))),((((((s.new (.row 121 [.agg [.sl .nil [],.sl .nil [],.sl .nil [],.sl .nil []]])).new .res).new .res).set (s.nxt+1) (some (.row 4 (List.replicate n (.bool false))))).set (s.nxt+2) (some (.row 39 (List.replicate n (.int .u16 0))))).set s.nxt (some (.row 121 [.agg [.own (s.nxt+1) 0 n,.sl .nil [],.sl .nil [],.sl .nil []]]))),((((((s.new (.row 121 [.agg [.sl .nil [],.sl .nil [],.sl .nil [],.sl .nil []]])).new .res).new .res).set (s.nxt+1) (some (.row 4 (List.replicate n (.bool false))))).set (s.nxt+2) (some (.row 39 (List.replicate n (.int .u16 0))))).set s.nxt (some (.row 121 [.agg [.own (s.nxt+1) 0 n,.sl .nil [],.own (s.nxt+2) 0 n,.sl .nil []]])))] Tryz.mixed (k:=?_)
    refine dP [0,1,2,3,4,5] (pre:=[_,_,_,_,_]) (k:=?_)
    refine zO.resMake (s.nxt+1) n [(0,1),(2,3)] _ Y22 pq au au au Tryz.td45 (by rw [Tryz.zp4]) Y18 (by rw [Tryz.by4];omega) Y91 ?_
    refine dP [0,1,4] (pre:=[_]) (k:=?_)
    refine zO.resMake (s.nxt+2) n [(0,2),(1,3),(4,5)] _ Y22 pq au au au Tryz.td23 (by rw [Tryz.zp39]) Y18 zlQ Y92 ?_
    refine dP [0,1,2,3] (pre:=[_,_,_]) (k:=?_)
    refine dE [(1,4),(3,5)] (k:=?_)
    refine dP [0,1,2,3,4,5] (pre:=[_,_,_]) (k:=?_)
    refine dE [(5,6)] (k:=?_)
    refine zO.nil ?_
    refine rl [0,3,13] (k:=rB (k:=rg [0,3,13] (k:=?_)))
    refine Run.lp ⟨⟨1,Y19,by rfl,by rfl⟩,?_⟩
    simp only [xB,go_sem,↓reduceIte,Nat.reduceEqDiff]
    decide
   ·cases hc1
  ·refine rs (k:=rg [0,3,13,14] (k:=rs (k:=rc (ht:=fun hc1=>?_) (hf:=fun hc1=>?_))))
   ·refine rk (k:=rs (k:=rb (k:=rs (k:=rg [0,3,4,13] (k:=?_)))))
    refine Run.reserve (Run.reserve ?_)
    refine rH 16 [5,7,11,15] [[false,false,false,false],[true,false,false,false],[false,true,false,false],[true,true,false,false],[true,false,true,false],[true,true,true,false],[true,true,true,true]] [((((((((s.new (.row 121 [.agg [.sl .nil [],.sl .nil [],.sl .nil [],.sl .nil []]])).new .res).new .res).set (s.nxt+1) (some (.row 4 (List.replicate n (.bool false))))).set (s.nxt+2) (some (.row 39 (List.replicate n (.int .u16 0))))).set s.nxt (some (.row 121 [.agg [.own (s.nxt+1) 0 n,.sl .nil [],.own (s.nxt+2) 0 n,.sl .nil []]]))).new .res).new .res),(((((((((s.new (.row 121 [.agg [.sl .nil [],.sl .nil [],.sl .nil [],.sl .nil []]])).new .res).new .res).set (s.nxt+1) (some (.row 4 (List.replicate n (.bool false))))).set (s.nxt+2) (some (.row 39 (List.replicate n (.int .u16 0))))).set s.nxt (some (.row 121 [.agg [.own (s.nxt+1) 0 n,.sl .nil [],.own (s.nxt+2) 0 n,.sl .nil []]]))).new .res).new .res).set (s.nxt+3) (some (.row 4 (List.replicate n (.bool false))))),(((((((((s.new (.row 121 [.agg [.sl .nil [],.sl .nil [],.sl .nil [],.sl .nil []]])).new .res).new .res).set (s.nxt+1) (some (.row 4 (List.replicate n (.bool false))))).set (s.nxt+2) (some (.row 39 (List.replicate n (.int .u16 0))))).set s.nxt (some (.row 121 [.agg [.own (s.nxt+1) 0 n,.sl .nil [],.own (s.nxt+2) 0 n,.sl .nil []]]))).new .res).new .res).set (s.nxt+4) (some (.row 39 (List.replicate n (.int .u16 0))))),((((((((((s.new (.row 121 [.agg [.sl .nil [],.sl .nil [],.sl .nil [],.sl .nil []]])).new .res).new .res).set (s.nxt+1) (some (.row 4 (List.replicate n (.bool false))))).set (s.nxt+2) (some (.row 39 (List.replicate n (.int .u16 0))))).set s.nxt (some (.row 121 [.agg [.own (s.nxt+1) 0 n,.sl .nil [],.own (s.nxt+2) 0 n,.sl .nil []]]))).new .res).new .res).set (s.nxt+3) (some (.row 4 (List.replicate n (.bool false))))).set (s.nxt+4) (some (.row 39 (List.replicate n (.int .u16 0))))),((((((((((s.new (.row 121 [.agg [.sl .nil [],.sl .nil [],.sl .nil [],.sl .nil []]])).new .res).new .res).set (s.nxt+1) (some (.row 4 (List.replicate n (.bool false))))).set (s.nxt+2) (some (.row 39 (List.replicate n (.int .u16 0))))).set s.nxt (some (.row 121 [.agg [.own (s.nxt+1) 0 n,.sl .nil [],.own (s.nxt+2) 0 n,.sl .nil []]]))).new .res).new .res).set (s.nxt+3) (some (.row 4 (List.replicate n (.bool false))))).set s.nxt (some (.row 121 [.agg [.own (s.nxt+1) 0 n,.own (s.nxt+3) 0 n,.own (s.nxt+2) 0 n,.sl .nil []]]))),(((((((((((s.new (.row 121 [.agg [.sl .nil [],.sl .nil [],.sl .nil [],.sl .nil []]])).new .res).new .res).set (s.nxt+1) (some (.row 4 (List.replicate n (.bool false))))).set (s.nxt+2) (some (.row 39 (List.replicate n (.int .u16 0))))).set s.nxt (some (.row 121 [.agg [.own (s.nxt+1) 0 n,.sl .nil [],.own (s.nxt+2) 0 n,.sl .nil []]]))).new .res).new .res).set (s.nxt+3) (some (.row 4 (List.replicate n (.bool false))))).set (s.nxt+4) (some (.row 39 (List.replicate n (.int .u16 0))))).set s.nxt (some (.row 121 [.agg [.own (s.nxt+1) 0 n,.own (s.nxt+3) 0 n,.own (s.nxt+2) 0 n,.sl .nil []]]))),(((((((((((s.new (.row 121 [.agg [.sl .nil [],.sl .nil [],.sl .nil [],.sl .nil []]])).new .res).new .res).set (s.nxt+1) (some (.row 4 (List.replicate n (.bool false))))).set (s.nxt+2) (some (.row 39 (List.replicate n (.int .u16 0))))).set s.nxt (some (.row 121 [.agg [.own (s.nxt+1) 0 n,.sl .nil [],.own (s.nxt+2) 0 n,.sl .nil []]]))).new .res).new .res).set (s.nxt+3) (some (.row 4 (List.replicate n (.bool false))))).set (s.nxt+4) (some (.row 39 (List.replicate n (.int .u16 0))))).set s.nxt (some (.row 121 [.agg [.own (s.nxt+1) 0 n,.own (s.nxt+3) 0 n,.own (s.nxt+2) 0 n,.own (s.nxt+4) 0 n]])))] Tryz.mixed (k:=?_)
    refine dP [0,1,2,3,4,5] (pre:=[_,_,_,_,_]) (k:=?_)
    refine zO.resMake (s.nxt+3) n [(0,1),(2,3)] _ Y22 pq au au au Tryz.td45 (by rw [Tryz.zp4]) Y18 (by rw [Tryz.by4];omega) Y91 ?_
    refine dP [0,1,4] (pre:=[_]) (k:=?_)
    refine zO.resMake (s.nxt+4) n [(0,2),(1,3),(4,5)] _ Y22 pq au au au Tryz.td23 (by rw [Tryz.zp39]) Y18 zlQ Y92 ?_
    refine dP [0,1,2,3] (pre:=[_,_,_]) (k:=?_)
    refine dE [(1,4),(3,5)] (k:=?_)
    refine dP [0,1,2,3,4,5] (pre:=[_,_,_]) (k:=?_)
    refine dE [(5,6)] (k:=?_)
    refine zO.nil ?_
    refine rl [0,3,13] (k:=rB (k:=rg [0,3,13] (k:=?_)))
    refine Run.lp ⟨⟨2,Y19,by rfl,by rfl⟩,?_⟩
    simp only [xB,go_sem,↓reduceIte,Nat.reduceEqDiff]
    decide
   ·cases hc1
  ·refine rs (k:=rg [0,3,13,14] (k:=rs (k:=rc (ht:=fun hc1=>?_) (hf:=fun hc1=>?_))))
   ·cases hc1
   ·refine rX (k:=rs (k:=rg [2] (k:=rR (k:=?_))))
    exact Ret.all (by simp only [Tryz.f25,go_sem,↓reduceIte]<;>rfl) ⟨rfl,rfl⟩
end Go.Proofs
namespace Go.Proofs
open Go.PM
set_option maxHeartbeats 2000000
theorem WU {a:Sp} {most:Int} (ha:a.ok) (hm:0≤most∧most≤4611686018427387904) {s:St}:za Tryz.prog 153 [a.pv,.int .i64 most] s (fun r s'=>r=.bool (zM a most)∧s'=s):=by
 refine go Tryz.func153 (k:=fun hwf H=>?_)
 refine rs (k:=rg [1,2] (k:=rs (k:=rg [4] (k:=rR (k:=rP (by simp only [Tryz.f153,go_sem];rfl) hwf ⟨?_,rfl⟩)))))
 simp only [zM]
 have hw:0≤a.pos→a.pos≤most→IntKind.i64.wrap (most-a.pos)=most-a.pos:=fun h h'=>zi Y18
 by_cases h1:0≤a.pos<;>by_cases h2:1≤a.cnt<;>by_cases h3:a.pos≤most<;>simp [h1,h2,h3,PV.weak]
 rw [hw h1 h3]
theorem Xa {a:Sp} (ha:a.ok) {s:St}:za Tryz.prog 137 [a.pv] s (fun r s'=>r=.bool (zM a yE)∧s'=s):=by
 refine go Tryz.func137 (k:=fun hwf H=>?_)
 refine rs (k:=rg [1] (k:=rs (k:=rr (k:=ro (pre:=[_]) (k:=rC (h:=WU (a:=a) ha Y19) (k:=rh [2] (k:=rR (k:=rP (by simp only [Tryz.f137,go_sem];rfl) hwf ⟨?_,rfl⟩))))))))
 rfl
theorem Yu {a:Sp} {s:St}:za Tryz.prog 140 [a.pv] s (fun r s'=>r=.int .i64 (IntKind.i64.wrap (a.pos+a.cnt))∧s'=s):=by
 refine go Tryz.func140 (k:=fun hwf H=>?_)
 refine rs (k:=rg [1] (k:=rs (k:=rg [2] (k:=rR (k:=rP (by simp only [Tryz.f140,go_sem];rfl) hwf ⟨?_,rfl⟩)))))
 rfl
theorem zjG {a b:Sp} (ha:a.ok) (hb:b.ok) {s:St}:za Tryz.prog 143 [a.pv,b.pv] s (fun r s'=>r=.tuple [(vd a b).pv,.bool (ym a b)]∧s'=s):=by
 refine go Tryz.func143 (k:=fun hwf H=>?_)
 refine rs (k:=rg [2,3,4] (k:=rs (k:=rg [2,3,4,6] (k:=rs (k:=rs (k:=rr (k:=ro (pre:=[_]) (k:=rC (h:=Xa (a:=a) ha) (k:=ro (pre:=[_,_]) (k:=rQ 16 (ht:=fun hg3=>?_) (hf:=fun hg3=>?_)))))))))))
 refine rg0 (k:=rg0 (k:=rg0 (k:=rh [2,3,4,6,20] (k:=rc (ht:=fun hc0=>?_) (hf:=fun hc0=>?_)))))
 refine jO 1 ?_;rotate_left
 ·cases hc0
 refine rg1 (k:=rC (h:=Xa (a:=b) hb) (k:=rg1 (k:=rh [2,3,4,6,20] (k:=rc (ht:=fun hc0=>?_) (hf:=fun hc0=>?_)))))
 refine jO 1 ?_;rotate_left
 refine rk (k:=rs (k:=rs (k:=?_)))
 refine Run.drawC [] [4,6,7] Tryz.mixed Y22 ?_
 refine zj.pre (pre:=[_]) au ?_
 refine zj.call au au au Y22 (Yu (a:=a)) ?_
 refine zj.pre (pre:=[_]) au ?_
 refine zj.call au au au Y22 (Yu (a:=b)) ?_
 refine zj.all au ?_
 refine re (k:=rs (k:=rg [4,6,7,29] (k:=rc (ht:=fun hc1=>?_) (hf:=fun hc1=>?_))))
 refine jO 1 ?_;rotate_left
 refine rk (k:=rs (k:=rg [4,5] (k:=rR (k:=rP (by simp only [Tryz.f143,go_sem];rfl) hwf ⟨?_,rfl⟩))))
 refine jO 2 ?_;rotate_left
 any_goals
  refine jI 1 ?_
  refine rs (k:=rg [4,5] (k:=rR (k:=rP (by simp only [Tryz.f143,go_sem];rfl) hwf ⟨?_,rfl⟩)))
  refine jO 2 ?_;rotate_left
 any_goals
  refine jI 2 ?_
  first
   |(have h:=ziJ (b:=b) hg3
     rw [h.1,h.2];rfl)
   |(have h:=zjh (a:=a) hc0
     rw [h.1,h.2];rfl)
   |(have h:=zgq hg3 hc0 hc1
     rw [h.1,h.2];rfl)
   |(have h:=zeN hg3 hc0 hc1
     rw [h.1,h.2];rfl)
end Go.Proofs
namespace Go.Proofs
open Go.PM
set_option maxHeartbeats 2000000
theorem zom {p:Prop} (h:p:=by simp only [Tryz.f12,go_sem];rfl):p:=h
theorem zh9 {n lo hi:Int} (h0:0≤lo) (h1:lo≤hi) (h2:hi≤1152921504606846976) {s:St}:za Tryz.prog 12 [.int .i64 n,.int .i64 lo,.int .i64 hi] s (fun r s'=>r=.int .i64 (ZH n lo hi)∧s'=s):=by
 refine go Tryz.func12 (k:=fun hwf H=>?_)
 have hb:=zaY n (m:=hi-lo+1) Y18
 have hw1:IntKind.i64.wrap (hi-lo)=hi-lo:=zi Y18
 have hw2:IntKind.i64.wrap (hi-lo+1)=hi-lo+1:=zi Y18
 have hw3:IntKind.i64.wrap (n.tmod (hi-lo+1)+hi)=n.tmod (hi-lo+1)+hi:=zi Y18
 have hw4:IntKind.i64.wrap (n.tmod (hi-lo+1)+hi-lo)=n.tmod (hi-lo+1)+hi-lo:=zi Y18
 have hw5:IntKind.i64.wrap (n.tmod (hi-lo+1)+hi-lo+1)=n.tmod (hi-lo+1)+hi-lo+1:=zi Y18
 have hne:(hi-lo+1=0)=False:=eq_false Y18
 have H:=aj hw1 (aj hw2 (aj hw3 (aj hw4 (aj hw5 (aj hne H)))))
 refine rs (k:=rg [0,1,2] (k:=rs (k:=rs (k:=rg [0,1,2,14] (k:=rc (ht:=fun hc0=>?_) (hf:=fun hc0=>?_))))))
 refine rs (k:=rg [6] (k:=rR (k:=rP zom hwf ⟨?_,rfl⟩)))
 refine jO 1 ?_;rotate_left
 refine rk (k:=rs (k:=rg [0,1,2] (k:=rs (k:=rs (k:=rg [0,1,2,23] (k:=rc (ht:=fun hc1=>?_) (hf:=fun hc1=>?_)))))))
 refine rg [0,1] (k:=rs (k:=rg [6] (k:=rR (k:=rP zom hwf ⟨?_,rfl⟩))))
 refine jO 1 ?_;rotate_left
 refine rk (k:=rs (k:=rg [6] (k:=rR (k:=rP zom hwf ⟨?_,rfl⟩))))
 refine jO 1 ?_;rotate_left
 any_goals
  refine jI 1 ?_
  unfold ZH
  refine jO 2 ?_;rotate_left
 any_goals
  refine jI 2 ?_
  first
   |(have h:lo≤n∧n≤hi:=by simpa using hc0
     rw [if_pos h];rfl)
   |(have h:¬ (lo≤n∧n≤hi):=by simpa using hc0
     have hm:=of_decide_eq_true hc1
     rw [if_neg h,if_pos hm,zi Y18];rfl)
   |(have h:¬ (lo≤n∧n≤hi):=by simpa using hc0
     have hm:=of_decide_eq_false hc1
     rw [if_neg h,if_neg hm,zi Y18];rfl)
theorem yI {t:Tp} (ht:t.ok) {n:Int} {s:St} {tp:Nat} (hb:s.blk tp=some (.row 67 [t.pv])):za Tryz.prog 47 [.ptr tp 0 0,.int .i64 n] s (fun r s'=>r=.int .i64 (t.val n)∧s'=s.set tp (some (.row 67 [(t.nx n).pv]))):=by
 refine go Tryz.func47 (k:=fun hwf H=>?_)
 rw [Tp.pv] at hb
 have hlen:=ht.len
 have hpos:=ht.pos
 have H:=aj hb H
 refine rs (k:=rg [0,1] (k:=rs (k:=rs (k:=?_))))
 refine Run.drawC [] [0,1,18] Tryz.mixed Y22 ?_
 refine zj.all au ?_
 refine re (k:=rc (ht:=fun hc0=>?_) (hf:=fun hc0=>?_))
 refine rs (k:=rg [4] (k:=rR (k:=?_)))
 refine jO 1 ?_;rotate_left
 refine rk (k:=rs (k:=?_))
 have hc1:¬ (t.l.length≤t.pos∨n<1):=by simp only [Bool.or_eq_false_iff,decide_eq_false_iff_not] at hc0;omega
 have hw:IntKind.i64.wrap ((t.pos:Int)+1)=((t.pos+1:Nat):Int):=Y24
 have hw1:IntKind.i64.wrap (((t.pos+1:Nat):Int)-1)=((t.pos:Nat):Int):=Y24
 have hx:(t.l.map (PV.int .i64))[t.pos]? =some (.int .i64 (t.l[t.pos]?.getD 0)):=by rw [List.getElem?_map,List.getElem?_eq_getElem Y18];rfl
 have hn0:(n=0)=False:=eq_false Y18
 have hlt:((t.pos:Int)<(t.l.length:Int))=True:=eq_true Y18
 have H:=aj hw (aj hw1 (aj hx (aj hn0 (aj hlt H))))
 refine rg [0,1] (k:=rs (k:=?_))
 refine Run.drawC [] [4] Tryz.mixed Y22 ?_
 refine zj.pre (pre:=[_,_,_,_,_,_,_,_,_,_,_]) au ?_
 refine zj.call au au au Y22 (zh9 (lo:=0) (hi:=1073741824) Y19 Y19 Y19) ?_
 refine zj.all au ?_
 refine re (k:=rR (k:=?_))
 refine jO 1 ?_;rotate_left
 any_goals
  refine jI 1 ?_
  first
   |(have h0:t.l.length≤t.pos∨n<1:=by simp only [Bool.or_eq_true,decide_eq_true_eq] at hc0;omega
     refine Ret.all (by simp only [Tryz.f47,go_sem]<;>rfl) ⟨?_,?_⟩
     ·rw [Tp.val,if_pos h0]
     ·rw [Tp.nx,if_pos h0,Tp.pv];exact (St.set_self hb).symm)
   |(refine Ret.all (by simp only [Tryz.f47,go_sem]<;>rfl) ⟨?_,?_⟩
     ·rw [Tp.val,if_neg hc1]
     ·rw [Tp.nx,if_neg hc1];rfl)
end Go.Proofs
namespace Go.Proofs
open Go.PM
set_option maxHeartbeats 2000000
theorem zpP {p:Prop} (h:p:=by
 refine rk (k:=rs (k:=rg [4] (k:=rR (k:=?_))))
 exact Ret.all (by simp only [Tryz.f175,go_sem,↓reduceIte]<;>rfl) ⟨rfl,rfl⟩):p:=h
theorem zdi {s:St} {st b0 b1 v0 v1 n:Nat} (hst:s.blk st=some (.row 121 [.agg [.own b0 0 n,.own b1 0 n,.own v0 0 n,.own v1 0 n]])):za Tryz.prog 175 [.ptr st 0 0,.int .i64 0] s (fun r s'=>r=.own b0 0 n∧s'=s):=by
 refine go Tryz.func175 (k:=fun hwf H=>?_)
 have f0:((0:Int)<((2:Nat):Int))=True:=Y19
 have f1:((1:Int)<((2:Nat):Int))=True:=Y19
 have ft:Int.toNat 1=1:=rfl
 have f2:((0:Int)≤1)=True:=Y19
 have H:=aj f0 (aj f1 (aj ft (aj f2 H)))
 have hw:IntKind.i64.wrap (0-2)= -2:=Y19
 have H:=aj hw H
 have H:=aj hst H
 refine rs (k:=rg [0,1] (k:=rs (k:=rs (k:=rg [0,1,10] (k:=rc (ht:=fun hc0=>?_) (hf:=fun hc0=>?_))))))
 ·cases hc0
 ·exact zpP
theorem zji {s:St} {st b0 b1 v0 v1 n:Nat} (hst:s.blk st=some (.row 121 [.agg [.own b0 0 n,.own b1 0 n,.own v0 0 n,.own v1 0 n]])):za Tryz.prog 175 [.ptr st 0 0,.int .i64 1] s (fun r s'=>r=.own b1 0 n∧s'=s):=by
 refine go Tryz.func175 (k:=fun hwf H=>?_)
 have f0:((0:Int)<((2:Nat):Int))=True:=Y19
 have f1:((1:Int)<((2:Nat):Int))=True:=Y19
 have ft:Int.toNat 1=1:=rfl
 have f2:((0:Int)≤1)=True:=Y19
 have H:=aj f0 (aj f1 (aj ft (aj f2 H)))
 have hw:IntKind.i64.wrap (1-2)= -1:=Y19
 have H:=aj hw H
 have H:=aj hst H
 refine rs (k:=rg [0,1] (k:=rs (k:=rs (k:=rg [0,1,10] (k:=rc (ht:=fun hc0=>?_) (hf:=fun hc0=>?_))))))
 ·cases hc0
 ·exact zpP
theorem zoI {p:Prop} (h:p:=by
 refine rk (k:=rs (k:=rg [4] (k:=rR (k:=?_))))
 exact Ret.all (by simp only [Tryz.f42,go_sem,↓reduceIte]<;>rfl) ⟨rfl,rfl⟩):p:=h
theorem ziH {s:St} {st b0 b1 v0 v1 n:Nat} (hst:s.blk st=some (.row 121 [.agg [.own b0 0 n,.own b1 0 n,.own v0 0 n,.own v1 0 n]])):za Tryz.prog 42 [.ptr st 0 0,.int .i64 2] s (fun r s'=>r=.own v0 0 n∧s'=s):=by
 refine go Tryz.func42 (k:=fun hwf H=>?_)
 have f0:((0:Int)<((2:Nat):Int))=True:=Y19
 have f1:((1:Int)<((2:Nat):Int))=True:=Y19
 have ft:Int.toNat 1=1:=rfl
 have f2:((0:Int)≤1)=True:=Y19
 have H:=aj f0 (aj f1 (aj ft (aj f2 H)))
 have hw:IntKind.i64.wrap (2-2)=0:=Y19
 have H:=aj hw H
 have H:=aj hst H
 refine rs (k:=rg [0,1] (k:=rs (k:=rs (k:=rg [0,1,10] (k:=rc (ht:=fun hc0=>?_) (hf:=fun hc0=>?_))))))
 ·cases hc0
 ·exact zoI
theorem zdh {s:St} {st b0 b1 v0 v1 n:Nat} (hst:s.blk st=some (.row 121 [.agg [.own b0 0 n,.own b1 0 n,.own v0 0 n,.own v1 0 n]])):za Tryz.prog 42 [.ptr st 0 0,.int .i64 3] s (fun r s'=>r=.own v1 0 n∧s'=s):=by
 refine go Tryz.func42 (k:=fun hwf H=>?_)
 have f0:((0:Int)<((2:Nat):Int))=True:=Y19
 have f1:((1:Int)<((2:Nat):Int))=True:=Y19
 have ft:Int.toNat 1=1:=rfl
 have f2:((0:Int)≤1)=True:=Y19
 have H:=aj f0 (aj f1 (aj ft (aj f2 H)))
 have hw:IntKind.i64.wrap (3-2)=1:=Y19
 have H:=aj hw H
 have H:=aj hst H
 refine rs (k:=rg [0,1] (k:=rs (k:=rs (k:=rg [0,1,10] (k:=rc (ht:=fun hc0=>?_) (hf:=fun hc0=>?_))))))
 ·cases hc0
 ·exact zoI
theorem zcZ {s:St} {st b0 b1 v0 v1 n:Nat} (hst:s.blk st=some (.row 121 [.agg [.own b0 0 n,.own b1 0 n,.own v0 0 n,.own v1 0 n]])):za Tryz.prog 76 [.ptr st 0 0] s (fun r s'=>r=.int .i64 n∧s'=s):=by
 refine go Tryz.func76 (k:=fun hwf H=>?_)
 have f0:((0:Int)<((2:Nat):Int))=True:=Y19
 have f1:((1:Int)<((2:Nat):Int))=True:=Y19
 have ft:Int.toNat 1=1:=rfl
 have f2:((0:Int)≤1)=True:=Y19
 have H:=aj f0 (aj f1 (aj ft (aj f2 H)))
 have H:=aj hst H
 refine rs (k:=rg [0] (k:=rs (k:=rg [2] (k:=rR (k:=?_)))))
 exact Ret.all (by simp only [Tryz.f76,go_sem,↓reduceIte]<;>rfl) ⟨rfl,rfl⟩
theorem vH {s:St} {st b0 b1 v0 v1 n:Nat} (hst:s.blk st=some (.row 121 [.agg [.own b0 0 n,.own b1 0 n,.own v0 0 n,.own v1 0 n]])) (hn:n≤65536) {a m:Int} (ha:I64 a):za Tryz.prog 43 [.ptr st 0 0,.int .i64 a,.int .i64 m] s (fun r s'=>r=.bool (zz n a m)∧s'=s):=by
 refine go Tryz.func43 (k:=fun hwf H=>?_)
 have H:=aj hst H
 refine rs (k:=rg [0,1,2] (k:=rs (k:=rr (k:=ro (pre:=[_,_,_,_,_,_,_,_,_]) (k:=rG (h:=fun hb=>zcZ hst) (k:=ro (pre:=[_,_,_,_,_]) (k:=rG (h:=fun hb=>zcZ hst) (k:=rh [6] (k:=rR (k:=?_))))))))))
 refine Ret.all (by simp only [Tryz.f43,go_sem,↓reduceIte]<;>rfl) ⟨?_,rfl⟩
 refine congrArg PV.bool ?_
 unfold zz
 by_cases h0:0≤a
 ·by_cases h3:a≤n
  ·have hw:IntKind.i64.wrap ((n:Int)-a)=n-a:=zi Y18
   rw [hw,Bool.eq_iff_iff]
   simp only [Bool.and_eq_true,decide_eq_true_eq]
   omega
  ·simp [h3]
 ·simp [h0]
theorem XY {l ys:List Bool} {id off m:Nat} {s:St} (hb:s.blk id=some (.row 4 (l.map PV.bool))) (hys:(l.drop off).take m=ys) (hle:off+m≤l.length) (hl:l.length≤65536):za Tryz.prog 89 [.own id off m] s (fun r s'=>r=.sl .unk (ys.map PV.bool)∧s'=s):=by
 refine go Tryz.func89 (k:=fun hwf H=>?_)
 have hyl:ys.length≤65536:=by rw [← hys,List.length_take,List.length_drop];omega
 refine rs (k:=rg [0] (k:=rs (k:=rs (k:=rg [0,4] (k:=rc (ht:=fun hc0=>?_) (hf:=fun hc0=>?_))))))
 ·cases hc0
 ·refine rk (k:=rs (k:=rr (k:=rO (k:=ro (pre:=[_]) (k:=?_)))))
  refine zm.appendFrom (els:=l.map PV.bool) (ys:=ys.map PV.bool) au au au hb (by rw [← hys,List.map_take,List.map_drop]) (by rw [List.length_map];exact hle) Tryz.td45 zkC (zp (P:=Tryz.prog) (e:=4) (f:=PV.bool) (fun a=>⟨rfl,zkA⟩) _) zmN (by rw [Tryz.by4,List.length_map];omega) (.inr rfl) ?_
  intro k1 s1 hm1
  refine rh [2] (k:=rR (k:=?_))
  refine Ret.pure (r':=.sl .unk (ys.map PV.bool)) (by simp only [Tryz.f89,go_sem,↓reduceIte]<;>rfl) (by simp only [PV.weak,zf]) (by simp only [PV.blw];exact ⟨fun t z e=>Y17,(by rw [xm];trivial)⟩) hwf (hm1.fr hwf).blk ⟨rfl,rfl⟩
theorem Yo {l ys:List Int} {id off m:Nat} {s:St} (hb:s.blk id=some (.row 39 (l.map (PV.int .u16)))) (hys:(l.drop off).take m=ys) (hle:off+m≤l.length) (hl:l.length≤65536):za Tryz.prog 44 [.own id off m] s (fun r s'=>r=.sl .unk (ys.map (PV.int .u16))∧s'=s):=by
 refine go Tryz.func44 (k:=fun hwf H=>?_)
 have hyl:ys.length≤65536:=by rw [← hys,List.length_take,List.length_drop];omega
 refine rs (k:=rg [0] (k:=rs (k:=rs (k:=rg [0,4] (k:=rc (ht:=fun hc0=>?_) (hf:=fun hc0=>?_))))))
 ·cases hc0
 ·refine rk (k:=rs (k:=rr (k:=rO (k:=ro (pre:=[_]) (k:=?_)))))
  refine zm.appendFrom (els:=l.map (PV.int .u16)) (ys:=ys.map (PV.int .u16)) au au au hb (by rw [← hys,List.map_take,List.map_drop]) (by rw [List.length_map];exact hle) Tryz.td23 zeY (zp (P:=Tryz.prog) (e:=39) (f:=(PV.int .u16)) (fun a=>⟨rfl,zdS⟩) _) zhy (by rw [Tryz.by39,List.length_map];omega) (.inr rfl) ?_
  intro k1 s1 hm1
  refine rh [2] (k:=rR (k:=?_))
  refine Ret.pure (r':=.sl .unk (ys.map (PV.int .u16))) (by simp only [Tryz.f44,go_sem,↓reduceIte]<;>rfl) (by simp only [PV.weak,zA]) znB hwf (hm1.fr hwf).blk ⟨rfl,rfl⟩
theorem Y44 {p:Prop} (h:p:=by
 simp (disch:=omega) only [go_sem,H]
 rw [if_pos ⟨Y19,Y18,Y18⟩,if_neg (show ¬ ((x:Int)=n) from Y18)]
 by_cases hx0:(x:Int)=0
 ·rw [if_pos hx0]
  have:x=0:=by omega
  subst this
  simp
 ·rw [if_neg hx0]
  have:(((x+y:Nat):Int)-(x:Int)).toNat=y:=by omega
  rw [this]):p:=h
theorem Y93 {p:Prop} (h:p:=by simp only [PV.blw,PV.blws,xm,and_true,true_and];exact fun t z e=>Y17):p:=h
theorem zmq {p:Prop} (h:p:=by simp only [Tryz.f170,go_sem,↓reduceIte]<;>rfl):p:=h
theorem zgZ {s:St} {st b0 b1 v0 v1 n:Nat} (hst:s.blk st=some (.row 121 [.agg [.own b0 0 n,.own b1 0 n,.own v0 0 n,.own v1 0 n]])) {l:List Bool} (hb:s.blk b0=some (.row 4 (l.map PV.bool))) (hn:l.length=n) (hn2:n≤65536) {a m:Int} (ha:I64 a) (hm:1≤m):za Tryz.prog 170 [.ptr st 0 0,.int .i64 0,.int .i64 a,.int .i64 m] s (fun r s'=>r=.tuple [.sl .unk ((cutF l a m).map PV.bool),.bool (zz n a m)]∧s'=s):=by
 refine go Tryz.func170 (k:=fun hwf H=>?_)
 have H:=aj hst (aj hb H)
 refine rs (k:=rg [0,1,2,3] (k:=rs (k:=rr (k:=ro (pre:=[_,_]) (k:=?_)))))
 refine zm.callw au au au Y22 ((zdi hst).mono ?_)
 rintro r s1 ⟨rfl,hs⟩
 subst s1
 refine rh [0,2,3,10] (k:=rs (k:=rs (k:=rr (k:=ro (pre:=[_,_,_,_,_,_]) (k:=rG (h:=fun hb=>vH hst hn2 ha) (k:=rh [2,3,10,22] (k:=rc (ht:=fun hc0=>?_) (hf:=fun hc0=>?_))))))))
 refine rs (k:=rg [8,9] (k:=rR (k:=?_)))
 refine jO 1 ?_;rotate_left
 refine rk (k:=rs (k:=?_))
 have htT:zz n a m=true:=Y85
 have htt:=htT
 unfold zz at htt
 have htt:=of_decide_eq_true htt
 obtain ⟨x,rfl⟩:∃ x:Nat,a=x:=⟨a.toNat,(Int.toNat_of_nonneg htt.1).symm⟩
 obtain ⟨y,rfl⟩:∃ y:Nat,m=y:=⟨m.toNat,(Int.toNat_of_nonneg Y18).symm⟩
 have hw:IntKind.i64.wrap ((x:Int)+y)=((x+y:Nat):Int):=Y24
 have hsl:=YG (P:=Tryz.prog) (t:=45) (id:=b0) (off:=0) (len:=n) (a:=x) (m:=y) Tryz.td45 (by rw [Tryz.cz4];decide) rfl hb Y18 Y18
 rw [Nat.zero_add] at hsl
 have H:=aj hw H
 refine rr (k:=ro (pre:=[_,_,_,_,_]) (k:=?_))
 refine zm.gdo au (v:=.own b0 x y) (s':=s) Y44 ?_
 refine rC (h:=XY hb rfl Y18 Y18) (k:=rh [8,9] (k:=rR (k:=?_)))
 refine jO 1 ?_;rotate_left
 any_goals
  refine jI 1 ?_
  first
   |(have htF:zz n a m=false:=by simpa using hc0
     refine Ret.pure (r':=.tuple [.sl .unk ((cutF l a m).map PV.bool),.bool (zz n a m)]) zmq ?_ Y93 hwf (fun _ _=>rfl) ⟨rfl,rfl⟩
     simp only [PV.weak,PV.weaks,zf]
     unfold cutF
     rw [hn,htF];rfl)
   |(refine Ret.pure (r':=.tuple [.sl .unk ((cutF l (x:Int) (y:Int)).map PV.bool),.bool (zz n (x:Int) (y:Int))]) zmq ?_ Y93 hwf (fun _ _=>rfl) ⟨rfl,rfl⟩
     simp only [PV.weak,PV.weaks,zf]
     unfold cutF
     rw [hn,htT,if_pos rfl];rfl)
theorem zg5 {s:St} {st b0 b1 v0 v1 n:Nat} (hst:s.blk st=some (.row 121 [.agg [.own b0 0 n,.own b1 0 n,.own v0 0 n,.own v1 0 n]])) {l:List Bool} (hb:s.blk b1=some (.row 4 (l.map PV.bool))) (hn:l.length=n) (hn2:n≤65536) {a m:Int} (ha:I64 a) (hm:1≤m):za Tryz.prog 170 [.ptr st 0 0,.int .i64 1,.int .i64 a,.int .i64 m] s (fun r s'=>r=.tuple [.sl .unk ((cutF l a m).map PV.bool),.bool (zz n a m)]∧s'=s):=by
 refine go Tryz.func170 (k:=fun hwf H=>?_)
 have H:=aj hst (aj hb H)
 refine rs (k:=rg [0,1,2,3] (k:=rs (k:=rr (k:=ro (pre:=[_,_]) (k:=?_)))))
 refine zm.callw au au au Y22 ((zji hst).mono ?_)
 rintro r s1 ⟨rfl,hs⟩
 subst s1
 refine rh [0,2,3,10] (k:=rs (k:=rs (k:=rr (k:=ro (pre:=[_,_,_,_,_,_]) (k:=rG (h:=fun hb=>vH hst hn2 ha) (k:=rh [2,3,10,22] (k:=rc (ht:=fun hc0=>?_) (hf:=fun hc0=>?_))))))))
 refine rs (k:=rg [8,9] (k:=rR (k:=?_)))
 refine jO 1 ?_;rotate_left
 refine rk (k:=rs (k:=?_))
 have htT:zz n a m=true:=Y85
 have htt:=htT
 unfold zz at htt
 have htt:=of_decide_eq_true htt
 obtain ⟨x,rfl⟩:∃ x:Nat,a=x:=⟨a.toNat,(Int.toNat_of_nonneg htt.1).symm⟩
 obtain ⟨y,rfl⟩:∃ y:Nat,m=y:=⟨m.toNat,(Int.toNat_of_nonneg Y18).symm⟩
 have hw:IntKind.i64.wrap ((x:Int)+y)=((x+y:Nat):Int):=Y24
 have hsl:=YG (P:=Tryz.prog) (t:=45) (id:=b1) (off:=0) (len:=n) (a:=x) (m:=y) Tryz.td45 (by rw [Tryz.cz4];decide) rfl hb Y18 Y18
 rw [Nat.zero_add] at hsl
 have H:=aj hw H
 refine rr (k:=ro (pre:=[_,_,_,_,_]) (k:=?_))
 refine zm.gdo au (v:=.own b1 x y) (s':=s) Y44 ?_
 refine rC (h:=XY hb rfl Y18 Y18) (k:=rh [8,9] (k:=rR (k:=?_)))
 refine jO 1 ?_;rotate_left
 any_goals
  refine jI 1 ?_
  first
   |(have htF:zz n a m=false:=by simpa using hc0
     refine Ret.pure (r':=.tuple [.sl .unk ((cutF l a m).map PV.bool),.bool (zz n a m)]) zmq ?_ Y93 hwf (fun _ _=>rfl) ⟨rfl,rfl⟩
     simp only [PV.weak,PV.weaks,zf]
     unfold cutF
     rw [hn,htF];rfl)
   |(refine Ret.pure (r':=.tuple [.sl .unk ((cutF l (x:Int) (y:Int)).map PV.bool),.bool (zz n (x:Int) (y:Int))]) zmq ?_ Y93 hwf (fun _ _=>rfl) ⟨rfl,rfl⟩
     simp only [PV.weak,PV.weaks,zf]
     unfold cutF
     rw [hn,htT,if_pos rfl];rfl)
theorem Y94 {p:Prop} (h:p:=by simp only [PV.blw,PV.blws,uo,and_true,true_and];exact fun t z e=>Y17):p:=h
theorem zlS {p:Prop} (h:p:=by simp only [Tryz.f17,go_sem,↓reduceIte]<;>rfl):p:=h
theorem zhn {s:St} {st b0 b1 v0 v1 n:Nat} (hst:s.blk st=some (.row 121 [.agg [.own b0 0 n,.own b1 0 n,.own v0 0 n,.own v1 0 n]])) {l:List Int} (hb:s.blk v0=some (.row 39 (l.map (PV.int .u16)))) (hn:l.length=n) (hn2:n≤65536) {a m:Int} (ha:I64 a) (hm:1≤m):za Tryz.prog 17 [.ptr st 0 0,.int .i64 2,.int .i64 a,.int .i64 m] s (fun r s'=>r=.tuple [.sl .unk ((cutF l a m).map (PV.int .u16)),.bool (zz n a m)]∧s'=s):=by
 refine go Tryz.func17 (k:=fun hwf H=>?_)
 have H:=aj hst (aj hb H)
 refine rs (k:=rg [0,1,2,3] (k:=rs (k:=rr (k:=ro (pre:=[_,_]) (k:=?_)))))
 refine zm.callw au au au Y22 ((ziH hst).mono ?_)
 rintro r s1 ⟨rfl,hs⟩
 subst s1
 refine rh [0,2,3,10] (k:=rs (k:=rs (k:=rr (k:=ro (pre:=[_,_,_,_,_,_]) (k:=rG (h:=fun hb=>vH hst hn2 ha) (k:=rh [2,3,10,22] (k:=rc (ht:=fun hc0=>?_) (hf:=fun hc0=>?_))))))))
 refine rs (k:=rg [8,9] (k:=rR (k:=?_)))
 refine jO 1 ?_;rotate_left
 refine rk (k:=rs (k:=?_))
 have htT:zz n a m=true:=Y85
 have htt:=htT
 unfold zz at htt
 have htt:=of_decide_eq_true htt
 obtain ⟨x,rfl⟩:∃ x:Nat,a=x:=⟨a.toNat,(Int.toNat_of_nonneg htt.1).symm⟩
 obtain ⟨y,rfl⟩:∃ y:Nat,m=y:=⟨m.toNat,(Int.toNat_of_nonneg Y18).symm⟩
 have hw:IntKind.i64.wrap ((x:Int)+y)=((x+y:Nat):Int):=Y24
 have hsl:=YG (P:=Tryz.prog) (t:=23) (id:=v0) (off:=0) (len:=n) (a:=x) (m:=y) Tryz.td23 (by rw [Tryz.cz39];decide) rfl hb Y18 Y18
 rw [Nat.zero_add] at hsl
 have H:=aj hw H
 refine rr (k:=ro (pre:=[_,_,_,_,_]) (k:=?_))
 refine zm.gdo au (v:=.own v0 x y) (s':=s) Y44 ?_
 refine rC (h:=Yo hb rfl Y18 Y18) (k:=rh [8,9] (k:=rR (k:=?_)))
 refine jO 1 ?_;rotate_left
 any_goals
  refine jI 1 ?_
  first
   |(have htF:zz n a m=false:=by simpa using hc0
     refine Ret.pure (r':=.tuple [.sl .unk ((cutF l a m).map (PV.int .u16)),.bool (zz n a m)]) zlS ?_ Y94 hwf (fun _ _=>rfl) ⟨rfl,rfl⟩
     simp only [PV.weak,PV.weaks,zA]
     unfold cutF
     rw [hn,htF];rfl)
   |(refine Ret.pure (r':=.tuple [.sl .unk ((cutF l (x:Int) (y:Int)).map (PV.int .u16)),.bool (zz n (x:Int) (y:Int))]) zlS ?_ Y94 hwf (fun _ _=>rfl) ⟨rfl,rfl⟩
     simp only [PV.weak,PV.weaks,zA]
     unfold cutF
     rw [hn,htT,if_pos rfl];rfl)
theorem Zn {s:St} {st b0 b1 v0 v1 n:Nat} (hst:s.blk st=some (.row 121 [.agg [.own b0 0 n,.own b1 0 n,.own v0 0 n,.own v1 0 n]])) {l:List Int} (hb:s.blk v1=some (.row 39 (l.map (PV.int .u16)))) (hn:l.length=n) (hn2:n≤65536) {a m:Int} (ha:I64 a) (hm:1≤m):za Tryz.prog 17 [.ptr st 0 0,.int .i64 3,.int .i64 a,.int .i64 m] s (fun r s'=>r=.tuple [.sl .unk ((cutF l a m).map (PV.int .u16)),.bool (zz n a m)]∧s'=s):=by
 refine go Tryz.func17 (k:=fun hwf H=>?_)
 have H:=aj hst (aj hb H)
 refine rs (k:=rg [0,1,2,3] (k:=rs (k:=rr (k:=ro (pre:=[_,_]) (k:=?_)))))
 refine zm.callw au au au Y22 ((zdh hst).mono ?_)
 rintro r s1 ⟨rfl,hs⟩
 subst s1
 refine rh [0,2,3,10] (k:=rs (k:=rs (k:=rr (k:=ro (pre:=[_,_,_,_,_,_]) (k:=rG (h:=fun hb=>vH hst hn2 ha) (k:=rh [2,3,10,22] (k:=rc (ht:=fun hc0=>?_) (hf:=fun hc0=>?_))))))))
 refine rs (k:=rg [8,9] (k:=rR (k:=?_)))
 refine jO 1 ?_;rotate_left
 refine rk (k:=rs (k:=?_))
 have htT:zz n a m=true:=Y85
 have htt:=htT
 unfold zz at htt
 have htt:=of_decide_eq_true htt
 obtain ⟨x,rfl⟩:∃ x:Nat,a=x:=⟨a.toNat,(Int.toNat_of_nonneg htt.1).symm⟩
 obtain ⟨y,rfl⟩:∃ y:Nat,m=y:=⟨m.toNat,(Int.toNat_of_nonneg Y18).symm⟩
 have hw:IntKind.i64.wrap ((x:Int)+y)=((x+y:Nat):Int):=Y24
 have hsl:=YG (P:=Tryz.prog) (t:=23) (id:=v1) (off:=0) (len:=n) (a:=x) (m:=y) Tryz.td23 (by rw [Tryz.cz39];decide) rfl hb Y18 Y18
 rw [Nat.zero_add] at hsl
 have H:=aj hw H
 refine rr (k:=ro (pre:=[_,_,_,_,_]) (k:=?_))
 refine zm.gdo au (v:=.own v1 x y) (s':=s) Y44 ?_
 refine rC (h:=Yo hb rfl Y18 Y18) (k:=rh [8,9] (k:=rR (k:=?_)))
 refine jO 1 ?_;rotate_left
 any_goals
  refine jI 1 ?_
  first
   |(have htF:zz n a m=false:=by simpa using hc0
     refine Ret.pure (r':=.tuple [.sl .unk ((cutF l a m).map (PV.int .u16)),.bool (zz n a m)]) zlS ?_ Y94 hwf (fun _ _=>rfl) ⟨rfl,rfl⟩
     simp only [PV.weak,PV.weaks,zA]
     unfold cutF
     rw [hn,htF];rfl)
   |(refine Ret.pure (r':=.tuple [.sl .unk ((cutF l (x:Int) (y:Int)).map (PV.int .u16)),.bool (zz n (x:Int) (y:Int))]) zlS ?_ Y94 hwf (fun _ _=>rfl) ⟨rfl,rfl⟩
     simp only [PV.weak,PV.weaks,zA]
     unfold cutF
     rw [hn,htT,if_pos rfl];rfl)
theorem Y95 {p:Prop} (h:p:=by
 simp (disch:=omega) only [go_sem,H]
 rw [if_pos ⟨Y19,Y18⟩,if_neg (show ¬ ((p:Int)=n) from Y18)]
 by_cases hx0:(p:Int)=0
 ·rw [if_pos hx0]
  have:p=0:=Y18
  subst this
  simp
 ·rw [if_neg hx0]
  have:((n:Int)-(p:Int)).toNat=n-p:=Y18
  rw [this]):p:=h
theorem zlZ {p:Prop} (h:p:=by rw [List.length_map];omega):p:=h
theorem zpd {p:Prop} (h:p:=by unfold zil;rw [hb];simp only;rw [if_pos ⟨zlZ,trivial,zlZ⟩];unfold yi;simp [List.map_take,List.map_drop]):p:=h
theorem zbi {s:St} {st b0 b1 v0 v1 n:Nat} (hst:s.blk st=some (.row 121 [.agg [.own b0 0 n,.own b1 0 n,.own v0 0 n,.own v1 0 n]])) {l x:List Bool} (hb:s.blk b0=some (.row 4 (l.map PV.bool))) (hn:l.length=n) (hn2:n≤65536) {a:Int} (ha:I64 a) (hx:x≠[]) (hst2:b0≠st):za Tryz.prog 173 [.ptr st 0 0,.int .i64 0,.int .i64 a,.sl .unk (x.map PV.bool)] s (fun r s'=>r=.bool (zz n a x.length)∧s'=(if zz n a x.length=true then s.set b0 (some (.row 4 ((yi l a.toNat x).map PV.bool))) else s)):=by
 refine go Tryz.func173 (k:=fun hwf H=>?_)
 have H:=aj hst (aj hb H)
 refine rs (k:=rg [0,1,2,3] (k:=rs (k:=rr (k:=ro (pre:=[_,_]) (k:=?_)))))
 refine zm.callw au au au Y22 ((zdi hst).mono ?_)
 rintro r s1 ⟨rfl,hs⟩
 subst s1
 refine rh [0,2,3,9] (k:=rs (k:=rs (k:=rr (k:=ro (pre:=[_,_,_,_,_,_,_]) (k:=rG (h:=fun hb=>vH hst hn2 ha) (k:=rh [2,3,9,22] (k:=rc (ht:=fun hc0=>?_) (hf:=fun hc0=>?_))))))))
 refine rs (k:=rg [8] (k:=rR (k:=?_)))
 refine jO 1 ?_;rotate_left
 refine rk (k:=rs (k:=?_))
 have hxl:1≤x.length:=List.length_pos_iff.2 hx
 have htT:zz n a x.length=true:=Y85
 have htt:=htT
 unfold zz at htt
 have htt:=of_decide_eq_true htt
 obtain ⟨p,hp⟩:∃ p:Nat,a=p:=⟨a.toNat,(Int.toNat_of_nonneg htt.1).symm⟩
 subst hp
 refine rr (k:=ro (pre:=[_,_]) (k:=?_))
 refine zm.gdo au (v:=.own b0 p (n-p)) (s':=s) Y95 ?_
 refine ro (pre:=[_]) (k:=?_)
 refine zm.copy (el:=4) (id:=b0) (off:=p) (len:=n-p) (ys:=x.map PV.bool) (s':=s.set b0 (some (.row 4 ((yi l p x).map PV.bool)))) au au au Tryz.td45 zkC (zp (P:=Tryz.prog) (e:=4) (f:=PV.bool) (fun a=>⟨rfl,zkA⟩) _) zpd ?_
 refine rl [] (k:=rs (k:=rg [8] (k:=rR (k:=?_))))
 refine jO 1 ?_;rotate_left
 any_goals
  refine jI 1 ?_
  first
   |(have htF:zz n a x.length=false:=by simpa using hc0
     refine Ret.all (by simp only [Tryz.f173,go_sem,↓reduceIte]<;>rfl) ⟨by rw [htF],by rw [htF];rfl⟩)
   |(refine Ret.all (by simp only [Tryz.f173,go_sem,↓reduceIte]<;>rfl) ⟨by rw [htT],by rw [htT,if_pos rfl];rfl⟩)
theorem YO {s:St} {st b0 b1 v0 v1 n:Nat} (hst:s.blk st=some (.row 121 [.agg [.own b0 0 n,.own b1 0 n,.own v0 0 n,.own v1 0 n]])) {l x:List Int} (hb:s.blk v1=some (.row 39 (l.map (PV.int .u16)))) (hn:l.length=n) (hn2:n≤65536) {a:Int} (ha:I64 a) (hx:x≠[]) (hst2:v1≠st):za Tryz.prog 174 [.ptr st 0 0,.int .i64 3,.int .i64 a,.sl .unk (x.map (PV.int .u16))] s (fun r s'=>r=.bool (zz n a x.length)∧s'=(if zz n a x.length=true then s.set v1 (some (.row 39 ((yi l a.toNat x).map (PV.int .u16)))) else s)):=by
 refine go Tryz.func174 (k:=fun hwf H=>?_)
 have H:=aj hst (aj hb H)
 refine rs (k:=rg [0,1,2,3] (k:=rs (k:=rr (k:=ro (pre:=[_,_]) (k:=?_)))))
 refine zm.callw au au au Y22 ((zdh hst).mono ?_)
 rintro r s1 ⟨rfl,hs⟩
 subst s1
 refine rh [0,2,3,9] (k:=rs (k:=rs (k:=rr (k:=ro (pre:=[_,_,_,_,_,_,_]) (k:=rG (h:=fun hb=>vH hst hn2 ha) (k:=rh [2,3,9,22] (k:=rc (ht:=fun hc0=>?_) (hf:=fun hc0=>?_))))))))
 refine rs (k:=rg [8] (k:=rR (k:=?_)))
 refine jO 1 ?_;rotate_left
 refine rk (k:=rs (k:=?_))
 have hxl:1≤x.length:=List.length_pos_iff.2 hx
 have htT:zz n a x.length=true:=Y85
 have htt:=htT
 unfold zz at htt
 have htt:=of_decide_eq_true htt
 obtain ⟨p,hp⟩:∃ p:Nat,a=p:=⟨a.toNat,(Int.toNat_of_nonneg htt.1).symm⟩
 subst hp
 refine rr (k:=ro (pre:=[_,_]) (k:=?_))
 refine zm.gdo au (v:=.own v1 p (n-p)) (s':=s) Y95 ?_
 refine ro (pre:=[_]) (k:=?_)
 refine zm.copy (el:=39) (id:=v1) (off:=p) (len:=n-p) (ys:=x.map (PV.int .u16)) (s':=s.set v1 (some (.row 39 ((yi l p x).map (PV.int .u16))))) au au au Tryz.td23 zeY (zp (P:=Tryz.prog) (e:=39) (f:=(PV.int .u16)) (fun a=>⟨rfl,zdS⟩) _) zpd ?_
 refine rl [] (k:=rs (k:=rg [8] (k:=rR (k:=?_))))
 refine jO 1 ?_;rotate_left
 any_goals
  refine jI 1 ?_
  first
   |(have htF:zz n a x.length=false:=by simpa using hc0
     refine Ret.all (by simp only [Tryz.f174,go_sem,↓reduceIte]<;>rfl) ⟨by rw [htF],by rw [htF];rfl⟩)
   |(refine Ret.all (by simp only [Tryz.f174,go_sem,↓reduceIte]<;>rfl) ⟨by rw [htT],by rw [htT,if_pos rfl];rfl⟩)
end Go.Proofs
namespace Go.Proofs
open Go.PM
set_option maxHeartbeats 2000000
def xA (b:Nat) (D:Dev):Blk:=.row 89 [.agg [.ptr b 0 0,.int .u8 D.unit,.int .i64 D.msgs,.int .i64 D.exc]]
def zk1 (b n:Nat):Blk:=.row 121 [.agg [.own (b+1) 0 n,.own (b+3) 0 n,.own (b+2) 0 n,.own (b+4) 0 n]]
structure zK (b:Nat) (D:Dev) (s:St):Prop where
 st:s.blk b=some (zk1 b D.c0.length)
 c0:s.blk (b+1)=some (.row 4 (D.c0.map PV.bool))
 c1:s.blk (b+3)=some (.row 4 (D.c1.map PV.bool))
 v0:s.blk (b+2)=some (.row 39 (D.v0.map (PV.int .u16)))
 v1:s.blk (b+4)=some (.row 39 (D.v1.map (PV.int .u16)))
 dv:s.blk (b+5)=some (xA b D)
def putDev (b:Nat) (D:Dev) (s:St):St:=((((s.set (b+1) (some (.row 4 (D.c0.map PV.bool)))).set (b+3) (some (.row 4 (D.c1.map PV.bool)))).set (b+2) (some (.row 39 (D.v0.map (PV.int .u16))))).set (b+4) (some (.row 39 (D.v1.map (PV.int .u16))))).set (b+5) (some (xA b D))
theorem zY (b:Nat) (D:Dev) (s:St) (i:Nat):(putDev b D s).blk i=if i=b+5 then some (xA b D) else if i=b+4 then some (.row 39 (D.v1.map (PV.int .u16))) else if i=b+2 then some (.row 39 (D.v0.map (PV.int .u16))) else if i=b+3 then some (.row 4 (D.c1.map PV.bool)) else if i=b+1 then some (.row 4 (D.c0.map PV.bool)) else s.blk i:=rfl
theorem xb (b:Nat) (D:Dev) (s:St):(putDev b D s).nxt=s.nxt:=rfl
theorem zK.of {b:Nat} {D:Dev} {s:St} (h:zK b D s) {D':Dev} {s':St} (h0:s'.blk b=s.blk b) (hl:D'.c0.length=D.c0.length) (h1:s'.blk (b+1)=some (.row 4 (D'.c0.map PV.bool))) (h3:s'.blk (b+3)=some (.row 4 (D'.c1.map PV.bool)))
  (h2:s'.blk (b+2)=some (.row 39 (D'.v0.map (PV.int .u16)))) (h4:s'.blk (b+4)=some (.row 39 (D'.v1.map (PV.int .u16)))) (h5:s'.blk (b+5)=some (xA b D')):zK b D' s':=⟨by rw [h0,hl];exact h.st,h1,h3,h2,h4,h5⟩
theorem zK.put {b:Nat} {D:Dev} {s:St} (h:zK b D s) {D':Dev} (hl:D'.c0.length=D.c0.length):zK b D' (putDev b D' s):=by
 refine ⟨?_,?_,?_,?_,?_,?_⟩<;>rw [zY]
 ·rw [if_neg Y18,if_neg Y18,if_neg Y18,if_neg Y18,if_neg Y18,hl];exact h.st
 ·rw [if_neg Y18,if_neg Y18,if_neg Y18,if_neg Y18,if_pos rfl]
 ·rw [if_neg Y18,if_neg Y18,if_neg Y18,if_pos rfl]
 ·rw [if_neg Y18,if_neg Y18,if_pos rfl]
 ·rw [if_neg Y18,if_pos rfl]
 ·rw [if_pos rfl]
theorem zjy {b:Nat} {D:Dev} {s s':St} (hn:s'.nxt=s.nxt) (h:zK b D s') (hk:∀ i,i<b+1∨b+5<i→s'.blk i=s.blk i):s'=putDev b D s:=by
 refine St.eq_of hn fun i=>?_
 rw [zY]
 by_cases e5:i=b+5
 ·rw [if_pos e5,e5];exact h.dv
 rw [if_neg e5]
 by_cases e4:i=b+4
 ·rw [if_pos e4,e4];exact h.v1
 rw [if_neg e4]
 by_cases e2:i=b+2
 ·rw [if_pos e2,e2];exact h.v0
 rw [if_neg e2]
 by_cases e3:i=b+3
 ·rw [if_pos e3,e3];exact h.c1
 rw [if_neg e3]
 by_cases e1:i=b+1
 ·rw [if_pos e1,e1];exact h.c0
 rw [if_neg e1]
 exact hk i Y18
theorem uM {b:Nat} {D:Dev} {s:St} (h:zK b D s):putDev b D s=s:=(zjy rfl h fun _ _=>rfl).symm
theorem zbK {b:Nat} {D D':Dev} {s:St}:putDev b D' (putDev b D s)=putDev b D' s:=by
 refine St.eq_of rfl fun i=>?_
 simp only [zY]
 (repeat' split)<;>first | rfl |(exfalso;omega)
theorem zjn {b:Nat} {D D':Dev} {s:St} (hA:zK b D s) (hwf:s.wf):(putDev b D' s).wf:=by
 intro i hi
 rw [xb] at hi
 have h5:=xN hwf hA.dv
 rw [zY,if_neg Y18,if_neg Y18,if_neg Y18,if_neg Y18,if_neg Y18]
 exact hwf i hi
theorem zhK {b:Nat} {D D':Dev} {s:St} (hA:zK b D s) (hwf:s.wf) (i:Nat) (bl:Blk) (h:(putDev b D' s).blk i=some bl):s.blk i=some bl∨bl.blw s.nxt:=by
 have h0:=xN hwf hA.st
 rw [zY] at h
 repeat' split at h
 ·cases h;right;simp only [xA,Blk.blw,PV.blw,PV.blws,and_true];exact h0
 ·cases h;right;exact VN _ _
 ·cases h;right;exact VN _ _
 ·cases h;right;simp only [Blk.blw];rw [xm];trivial
 ·cases h;right;simp only [Blk.blw];rw [xm];trivial
 ·exact .inl h
theorem Ret.dev {fn:Func} {args:List PV} {s0 s:St} {Q:PV→St→Prop} {e:Env} {r r':PV} {b:Nat} {D:Dev} (D':Dev) (hA:zK b D s0) (hr:Xp Tryz.prog fn.results.toList e s=some r) (hr':r'=r.weak) (hb:r'.blw s0.nxt) (hwf:s0.wf)
  (hk:∀ i,i<s0.nxt→s.blk i=(putDev b D' s0).blk i) (h:Q r' (putDev b D' s0)):Ret Tryz.prog fn args s0 Q e s :=
 Ret.put (putDev b D' s0) hr hr' hb (zjn hA hwf) rfl hk (zhK hA hwf) h
theorem zK.lt {b:Nat} {D:Dev} {s:St} (h:zK b D s) (hwf:s.wf):b+5<s.nxt:=xN hwf h.dv
theorem vY {fn:Int} {s:St}:za Tryz.prog 171 [.int .i64 fn] s (fun r s'=>r=.int .i64 (if fn=1∨fn=5∨fn=15 then 0 else if fn=2 then 1 else if fn=4 then 2 else 3)∧s'=s):=by
 refine go Tryz.func171 (k:=fun hwf H=>?_)
 refine rs (k:=rg [0] (k:=rs (k:=rs (k:=rg [3] (k:=rb (k:=rs (k:=rs (k:=rg [3,4] (k:=rc (ht:=fun hc0=>?_) (hf:=fun hc0=>?_))))))))))
 refine rk (k:=rc (ht:=fun hc2=>?_) (hf:=fun hc2=>?_))
 refine jO 1 ?_;rotate_left
 ·exact Bool.noConfusion (hc0.symm.trans hc2)
 refine rs (k:=rg [3,4] (k:=rc (ht:=fun hc1=>?_) (hf:=fun hc1=>?_)))
 refine rk (k:=rc (ht:=fun hc2=>?_) (hf:=fun hc2=>?_))
 refine jO 1 ?_;rotate_left
 ·exact zjm
 refine rg [3,4] (k:=rc (ht:=fun hc2=>?_) (hf:=fun hc2=>?_))
 refine jO 1 ?_;rotate_left
 refine rs (k:=rg [3,8] (k:=rc (ht:=fun hc3=>?_) (hf:=fun hc3=>?_)))
 refine jO 1 ?_;rotate_left
 refine rs (k:=rg [10] (k:=rc (ht:=fun hc4=>?_) (hf:=fun hc4=>?_)))
 refine jO 1 ?_;rotate_left
 refine rk (k:=rB (k:=rs (k:=rg [2] (k:=rR (k:=rP (by simp only [Tryz.f171,go_sem];rfl) hwf ⟨?_,rfl⟩)))))
 refine jO 2 ?_;rotate_left
 any_goals
  refine jI 1 ?_
  refine rs (k:=rg [2] (k:=rR (k:=rP (by simp only [Tryz.f171,go_sem];rfl) hwf ⟨?_,rfl⟩)))
  refine jO 2 ?_;rotate_left
 any_goals
  refine jI 2 ?_
  simp only [decide_eq_true_eq,decide_eq_false_iff_not] at *
  refine jO 3 ?_;rotate_left
 any_goals
  refine jI 3 ?_
  refine congrArg (PV.int .i64) ?_
  refine jO 4 ?_;rotate_left
 any_goals
  refine jI 4 ?_
  first
   |(rw [if_pos Y18];done)
   |(rw [if_neg Y18,if_pos Y18];done)
   |(rw [if_neg Y18,if_neg Y18,if_pos Y18];done)
   |(rw [if_neg Y18,if_neg Y18,if_neg Y18];done)
attribute [local go_sem] zf Req.pv Rep.pv
theorem xd {q:Req} (hq:q.ok) {s:St}:za Tryz.prog 172 [q.pv] s (fun r s'=>r=(yz q).pv∧s'=s):=by
 refine go Tryz.func172 (k:=fun hwf H=>?_)
 refine rs (k:=rg [1,2] (k:=rs (k:=rr (k:=ro (pre:=[_,_]) (k:=rC (h:=yf (fn:=q.fn) (code:=2) hq.fn Y20) (k:=rh [2] (k:=rR (k:=?_))))))))
 exact Ret.pure (r':=(yz q).pv) (by simp only [Tryz.f172,go_sem,↓reduceIte]<;>rfl) (by rfl) (zS _ _) hwf Y34 ⟨rfl,rfl⟩
theorem zdJ {b:Nat} {D:Dev} {s:St} (hA:zK b D s):za Tryz.prog 11 [.ptr (b+5) 0 0] s (fun r s'=>r=.ptr b 0 0∧s'=s):=by
 refine go Tryz.func11 (k:=fun hwf H=>?_)
 have hdv:=hA.dv
 unfold xA at hdv
 have H:=aj hdv H
 refine rs (k:=rg [0] (k:=rs (k:=rg [2] (k:=rR (k:=?_)))))
 exact Ret.all (by simp only [Tryz.f11,go_sem,↓reduceIte]<;>rfl) ⟨rfl,rfl⟩
attribute [local go_sem] zf Rep.pv
theorem vm {b:Nat} {D:Dev} {s:St} (hA:zK b D s) {fn code:Int} (hf:I64 fn) (hc:I64 code):za Tryz.prog 159 [.ptr (b+5) 0 0,.int .i64 fn,.int .i64 code] s (fun r s'=>r=(ZG D fn code).1.pv∧s'=putDev b (ZG D fn code).2 s):=by
 refine go Tryz.func159 (k:=fun hwf H=>?_)
 have hdv:=hA.dv
 unfold xA at hdv
 have hlt:=hA.lt hwf
 have hinc:IntKind.i64.wrap (D.exc+1)=inc D.exc:=rfl
 have H:=aj hinc H
 have H:=aj hdv H
 refine rs (k:=rg [0,1,2,6] (k:=rs (k:=rg [1,2,6] (k:=rs (k:=rr (k:=ro (pre:=[_,_]) (k:=rC (h:=yf (fn:=fn) (code:=code) hf hc) (k:=rh [6] (k:=rR (k:=?_))))))))))
 exact Ret.dev (ZG D fn code).2 hA (r':=(ZG D fn code).1.pv) (by simp only [Tryz.f159,go_sem,↓reduceIte]<;>rfl) (by rfl) (zS _ _) hwf (fun i hi=>by
  have h0:=ltn hi;have h1:=lte hi
  rw [zY]
  simp only [go_sem,Nat.add_assoc,Nat.reduceAdd,↓reduceIte,h0,h1]
  by_cases e5:i=b+5
  ·rw [if_pos e5,if_pos e5];rfl
  rw [if_neg e5,if_neg e5]
  by_cases e4:i=b+4
  ·rw [if_pos e4,e4];exact hA.v1
  rw [if_neg e4]
  by_cases e2:i=b+2
  ·rw [if_pos e2,e2];exact hA.v0
  rw [if_neg e2]
  by_cases e3:i=b+3
  ·rw [if_pos e3,e3];exact hA.c1
  rw [if_neg e3]
  by_cases e1:i=b+1
  ·rw [if_pos e1,e1];exact hA.c0
  rw [if_neg e1]) ⟨rfl,rfl⟩
set_option maxRecDepth 100000 in
theorem zaC {n:Nat} {s:St} (h1:1≤n) (h2:n≤65536):za Tryz.prog 8 [.int .i64 (n:Int)] s (fun r s'=>r=.ptr (s.nxt+5) 0 0∧zK s.nxt (Dev.zero n) s'∧(∀ i,i<s.nxt→s'.blk i=s.blk i)∧s'.nxt=s.nxt+6):=by
 refine go Tryz.func8 (k:=fun hwf H=>?_)
 refine rs (k:=rg [0] (k:=rs (k:=rr (k:=ro (pre:=[_]) (k:=?_)))))
 refine zm.callw au au au Y22 ((zjw h1 h2).mono ?_)
 rintro r s1 ⟨rfl,rfl⟩
 refine rh [3] (k:=rs (k:=rs (k:=rg [3,7] (k:=rc (ht:=fun hc0=>?_) (hf:=fun hc0=>?_)))))
 ·cases hc0
 refine rk (k:=rs (k:=rg [2] (k:=rR (k:=?_))))
 have L:∀ {p:Prop},p→p:=fun h=>h
 refine Ret.all (by simp only [Tryz.f8,go_sem,↓reduceIte]<;>rfl) ⟨rfl,⟨?_,?_,?_,?_,?_,?_⟩,fun i hi=>?_,rfl⟩
 ·simp (disch:=first | omega |(simp only [zt,zq]<;>omega) | fail) only [go_sem]
  simp [zk1,Dev.zero]
 refine jO 1 ?_;rotate_left
 refine jO 1 ?_;rotate_left
 refine jO 1 ?_;rotate_left
 refine jO 1 ?_;rotate_left
 ·simp (disch:=first | omega |(simp only [zt,zq]<;>omega) | fail) only [go_sem,↓reduceIte,Nat.add_assoc,Nat.reduceAdd]
  simp [xA,Dev.zero]
 ·have h0:=ltn hi;have h1:=lte hi
  simp (disch:=first | omega |(simp only [zt,zq]<;>omega) | fail) only [go_sem,Nat.add_assoc,Nat.reduceAdd,↓reduceIte,h0,h1]
 any_goals
  refine jI 1 ?_
  simp (disch:=first | omega |(simp only [zt,zq]<;>omega) | fail) only [go_sem]
  simp [Dev.zero]
end Go.Proofs
namespace Go.Proofs
open Go.PM
set_option maxHeartbeats 2000000
theorem zK.nw {b:Nat} {D:Dev} {s:St} (h:zK b D s) (hl:b+5<s.nxt) (x:Blk):zK b D (s.new x):=by
 have e:∀ i,i≤b+5→(s.new x).blk i=s.blk i:=fun i hi=>zg Y18
 exact ⟨by rw [e _ Y18];exact h.st,by rw [e _ Y18];exact h.c0,by rw [e _ Y18];exact h.c1,by rw [e _ Y18];exact h.v0,by rw [e _ Y18];exact h.v1,by rw [e _ Y18];exact h.dv⟩
theorem Zs {q:Req} (h:yu q=true) (hf:q.fn=1∨q.fn=2∨q.fn=3∨q.fn=4∨q.fn=15∨q.fn=16∨q.fn=23):1≤q.count:=by
 have h:=(of_decide_eq_true h).2
 rcases hf with e | e | e | e | e | e | e<;>simp [e] at h<;>omega
theorem ziu {q:Req} (hr:zD q=0) (h:yu q=true) (hf:q.fn=5∨q.fn=15):q.bits≠[]:=by
 have hR:=vF hr
 have hb:=hR.nb
 intro e
 rw [e] at hb
 rcases hf with e1 | e1
 ·unfold Zl at hb;rw [if_pos e1] at hb;simp at hb
 ·have:=Zs h Y18
  unfold Zl at hb;rw [if_neg Y18,if_pos e1] at hb;simp at hb;omega
theorem zax {q:Req} (hr:zD q=0) (h:yu q=true) (hf:q.fn=6∨q.fn=8∨q.fn=16∨q.fn=23):q.vals≠[]:=by
 have hR:=vF hr
 have hb:=hR.nv
 intro e
 rw [e] at hb
 rcases hf with e1 | e1 | e1 | e1
 ·unfold uN at hb;rw [if_pos (.inl e1)] at hb;simp at hb
 ·unfold uN at hb;rw [if_pos (.inr e1)] at hb;simp at hb
 ·have:=Zs h Y18
  unfold uN at hb;rw [if_neg Y18,if_pos e1] at hb;simp at hb;omega
 ·have h:=(of_decide_eq_true h).2
  simp [e1,e] at h
attribute [local go_sem] zf Req.pv Rep.pv
theorem Y45 {p:Prop} (h:p:=by
 exact
                                                                 (fun i hi=>by
  have h0:=ltn hi;have h1:=lte hi
  rw [zY]
  simp only [go_sem,Nat.add_assoc,Nat.reduceAdd,↓reduceIte,h0,h1]
  (repeat' split)<;>first | rfl |(rename_i e;rw [e];first | exact hA.dv | exact hA.v1 | exact hA.v0 | exact hA.c1 | exact hA.c0) |(exfalso;omega))):p:=h
theorem Y46 {p:Prop} (h:p:=by
 exact
                                                                                         (fun i hi=>by
  have h0:=ltn hi;have h1:=lte hi
  rw [zY]
  simp only [go_sem,Nat.add_assoc,Nat.reduceAdd,↓reduceIte,h0,h1]
  (repeat' split)<;>first | rfl |(rename_i e;rw [e];first | exact hA.dv | exact hA.v1 | exact hA.v0 | exact hA.c1 | exact hA.c0) |(exfalso;omega))):p:=h
theorem Y96 {p:Prop} (h:p:=by show b+5<s.nxt+1;omega):p:=h
theorem Y97 {p:Prop} (h:p:=by rw [hB]):p:=h
theorem zmH {p:Prop} (h:p:=by simp only [Tryz.f162,go_sem,↓reduceIte]<;>rfl):p:=h
set_option maxRecDepth 100000 in
theorem zgL {b:Nat} {D:Dev} {s:St} (hA:zK b D s) (hD:D.ok) {q:Req} (hq:q.ok) (hr:zD q=0) (hc:yu q=true) (hf:q.fn=1):za Tryz.prog 162 [.ptr (b+5) 0 0,q.pv] s (fun r s'=>r=(zF D q).1.pv∧s'=putDev b (zF D q).2 s):=by
 refine go Tryz.func162 (k:=fun hwf H=>?_)
 have hdv:=hA.dv
 unfold xA at hdv
 have hlt:=hA.lt hwf
 have hA1:∀ x y,zK b D ((s.new x).new y):=fun x y=>(hA.nw hlt x).nw Y96 y
 have hd1:=hD.h1
 have hd2:=hD.h2
 have hd3:=hD.c1
 have hd4:=hD.v0
 have hd5:=hD.v1
 have H:=aj hdv H
 have hsp:∀ s,za Tryz.prog 171 [.int .i64 q.fn] s (fun r s'=>r=.int .i64 0∧s'=s):=fun s=>by rw [hf];simpa using vY (fn:=1) (s:=s)
 have hcn:=Zs hc Y18
 refine rs (k:=rg [0,3,4] (k:=rs (k:=?_)))
 refine Run.drawC [] [3,4,5,6] Tryz.mixed Y22 ?_
 refine zj.pre (pre:=[_,_,_,_,_,_]) au ?_
 refine zj.call au au au Y22 (hsp _) ?_
 refine zj.pre (pre:=[_,_,_,_]) au ?_
 refine zj.call au au au Y22 (zgZ (hA1 _ _).st (hA1 _ _).c0 Y18 hd2 hq.at_ hcn) ?_
 refine zj.all au ?_
 refine re (k:=rs (k:=rs (k:=rg [3,4,5,23] (k:=rc (ht:=fun hc0=>?_) (hf:=fun hc0=>?_)))))
 have hc:=hc0
 refine rs (k:=rr (k:=ro (pre:=[_]) (k:=rC (h:=xd hq) (k:=rh [4] (k:=rR (k:=?_))))))
 refine jO 1 ?_;rotate_left
 have hc:=hc0
 refine rk (k:=rs (k:=rg [4] (k:=rR (k:=?_))))
 refine jO 1 ?_;rotate_left
 any_goals
  refine jI 1 ?_
  first
   |(have hT:zz D.c0.length q.at_ q.count=false:=by simpa using hc0
     have hB:zF D q=(yz q,D):=by
      unfold zF;rw [if_pos Y18,hT,if_neg Bool.false_ne_true]
     refine Ret.dev D hA (r':=(yz q:Rep).pv) zmH ?_ (zS _ _) hwf Y45 ⟨Y97,Y97⟩
     rfl)
   |(have hT:zz D.c0.length q.at_ q.count=true:=by simpa using hc0
     have hB:zF D q=(⟨q.fn,0,0,0,0,cutF D.c0 q.at_ q.count,[],0,0,[]⟩,D):=by
      unfold zF;rw [if_pos Y18,hT,if_pos rfl]
     refine Ret.dev D hA (r':=(⟨q.fn,0,0,0,0,cutF D.c0 q.at_ q.count,[],0,0,[]⟩:Rep).pv) zmH ?_ (zS _ _) hwf Y46 ⟨Y97,Y97⟩
     simp only [Rep.pv,PV.weak,PV.weaks,zA,zf,zB];rfl)
attribute [local go_sem] zf Req.pv Rep.pv
set_option maxRecDepth 100000 in
theorem zgy {b:Nat} {D:Dev} {s:St} (hA:zK b D s) (hD:D.ok) {q:Req} (hq:q.ok) (hr:zD q=0) (hc:yu q=true) (hf:q.fn=2):za Tryz.prog 162 [.ptr (b+5) 0 0,q.pv] s (fun r s'=>r=(zF D q).1.pv∧s'=putDev b (zF D q).2 s):=by
 refine go Tryz.func162 (k:=fun hwf H=>?_)
 have hdv:=hA.dv
 unfold xA at hdv
 have hlt:=hA.lt hwf
 have hA1:∀ x y,zK b D ((s.new x).new y):=fun x y=>(hA.nw hlt x).nw Y96 y
 have hd1:=hD.h1
 have hd2:=hD.h2
 have hd3:=hD.c1
 have hd4:=hD.v0
 have hd5:=hD.v1
 have H:=aj hdv H
 have hsp:∀ s,za Tryz.prog 171 [.int .i64 q.fn] s (fun r s'=>r=.int .i64 1∧s'=s):=fun s=>by rw [hf];simpa using vY (fn:=2) (s:=s)
 have hcn:=Zs hc Y18
 refine rs (k:=rg [0,3,4] (k:=rs (k:=?_)))
 refine Run.drawC [] [3,4,5,6] Tryz.mixed Y22 ?_
 refine zj.pre (pre:=[_,_,_,_,_,_]) au ?_
 refine zj.call au au au Y22 (hsp _) ?_
 refine zj.pre (pre:=[_,_,_,_]) au ?_
 refine zj.call au au au Y22 (zg5 (hA1 _ _).st (hA1 _ _).c1 Y18 hd2 hq.at_ hcn) ?_
 refine zj.all au ?_
 refine re (k:=rs (k:=rs (k:=rg [3,4,5,23] (k:=rc (ht:=fun hc0=>?_) (hf:=fun hc0=>?_)))))
 have hc:=hc0
 refine rs (k:=rr (k:=ro (pre:=[_]) (k:=rC (h:=xd hq) (k:=rh [4] (k:=rR (k:=?_))))))
 refine jO 1 ?_;rotate_left
 have hc:=hc0
 refine rk (k:=rs (k:=rg [4] (k:=rR (k:=?_))))
 refine jO 1 ?_;rotate_left
 any_goals
  refine jI 1 ?_
  first
   |(have hT:zz D.c0.length q.at_ q.count=false:=by simpa using hc0
     have hB:zF D q=(yz q,D):=by
      unfold zF;rw [if_neg Y18,if_pos Y18,hT,if_neg Bool.false_ne_true]
     refine Ret.dev D hA (r':=(yz q:Rep).pv) zmH ?_ (zS _ _) hwf Y45 ⟨Y97,Y97⟩
     rfl)
   |(have hT:zz D.c0.length q.at_ q.count=true:=by simpa using hc0
     have hB:zF D q=(⟨q.fn,0,0,0,0,cutF D.c1 q.at_ q.count,[],0,0,[]⟩,D):=by
      unfold zF;rw [if_neg Y18,if_pos Y18,hT,if_pos rfl]
     refine Ret.dev D hA (r':=(⟨q.fn,0,0,0,0,cutF D.c1 q.at_ q.count,[],0,0,[]⟩:Rep).pv) zmH ?_ (zS _ _) hwf Y46 ⟨Y97,Y97⟩
     simp only [Rep.pv,PV.weak,PV.weaks,zA,zf,zB];rfl)
attribute [local go_sem] zf Req.pv Rep.pv
theorem Y98 {p:Prop} (h:p:=by simp only [Tryz.f163,go_sem,↓reduceIte]<;>rfl):p:=h
set_option maxRecDepth 100000 in
theorem zhc {b:Nat} {D:Dev} {s:St} (hA:zK b D s) (hD:D.ok) {q:Req} (hq:q.ok) (hr:zD q=0) (hc:yu q=true) (hf:q.fn=3):za Tryz.prog 163 [.ptr (b+5) 0 0,q.pv] s (fun r s'=>r=(zF D q).1.pv∧s'=putDev b (zF D q).2 s):=by
 refine go Tryz.func163 (k:=fun hwf H=>?_)
 have hdv:=hA.dv
 unfold xA at hdv
 have hlt:=hA.lt hwf
 have hA1:∀ x y,zK b D ((s.new x).new y):=fun x y=>(hA.nw hlt x).nw Y96 y
 have hd1:=hD.h1
 have hd2:=hD.h2
 have hd3:=hD.c1
 have hd4:=hD.v0
 have hd5:=hD.v1
 have H:=aj hdv H
 have hsp:∀ s,za Tryz.prog 171 [.int .i64 q.fn] s (fun r s'=>r=.int .i64 3∧s'=s):=fun s=>by rw [hf];simpa using vY (fn:=3) (s:=s)
 have hcn:=Zs hc Y18
 refine rs (k:=rg [0,3,4] (k:=rs (k:=?_)))
 refine Run.drawC [] [3,4,5,6] Tryz.mixed Y22 ?_
 refine zj.pre (pre:=[_,_,_,_,_,_]) au ?_
 refine zj.call au au au Y22 (hsp _) ?_
 refine zj.pre (pre:=[_,_,_,_]) au ?_
 refine zj.call au au au Y22 (Zn (hA1 _ _).st (hA1 _ _).v1 Y18 hd2 hq.at_ hcn) ?_
 refine zj.all au ?_
 refine re (k:=rs (k:=rs (k:=rg [3,4,5,23] (k:=rc (ht:=fun hc0=>?_) (hf:=fun hc0=>?_)))))
 have hc:=hc0
 refine rs (k:=rr (k:=ro (pre:=[_]) (k:=rC (h:=xd hq) (k:=rh [4] (k:=rR (k:=?_))))))
 refine jO 1 ?_;rotate_left
 have hc:=hc0
 refine rk (k:=rs (k:=rg [4] (k:=rR (k:=?_))))
 refine jO 1 ?_;rotate_left
 any_goals
  refine jI 1 ?_
  first
   |(have hT:zz D.c0.length q.at_ q.count=false:=by simpa using hc0
     have hB:zF D q=(yz q,D):=by
      unfold zF;rw [if_neg Y18,if_neg Y18,if_pos Y18,hT,if_neg Bool.false_ne_true]
     refine Ret.dev D hA (r':=(yz q:Rep).pv) Y98 ?_ (zS _ _) hwf Y45 ⟨Y97,Y97⟩
     rfl)
   |(have hT:zz D.c0.length q.at_ q.count=true:=by simpa using hc0
     have hB:zF D q=(⟨q.fn,0,0,0,0,[],cutF D.v1 q.at_ q.count,0,0,[]⟩,D):=by
      unfold zF;rw [if_neg Y18,if_neg Y18,if_pos Y18,hT,if_pos rfl]
     refine Ret.dev D hA (r':=(⟨q.fn,0,0,0,0,[],cutF D.v1 q.at_ q.count,0,0,[]⟩:Rep).pv) Y98 ?_ (zS _ _) hwf Y46 ⟨Y97,Y97⟩
     simp only [Rep.pv,PV.weak,PV.weaks,zA,zf,zB];rfl)
attribute [local go_sem] zf Req.pv Rep.pv
set_option maxRecDepth 100000 in
theorem zhe {b:Nat} {D:Dev} {s:St} (hA:zK b D s) (hD:D.ok) {q:Req} (hq:q.ok) (hr:zD q=0) (hc:yu q=true) (hf:q.fn=4):za Tryz.prog 163 [.ptr (b+5) 0 0,q.pv] s (fun r s'=>r=(zF D q).1.pv∧s'=putDev b (zF D q).2 s):=by
 refine go Tryz.func163 (k:=fun hwf H=>?_)
 have hdv:=hA.dv
 unfold xA at hdv
 have hlt:=hA.lt hwf
 have hA1:∀ x y,zK b D ((s.new x).new y):=fun x y=>(hA.nw hlt x).nw Y96 y
 have hd1:=hD.h1
 have hd2:=hD.h2
 have hd3:=hD.c1
 have hd4:=hD.v0
 have hd5:=hD.v1
 have H:=aj hdv H
 have hsp:∀ s,za Tryz.prog 171 [.int .i64 q.fn] s (fun r s'=>r=.int .i64 2∧s'=s):=fun s=>by rw [hf];simpa using vY (fn:=4) (s:=s)
 have hcn:=Zs hc Y18
 refine rs (k:=rg [0,3,4] (k:=rs (k:=?_)))
 refine Run.drawC [] [3,4,5,6] Tryz.mixed Y22 ?_
 refine zj.pre (pre:=[_,_,_,_,_,_]) au ?_
 refine zj.call au au au Y22 (hsp _) ?_
 refine zj.pre (pre:=[_,_,_,_]) au ?_
 refine zj.call au au au Y22 (zhn (hA1 _ _).st (hA1 _ _).v0 Y18 hd2 hq.at_ hcn) ?_
 refine zj.all au ?_
 refine re (k:=rs (k:=rs (k:=rg [3,4,5,23] (k:=rc (ht:=fun hc0=>?_) (hf:=fun hc0=>?_)))))
 have hc:=hc0
 refine rs (k:=rr (k:=ro (pre:=[_]) (k:=rC (h:=xd hq) (k:=rh [4] (k:=rR (k:=?_))))))
 refine jO 1 ?_;rotate_left
 have hc:=hc0
 refine rk (k:=rs (k:=rg [4] (k:=rR (k:=?_))))
 refine jO 1 ?_;rotate_left
 any_goals
  refine jI 1 ?_
  first
   |(have hT:zz D.c0.length q.at_ q.count=false:=by simpa using hc0
     have hB:zF D q=(yz q,D):=by
      unfold zF;rw [if_neg Y18,if_neg Y18,if_neg Y18,if_pos Y18,hT,if_neg Bool.false_ne_true]
     refine Ret.dev D hA (r':=(yz q:Rep).pv) Y98 ?_ (zS _ _) hwf Y45 ⟨Y97,Y97⟩
     rfl)
   |(have hT:zz D.c0.length q.at_ q.count=true:=by simpa using hc0
     have hB:zF D q=(⟨q.fn,0,0,0,0,[],cutF D.v0 q.at_ q.count,0,0,[]⟩,D):=by
      unfold zF;rw [if_neg Y18,if_neg Y18,if_neg Y18,if_pos Y18,hT,if_pos rfl]
     refine Ret.dev D hA (r':=(⟨q.fn,0,0,0,0,[],cutF D.v0 q.at_ q.count,0,0,[]⟩:Rep).pv) Y98 ?_ (zS _ _) hwf Y46 ⟨Y97,Y97⟩
     simp only [Rep.pv,PV.weak,PV.weaks,zA,zf,zB];rfl)
end Go.Proofs
namespace Go.Proofs
open Go.PM
set_option maxHeartbeats 2000000
attribute [local go_sem] zf Req.pv Rep.pv
theorem zna {p:Prop} (h:p:=by simp only [Tryz.f164,go_sem,↓reduceIte]<;>rfl):p:=h
theorem ziC {p:Prop} (h:p:=by rw [hye];rfl):p:=h
set_option maxRecDepth 100000 in
theorem zhj {b:Nat} {D:Dev} {s:St} (hA:zK b D s) (hD:D.ok) {q:Req} (hq:q.ok) (hr:zD q=0) (hc:yu q=true) (hf:q.fn=5):za Tryz.prog 164 [.ptr (b+5) 0 0,q.pv] s (fun r s'=>r=(zF D q).1.pv∧s'=putDev b (zF D q).2 s):=by
 refine go Tryz.func164 (k:=fun hwf H=>?_)
 have hdv:=hA.dv
 unfold xA at hdv
 have hlt:=hA.lt hwf
 have hA1:∀ x y,zK b D ((s.new x).new y):=fun x y=>(hA.nw hlt x).nw Y96 y
 have hd1:=hD.h1
 have hd2:=hD.h2
 have hd3:=hD.c1
 have hd4:=hD.v0
 have hd5:=hD.v1
 have H:=aj hdv H
 have hfT:decide (q.fn=15)=false:=by rw [hf];rfl
 have hne:=ziu hr hc Y18
 have H:=aj hfT H
 refine rs (k:=rg [0,3,4] (k:=rs (k:=rs (k:=?_))))
 refine Run.drawCut 8 [] Tryz.mixed Y22 Y22 ?_
 refine zj.all au ?_
 refine zm.callw au au au Y22 ((zbi (hA1 _ _).st (hA1 _ _).c0 Y18 hd2 hq.at_ hne Y18).mono ?_)
 rintro r s1 ⟨rfl,hs⟩
 refine rh [3,4,14] (k:=rc (ht:=fun hc0=>?_) (hf:=fun hc0=>?_))
 have hc:=hc0
 refine rs (k:=?_)
 have hT:zz D.c0.length q.at_ q.bits.length=false:=Y85
 rw [hT,if_neg Bool.false_ne_true] at hs
 subst hs
 refine rr (k:=ro (pre:=[_]) (k:=rC (h:=xd hq) (k:=rh [4] (k:=rR (k:=?_)))))
 refine jO 1 ?_;rotate_left
 have hc:=hc0
 refine rk (k:=rs (k:=rs (k:=?_)))
 have hT:zz D.c0.length q.at_ q.bits.length=true:=Y85
 rw [hT,if_pos rfl] at hs
 subst hs
 refine rg [3,4,19] (k:=rc (ht:=fun hc1=>?_) (hf:=fun hc1=>?_))
 ·cases hc1
 have hc:=hc1
 refine rk (k:=rs (k:=?_))
 obtain ⟨y,ys,hye⟩:∃ y ys,q.bits=y::ys:=by cases hh:q.bits with | nil=>exact absurd hh hne | cons y ys=>exact ⟨y,ys,rfl⟩
 have hy0:(q.bits[0]?).getD false=y:=ziC
 have hyy:(q.bits.map PV.bool)[0]? =some (.bool y):=ziC
 have hyl:(0<q.bits.length)=True:=by rw [hye];simp
 have H:=aj hyy (aj hyl H)
 refine Run.drawC [10] [4] Tryz.mixed Y22 ?_
 refine zj.pre (pre:=[_,_,_,_,_,_,_,_,_,_]) au ?_
 refine zj.eff Y19 au au ?_
 refine zj.nil ?_
 refine re (k:=rR (k:=?_))
 refine jO 1 ?_;rotate_left
 any_goals
  refine jI 1 ?_
  first
   |(have hT:zz D.c0.length q.at_ q.bits.length=false:=by simpa using hc0
     have hB:zF D q=(yz q,D):=by
      unfold zF;rw [if_neg Y18,if_neg Y18,if_neg Y18,if_neg Y18,if_pos Y18,hT,if_neg Bool.false_ne_true]
     refine Ret.dev D hA (r':=(yz q:Rep).pv) zna ?_ (zS _ _) hwf Y45 ⟨Y97,Y97⟩
     rfl)
   |(have hT:zz D.c0.length q.at_ q.bits.length=true:=by simpa using hc0
     have hB:zF D q=(⟨q.fn,0,q.at_,0,0,[(q.bits[0]?).getD false],[],0,0,[]⟩,{ D with c0:=yi D.c0 q.at_.toNat q.bits }):=by
      unfold zF;rw [if_neg Y18,if_neg Y18,if_neg Y18,if_neg Y18,if_pos Y18,hT,if_pos rfl,if_neg Y18]
     refine Ret.dev { D with c0:=yi D.c0 q.at_.toNat q.bits } hA (r':=(⟨q.fn,0,q.at_,0,0,[(q.bits[0]?).getD false],[],0,0,[]⟩:Rep).pv) zna ?_ (zS _ _) hwf (fun i hi=>by
   have h0:=ltn hi;have h1:=lte hi
   rw [zY]
   simp only [go_sem,Nat.add_assoc,Nat.reduceAdd,↓reduceIte,h0,h1]
   (repeat' split)<;>first | rfl |(rename_i e;rw [e];first | exact hA.dv | exact hA.v1 | exact hA.v0 | exact hA.c1 | exact hA.c0) |(exfalso;omega)) ⟨Y97,Y97⟩
     simp only [Rep.pv,PV.weak,PV.weaks,zA,zf,zB,hy0];rfl)
attribute [local go_sem] zf Req.pv Rep.pv
theorem Y47 {p:Prop} (h:p:=by
 exact
                                                                                                          (fun i hi=>by
  have h0:=ltn hi;have h1:=lte hi
  rw [zY]
  simp only [go_sem,Nat.add_assoc,Nat.reduceAdd,↓reduceIte,h0,h1]
  (repeat' split)<;>first | rfl |(rename_i e;rw [e];first | exact hA.dv | exact hA.v1 | exact hA.v0 | exact hA.c1 | exact hA.c0) |(exfalso;omega))):p:=h
set_option maxRecDepth 100000 in
theorem zgm {b:Nat} {D:Dev} {s:St} (hA:zK b D s) (hD:D.ok) {q:Req} (hq:q.ok) (hr:zD q=0) (hc:yu q=true) (hf:q.fn=15):za Tryz.prog 164 [.ptr (b+5) 0 0,q.pv] s (fun r s'=>r=(zF D q).1.pv∧s'=putDev b (zF D q).2 s):=by
 refine go Tryz.func164 (k:=fun hwf H=>?_)
 have hdv:=hA.dv
 unfold xA at hdv
 have hlt:=hA.lt hwf
 have hA1:∀ x y,zK b D ((s.new x).new y):=fun x y=>(hA.nw hlt x).nw Y96 y
 have hd1:=hD.h1
 have hd2:=hD.h2
 have hd3:=hD.c1
 have hd4:=hD.v0
 have hd5:=hD.v1
 have H:=aj hdv H
 have hfT:decide (q.fn=15)=true:=by rw [hf];rfl
 have hne:=ziu hr hc Y18
 have H:=aj hfT H
 refine rs (k:=rg [0,3,4] (k:=rs (k:=rs (k:=?_))))
 refine Run.drawCut 8 [] Tryz.mixed Y22 Y22 ?_
 refine zj.all au ?_
 refine zm.callw au au au Y22 ((zbi (hA1 _ _).st (hA1 _ _).c0 Y18 hd2 hq.at_ hne Y18).mono ?_)
 rintro r s1 ⟨rfl,hs⟩
 refine rh [3,4,14] (k:=rc (ht:=fun hc0=>?_) (hf:=fun hc0=>?_))
 have hc:=hc0
 refine rs (k:=?_)
 have hT:zz D.c0.length q.at_ q.bits.length=false:=Y85
 rw [hT,if_neg Bool.false_ne_true] at hs
 subst hs
 refine rr (k:=ro (pre:=[_]) (k:=rC (h:=xd hq) (k:=rh [4] (k:=rR (k:=?_)))))
 refine jO 1 ?_;rotate_left
 have hc:=hc0
 refine rk (k:=rs (k:=rs (k:=?_)))
 have hT:zz D.c0.length q.at_ q.bits.length=true:=Y85
 rw [hT,if_pos rfl] at hs
 subst hs
 refine rg [3,4,19] (k:=rc (ht:=fun hc1=>?_) (hf:=fun hc1=>?_))
 have hc:=hc1
 refine rs (k:=rg [4] (k:=rR (k:=?_)))
 refine jO 1 ?_;rotate_left
 ·cases hc1
 any_goals
  refine jI 1 ?_
  first
   |(have hT:zz D.c0.length q.at_ q.bits.length=false:=by simpa using hc0
     have hB:zF D q=(yz q,D):=by
      unfold zF;rw [if_neg Y18,if_neg Y18,if_neg Y18,if_neg Y18,if_pos Y18,hT,if_neg Bool.false_ne_true]
     refine Ret.dev D hA (r':=(yz q:Rep).pv) zna ?_ (zS _ _) hwf Y45 ⟨Y97,Y97⟩
     rfl)
   |(have hT:zz D.c0.length q.at_ q.bits.length=true:=by simpa using hc0
     have hB:zF D q=(⟨q.fn,0,q.at_,q.count,0,[],[],0,0,[]⟩,{ D with c0:=yi D.c0 q.at_.toNat q.bits }):=by
      unfold zF;rw [if_neg Y18,if_neg Y18,if_neg Y18,if_neg Y18,if_pos Y18,hT,if_pos rfl,if_pos hf]
     refine Ret.dev { D with c0:=yi D.c0 q.at_.toNat q.bits } hA (r':=(⟨q.fn,0,q.at_,q.count,0,[],[],0,0,[]⟩:Rep).pv) zna ?_ (zS _ _) hwf Y47 ⟨Y97,Y97⟩
     simp only [Rep.pv,PV.weak,PV.weaks,zA,zf,zB];rfl)
attribute [local go_sem] zf Req.pv Rep.pv
theorem zmP {p:Prop} (h:p:=by simp only [Tryz.f165,go_sem,↓reduceIte]<;>rfl):p:=h
theorem zp1 {p:Prop} (h:p:=by cases hh:q.vals with | nil=>exact absurd hh hne | cons y ys=>exact ⟨y,ys,rfl⟩):p:=h
set_option maxRecDepth 100000 in
theorem zgK {b:Nat} {D:Dev} {s:St} (hA:zK b D s) (hD:D.ok) {q:Req} (hq:q.ok) (hr:zD q=0) (hc:yu q=true) (hf:q.fn=6):za Tryz.prog 165 [.ptr (b+5) 0 0,q.pv] s (fun r s'=>r=(zF D q).1.pv∧s'=putDev b (zF D q).2 s):=by
 refine go Tryz.func165 (k:=fun hwf H=>?_)
 have hdv:=hA.dv
 unfold xA at hdv
 have hlt:=hA.lt hwf
 have hA1:∀ x y,zK b D ((s.new x).new y):=fun x y=>(hA.nw hlt x).nw Y96 y
 have hd1:=hD.h1
 have hd2:=hD.h2
 have hd3:=hD.c1
 have hd4:=hD.v0
 have hd5:=hD.v1
 have H:=aj hdv H
 have hfT:decide (q.fn=16)=false:=by rw [hf];rfl
 have hne:=zax hr hc Y18
 have H:=aj hfT H
 refine rs (k:=rg [0,3,4] (k:=rs (k:=rs (k:=?_))))
 refine Run.drawCut 8 [] Tryz.mixed Y22 Y22 ?_
 refine zj.all au ?_
 refine zm.callw au au au Y22 ((YO (hA1 _ _).st (hA1 _ _).v1 Y18 hd2 hq.at_ hne Y18).mono ?_)
 rintro r s1 ⟨rfl,hs⟩
 refine rh [3,4,14] (k:=rc (ht:=fun hc0=>?_) (hf:=fun hc0=>?_))
 have hc:=hc0
 refine rs (k:=?_)
 have hT:zz D.c0.length q.at_ q.vals.length=false:=Y85
 rw [hT,if_neg Bool.false_ne_true] at hs
 subst hs
 refine rr (k:=ro (pre:=[_]) (k:=rC (h:=xd hq) (k:=rh [4] (k:=rR (k:=?_)))))
 refine jO 1 ?_;rotate_left
 have hc:=hc0
 refine rk (k:=rs (k:=rs (k:=?_)))
 have hT:zz D.c0.length q.at_ q.vals.length=true:=Y85
 rw [hT,if_pos rfl] at hs
 subst hs
 refine rg [3,4,19] (k:=rc (ht:=fun hc1=>?_) (hf:=fun hc1=>?_))
 ·cases hc1
 have hc:=hc1
 refine rk (k:=rs (k:=?_))
 obtain ⟨y,ys,hye⟩:∃ y ys,q.vals=y::ys:=zp1
 have hy0:(q.vals[0]?).getD 0=y:=ziC
 have hyy:(q.vals.map (PV.int .u16))[0]? =some (.int .u16 y):=ziC
 have hyl:(0<q.vals.length)=True:=by rw [hye];simp
 have H:=aj hyy (aj hyl H)
 refine Run.drawC [10] [4] Tryz.mixed Y22 ?_
 refine zj.pre (pre:=[_,_,_,_,_,_,_,_,_,_]) au ?_
 refine zj.eff Y19 au au ?_
 refine zj.nil ?_
 refine re (k:=rR (k:=?_))
 refine jO 1 ?_;rotate_left
 any_goals
  refine jI 1 ?_
  first
   |(have hT:zz D.c0.length q.at_ q.vals.length=false:=by simpa using hc0
     have hB:zF D q=(yz q,D):=by
      unfold zF;rw [if_neg Y18,if_neg Y18,if_neg Y18,if_neg Y18,if_neg Y18,if_pos Y18,hT,if_neg Bool.false_ne_true]
     refine Ret.dev D hA (r':=(yz q:Rep).pv) zmP ?_ (zS _ _) hwf Y45 ⟨Y97,Y97⟩
     rfl)
   |(have hT:zz D.c0.length q.at_ q.vals.length=true:=by simpa using hc0
     have hB:zF D q=(⟨q.fn,0,q.at_,0,0,[],[(q.vals[0]?).getD 0],0,0,[]⟩,{ D with v1:=yi D.v1 q.at_.toNat q.vals }):=by
      unfold zF;rw [if_neg Y18,if_neg Y18,if_neg Y18,if_neg Y18,if_neg Y18,if_pos Y18,hT,if_pos rfl,if_neg Y18]
     refine Ret.dev { D with v1:=yi D.v1 q.at_.toNat q.vals } hA (r':=(⟨q.fn,0,q.at_,0,0,[],[(q.vals[0]?).getD 0],0,0,[]⟩:Rep).pv) zmP ?_ (zS _ _) hwf (fun i hi=>by
   have h0:=ltn hi;have h1:=lte hi
   rw [zY]
   simp only [go_sem,Nat.add_assoc,Nat.reduceAdd,↓reduceIte,h0,h1]
   (repeat' split)<;>first | rfl |(rename_i e;rw [e];first | exact hA.dv | exact hA.v1 | exact hA.v0 | exact hA.c1 | exact hA.c0) |(exfalso;omega)) ⟨Y97,Y97⟩
     simp only [Rep.pv,PV.weak,PV.weaks,zA,zf,zB,hy0];rfl)
attribute [local go_sem] zf Req.pv Rep.pv
set_option maxRecDepth 100000 in
theorem zgk {b:Nat} {D:Dev} {s:St} (hA:zK b D s) (hD:D.ok) {q:Req} (hq:q.ok) (hr:zD q=0) (hc:yu q=true) (hf:q.fn=16):za Tryz.prog 165 [.ptr (b+5) 0 0,q.pv] s (fun r s'=>r=(zF D q).1.pv∧s'=putDev b (zF D q).2 s):=by
 refine go Tryz.func165 (k:=fun hwf H=>?_)
 have hdv:=hA.dv
 unfold xA at hdv
 have hlt:=hA.lt hwf
 have hA1:∀ x y,zK b D ((s.new x).new y):=fun x y=>(hA.nw hlt x).nw Y96 y
 have hd1:=hD.h1
 have hd2:=hD.h2
 have hd3:=hD.c1
 have hd4:=hD.v0
 have hd5:=hD.v1
 have H:=aj hdv H
 have hfT:decide (q.fn=16)=true:=by rw [hf];rfl
 have hne:=zax hr hc Y18
 have H:=aj hfT H
 refine rs (k:=rg [0,3,4] (k:=rs (k:=rs (k:=?_))))
 refine Run.drawCut 8 [] Tryz.mixed Y22 Y22 ?_
 refine zj.all au ?_
 refine zm.callw au au au Y22 ((YO (hA1 _ _).st (hA1 _ _).v1 Y18 hd2 hq.at_ hne Y18).mono ?_)
 rintro r s1 ⟨rfl,hs⟩
 refine rh [3,4,14] (k:=rc (ht:=fun hc0=>?_) (hf:=fun hc0=>?_))
 have hc:=hc0
 refine rs (k:=?_)
 have hT:zz D.c0.length q.at_ q.vals.length=false:=Y85
 rw [hT,if_neg Bool.false_ne_true] at hs
 subst hs
 refine rr (k:=ro (pre:=[_]) (k:=rC (h:=xd hq) (k:=rh [4] (k:=rR (k:=?_)))))
 refine jO 1 ?_;rotate_left
 have hc:=hc0
 refine rk (k:=rs (k:=rs (k:=?_)))
 have hT:zz D.c0.length q.at_ q.vals.length=true:=Y85
 rw [hT,if_pos rfl] at hs
 subst hs
 refine rg [3,4,19] (k:=rc (ht:=fun hc1=>?_) (hf:=fun hc1=>?_))
 have hc:=hc1
 refine rs (k:=rg [4] (k:=rR (k:=?_)))
 refine jO 1 ?_;rotate_left
 ·cases hc1
 any_goals
  refine jI 1 ?_
  first
   |(have hT:zz D.c0.length q.at_ q.vals.length=false:=by simpa using hc0
     have hB:zF D q=(yz q,D):=by
      unfold zF;rw [if_neg Y18,if_neg Y18,if_neg Y18,if_neg Y18,if_neg Y18,if_pos Y18,hT,if_neg Bool.false_ne_true]
     refine Ret.dev D hA (r':=(yz q:Rep).pv) zmP ?_ (zS _ _) hwf Y45 ⟨Y97,Y97⟩
     rfl)
   |(have hT:zz D.c0.length q.at_ q.vals.length=true:=by simpa using hc0
     have hB:zF D q=(⟨q.fn,0,q.at_,q.count,0,[],[],0,0,[]⟩,{ D with v1:=yi D.v1 q.at_.toNat q.vals }):=by
      unfold zF;rw [if_neg Y18,if_neg Y18,if_neg Y18,if_neg Y18,if_neg Y18,if_pos Y18,hT,if_pos rfl,if_pos hf]
     refine Ret.dev { D with v1:=yi D.v1 q.at_.toNat q.vals } hA (r':=(⟨q.fn,0,q.at_,q.count,0,[],[],0,0,[]⟩:Rep).pv) zmP ?_ (zS _ _) hwf Y47 ⟨Y97,Y97⟩
     simp only [Rep.pv,PV.weak,PV.weaks,zA,zf,zB];rfl)
end Go.Proofs
namespace Go.Proofs
open Go.PM
set_option maxHeartbeats 2000000
attribute [local go_sem] zf Req.pv Rep.pv
set_option maxRecDepth 100000 in
theorem zeq {b:Nat} {D:Dev} {s:St} (hA:zK b D s) (hD:D.ok) {q:Req} (hq:q.ok) (hr:zD q=0) (hc:yu q=true) (hf:q.fn=17):za Tryz.prog 167 [.ptr (b+5) 0 0,q.pv] s (fun r s'=>r=(zF D q).1.pv∧s'=putDev b (zF D q).2 s):=by
 refine go Tryz.func167 (k:=fun hwf H=>?_)
 have hdv:=hA.dv
 unfold xA at hdv
 have hlt:=hA.lt hwf
 have hA1:∀ x y,zK b D ((s.new x).new y):=fun x y=>(hA.nw hlt x).nw Y96 y
 have hd1:=hD.h1
 have hd2:=hD.h2
 have hd3:=hD.c1
 have hd4:=hD.v0
 have hd5:=hD.v1
 have H:=aj hdv H
 refine rs (k:=rg [0,3,4] (k:=rs (k:=?_)))
 refine Run.drawC [8] [4] Tryz.mixed Y22 ?_
 refine zj.pre (pre:=[_,_,_,_,_,_,_,_]) au ?_
 refine zj.eff Y19 au au ?_
 refine zj.nil ?_
 refine re (k:=rR (k:=?_))
 first
  |(have hB:zF D q=(⟨q.fn,0,0,0,0,[],[],0,0,[D.unit,255]⟩,D):=by
     unfold zF;rw [if_neg Y18,if_neg Y18,if_neg Y18,if_neg Y18,if_neg Y18,if_neg Y18,if_neg Y18,if_pos Y18]
    refine Ret.dev D hA (r':=(⟨q.fn,0,0,0,0,[],[],0,0,[D.unit,255]⟩:Rep).pv) (by simp only [Tryz.f167,go_sem,↓reduceIte]<;>rfl) ?_ (zS _ _) hwf (fun i hi=>by
  have h0:=ltn hi;have h1:=lte hi
  rw [zY]
  simp only [go_sem,Nat.add_assoc,Nat.reduceAdd,↓reduceIte,h0,h1]
  (repeat' split)<;>first | rfl |(rename_i e;rw [e];first | exact hA.dv | exact hA.v1 | exact hA.v0 | exact hA.c1 | exact hA.c0) |(exfalso;omega)) ⟨Y97,Y97⟩
    simp only [Rep.pv,PV.weak,PV.weaks,zA,zf,zB];rfl)
attribute [local go_sem] ye zf Req.pv Rep.pv
theorem Y99 {p:Prop} (h:p:=by simp only [Tryz.f166,go_sem,↓reduceIte]<;>rfl):p:=h
theorem zpz {p:Prop} (h:p:=by
 exact
                                                                    (fun i hi=>by
  have h0:=ltn hi;have h1:=lte hi
  rw [zY]
  simp only [go_sem,Nat.add_assoc,Nat.reduceAdd,↓reduceIte,h0,h1]
  (repeat' split)<;>first | rfl |(rename_i e;rw [e];first | exact hA.dv | exact hA.v1 | exact hA.v0 | exact hA.c1 | exact hA.c0) |(exfalso;omega))):p:=h
set_option maxRecDepth 100000 in
theorem zfm {b:Nat} {D:Dev} {s:St} (hA:zK b D s) (hD:D.ok) {q:Req} (hq:q.ok) (hr:zD q=0) (hc:yu q=true) (hf:q.fn=8):za Tryz.prog 166 [.ptr (b+5) 0 0,q.pv] s (fun r s'=>r=(zF D q).1.pv∧s'=putDev b (zF D q).2 s):=by
 refine go Tryz.func166 (k:=fun hwf H=>?_)
 have hdv:=hA.dv
 unfold xA at hdv
 have hlt:=hA.lt hwf
 have hA1:∀ x y,zK b D ((s.new x).new y):=fun x y=>(hA.nw hlt x).nw Y96 y
 have hd1:=hD.h1
 have hd2:=hD.h2
 have hd3:=hD.c1
 have hd4:=hD.v0
 have hd5:=hD.v1
 have H:=aj hdv H
 have hne:=zax hr hc Y18
 obtain ⟨y,ys,hye⟩:∃ y ys,q.vals=y::ys:=zp1
 have hy0:(q.vals[0]?).getD 0=y:=ziC
 have hyy:(q.vals.map (PV.int .u16))[0]? =some (.int .u16 y):=ziC
 have hyl:(0<q.vals.length)=True:=by rw [hye];simp
 have H:=aj hyy (aj hyl H)
 have h3:I64 3:=Y20
 refine rs (k:=rg [0,3,4] (k:=rs (k:=rg [0,3,4,5] (k:=rs (k:=rs (k:=rg [0,3,4,5,11] (k:=rb (k:=rs (k:=rg [0,3,4,5,11,15] (k:=rc (ht:=fun hc0=>?_) (hf:=fun hc0=>?_)))))))))))
 have hc:=hc0
 refine jO 1 ?_;rotate_left
 have hc:=hc0
 refine rs (k:=rg [0,3,4,5,11,17] (k:=rc (ht:=fun hc1=>?_) (hf:=fun hc1=>?_)))
 have hc:=hc1
 refine jO 2 ?_;rotate_left
 have hc:=hc1
 refine rs (k:=rs (k:=rg [0,3,4,5,11,25] (k:=rc (ht:=fun hc2=>?_) (hf:=fun hc2=>?_))))
 have hc:=hc2
 refine rk (k:=rc (ht:=fun hc4=>?_) (hf:=fun hc4=>?_))
 refine jO 3 ?_;rotate_left
 ·exact znl
 have hc:=hc2
 refine rs (k:=rg [0,3,4,5,11,25] (k:=rc (ht:=fun hc3=>?_) (hf:=fun hc3=>?_)))
 have hc:=hc3
 refine rk (k:=rc (ht:=fun hc4=>?_) (hf:=fun hc4=>?_))
 refine jO 3 ?_;rotate_left
 ·exact zmT
 have hc:=hc3
 refine rg [0,3,4,5,25] (k:=rc (ht:=fun hc4=>?_) (hf:=fun hc4=>?_))
 refine jO 3 ?_;rotate_left
 have hc:=hc4
 refine jO 4 ?_;rotate_left
 any_goals
  refine jI 3 ?_
  have hc:=hc4
  refine jO 5 ?_;rotate_left
 any_goals
  refine jI 5 ?_
  refine rs (k:=rs (k:=rg [0,3,4,30] (k:=rc (ht:=fun hc5=>?_) (hf:=fun hc5=>?_))))
  refine jO 6 ?_;rotate_left
  refine jO 7 ?_;rotate_left
 any_goals
  refine jI 7 ?_
  have hc:=hc5
  refine jO 8 ?_;rotate_left
 any_goals
  refine jI 8 ?_
  refine rk (k:=rs (k:=rg [0,3,4,5] (k:=rs (k:=rg [0,3,4,5,41] (k:=rc (ht:=fun hc6=>?_) (hf:=fun hc6=>?_))))))
  refine jO 9 ?_;rotate_left
  refine jO 10 ?_;rotate_left
 any_goals
  refine jI 6 ?_
  have hc:=hc5
  refine jO 4 ?_;rotate_left
 any_goals
  refine jI 4 ?_
  refine rs (k:=rr (k:=ro (pre:=[_,_]) (k:=rC (h:=yf (fn:=q.fn) (code:=3) hq.fn h3) (k:=rh [4] (k:=rR (k:=?_))))))
  refine jO 11 ?_;rotate_left
 any_goals
  refine jI 9 ?_
  have hc:=hc6
  refine jO 2 ?_;rotate_left
 any_goals
  refine jI 10 ?_
  have hc:=hc6
  refine jO 1 ?_;rotate_left
 any_goals
  refine jI 2 ?_
  refine rg [3,4,5] (k:=rB (k:=rs (k:=rr (k:=ro (pre:=[_,_,_,_,_]) (k:=rO (k:=rh [4] (k:=rR (k:=?_))))))))
  refine jO 11 ?_;rotate_left
 any_goals
  refine jI 1 ?_
  refine rk (k:=rB (k:=rs (k:=rr (k:=ro (pre:=[_,_,_,_,_]) (k:=rO (k:=rh [4] (k:=rR (k:=?_))))))))
  refine jO 11 ?_;rotate_left
 any_goals
  refine jI 11 ?_
  simp only [decide_eq_true_eq,decide_eq_false_iff_not,Bool.not_eq_true',Bool.not_eq_false'] at *
  refine jO 12 ?_;rotate_left
 any_goals
  refine jI 12 ?_
  first
   |(have hB:zF D q=(⟨q.fn,0,0,0,q.sub,[],[y],0,0,[]⟩,D):=by
      unfold zF;rw [if_neg Y18,if_neg Y18,if_neg Y18,if_neg Y18,if_neg Y18,if_neg Y18,if_pos Y18]
      unfold WD
      simp only [hy0]
      rw [if_pos Y18]
     refine Ret.dev D hA (r':=(⟨q.fn,0,0,0,q.sub,[],[y],0,0,[]⟩:Rep).pv) Y99 ?_ (zS _ _) hwf (fun i hi=>by
   have h0:=ltn hi;have h1:=lte hi
   rw [zY]
   simp only [go_sem,Nat.add_assoc,Nat.reduceAdd,↓reduceIte,h0,h1]
   (repeat' split)<;>first | rfl |(rename_i e;rw [e];first | exact hA.dv | exact hA.v1 | exact hA.v0 | exact hA.c1 | exact hA.c0) |(exfalso;omega)) ⟨Y97,Y97⟩
     simp only [Rep.pv,PV.weak,PV.weaks,zA,zf,zB];rfl)
   |(have hB:zF D q=(⟨q.fn,0,0,0,q.sub,[],[y],0,0,[]⟩,{ D with msgs:=0,exc:=0 }):=by
      unfold zF;rw [if_neg Y18,if_neg Y18,if_neg Y18,if_neg Y18,if_neg Y18,if_neg Y18,if_pos Y18]
      unfold WD
      simp only [hy0]
      rw [if_neg Y18,if_pos Y18]
     refine Ret.dev { D with msgs:=0,exc:=0 } hA (r':=(⟨q.fn,0,0,0,q.sub,[],[y],0,0,[]⟩:Rep).pv) Y99 ?_ (zS _ _) hwf (fun i hi=>by
   have h0:=ltn hi;have h1:=lte hi
   rw [zY]
   simp only [go_sem,Nat.add_assoc,Nat.reduceAdd,↓reduceIte,h0,h1]
   (repeat' split)<;>first | rfl |(rename_i e;rw [e];first | exact hA.dv | exact hA.v1 | exact hA.v0 | exact hA.c1 | exact hA.c0) |(exfalso;omega)) ⟨Y97,Y97⟩
     simp only [Rep.pv,PV.weak,PV.weaks,zA,zf,zB];rfl)
   |(have hB:zF D q=(zE q.fn 3,D):=by
      unfold zF;rw [if_neg Y18,if_neg Y18,if_neg Y18,if_neg Y18,if_neg Y18,if_neg Y18,if_pos Y18]
      unfold WD
      simp only [hy0]
      rw [if_neg Y18,if_neg Y18,if_pos Y18,if_pos Y18]
     refine Ret.dev D hA (r':=(zE q.fn 3:Rep).pv) Y99 ?_ (zS _ _) hwf zpz ⟨Y97,Y97⟩
     rfl)
   |(have hB:zF D q=(⟨q.fn,0,0,0,q.sub,[],[IntKind.u16.wrap D.exc],0,0,[]⟩,D):=by
      unfold zF;rw [if_neg Y18,if_neg Y18,if_neg Y18,if_neg Y18,if_neg Y18,if_neg Y18,if_pos Y18]
      unfold WD
      simp only [hy0]
      rw [if_neg Y18,if_neg Y18,if_pos Y18,if_neg Y18,if_pos Y18]
     refine Ret.dev D hA (r':=(⟨q.fn,0,0,0,q.sub,[],[IntKind.u16.wrap D.exc],0,0,[]⟩:Rep).pv) Y99 ?_ (zS _ _) hwf (fun i hi=>by
   have h0:=ltn hi;have h1:=lte hi
   rw [zY]
   simp only [go_sem,Nat.add_assoc,Nat.reduceAdd,↓reduceIte,h0,h1]
   (repeat' split)<;>first | rfl |(rename_i e;rw [e];first | exact hA.dv | exact hA.v1 | exact hA.v0 | exact hA.c1 | exact hA.c0) |(exfalso;omega)) ⟨Y97,Y97⟩
     simp only [Rep.pv,PV.weak,PV.weaks,zA,zf,zB];rfl)
   |(have hB:zF D q=(⟨q.fn,0,0,0,q.sub,[],[IntKind.u16.wrap D.msgs],0,0,[]⟩,D):=by
      unfold zF;rw [if_neg Y18,if_neg Y18,if_neg Y18,if_neg Y18,if_neg Y18,if_neg Y18,if_pos Y18]
      unfold WD
      simp only [hy0]
      rw [if_neg Y18,if_neg Y18,if_pos Y18,if_neg Y18,if_neg Y18]
     refine Ret.dev D hA (r':=(⟨q.fn,0,0,0,q.sub,[],[IntKind.u16.wrap D.msgs],0,0,[]⟩:Rep).pv) Y99 ?_ (zS _ _) hwf (fun i hi=>by
   have h0:=ltn hi;have h1:=lte hi
   rw [zY]
   simp only [go_sem,Nat.add_assoc,Nat.reduceAdd,↓reduceIte,h0,h1]
   (repeat' split)<;>first | rfl |(rename_i e;rw [e];first | exact hA.dv | exact hA.v1 | exact hA.v0 | exact hA.c1 | exact hA.c0) |(exfalso;omega)) ⟨Y97,Y97⟩
     simp only [Rep.pv,PV.weak,PV.weaks,zA,zf,zB];rfl)
   |(have hB:zF D q=(zE q.fn 3,D):=by
      unfold zF;rw [if_neg Y18,if_neg Y18,if_neg Y18,if_neg Y18,if_neg Y18,if_neg Y18,if_pos Y18]
      unfold WD
      simp only [hy0]
      rw [if_neg Y18,if_neg Y18,if_neg Y18]
     refine Ret.dev D hA (r':=(zE q.fn 3:Rep).pv) Y99 ?_ (zS _ _) hwf zpz ⟨Y97,Y97⟩
     rfl)
attribute [local go_sem] zf Req.pv Rep.pv
set_option maxRecDepth 100000 in
theorem zgd {b:Nat} {D:Dev} {s:St} (hA:zK b D s) (hD:D.ok) {q:Req} (hq:q.ok) (hr:zD q=0) (hc:yu q=true) (hf:q.fn=22):za Tryz.prog 168 [.ptr (b+5) 0 0,q.pv] s (fun r s'=>r=(zF D q).1.pv∧s'=putDev b (zF D q).2 s):=by
 refine go Tryz.func168 (k:=fun hwf H=>?_)
 have hdv:=hA.dv
 unfold xA at hdv
 have hlt:=hA.lt hwf
 have hA1:∀ x y,zK b D ((s.new x).new y):=fun x y=>(hA.nw hlt x).nw Y96 y
 have hd1:=hD.h1
 have hd2:=hD.h2
 have hd3:=hD.c1
 have hd4:=hD.v0
 have hd5:=hD.v1
 have H:=aj hdv H
 refine rs (k:=rg [0,3,4] (k:=rs (k:=?_)))
 refine Run.drawC [] [0,3,4,5,6] Tryz.mixed Y22 ?_
 refine zj.pre (pre:=[_,_,_,_,_,_]) au ?_
 refine zj.call au au au Y22 (Zn (hA1 _ _).st (hA1 _ _).v1 Y18 hd2 hq.at_ Y19) ?_
 refine zj.all au ?_
 refine re (k:=rs (k:=rs (k:=rg [0,3,4,5,18] (k:=rc (ht:=fun hc0=>?_) (hf:=fun hc0=>?_)))))
 have hc:=hc0
 refine rs (k:=rr (k:=ro (pre:=[_]) (k:=rC (h:=xd hq) (k:=rh [4] (k:=rR (k:=?_))))))
 refine jO 1 ?_;rotate_left
 have hc:=hc0
 refine rk (k:=rs (k:=?_))
 have hT:zz D.c0.length q.at_ 1=true:=Y85
 have htt:=hT
 unfold zz at htt
 have htt:=of_decide_eq_true htt
 have hat:q.at_.toNat<D.v1.length:=Y18
 have hcut:cutF D.v1 q.at_ 1=[(D.v1[q.at_.toNat]?).getD 0]:=by
  unfold cutF
  rw [show zz D.v1.length q.at_ 1=true by rw [hd5];exact hT,if_pos rfl]
  show (D.v1.drop q.at_.toNat).take 1=_
  rw [List.drop_eq_getElem_cons hat,List.getElem?_eq_getElem hat]
  rfl
 have hm0:((cutF D.v1 q.at_ 1).map (PV.int .u16))[0]? =some (.int .u16 ((D.v1[q.at_.toNat]?).getD 0)):=by rw [hcut];rfl
 have hml:(0<(cutF D.v1 q.at_ 1).length)=True:=by rw [hcut];simp
 have hmf:zR .or .u16 (zR .and .u16 ((D.v1[q.at_.toNat]?).getD 0) q.and_) (zR .andNot .u16 q.or_ q.and_)=Xj ((D.v1[q.at_.toNat]?).getD 0) q:=rfl
 have H:=aj hm0 (aj hml (aj hmf H))
 refine Run.drawCut 19 [] Tryz.mixed Y22 Y22 ?_
 refine zj.all au ?_
 refine zm.callw au au au Y22 ((YO (hA1 _ _).st (hA1 _ _).v1 (x:=[Xj ((D.v1[q.at_.toNat]?).getD 0) q]) Y18 hd2 hq.at_ Y71 Y18).mono ?_)
 rintro r s1 ⟨rfl,hs⟩
 rw [show (([Xj ((D.v1[q.at_.toNat]?).getD 0) q]:List Int).length:Int)=1 from rfl,hT,if_pos rfl] at hs
 subst hs
 refine rl [3,4] (k:=rs (k:=rg [4] (k:=rR (k:=?_))))
 refine jO 1 ?_;rotate_left
 any_goals
  refine jI 1 ?_
  first
   |(have hT:zz D.c0.length q.at_ 1=false:=by simpa using hc0
     have hB:zF D q=(yz q,D):=by
      unfold zF;rw [if_neg Y18,if_neg Y18,if_neg Y18,if_neg Y18,if_neg Y18,if_neg Y18,if_neg Y18,if_neg Y18,if_pos Y18,hT,if_neg Bool.false_ne_true]
     refine Ret.dev D hA (r':=(yz q:Rep).pv) (by simp only [Tryz.f168,go_sem,↓reduceIte]<;>rfl) ?_ (zS _ _) hwf Y45 ⟨Y97,Y97⟩
     rfl)
   |(have hB:zF D q=(⟨q.fn,0,q.at_,0,0,[],[],q.and_,q.or_,[]⟩,{ D with v1:=yi D.v1 q.at_.toNat [Xj ((D.v1[q.at_.toNat]?).getD 0) q] }):=by
      unfold zF;rw [if_neg Y18,if_neg Y18,if_neg Y18,if_neg Y18,if_neg Y18,if_neg Y18,if_neg Y18,if_neg Y18,if_pos Y18,hT,if_pos rfl]
     refine Ret.dev { D with v1:=yi D.v1 q.at_.toNat [Xj ((D.v1[q.at_.toNat]?).getD 0) q] } hA (r':=(⟨q.fn,0,q.at_,0,0,[],[],q.and_,q.or_,[]⟩:Rep).pv) (by simp only [Tryz.f168,go_sem,↓reduceIte]<;>rfl) ?_ (zS _ _) hwf (fun i hi=>by
   have h0:=ltn hi;have h1:=lte hi
   rw [zY]
   simp only [go_sem,Nat.add_assoc,Nat.reduceAdd,↓reduceIte,h0,h1]
   (repeat' split)<;>first | rfl |(rename_i e;rw [e];first | exact hA.dv | exact hA.v1 | exact hA.v0 | exact hA.c1 | exact hA.c0) |(exfalso;omega)) ⟨Y97,Y97⟩
     simp only [Rep.pv,PV.weak,PV.weaks,zA,zf,zB];rfl)
end Go.Proofs
namespace Go.Proofs
open Go.PM
set_option maxHeartbeats 2000000
attribute [local go_sem] zf Req.pv Rep.pv
theorem zgo {b:Nat} {D:Dev} {s:St} (hA:zK b D s) (hd2:D.c0.length≤65536) (hd5:D.v1.length=D.c0.length) {q:Req} (hq:q.ok) (hcn:1≤q.count) (hf:q.fn=23):za Tryz.prog 163 [.ptr (b+5) 0 0,q.pv] s (fun r s'=>r=(if zz D.c0.length q.at_ q.count=true then ⟨q.fn,0,0,0,0,[],cutF D.v1 q.at_ q.count,0,0,[]⟩ else yz q:Rep).pv∧s'=s):=by
 refine go Tryz.func163 (k:=fun hwf H=>?_)
 have hdv:=hA.dv
 unfold xA at hdv
 have hlt:=hA.lt hwf
 have hA1:∀ x y,zK b D ((s.new x).new y):=fun x y=>(hA.nw hlt x).nw Y96 y
 have H:=aj hdv H
 have hsp:∀ s,za Tryz.prog 171 [.int .i64 q.fn] s (fun r s'=>r=.int .i64 3∧s'=s):=fun s=>by rw [hf];simpa using vY (fn:=23) (s:=s)
 refine rs (k:=rg [0,3,4] (k:=rs (k:=?_)))
 refine Run.drawC [] [3,4,5,6] Tryz.mixed Y22 ?_
 refine zj.pre (pre:=[_,_,_,_,_,_]) au ?_
 refine zj.call au au au Y22 (hsp _) ?_
 refine zj.pre (pre:=[_,_,_,_]) au ?_
 refine zj.call au au au Y22 (Zn (hA1 _ _).st (hA1 _ _).v1 Y18 hd2 hq.at_ hcn) ?_
 refine zj.all au ?_
 refine re (k:=rs (k:=rs (k:=rg [3,4,5,23] (k:=rc (ht:=fun hc0=>?_) (hf:=fun hc0=>?_)))))
 refine rs (k:=rr (k:=ro (pre:=[_]) (k:=rC (h:=xd hq) (k:=rh [4] (k:=rR (k:=?_))))))
 refine jO 1 ?_;rotate_left
 refine rk (k:=rs (k:=rg [4] (k:=rR (k:=?_))))
 refine jO 1 ?_;rotate_left
 any_goals
  refine jI 1 ?_
  first
   |(have hT:zz D.c0.length q.at_ q.count=false:=by simpa using hc0
     refine Ret.pure (r':=(yz q).pv) Y98 (by rfl) (zS _ _) hwf Y34 ⟨by rw [hT,if_neg Bool.false_ne_true],rfl⟩)
   |(have hT:zz D.c0.length q.at_ q.count=true:=by simpa using hc0
     refine Ret.pure (r':=(⟨q.fn,0,0,0,0,[],cutF D.v1 q.at_ q.count,0,0,[]⟩:Rep).pv) Y98 (by simp only [Rep.pv,PV.weak,PV.weaks,zA,zf,zB];rfl) (zS _ _) hwf Y34 ⟨by rw [hT,if_pos rfl],rfl⟩)
attribute [local go_sem] zf Req.pv Rep.pv
theorem znN {p:Prop} (h:p:=by simp only [Tryz.f169,go_sem,↓reduceIte]<;>rfl):p:=h
set_option maxRecDepth 100000 in
theorem ziI {b:Nat} {D:Dev} {s:St} (hA:zK b D s) (hD:D.ok) {q:Req} (hq:q.ok) (hr:zD q=0) (hc:yu q=true) (hf:q.fn=23):za Tryz.prog 169 [.ptr (b+5) 0 0,q.pv] s (fun r s'=>r=(zF D q).1.pv∧s'=putDev b (zF D q).2 s):=by
 refine go Tryz.func169 (k:=fun hwf H=>?_)
 have hdv:=hA.dv
 unfold xA at hdv
 have hlt:=hA.lt hwf
 have hA1:∀ x y,zK b D ((s.new x).new y):=fun x y=>(hA.nw hlt x).nw Y96 y
 have hd1:=hD.h1
 have hd2:=hD.h2
 have hd3:=hD.c1
 have hd4:=hD.v0
 have hd5:=hD.v1
 have H:=aj hdv H
 have hk2:=hd2
 have hk5:=hd5
 have hne:=zax hr hc Y18
 have hcn:=Zs hc Y18
 have hA2:∀ x y,zK b { D with v1:=yi D.v1 q.wat.toNat q.vals } (((s.new x).new y).set (b+4) (some (.row 39 ((yi D.v1 q.wat.toNat q.vals).map (PV.int .u16))))):=fun x y=>(hA1 x y).of (zd Y18) rfl (by rw [zd Y18];exact (hA1 x y).c0) (by rw [zd Y18];exact (hA1 x y).c1) (by rw [zd Y18];exact (hA1 x y).v0) (by rw [zy]) (by rw [zd Y18];exact (hA1 x y).dv)
 refine rs (k:=rg [0,3,4] (k:=rs (k:=?_)))
 refine Run.drawC [] [0,3,4,6] Tryz.mixed Y22 ?_
 refine zj.pre (pre:=[_,_,_,_,_,_,_,_]) au ?_
 refine zj.call au au au Y22 (Zn (hA1 _ _).st (hA1 _ _).v1 Y18 hk2 hq.at_ hcn) ?_
 refine zj.all au ?_
 refine re (k:=rs (k:=rs (k:=?_)))
 refine Run.drawCut 11 [] Tryz.mixed Y22 Y22 ?_
 refine zj.pre (pre:=[_,_,_]) au ?_
 rcases hd2:(!zz D.c0.length q.at_ q.count) with _ | _
 have H:=aj hd2 H
 refine zj.gdo au au ?_
 refine zj.gdo au au ?_
 refine zj.gdo au au ?_
 refine zj.gdo au au ?_
 refine zj.gdo au au ?_
 refine zj.gdo au au ?_
 refine zj.gdo au au ?_
 refine zj.gdo au au ?_
 refine zj.nil ?_
 refine zm.callw au au au Y22 ((YO (hA1 _ _).st (hA1 _ _).v1 (x:=q.vals) Y18 hk2 hq.wat hne Y18).mono ?_)
 rintro r s1 ⟨rfl,hs⟩
 refine rg1 (k:=rh [0,3,4,32] (k:=rc (ht:=fun hc0=>?_) (hf:=fun hc0=>?_)))
 refine jO 1 ?_;rotate_left
 have hc:=hc0
 refine rk (k:=rs (k:=?_))
 have hT2:zz D.c0.length q.wat q.vals.length=true:=Y85
 rw [hT2,if_pos rfl] at hs
 subst hs
 refine rr (k:=ro (pre:=[_,_]) (k:=rC (h:=zgo (hA2 _ _) hk2 (by show (yi D.v1 q.wat.toNat q.vals).length=_;rw [wT (by unfold zz at hT2;have:=of_decide_eq_true hT2;omega)];exact hk5) hq hcn hf) (k:=rh [4] (k:=rR (k:=?_)))))
 refine jO 2 ?_;rotate_left
 have H:=aj hd2 H
 refine zj.gskip' au ?_
 refine zj.gskip' au ?_
 refine zj.gskip' au ?_
 refine zj.gskip' au ?_
 refine zj.gskip' au ?_
 refine zj.gskip' au ?_
 refine zj.gskip' au ?_
 refine zj.gskip' au ?_
 refine zj.nil ?_
 refine rg0 (k:=rg0 (k:=rh [0,3,4,32] (k:=rc (ht:=fun hc0=>?_) (hf:=fun hc0=>?_))))
 refine jO 1 ?_;rotate_left
 ·cases hc0
 any_goals
  refine jI 1 ?_
  have hc:=hc0
  refine jO 3 ?_;rotate_left
 any_goals
  refine jI 3 ?_
  refine rs (k:=?_)
  refine jO 4 ?_;rotate_left
 any_goals
  refine jI 4 ?_
  first
   |(have hT2:zz D.c0.length q.wat q.vals.length=false:=by simpa using hc0
     rw [hT2,if_neg Bool.false_ne_true] at hs
     subst hs)
   | skip
  refine jO 5 ?_;rotate_left
 any_goals
  refine jI 5 ?_
  refine rr (k:=ro (pre:=[_]) (k:=rC (h:=xd hq) (k:=rh [4] (k:=rR (k:=?_)))))
  refine jO 2 ?_;rotate_left
 any_goals
  refine jI 2 ?_
  first
   |(have hT1:zz D.c0.length q.at_ q.count=false:=by simpa using hd2
     have hB:zF D q=(yz q,D):=by
      unfold zF;rw [if_neg Y18,if_neg Y18,if_neg Y18,if_neg Y18,if_neg Y18,if_neg Y18,if_neg Y18,if_neg Y18,if_neg Y18,if_neg (by rw [hT1];rintro ⟨h,_⟩;cases h)]
     refine Ret.dev D hA (r':=(yz q:Rep).pv) znN ?_ (zS _ _) hwf Y45 ⟨Y97,Y97⟩
     rfl)
   |(have hT1:zz D.c0.length q.at_ q.count=true:=by simpa using hd2
     have hB:zF D q=(yz q,D):=by
      unfold zF;rw [if_neg Y18,if_neg Y18,if_neg Y18,if_neg Y18,if_neg Y18,if_neg Y18,if_neg Y18,if_neg Y18,if_neg Y18,if_neg (by rw [hT2];rintro ⟨_,h⟩;cases h)]
     refine Ret.dev D hA (r':=(yz q:Rep).pv) znN ?_ (zS _ _) hwf Y45 ⟨Y97,Y97⟩
     rfl)
   |(have hT1:zz D.c0.length q.at_ q.count=true:=by simpa using hd2
     have hB:zF D q=(⟨q.fn,0,0,0,0,[],cutF (yi D.v1 q.wat.toNat q.vals) q.at_ q.count,0,0,[]⟩,{ D with v1:=yi D.v1 q.wat.toNat q.vals }):=by
      unfold zF;rw [if_neg Y18,if_neg Y18,if_neg Y18,if_neg Y18,if_neg Y18,if_neg Y18,if_neg Y18,if_neg Y18,if_neg Y18,if_pos ⟨hT1,hT2⟩]
     refine Ret.dev { D with v1:=yi D.v1 q.wat.toNat q.vals } hA (r':=(⟨q.fn,0,0,0,0,[],cutF (yi D.v1 q.wat.toNat q.vals) q.at_ q.count,0,0,[]⟩:Rep).pv) znN ?_ (zS _ _) hwf (fun i hi=>by
   have h0:=ltn hi;have h1:=lte hi
   rw [zY]
   simp only [go_sem,Nat.add_assoc,Nat.reduceAdd,↓reduceIte,h0,h1]
   (repeat' split)<;>first | rfl |(rename_i e;rw [e];first | exact hA.dv | exact hA.v1 | exact hA.v0 | exact hA.c1 | exact hA.c0) |(exfalso;omega)) ⟨Y97,Y97⟩
     simp only [Rep.pv,PV.weak,PV.weaks,zA,zf,zB];simp only [hT1,if_true,zA])
end Go.Proofs
namespace Go.Proofs
open Go.PM
set_option maxHeartbeats 2000000
theorem Y49 {p:Prop} (h:p:=by simp only [Tryz.f161,go_sem,↓reduceIte]<;>rfl):p:=h
theorem Y50 {p:Prop} (h:p:=by simp only [PV.blw,PV.blws,and_self]):p:=h
theorem Y48 {p:Prop} (h:p:=by
 refine rk (k:=rs (k:=rg [2] (k:=rR (k:=?_))))
 refine Ret.pure (r':=.nilf) Y49 (by rfl) Y50 hwf Y34 ⟨rfl,rfl⟩):p:=h
set_option maxRecDepth 100000 in
theorem zb7 {s:St}:za Tryz.prog 161 [.int .i64 0] s (fun r s'=>r=.nilf∧s'=s):=by
 refine go Tryz.func161 (k:=fun hwf H=>?_)
 have f0:((0:Int)≤0)=True:=Y19
 have f1:((0:Int)<((24:Nat):Int))=True:=Y19
 have ft:Int.toNat 0=0:=rfl
 have f2:(decide ((24:Int)≤0))=false:=Y19
 have f3:(decide ((0:Int)<0))=false:=Y19
 have H:=aj f0 (aj f1 (aj ft (aj f2 (aj f3 H))))
 refine rs (k:=rg [0] (k:=rs (k:=rg [0,3] (k:=rs (k:=rs (k:=rg [0,3,10] (k:=rc (ht:=fun hc0=>?_) (hf:=fun hc0=>?_))))))))
 ·cases hc0
 ·exact Y48
theorem zoN {p:Prop} (h:p:=by
 refine rk (k:=rs (k:=rg [2] (k:=rR (k:=?_))))
 refine Ret.pure (r':=.fn (.func 162) [] []) Y49 (by rfl) Y50 hwf Y34 ⟨rfl,rfl⟩):p:=h
set_option maxRecDepth 100000 in
theorem zcc {s:St}:za Tryz.prog 161 [.int .i64 1] s (fun r s'=>r=.fn (.func 162) [] []∧s'=s):=by
 refine go Tryz.func161 (k:=fun hwf H=>?_)
 have f0:((0:Int)≤1)=True:=Y19
 have f1:((1:Int)<((24:Nat):Int))=True:=Y19
 have ft:Int.toNat 1=1:=rfl
 have f2:(decide ((24:Int)≤1))=false:=Y19
 have f3:(decide ((1:Int)<0))=false:=Y19
 have H:=aj f0 (aj f1 (aj ft (aj f2 (aj f3 H))))
 refine rs (k:=rg [0] (k:=rs (k:=rg [0,3] (k:=rs (k:=rs (k:=rg [0,3,10] (k:=rc (ht:=fun hc0=>?_) (hf:=fun hc0=>?_))))))))
 ·cases hc0
 ·exact zoN
set_option maxRecDepth 100000 in
theorem zch {s:St}:za Tryz.prog 161 [.int .i64 2] s (fun r s'=>r=.fn (.func 162) [] []∧s'=s):=by
 refine go Tryz.func161 (k:=fun hwf H=>?_)
 have f0:((0:Int)≤2)=True:=Y19
 have f1:((2:Int)<((24:Nat):Int))=True:=Y19
 have ft:Int.toNat 2=2:=rfl
 have f2:(decide ((24:Int)≤2))=false:=Y19
 have f3:(decide ((2:Int)<0))=false:=Y19
 have H:=aj f0 (aj f1 (aj ft (aj f2 (aj f3 H))))
 refine rs (k:=rg [0] (k:=rs (k:=rg [0,3] (k:=rs (k:=rs (k:=rg [0,3,10] (k:=rc (ht:=fun hc0=>?_) (hf:=fun hc0=>?_))))))))
 ·cases hc0
 ·exact zoN
theorem zpq {p:Prop} (h:p:=by
 refine rk (k:=rs (k:=rg [2] (k:=rR (k:=?_))))
 refine Ret.pure (r':=.fn (.func 163) [] []) Y49 (by rfl) Y50 hwf Y34 ⟨rfl,rfl⟩):p:=h
set_option maxRecDepth 100000 in
theorem zcf {s:St}:za Tryz.prog 161 [.int .i64 3] s (fun r s'=>r=.fn (.func 163) [] []∧s'=s):=by
 refine go Tryz.func161 (k:=fun hwf H=>?_)
 have f0:((0:Int)≤3)=True:=Y19
 have f1:((3:Int)<((24:Nat):Int))=True:=Y19
 have ft:Int.toNat 3=3:=rfl
 have f2:(decide ((24:Int)≤3))=false:=Y19
 have f3:(decide ((3:Int)<0))=false:=Y19
 have H:=aj f0 (aj f1 (aj ft (aj f2 (aj f3 H))))
 refine rs (k:=rg [0] (k:=rs (k:=rg [0,3] (k:=rs (k:=rs (k:=rg [0,3,10] (k:=rc (ht:=fun hc0=>?_) (hf:=fun hc0=>?_))))))))
 ·cases hc0
 ·exact zpq
set_option maxRecDepth 100000 in
theorem zcq {s:St}:za Tryz.prog 161 [.int .i64 4] s (fun r s'=>r=.fn (.func 163) [] []∧s'=s):=by
 refine go Tryz.func161 (k:=fun hwf H=>?_)
 have f0:((0:Int)≤4)=True:=Y19
 have f1:((4:Int)<((24:Nat):Int))=True:=Y19
 have ft:Int.toNat 4=4:=rfl
 have f2:(decide ((24:Int)≤4))=false:=Y19
 have f3:(decide ((4:Int)<0))=false:=Y19
 have H:=aj f0 (aj f1 (aj ft (aj f2 (aj f3 H))))
 refine rs (k:=rg [0] (k:=rs (k:=rg [0,3] (k:=rs (k:=rs (k:=rg [0,3,10] (k:=rc (ht:=fun hc0=>?_) (hf:=fun hc0=>?_))))))))
 ·cases hc0
 ·exact zpq
theorem zpl {p:Prop} (h:p:=by
 refine rk (k:=rs (k:=rg [2] (k:=rR (k:=?_))))
 refine Ret.pure (r':=.fn (.func 164) [] []) Y49 (by rfl) Y50 hwf Y34 ⟨rfl,rfl⟩):p:=h
set_option maxRecDepth 100000 in
theorem zcu {s:St}:za Tryz.prog 161 [.int .i64 5] s (fun r s'=>r=.fn (.func 164) [] []∧s'=s):=by
 refine go Tryz.func161 (k:=fun hwf H=>?_)
 have f0:((0:Int)≤5)=True:=Y19
 have f1:((5:Int)<((24:Nat):Int))=True:=Y19
 have ft:Int.toNat 5=5:=rfl
 have f2:(decide ((24:Int)≤5))=false:=Y19
 have f3:(decide ((5:Int)<0))=false:=Y19
 have H:=aj f0 (aj f1 (aj ft (aj f2 (aj f3 H))))
 refine rs (k:=rg [0] (k:=rs (k:=rg [0,3] (k:=rs (k:=rs (k:=rg [0,3,10] (k:=rc (ht:=fun hc0=>?_) (hf:=fun hc0=>?_))))))))
 ·cases hc0
 ·exact zpl
theorem zpG {p:Prop} (h:p:=by
 refine rk (k:=rs (k:=rg [2] (k:=rR (k:=?_))))
 refine Ret.pure (r':=.fn (.func 165) [] []) Y49 (by rfl) Y50 hwf Y34 ⟨rfl,rfl⟩):p:=h
set_option maxRecDepth 100000 in
theorem zb4 {s:St}:za Tryz.prog 161 [.int .i64 6] s (fun r s'=>r=.fn (.func 165) [] []∧s'=s):=by
 refine go Tryz.func161 (k:=fun hwf H=>?_)
 have f0:((0:Int)≤6)=True:=Y19
 have f1:((6:Int)<((24:Nat):Int))=True:=Y19
 have ft:Int.toNat 6=6:=rfl
 have f2:(decide ((24:Int)≤6))=false:=Y19
 have f3:(decide ((6:Int)<0))=false:=Y19
 have H:=aj f0 (aj f1 (aj ft (aj f2 (aj f3 H))))
 refine rs (k:=rg [0] (k:=rs (k:=rg [0,3] (k:=rs (k:=rs (k:=rg [0,3,10] (k:=rc (ht:=fun hc0=>?_) (hf:=fun hc0=>?_))))))))
 ·cases hc0
 ·exact zpG
set_option maxRecDepth 100000 in
theorem zcA {s:St}:za Tryz.prog 161 [.int .i64 7] s (fun r s'=>r=.nilf∧s'=s):=by
 refine go Tryz.func161 (k:=fun hwf H=>?_)
 have f0:((0:Int)≤7)=True:=Y19
 have f1:((7:Int)<((24:Nat):Int))=True:=Y19
 have ft:Int.toNat 7=7:=rfl
 have f2:(decide ((24:Int)≤7))=false:=Y19
 have f3:(decide ((7:Int)<0))=false:=Y19
 have H:=aj f0 (aj f1 (aj ft (aj f2 (aj f3 H))))
 refine rs (k:=rg [0] (k:=rs (k:=rg [0,3] (k:=rs (k:=rs (k:=rg [0,3,10] (k:=rc (ht:=fun hc0=>?_) (hf:=fun hc0=>?_))))))))
 ·cases hc0
 ·exact Y48
set_option maxRecDepth 100000 in
theorem zcz {s:St}:za Tryz.prog 161 [.int .i64 8] s (fun r s'=>r=.fn (.func 166) [] []∧s'=s):=by
 refine go Tryz.func161 (k:=fun hwf H=>?_)
 have f0:((0:Int)≤8)=True:=Y19
 have f1:((8:Int)<((24:Nat):Int))=True:=Y19
 have ft:Int.toNat 8=8:=rfl
 have f2:(decide ((24:Int)≤8))=false:=Y19
 have f3:(decide ((8:Int)<0))=false:=Y19
 have H:=aj f0 (aj f1 (aj ft (aj f2 (aj f3 H))))
 refine rs (k:=rg [0] (k:=rs (k:=rg [0,3] (k:=rs (k:=rs (k:=rg [0,3,10] (k:=rc (ht:=fun hc0=>?_) (hf:=fun hc0=>?_))))))))
 ·cases hc0
 ·refine rk (k:=rs (k:=rg [2] (k:=rR (k:=?_))))
  refine Ret.pure (r':=.fn (.func 166) [] []) Y49 (by rfl) Y50 hwf Y34 ⟨rfl,rfl⟩
set_option maxRecDepth 100000 in
theorem zcx {s:St}:za Tryz.prog 161 [.int .i64 9] s (fun r s'=>r=.nilf∧s'=s):=by
 refine go Tryz.func161 (k:=fun hwf H=>?_)
 have f0:((0:Int)≤9)=True:=Y19
 have f1:((9:Int)<((24:Nat):Int))=True:=Y19
 have ft:Int.toNat 9=9:=rfl
 have f2:(decide ((24:Int)≤9))=false:=Y19
 have f3:(decide ((9:Int)<0))=false:=Y19
 have H:=aj f0 (aj f1 (aj ft (aj f2 (aj f3 H))))
 refine rs (k:=rg [0] (k:=rs (k:=rg [0,3] (k:=rs (k:=rs (k:=rg [0,3,10] (k:=rc (ht:=fun hc0=>?_) (hf:=fun hc0=>?_))))))))
 ·cases hc0
 ·exact Y48
set_option maxRecDepth 100000 in
theorem zbf {s:St}:za Tryz.prog 161 [.int .i64 10] s (fun r s'=>r=.nilf∧s'=s):=by
 refine go Tryz.func161 (k:=fun hwf H=>?_)
 have f0:((0:Int)≤10)=True:=Y19
 have f1:((10:Int)<((24:Nat):Int))=True:=Y19
 have ft:Int.toNat 10=10:=rfl
 have f2:(decide ((24:Int)≤10))=false:=Y19
 have f3:(decide ((10:Int)<0))=false:=Y19
 have H:=aj f0 (aj f1 (aj ft (aj f2 (aj f3 H))))
 refine rs (k:=rg [0] (k:=rs (k:=rg [0,3] (k:=rs (k:=rs (k:=rg [0,3,10] (k:=rc (ht:=fun hc0=>?_) (hf:=fun hc0=>?_))))))))
 ·cases hc0
 ·exact Y48
set_option maxRecDepth 100000 in
theorem zaR {s:St}:za Tryz.prog 161 [.int .i64 11] s (fun r s'=>r=.nilf∧s'=s):=by
 refine go Tryz.func161 (k:=fun hwf H=>?_)
 have f0:((0:Int)≤11)=True:=Y19
 have f1:((11:Int)<((24:Nat):Int))=True:=Y19
 have ft:Int.toNat 11=11:=rfl
 have f2:(decide ((24:Int)≤11))=false:=Y19
 have f3:(decide ((11:Int)<0))=false:=Y19
 have H:=aj f0 (aj f1 (aj ft (aj f2 (aj f3 H))))
 refine rs (k:=rg [0] (k:=rs (k:=rg [0,3] (k:=rs (k:=rs (k:=rg [0,3,10] (k:=rc (ht:=fun hc0=>?_) (hf:=fun hc0=>?_))))))))
 ·cases hc0
 ·exact Y48
set_option maxRecDepth 100000 in
theorem zaA {s:St}:za Tryz.prog 161 [.int .i64 12] s (fun r s'=>r=.nilf∧s'=s):=by
 refine go Tryz.func161 (k:=fun hwf H=>?_)
 have f0:((0:Int)≤12)=True:=Y19
 have f1:((12:Int)<((24:Nat):Int))=True:=Y19
 have ft:Int.toNat 12=12:=rfl
 have f2:(decide ((24:Int)≤12))=false:=Y19
 have f3:(decide ((12:Int)<0))=false:=Y19
 have H:=aj f0 (aj f1 (aj ft (aj f2 (aj f3 H))))
 refine rs (k:=rg [0] (k:=rs (k:=rg [0,3] (k:=rs (k:=rs (k:=rg [0,3,10] (k:=rc (ht:=fun hc0=>?_) (hf:=fun hc0=>?_))))))))
 ·cases hc0
 ·exact Y48
set_option maxRecDepth 100000 in
theorem zbT {s:St}:za Tryz.prog 161 [.int .i64 13] s (fun r s'=>r=.nilf∧s'=s):=by
 refine go Tryz.func161 (k:=fun hwf H=>?_)
 have f0:((0:Int)≤13)=True:=Y19
 have f1:((13:Int)<((24:Nat):Int))=True:=Y19
 have ft:Int.toNat 13=13:=rfl
 have f2:(decide ((24:Int)≤13))=false:=Y19
 have f3:(decide ((13:Int)<0))=false:=Y19
 have H:=aj f0 (aj f1 (aj ft (aj f2 (aj f3 H))))
 refine rs (k:=rg [0] (k:=rs (k:=rg [0,3] (k:=rs (k:=rs (k:=rg [0,3,10] (k:=rc (ht:=fun hc0=>?_) (hf:=fun hc0=>?_))))))))
 ·cases hc0
 ·exact Y48
set_option maxRecDepth 100000 in
theorem zbB {s:St}:za Tryz.prog 161 [.int .i64 14] s (fun r s'=>r=.nilf∧s'=s):=by
 refine go Tryz.func161 (k:=fun hwf H=>?_)
 have f0:((0:Int)≤14)=True:=Y19
 have f1:((14:Int)<((24:Nat):Int))=True:=Y19
 have ft:Int.toNat 14=14:=rfl
 have f2:(decide ((24:Int)≤14))=false:=Y19
 have f3:(decide ((14:Int)<0))=false:=Y19
 have H:=aj f0 (aj f1 (aj ft (aj f2 (aj f3 H))))
 refine rs (k:=rg [0] (k:=rs (k:=rg [0,3] (k:=rs (k:=rs (k:=rg [0,3,10] (k:=rc (ht:=fun hc0=>?_) (hf:=fun hc0=>?_))))))))
 ·cases hc0
 ·exact Y48
set_option maxRecDepth 100000 in
theorem zbA {s:St}:za Tryz.prog 161 [.int .i64 15] s (fun r s'=>r=.fn (.func 164) [] []∧s'=s):=by
 refine go Tryz.func161 (k:=fun hwf H=>?_)
 have f0:((0:Int)≤15)=True:=Y19
 have f1:((15:Int)<((24:Nat):Int))=True:=Y19
 have ft:Int.toNat 15=15:=rfl
 have f2:(decide ((24:Int)≤15))=false:=Y19
 have f3:(decide ((15:Int)<0))=false:=Y19
 have H:=aj f0 (aj f1 (aj ft (aj f2 (aj f3 H))))
 refine rs (k:=rg [0] (k:=rs (k:=rg [0,3] (k:=rs (k:=rs (k:=rg [0,3,10] (k:=rc (ht:=fun hc0=>?_) (hf:=fun hc0=>?_))))))))
 ·cases hc0
 ·exact zpl
set_option maxRecDepth 100000 in
theorem za9 {s:St}:za Tryz.prog 161 [.int .i64 16] s (fun r s'=>r=.fn (.func 165) [] []∧s'=s):=by
 refine go Tryz.func161 (k:=fun hwf H=>?_)
 have f0:((0:Int)≤16)=True:=Y19
 have f1:((16:Int)<((24:Nat):Int))=True:=Y19
 have ft:Int.toNat 16=16:=rfl
 have f2:(decide ((24:Int)≤16))=false:=Y19
 have f3:(decide ((16:Int)<0))=false:=Y19
 have H:=aj f0 (aj f1 (aj ft (aj f2 (aj f3 H))))
 refine rs (k:=rg [0] (k:=rs (k:=rg [0,3] (k:=rs (k:=rs (k:=rg [0,3,10] (k:=rc (ht:=fun hc0=>?_) (hf:=fun hc0=>?_))))))))
 ·cases hc0
 ·exact zpG
set_option maxRecDepth 100000 in
theorem zaE {s:St}:za Tryz.prog 161 [.int .i64 17] s (fun r s'=>r=.fn (.func 167) [] []∧s'=s):=by
 refine go Tryz.func161 (k:=fun hwf H=>?_)
 have f0:((0:Int)≤17)=True:=Y19
 have f1:((17:Int)<((24:Nat):Int))=True:=Y19
 have ft:Int.toNat 17=17:=rfl
 have f2:(decide ((24:Int)≤17))=false:=Y19
 have f3:(decide ((17:Int)<0))=false:=Y19
 have H:=aj f0 (aj f1 (aj ft (aj f2 (aj f3 H))))
 refine rs (k:=rg [0] (k:=rs (k:=rg [0,3] (k:=rs (k:=rs (k:=rg [0,3,10] (k:=rc (ht:=fun hc0=>?_) (hf:=fun hc0=>?_))))))))
 ·cases hc0
 ·refine rk (k:=rs (k:=rg [2] (k:=rR (k:=?_))))
  refine Ret.pure (r':=.fn (.func 167) [] []) Y49 (by rfl) Y50 hwf Y34 ⟨rfl,rfl⟩
set_option maxRecDepth 100000 in
theorem zbU {s:St}:za Tryz.prog 161 [.int .i64 18] s (fun r s'=>r=.nilf∧s'=s):=by
 refine go Tryz.func161 (k:=fun hwf H=>?_)
 have f0:((0:Int)≤18)=True:=Y19
 have f1:((18:Int)<((24:Nat):Int))=True:=Y19
 have ft:Int.toNat 18=18:=rfl
 have f2:(decide ((24:Int)≤18))=false:=Y19
 have f3:(decide ((18:Int)<0))=false:=Y19
 have H:=aj f0 (aj f1 (aj ft (aj f2 (aj f3 H))))
 refine rs (k:=rg [0] (k:=rs (k:=rg [0,3] (k:=rs (k:=rs (k:=rg [0,3,10] (k:=rc (ht:=fun hc0=>?_) (hf:=fun hc0=>?_))))))))
 ·cases hc0
 ·exact Y48
set_option maxRecDepth 100000 in
theorem zaH {s:St}:za Tryz.prog 161 [.int .i64 19] s (fun r s'=>r=.nilf∧s'=s):=by
 refine go Tryz.func161 (k:=fun hwf H=>?_)
 have f0:((0:Int)≤19)=True:=Y19
 have f1:((19:Int)<((24:Nat):Int))=True:=Y19
 have ft:Int.toNat 19=19:=rfl
 have f2:(decide ((24:Int)≤19))=false:=Y19
 have f3:(decide ((19:Int)<0))=false:=Y19
 have H:=aj f0 (aj f1 (aj ft (aj f2 (aj f3 H))))
 refine rs (k:=rg [0] (k:=rs (k:=rg [0,3] (k:=rs (k:=rs (k:=rg [0,3,10] (k:=rc (ht:=fun hc0=>?_) (hf:=fun hc0=>?_))))))))
 ·cases hc0
 ·exact Y48
set_option maxRecDepth 100000 in
theorem zbG {s:St}:za Tryz.prog 161 [.int .i64 20] s (fun r s'=>r=.nilf∧s'=s):=by
 refine go Tryz.func161 (k:=fun hwf H=>?_)
 have f0:((0:Int)≤20)=True:=Y19
 have f1:((20:Int)<((24:Nat):Int))=True:=Y19
 have ft:Int.toNat 20=20:=rfl
 have f2:(decide ((24:Int)≤20))=false:=Y19
 have f3:(decide ((20:Int)<0))=false:=Y19
 have H:=aj f0 (aj f1 (aj ft (aj f2 (aj f3 H))))
 refine rs (k:=rg [0] (k:=rs (k:=rg [0,3] (k:=rs (k:=rs (k:=rg [0,3,10] (k:=rc (ht:=fun hc0=>?_) (hf:=fun hc0=>?_))))))))
 ·cases hc0
 ·exact Y48
set_option maxRecDepth 100000 in
theorem zbt {s:St}:za Tryz.prog 161 [.int .i64 21] s (fun r s'=>r=.nilf∧s'=s):=by
 refine go Tryz.func161 (k:=fun hwf H=>?_)
 have f0:((0:Int)≤21)=True:=Y19
 have f1:((21:Int)<((24:Nat):Int))=True:=Y19
 have ft:Int.toNat 21=21:=rfl
 have f2:(decide ((24:Int)≤21))=false:=Y19
 have f3:(decide ((21:Int)<0))=false:=Y19
 have H:=aj f0 (aj f1 (aj ft (aj f2 (aj f3 H))))
 refine rs (k:=rg [0] (k:=rs (k:=rg [0,3] (k:=rs (k:=rs (k:=rg [0,3,10] (k:=rc (ht:=fun hc0=>?_) (hf:=fun hc0=>?_))))))))
 ·cases hc0
 ·exact Y48
set_option maxRecDepth 100000 in
theorem zaK {s:St}:za Tryz.prog 161 [.int .i64 22] s (fun r s'=>r=.fn (.func 168) [] []∧s'=s):=by
 refine go Tryz.func161 (k:=fun hwf H=>?_)
 have f0:((0:Int)≤22)=True:=Y19
 have f1:((22:Int)<((24:Nat):Int))=True:=Y19
 have ft:Int.toNat 22=22:=rfl
 have f2:(decide ((24:Int)≤22))=false:=Y19
 have f3:(decide ((22:Int)<0))=false:=Y19
 have H:=aj f0 (aj f1 (aj ft (aj f2 (aj f3 H))))
 refine rs (k:=rg [0] (k:=rs (k:=rg [0,3] (k:=rs (k:=rs (k:=rg [0,3,10] (k:=rc (ht:=fun hc0=>?_) (hf:=fun hc0=>?_))))))))
 ·cases hc0
 ·refine rk (k:=rs (k:=rg [2] (k:=rR (k:=?_))))
  refine Ret.pure (r':=.fn (.func 168) [] []) Y49 (by rfl) Y50 hwf Y34 ⟨rfl,rfl⟩
set_option maxRecDepth 100000 in
theorem zbD {s:St}:za Tryz.prog 161 [.int .i64 23] s (fun r s'=>r=.fn (.func 169) [] []∧s'=s):=by
 refine go Tryz.func161 (k:=fun hwf H=>?_)
 have f0:((0:Int)≤23)=True:=Y19
 have f1:((23:Int)<((24:Nat):Int))=True:=Y19
 have ft:Int.toNat 23=23:=rfl
 have f2:(decide ((24:Int)≤23))=false:=Y19
 have f3:(decide ((23:Int)<0))=false:=Y19
 have H:=aj f0 (aj f1 (aj ft (aj f2 (aj f3 H))))
 refine rs (k:=rg [0] (k:=rs (k:=rg [0,3] (k:=rs (k:=rs (k:=rg [0,3,10] (k:=rc (ht:=fun hc0=>?_) (hf:=fun hc0=>?_))))))))
 ·cases hc0
 ·refine rk (k:=rs (k:=rg [2] (k:=rR (k:=?_))))
  refine Ret.pure (r':=.fn (.func 169) [] []) Y49 (by rfl) Y50 hwf Y34 ⟨rfl,rfl⟩
set_option maxRecDepth 100000 in
theorem zae {fn:Int} (h:fn<0∨24≤fn) {s:St}:za Tryz.prog 161 [.int .i64 fn] s (fun r s'=>r=.nilf∧s'=s):=by
 refine go Tryz.func161 (k:=fun hwf H=>?_)
 refine rs (k:=rg [0] (k:=rs (k:=rg [0,3] (k:=rs (k:=rs (k:=rg [0,3,10] (k:=rc (ht:=fun hc0=>?_) (hf:=fun hc0=>?_))))))))
 ·refine rs (k:=rg [2] (k:=rR (k:=?_)))
  refine Ret.pure (r':=.nilf) Y49 (by rfl) (by simp only [PV.blw]) hwf Y34 ⟨rfl,rfl⟩
 ·refine rk (k:=rs (k:=?_))
  exfalso
  simp only [Bool.or_eq_false_iff,decide_eq_false_iff_not] at hc0
  omega
theorem zbV {fn:Int} (h:xO fn=false) {s:St}:za Tryz.prog 161 [.int .i64 fn] s (fun r s'=>r=.nilf∧s'=s):=by
 have hn:=of_decide_eq_false h
 by_cases ho:fn<0∨24≤fn
 ·exact zae ho
 ·have hk:fn=0∨fn=7∨fn=9∨fn=10∨fn=11∨fn=12∨fn=13∨fn=14∨fn=18∨fn=19∨fn=20∨fn=21:=Y18
  rcases hk with rfl | rfl | rfl | rfl | rfl | rfl | rfl | rfl | rfl | rfl | rfl | rfl
  ·exact zb7
  ·exact zcA
  ·exact zcx
  ·exact zbf
  ·exact zaR
  ·exact zaA
  ·exact zbT
  ·exact zbB
  ·exact zbU
  ·exact zaH
  ·exact zbG
  ·exact zbt
theorem Uy {q:Req} (h:xO q.fn=true):∃ N:Nat,(∀ s,za Tryz.prog 161 [.int .i64 q.fn] s (fun r s'=>r=.fn (.func N) [] []∧s'=s))∧zb Tryz.prog N=true ∧
  ∀ {b:Nat} {D:Dev} {s:St},zK b D s→D.ok→q.ok→zD q=0→yu q=true→za Tryz.prog N [.ptr (b+5) 0 0,q.pv] s (fun r s'=>r=(zF D q).1.pv∧s'=putDev b (zF D q).2 s):=by
 rcases yM h with e | e | e | e | e | e | e | e | e | e | e | e
 ·exact ⟨162,fun s=>by rw [e];exact zcc,Y22,fun h1 h2 h3 h4 h5=>zgL h1 h2 h3 h4 h5 e⟩
 ·exact ⟨162,fun s=>by rw [e];exact zch,Y22,fun h1 h2 h3 h4 h5=>zgy h1 h2 h3 h4 h5 e⟩
 ·exact ⟨163,fun s=>by rw [e];exact zcf,Y22,fun h1 h2 h3 h4 h5=>zhc h1 h2 h3 h4 h5 e⟩
 ·exact ⟨163,fun s=>by rw [e];exact zcq,Y22,fun h1 h2 h3 h4 h5=>zhe h1 h2 h3 h4 h5 e⟩
 ·exact ⟨164,fun s=>by rw [e];exact zcu,Y22,fun h1 h2 h3 h4 h5=>zhj h1 h2 h3 h4 h5 e⟩
 ·exact ⟨165,fun s=>by rw [e];exact zb4,Y22,fun h1 h2 h3 h4 h5=>zgK h1 h2 h3 h4 h5 e⟩
 ·exact ⟨166,fun s=>by rw [e];exact zcz,Y22,fun h1 h2 h3 h4 h5=>zfm h1 h2 h3 h4 h5 e⟩
 ·exact ⟨164,fun s=>by rw [e];exact zbA,Y22,fun h1 h2 h3 h4 h5=>zgm h1 h2 h3 h4 h5 e⟩
 ·exact ⟨165,fun s=>by rw [e];exact za9,Y22,fun h1 h2 h3 h4 h5=>zgk h1 h2 h3 h4 h5 e⟩
 ·exact ⟨167,fun s=>by rw [e];exact zaE,Y22,fun h1 h2 h3 h4 h5=>zeq h1 h2 h3 h4 h5 e⟩
 ·exact ⟨168,fun s=>by rw [e];exact zaK,Y22,fun h1 h2 h3 h4 h5=>zgd h1 h2 h3 h4 h5 e⟩
 ·exact ⟨169,fun s=>by rw [e];exact zbD,Y22,fun h1 h2 h3 h4 h5=>ziI h1 h2 h3 h4 h5 e⟩
end Go.Proofs
namespace Go.Proofs
open Go.PM
set_option maxHeartbeats 2000000
theorem yG {b:Nat} {D:Dev} {s:St} {i:Nat} (h:b+5<i):(putDev b D s).blk i=s.blk i:=by
 rw [zY,if_neg Y18,if_neg Y18,if_neg Y18,if_neg Y18,if_neg Y18]
theorem Yd {b m:Nat} {D:Dev} {s s':St} (hk:∀ i,i<m→i<b+1∨b+5<i→s'.blk i=s.blk i) (i:Nat) (hi:i<m):(putDev b D s').blk i=(putDev b D s).blk i:=by
 rw [zY,zY]
 by_cases e5:i=b+5
 ·rw [if_pos e5,if_pos e5]
 by_cases e4:i=b+4
 ·rw [if_neg e5,if_neg e5,if_pos e4,if_pos e4]
 by_cases e2:i=b+2
 ·rw [if_neg e5,if_neg e5,if_neg e4,if_neg e4,if_pos e2,if_pos e2]
 by_cases e3:i=b+3
 ·rw [if_neg e5,if_neg e5,if_neg e4,if_neg e4,if_neg e2,if_neg e2,if_pos e3,if_pos e3]
 by_cases e1:i=b+1
 ·rw [if_neg e5,if_neg e5,if_neg e4,if_neg e4,if_neg e2,if_neg e2,if_neg e3,if_neg e3,if_pos e1,if_pos e1]
 rw [if_neg e5,if_neg e5,if_neg e4,if_neg e4,if_neg e2,if_neg e2,if_neg e3,if_neg e3,if_neg e1,if_neg e1]
 exact hk i hi Y18
theorem Uq {b:Nat} {D:Dev} {s:St} {i:Nat} (h:i<b+1):(putDev b D s).blk i=s.blk i:=by
 rw [zY,if_neg Y18,if_neg Y18,if_neg Y18,if_neg Y18,if_neg Y18]
theorem zfh (n:Int):I64 (IntKind.i64.wrap n):=by
 unfold IntKind.wrap
 simp [IntKind.signed,IntKind.bits]
 constructor<;>(split<;>omega)
def DOk (n:Nat) (z:Rep × Dev):Prop:=z.2.ok∧z.2.c0.length=n
theorem DOk.ite {n:Nat} {c:Prop} [Decidable c] {x y:Rep × Dev} (h1:c→DOk n x) (h2:¬ c→DOk n y):DOk n (if c then x else y):=by
 split
 ·exact h1 ‹_›
 ·exact h2 ‹_›
theorem zjd (op:BinOp) (a b:Int):U16 (zR op .u16 a b):=wW _ _ _
theorem zaW {l x:List Int} (h:OkW l) (k:OkW x) (a:Nat):OkW (yi l a x):=by
 intro y hy
 unfold yi at hy
 rcases List.mem_append.1 hy with hy | hy
 ·rcases List.mem_append.1 hy with hy | hy
  ·exact h y (List.mem_of_mem_take hy)
  ·exact k y hy
 ·exact h y (List.mem_of_mem_drop hy)
theorem YA {N:Nat} {a m:Int} (h:zz N a m=true):0≤a∧0≤m∧a+m≤N:=by
 unfold zz at h
 have:=of_decide_eq_true h
 omega
theorem zge {D:Dev} (hD:D.ok) {q:Req} (hq:q.ok):(zF D q).2.ok∧(zF D q).2.c0.length=D.c0.length:=by
 have h1:=hD.h1;have h2:=hD.h2;have h3:=hD.c1;have h4:=hD.v0;have h5:=hD.v1
 have z:I64 0:=Y20
 have ok0:∀ {x:List Bool},zz D.c0.length q.at_ x.length=true→({ D with c0:=yi D.c0 q.at_.toNat x }:Dev).ok∧(yi D.c0 q.at_.toNat x).length=D.c0.length:=by
  intro x hx
  have ht:=YA hx
  have hl:(yi D.c0 q.at_.toNat x).length=D.c0.length:=wT Y18
  exact ⟨⟨by show 1≤(yi D.c0 q.at_.toNat x).length;omega,by show (yi D.c0 q.at_.toNat x).length≤65536;omega,by show D.c1.length=(yi D.c0 q.at_.toNat x).length;omega,by show D.v0.length=(yi D.c0 q.at_.toNat x).length;omega,by show D.v1.length=(yi D.c0 q.at_.toNat x).length;omega,hD.w0,hD.w1,hD.unit,hD.msgs,hD.exc⟩,hl⟩
 have ok1:∀ {x:List Int} {a:Int},OkW x→zz D.c0.length a x.length=true→({ D with v1:=yi D.v1 a.toNat x }:Dev).ok:=by
  intro x a hw hx
  have ht:=YA hx
  have hl:(yi D.v1 a.toNat x).length=D.v1.length:=wT Y18
  exact ⟨h1,h2,h3,h4,by show (yi D.v1 a.toNat x).length=D.c0.length;omega,hD.w0,zaW hD.w1 hw _,hD.unit,hD.msgs,hD.exc⟩
 have key:DOk D.c0.length (zF D q):=by
  unfold zF
  refine DOk.ite (fun _=>DOk.ite (fun _=>⟨hD,rfl⟩) (fun _=>⟨hD,rfl⟩)) fun _=>?_
  refine DOk.ite (fun _=>DOk.ite (fun _=>⟨hD,rfl⟩) (fun _=>⟨hD,rfl⟩)) fun _=>?_
  refine DOk.ite (fun _=>DOk.ite (fun _=>⟨hD,rfl⟩) (fun _=>⟨hD,rfl⟩)) fun _=>?_
  refine DOk.ite (fun _=>DOk.ite (fun _=>⟨hD,rfl⟩) (fun _=>⟨hD,rfl⟩)) fun _=>?_
  refine DOk.ite (fun _=>DOk.ite (fun ht=>ok0 ht) (fun _=>⟨hD,rfl⟩)) fun _=>?_
  refine DOk.ite (fun _=>DOk.ite (fun ht=>⟨ok1 hq.vals ht,rfl⟩) (fun _=>⟨hD,rfl⟩)) fun _=>?_
  refine DOk.ite (fun _=>?_) fun _=>?_
  ·unfold WD
   refine DOk.ite (fun _=>⟨hD,rfl⟩) fun _=>?_
   refine DOk.ite (fun _=>⟨⟨h1,h2,h3,h4,h5,hD.w0,hD.w1,hD.unit,z,z⟩,rfl⟩) fun _=>?_
   refine DOk.ite (fun _=>DOk.ite (fun _=>⟨hD,rfl⟩) (fun _=>⟨hD,rfl⟩)) fun _=>⟨hD,rfl⟩
  refine DOk.ite (fun _=>⟨hD,rfl⟩) fun _=>?_
  refine DOk.ite (fun _=>DOk.ite (fun ht=>⟨ok1 (x:=[Xj _ q]) (fun y hy=>by rw [List.mem_singleton.1 hy];exact zjd _ _ _) ht,rfl⟩) (fun _=>⟨hD,rfl⟩)) fun _=>?_
  exact DOk.ite (fun ht=>⟨ok1 hq.vals ht.2,rfl⟩) (fun _=>⟨hD,rfl⟩)
 exact key
theorem Xt {D:Dev} (hD:D.ok):({ D with msgs:=inc D.msgs }:Dev).ok:=⟨hD.h1,hD.h2,hD.c1,hD.v0,hD.v1,hD.w0,hD.w1,hD.unit,zfh _,hD.exc⟩
theorem zd5 {D:Dev} (hD:D.ok) (fn c:Int):(ZG D fn c).2.ok:=⟨hD.h1,hD.h2,hD.c1,hD.v0,hD.v1,hD.w0,hD.w1,hD.unit,hD.msgs,zfh _⟩
theorem zk7 {D:Dev} (hD:D.ok) {q:Req} (hq:q.ok):(doF D q).2.ok∧(doF D q).2.c0.length=D.c0.length:=by
 have hb:=zge (Xt hD) hq
 have key:DOk D.c0.length (doF D q):=by
  unfold doF
  dsimp only
  refine DOk.ite (fun _=>⟨zd5 (Xt hD) _ _,rfl⟩) fun _=>?_
  refine DOk.ite (fun _=>⟨zd5 (Xt hD) _ _,rfl⟩) fun _=>?_
  exact DOk.ite (fun _=>⟨zd5 hb.1 _ _,hb.2⟩) fun _=>hb
 exact key
theorem zK.sv {b:Nat} {D:Dev} {s:St} (h:zK b D s) {i:Nat} (hi:b+5<i) (x:Option Blk):zK b D (s.set i x):=by
 have e:∀ j,j≤b+5→(s.set i x).blk j=s.blk j:=fun j hj=>zd Y18
 exact ⟨by rw [e _ Y18];exact h.st,by rw [e _ Y18];exact h.c0,by rw [e _ Y18];exact h.c1,by rw [e _ Y18];exact h.v0,by rw [e _ Y18];exact h.v1,by rw [e _ Y18];exact h.dv⟩
def ROk (z:Rep × Dev):Prop:=z.1.ok
theorem ROk.ite {c:Prop} [Decidable c] {x y:Rep × Dev} (h1:c→ROk x) (h2:¬ c→ROk y):ROk (if c then x else y):=by
 split
 ·exact h1 ‹_›
 ·exact h2 ‹_›
theorem zI:I64 0:=Y20
theorem zU:U16 0:=Y20
theorem zW:OkW []:=fun x hx=>(List.not_mem_nil hx).elim
theorem yS (fn code:Int):(zE fn code).ok:=⟨by show I64 (fn%128);constructor<;>omega,by show I64 (code%256);constructor<;>omega,zI,zI,zI,zW,zU,zU,OkB.nil,zjJ,ziL,zjJ⟩
theorem ud {fn at_ count sub and_ or_:Int} {bits:List Bool} {vals data:List Int} (h1:I64 fn) (h2:I64 at_) (h3:I64 count) (h4:I64 sub) (h5:OkW vals) (h6:U16 and_) (h7:U16 or_) (h8:OkB data) (h9:bits.length≤65536) (h10:vals.length≤65536) (h11:data.length≤65536) :
  (⟨fn,0,at_,count,sub,bits,vals,and_,or_,data⟩:Rep).ok:=⟨h1,zI,h2,h3,h4,h5,h6,h7,h8,by show bits.length≤_;omega,by show vals.length*2≤_;omega,by show data.length≤_;omega⟩
theorem Wk {l:List Int} (h:OkW l) (a m:Int):OkW (cutF l a m):=by
 unfold cutF
 split
 ·exact fun x hx=>h x (List.mem_of_mem_drop (List.mem_of_mem_take hx))
 ·exact zW
theorem Xr {α:Type} (l:List α) (a m:Int):(cutF l a m).length≤l.length:=by
 unfold cutF
 split
 ·rw [List.length_take,List.length_drop];omega
 ·simp
theorem OkW.one {v:Int} (h:U16 v):OkW [v]:=fun x hx=>by rw [List.mem_singleton.1 hx];exact h
theorem zav {l:List Int} (h:OkW l):U16 ((l[0]?).getD 0):=by
 cases hx:l[0]? with
 | none=>exact zU
 | some x=>exact h x (List.mem_of_getElem? hx)
theorem UL (n:Int):U16 (IntKind.u16.wrap n):=by rw [wM];constructor<;>omega
theorem zcH {D:Dev} (hD:D.ok) {q:Req} (hq:q.ok):(zF D q).1.ok:=by
 have h1:=hD.h1;have h2:=hD.h2;have h3:=hD.c1;have h4:=hD.v0;have h5:=hD.v1
 have w:ROk (yz q,D):=yS _ _
 have n0:([]:List Bool).length≤65536:=Y19
 have n1:([]:List Int).length≤65536:=Y19
 have m1:∀ v:Int,[v].length≤65536:=fun v=>Y71
 have m2:∀ v:Bool,[v].length≤65536:=fun v=>Y71
 have key:ROk (zF D q):=by
  unfold zF
  refine ROk.ite (fun _=>ROk.ite (fun _=>ud hq.fn zI zI zI zW zU zU OkB.nil (Nat.le_trans (Xr _ _ _) Y18) n1 n1) (fun _=>w)) fun _=>?_
  refine ROk.ite (fun _=>ROk.ite (fun _=>ud hq.fn zI zI zI zW zU zU OkB.nil (Nat.le_trans (Xr _ _ _) Y18) n1 n1) (fun _=>w)) fun _=>?_
  refine ROk.ite (fun _=>ROk.ite (fun _=>ud hq.fn zI zI zI (Wk hD.w1 _ _) zU zU OkB.nil n0 (Nat.le_trans (Xr _ _ _) Y18) n1) (fun _=>w)) fun _=>?_
  refine ROk.ite (fun _=>ROk.ite (fun _=>ud hq.fn zI zI zI (Wk hD.w0 _ _) zU zU OkB.nil n0 (Nat.le_trans (Xr _ _ _) Y18) n1) (fun _=>w)) fun _=>?_
  refine ROk.ite (fun _=>ROk.ite (fun _=>?_) (fun _=>w)) fun _=>?_
  ·show Rep.ok (if q.fn=15 then _ else _)
   split
   ·exact ud hq.fn hq.at_ hq.count zI zW zU zU OkB.nil n0 n1 n1
   ·exact ud hq.fn hq.at_ zI zI zW zU zU OkB.nil (m2 _) n1 n1
  refine ROk.ite (fun _=>ROk.ite (fun _=>?_) (fun _=>w)) fun _=>?_
  ·show Rep.ok (if q.fn=16 then _ else _)
   split
   ·exact ud hq.fn hq.at_ hq.count zI zW zU zU OkB.nil n0 n1 n1
   ·exact ud hq.fn hq.at_ zI zI (OkW.one (zav hq.vals)) zU zU OkB.nil n0 (m1 _) n1
  refine ROk.ite (fun _=>?_) fun _=>?_
  ·unfold WD
   refine ROk.ite (fun _=>ud hq.fn zI zI hq.sub (OkW.one (zav hq.vals)) zU zU OkB.nil n0 (m1 _) n1) fun _=>?_
   refine ROk.ite (fun _=>ud hq.fn zI zI hq.sub (OkW.one (zav hq.vals)) zU zU OkB.nil n0 (m1 _) n1) fun _=>?_
   exact ROk.ite (fun _=>ROk.ite (fun _=>yS _ _) (fun _=>ud hq.fn zI zI hq.sub (OkW.one (UL _)) zU zU OkB.nil n0 (m1 _) n1)) fun _=>yS _ _
  refine ROk.ite (fun _=>ud hq.fn zI zI zI zW zU zU (OkB.cons hD.unit (OkB.cons Y20 OkB.nil)) n0 n1 Y71) fun _=>?_
  refine ROk.ite (fun _=>ROk.ite (fun _=>ud hq.fn hq.at_ zI zI zW hq.and_ hq.or_ OkB.nil n0 n1 n1) (fun _=>w)) fun _=>?_
  refine ROk.ite (fun ht=>ud hq.fn zI zI zI (Wk (zaW hD.w1 hq.vals _) _ _) zU zU OkB.nil n0 (Nat.le_trans (Xr _ _ _) ?_) n1) (fun _=>w)
  have:=YA ht.2
  rw [wT Y18];omega
 exact key
theorem Vm {D:Dev} (hD:D.ok) {q:Req} (hq:q.ok):(doF D q).1.ok:=by
 have hb:=zcH (Xt hD) hq
 have key:ROk (doF D q):=by
  unfold doF
  dsimp only
  refine ROk.ite (fun _=>yS _ _) fun _=>?_
  refine ROk.ite (fun _=>yS _ _) fun _=>?_
  exact ROk.ite (fun _=>yS _ _) fun _=>hb
 exact key
attribute [local go_sem] ye yG xb zf Req.pv Rep.pv
theorem Y51 {p:Prop} (h:p:=by rw [hS];simp (disch:=first | omega |(simp only [zt,zq]<;>omega) | fail) only [go_sem]):p:=h
theorem Y52 {p:Prop} (h:p:=by
 exact
                 (fun j hj hj2=>by
  have h0:=ltn hj;have h1:=lte hj;have h2:(j=S.nxt)=False:=eq_false (by rw [gn];omega)
  first
  | exact gf j hj Y18
  |(rcases hj2 with hj2 | hj2
    ·simp (disch:=first | omega |(simp only [zt,zq]<;>omega) | fail) only [h2,↓reduceIte,go_sem,Uq,zbK];exact gf j hj Y18
    ·simp (disch:=first | omega |(simp only [zt,zq]<;>omega) | fail) only [h2,↓reduceIte,go_sem,yG,zbK];exact gf j hj Y18))):p:=h
theorem znb {p:Prop} (h:p:=by simp only [Tryz.f160,go_sem,↓reduceIte]<;>rfl):p:=h
theorem UB {p:Prop} (h:p:=by rw [hS];rfl):p:=h
theorem zl8 {p:Prop} (h:p:=by rw [e _ Y18 Y18];exact hA.st):p:=h
theorem zmX {p:Prop} (h:p:=by rw [e _ Y18 Y18];exact hA.c0):p:=h
theorem zlK {p:Prop} (h:p:=by rw [e _ Y18 Y18];exact hA.c1):p:=h
theorem zmU {p:Prop} (h:p:=by rw [e _ Y18 Y18];exact hA.v0):p:=h
theorem zmC {p:Prop} (h:p:=by rw [e _ Y18 Y18];exact hA.v1):p:=h
set_option maxRecDepth 100000 in
theorem zez {b:Nat} {D:Dev} {s:St} (hA:zK b D s) {q:Req} (hq:q.ok) (hh:xO q.fn=false):za Tryz.prog 160 [.ptr (b+5) 0 0,q.pv] s (fun r s'=>r=(doF D q).1.pv∧s'=putDev b (doF D q).2 s):=by
 refine go Tryz.func160 (k:=fun hwf H=>?_)
 have hdv:=hA.dv
 unfold xA at hdv
 have hlt:=hA.lt hwf
 have h1c:I64 1:=Y20
 have h3c:I64 3:=Y20
 have hinc:IntKind.i64.wrap (D.msgs+1)=inc D.msgs:=rfl
 have H:=aj hdv (aj hinc H)
 refine rs (k:=rg [0,3,4] (k:=rs (k:=rg [0,3,4] (k:=rs (k:=?_)))))
 refine Run.genS fun S hS=>?_
 have g0:S.blk s.nxt=some (.row 47 [.agg [.int .i64 q.fn,.int .i64 q.at_,.int .i64 q.count,.int .i64 q.wat,.int .i64 q.sub,.sl .unk (q.bits.map PV.bool),.sl .unk (q.vals.map (PV.int .u16)),.int .u16 q.and_,.int .u16 q.or_]]):=Y43
 have g1:S.blk (s.nxt+1)=some (.row 52 [.agg [.int .i64 0,.int .i64 0,.int .i64 0,.int .i64 0,.int .i64 0,.sl .nil [],.sl .nil [],.int .u16 0,.int .u16 0,.sl .nil []]]):=Y43
 have gA:zK b { D with msgs:=inc D.msgs } S:=by
  have e:∀ i,i≤b+5→i≠b+5→S.blk i=s.blk i:=fun i h1 h2=>Y51
  exact ⟨zl8,zmX,zlK,zmU,zmC,Y43⟩
 have gn:S.nxt=s.nxt+2:=UB
 have gf:∀ i,i<s.nxt→i≠b+5→S.blk i=s.blk i:=fun i h1 h2=>Y51
 clear hS
 have H:=aj g0 (aj g1 H)
 refine rr (k:=ro (pre:=[_,_]) (k:=rC (h:=zbV hh) (k:=rh [0,3,4,5] (k:=rs (k:=rb (k:=rs (k:=rg [0,3,4,5,17] (k:=rc (ht:=fun hc0=>?_) (hf:=fun hc0=>?_)))))))))
 ·refine rs (k:=rr (k:=ro (pre:=[_,_,_]) (k:=?_)))
  refine zm.callw au au au Y22 ((vm gA hq.fn h1c).mono ?_)
  rintro r s1 ⟨rfl,rfl⟩
  refine rh [4] (k:=rR (k:=?_))
  have hB:doF D q=ZG { D with msgs:=inc D.msgs } q.fn 1:=by
   unfold doF
   dsimp only
   rw [if_pos hh]
  refine Ret.dev (doF D q).2 hA (r':=(doF D q).1.pv) znb ?_ (zS _ _) hwf ?_ ⟨rfl,rfl⟩
  ·rw [hB];rfl
  ·rw [hB]
   exact (fun i hi=>by
     have h0:=ltn hi;have h1:=lte hi;have h2:(i=S.nxt)=False:=eq_false (by rw [gn];omega)
     simp (disch:=first | omega |(simp only [zt,zq]<;>omega) | fail) only [h2,go_sem,Nat.add_assoc,Nat.reduceAdd,↓reduceIte,h0,h1]
     exact Yd (m:=s.nxt) Y52 i hi)
 ·cases hc0
attribute [local go_sem] ye yG xb zf Req.pv Rep.pv
theorem Y53 {p:Prop} (h:p:=by
 exact
    (fun i hi=>by
  have h0:=ltn hi;have h1:=lte hi;have h2:(i=S.nxt)=False:=eq_false (by rw [gn];omega)
  simp (disch:=first | omega |(simp only [zt,zq]<;>omega) | fail) only [h2,go_sem,Nat.add_assoc,Nat.reduceAdd,↓reduceIte,h0,h1]
  exact Yd (m:=s.nxt) Y52 i hi)):p:=h
set_option maxRecDepth 100000 in
theorem zd3 {b:Nat} {D:Dev} {s:St} (hA:zK b D s) (hD:D.ok) {q:Req} (hq:q.ok) (hh:xO q.fn=true):za Tryz.prog 160 [.ptr (b+5) 0 0,q.pv] s (fun r s'=>r=(doF D q).1.pv∧s'=putDev b (doF D q).2 s):=by
 refine go Tryz.func160 (k:=fun hwf H=>?_)
 have hdv:=hA.dv
 unfold xA at hdv
 have hlt:=hA.lt hwf
 have h1c:I64 1:=Y20
 have h3c:I64 3:=Y20
 have hinc:IntKind.i64.wrap (D.msgs+1)=inc D.msgs:=rfl
 have H:=aj hdv (aj hinc H)
 obtain ⟨Nf,hdoes,hcal,hbody⟩:=Uy hh
 obtain ⟨X,hX⟩:∃ X,X=zF { D with msgs:=inc D.msgs } q:=⟨_,rfl⟩
 refine rs (k:=rg [0,3,4] (k:=rs (k:=rg [0,3,4] (k:=rs (k:=?_)))))
 refine Run.genS fun S hS=>?_
 have g0:S.blk s.nxt=some (.row 47 [.agg [.int .i64 q.fn,.int .i64 q.at_,.int .i64 q.count,.int .i64 q.wat,.int .i64 q.sub,.sl .unk (q.bits.map PV.bool),.sl .unk (q.vals.map (PV.int .u16)),.int .u16 q.and_,.int .u16 q.or_]]):=Y43
 have g1:S.blk (s.nxt+1)=some (.row 52 [.agg [.int .i64 0,.int .i64 0,.int .i64 0,.int .i64 0,.int .i64 0,.sl .nil [],.sl .nil [],.int .u16 0,.int .u16 0,.sl .nil []]]):=Y43
 have gA:zK b { D with msgs:=inc D.msgs } S:=by
  have e:∀ i,i≤b+5→i≠b+5→S.blk i=s.blk i:=fun i h1 h2=>Y51
  exact ⟨zl8,zmX,zlK,zmU,zmC,Y43⟩
 have gn:S.nxt=s.nxt+2:=UB
 have gf:∀ i,i<s.nxt→i≠b+5→S.blk i=s.blk i:=fun i h1 h2=>Y51
 clear hS
 have H:=aj g0 (aj g1 (aj gn H))
 refine rr (k:=ro (pre:=[_,_]) (k:=rC (h:=hdoes _) (k:=rh [0,3,4,5] (k:=rs (k:=rb (k:=rs (k:=rg [0,3,4,5,17] (k:=rc (ht:=fun hc0=>?_) (hf:=fun hc0=>?_)))))))))
 ·cases hc0
 refine rs (k:=rr (k:=ro (pre:=[_]) (k:=rC (h:=Ym (q:=q)) (k:=ro (pre:=[_,_,_]) (k:=rG (h:=fun hb=>za1 (q:=q)) (k:=rh [0,3,4,5,24] (k:=rc (ht:=fun hc1=>?_) (hf:=fun hc1=>?_))))))))
 refine rs (k:=rr (k:=ro (pre:=[_,_,_]) (k:=?_)))
 refine zm.callw au au au Y22 ((vm gA hq.fn h3c).mono ?_)
 refine jO 1 ?_;rotate_left
 refine rk (k:=rB (k:=rs (k:=?_)))
 have hok:zD q=0∧yu q=true:=by simpa using hc1
 have gA2:zK b X.2 (putDev b X.2 S):=gA.put (by rw [hX];exact (zge (Xt hD) hq).2)
 refine rr (k:=ro (pre:=[_,_,_]) (k:=?_))
 refine zm.callw au au au hcal ((hbody gA (Xt hD) hq hok.1 hok.2).mono ?_)
 rw [← hX]
 rintro r s1 ⟨rfl,rfl⟩
 refine rh [0,3,4,6] (k:=rs (k:=rs (k:=rg [0,3,4,6,43] (k:=rc (ht:=fun hc2=>?_) (hf:=fun hc2=>?_)))))
 refine rs (k:=?_)
 have hXc:I64 X.1.code:=by rw [hX];exact (zcH (Xt hD) hq).code
 refine rr (k:=ro (pre:=[_,_,_,_,_]) (k:=?_))
 refine zm.callw au au au Y22 ((vm ((gA2.nw (by rw [xb];omega) _).sv Y18 _) hq.fn hXc).mono ?_)
 refine jO 1 ?_;rotate_left
 refine rk (k:=rs (k:=rg [4] (k:=rR (k:=?_))))
 refine jO 2 ?_;rotate_left
 any_goals
  refine jI 1 ?_
  rintro r s1 ⟨rfl,rfl⟩
  refine jO 3 ?_;rotate_left
 any_goals
  refine jI 3 ?_
  refine rh [4] (k:=rR (k:=?_))
  refine jO 2 ?_;rotate_left
 any_goals
  refine jI 2 ?_
  have h00:¬ xO q.fn=false:=by rw [hh];decide
  refine jO 4 ?_;rotate_left
 any_goals
  refine jI 4 ?_
  first
   |(have hB:doF D q=ZG { D with msgs:=inc D.msgs } q.fn 3:=by
      have hcc:¬ zD q=0∨yu q=false:=by simpa using hc1
      unfold doF
      dsimp only
      rw [if_neg h00,if_pos hcc]
     refine Ret.dev (doF D q).2 hA (r':=(doF D q).1.pv) znb ?_ (zS _ _) hwf ?_ ⟨rfl,rfl⟩
     ·rw [hB];rfl
     ·rw [hB]
      exact Y53)
   |(have hB:doF D q=ZG X.2 q.fn X.1.code:=by
      have hcc:¬ (¬ zD q=0∨yu q=false):=by rw [hok.1,hok.2];simp
      have hc3:¬ X.1.code=0:=by simpa using hc2
      unfold doF
      dsimp only
      rw [if_neg h00,if_neg hcc,← hX,if_pos hc3]
     refine Ret.dev (doF D q).2 hA (r':=(doF D q).1.pv) znb ?_ (zS _ _) hwf ?_ ⟨rfl,rfl⟩
     ·rw [hB];rfl
     ·rw [hB]
      exact Y53)
   |(have hB:doF D q=X:=by
      have hcc:¬ (¬ zD q=0∨yu q=false):=by rw [hok.1,hok.2];simp
      have hc3:¬ ¬ X.1.code=0:=by simpa using hc2
      unfold doF
      dsimp only
      rw [if_neg h00,if_neg hcc,← hX,if_neg hc3]
     refine Ret.dev (doF D q).2 hA (r':=(doF D q).1.pv) znb ?_ (zS _ _) hwf ?_ ⟨rfl,rfl⟩
     ·rw [hB];simp only [Rep.pv,PV.weak,PV.weaks,zA,zf,zB]
     ·rw [hB]
      exact Y53)
end Go.Proofs
namespace Go.Proofs
open Go.PM
set_option maxHeartbeats 2000000
theorem zja {b:Nat} {D:Dev} {s:St} (hA:zK b D s) (hD:D.ok) {q:Req} (hq:q.ok):za Tryz.prog 160 [.ptr (b+5) 0 0,q.pv] s (fun r s'=>r=(doF D q).1.pv∧s'=putDev b (doF D q).2 s):=by
 cases hh:xO q.fn with
 | false=>exact zez hA hq hh
 | true=>exact zd3 hA hD hq hh
theorem Wh {a:Int} (h:U8 a):zR .and .u8 a 127=a%128:=by
 unfold U8 at h
 obtain ⟨n,rfl⟩:∃ n:Nat,a=n:=⟨a.toNat,(Int.toNat_of_nonneg h.1).symm⟩
 have hn:n<256:=Y18
 have:∀ m:Fin 256,zR .and .u8 ((m.val:Nat):Int) 127=((m.val:Nat):Int)%128:=by decide +kernel
 exact this ⟨n,hn⟩
theorem zbJ:zeroR.ok:=⟨zI,zI,zI,zI,zI,zW,zU,zU,Y19,Y19⟩
theorem zbZ {l:List Int} (h:OkB l) (hl:l.length≤140737488351232):(xx l).1.ok:=by
 unfold xx
 repeat' split
 ·exact zbJ
 ·exact zbJ
 ·exact zc4 h hl
 ·exact zbJ
theorem zcY {l:List Int} (h:¬ (xx l).2=13):l≠[]:=by
 rintro rfl
 exact h rfl
attribute [local go_sem] ye yG xb zf Req.pv Rep.pv
theorem zmm {p:Prop} (h:p:=by simp only [Tryz.f158,go_sem,↓reduceIte]<;>rfl):p:=h
set_option maxRecDepth 100000 in
theorem zaQ {b:Nat} {D:Dev} {s:St} (hA:zK b D s) (hD:D.ok) {l:List Int} (hb:OkB l) (hl:l.length≤140737488351232):za Tryz.prog 158 [.ptr (b+5) 0 0,.sl .unk (l.map (PV.int .u8))] s (fun r s'=>r=.sl .unk ((xq D l).1.map (PV.int .u8))∧s'=putDev b (xq D l).2 s):=by
 refine go Tryz.func158 (k:=fun hwf H=>?_)
 have hdv:=hA.dv
 unfold xA at hdv
 have hlt:=hA.lt hwf
 have hA1:∀ x y,zK b D ((s.new x).new y):=fun x y=>(hA.nw hlt x).nw Y96 y
 have h1c:I64 1:=Y20
 have h3c:I64 3:=Y20
 have hinc:IntKind.i64.wrap (D.msgs+1)=inc D.msgs:=rfl
 have H:=aj hdv (aj hinc H)
 obtain ⟨q,hQ⟩:∃ q,q=(xx l).1:=⟨_,rfl⟩
 obtain ⟨E,hE⟩:∃ E,E=(xx l).2:=⟨_,rfl⟩
 have hqo:q.ok:=by rw [hQ];exact zbZ hb hl
 have hrd:∀ s,za Tryz.prog 61 [.sl .unk (l.map (PV.int .u8))] s (fun r s'=>r=.tuple [q.pv,.int .i64 E]∧s'=s):=fun s=>by rw [hQ,hE];exact zfE hb hl
 refine rs (k:=rg [0,1] (k:=rs (k:=rr (k:=ro (pre:=[_]) (k:=rC (h:=hrd _) (k:=rh [0,1,5,6] (k:=rs (k:=rg [0,1,5,6,7] (k:=rs (k:=rs (k:=rg [0,1,5,7,15] (k:=rb (k:=rs (k:=rg [0,1,5,7,15,19] (k:=rc (ht:=fun hc0=>?_) (hf:=fun hc0=>?_))))))))))))))))
 refine rs (k:=rg [4] (k:=rR (k:=?_)))
 refine jO 1 ?_;rotate_left
 refine rs (k:=rg [0,1,5,7,15,21] (k:=rc (ht:=fun hc1=>?_) (hf:=fun hc1=>?_)))
 refine rs (k:=?_)
 have hne:l≠[]:=zcY (by rw [← hE];have:=of_decide_eq_false hc0;exact this)
 have hll:0<l.length:=List.length_pos_iff.2 hne
 obtain ⟨x,hx⟩:∃ x,l[0]? =some x:=⟨l[0],List.getElem?_eq_getElem hll⟩
 have hxx:(l.map (PV.int .u8))[0]? =some (.int .u8 x):=zgb
 have hlT:(0<l.length)=True:=eq_true hll
 have hx8:U8 x:=hb x (List.mem_of_getElem? hx)
 have hx0:(l[0]?).getD 0=x:=zgi
 have ha127:zR .and .u8 x 127=x%128:=Wh hx8
 have hw:IntKind.i64.wrap (x%128)=x%128:=zi Y18
 have hx64:I64 (x%128):=Y76
 have H:=aj hxx (aj hlT (aj ha127 (aj hw H)))
 refine rg [0,1,7] (k:=?_)
 refine Run.genS fun S hS=>?_
 have g0:S.blk s.nxt=some (.row 47 [.agg [.int .i64 q.fn,.int .i64 q.at_,.int .i64 q.count,.int .i64 q.wat,.int .i64 q.sub,.sl .unk (q.bits.map PV.bool),.sl .unk (q.vals.map (PV.int .u16)),.int .u16 q.and_,.int .u16 q.or_]]):=Y43
 have g1:S.blk (s.nxt+1)=some (.row 52 [.agg [.int .i64 0,.int .i64 0,.int .i64 0,.int .i64 0,.int .i64 0,.sl .nil [],.sl .nil [],.int .u16 0,.int .u16 0,.sl .nil []]]):=Y43
 have gA:zK b { D with msgs:=inc D.msgs } S:=by
  have e:∀ i,i≤b+5→i≠b+5→S.blk i=s.blk i:=fun i h1 h2=>Y51
  exact ⟨zl8,zmX,zlK,zmU,zmC,Y43⟩
 have gn:S.nxt=s.nxt+2:=UB
 have gf:∀ i,i<s.nxt→i≠b+5→S.blk i=s.blk i:=fun i h1 h2=>Y51
 clear hS
 have H:=aj g0 (aj g1 H)
 refine rr (k:=ro (pre:=[_,_,_,_,_,_]) (k:=?_))
 refine zm.callw au au au Y22 ((vm gA hx64 h1c).mono ?_)
 refine jO 2 ?_;rotate_left
 refine rs (k:=rg [0,1,5,7,37] (k:=rc (ht:=fun hc2=>?_) (hf:=fun hc2=>?_)))
 refine rs (k:=?_)
 have hne:l≠[]:=zcY (by rw [← hE];have:=of_decide_eq_false hc0;exact this)
 have hll:0<l.length:=List.length_pos_iff.2 hne
 obtain ⟨x,hx⟩:∃ x,l[0]? =some x:=⟨l[0],List.getElem?_eq_getElem hll⟩
 have hxx:(l.map (PV.int .u8))[0]? =some (.int .u8 x):=zgb
 have hlT:(0<l.length)=True:=eq_true hll
 have hx8:U8 x:=hb x (List.mem_of_getElem? hx)
 have hx0:(l[0]?).getD 0=x:=zgi
 have ha127:zR .and .u8 x 127=x%128:=Wh hx8
 have hw:IntKind.i64.wrap (x%128)=x%128:=zi Y18
 have hx64:I64 (x%128):=Y76
 have H:=aj hxx (aj hlT (aj ha127 (aj hw H)))
 refine rg [0,1,7] (k:=?_)
 refine Run.genS fun S hS=>?_
 have g0:S.blk s.nxt=some (.row 47 [.agg [.int .i64 q.fn,.int .i64 q.at_,.int .i64 q.count,.int .i64 q.wat,.int .i64 q.sub,.sl .unk (q.bits.map PV.bool),.sl .unk (q.vals.map (PV.int .u16)),.int .u16 q.and_,.int .u16 q.or_]]):=Y43
 have g1:S.blk (s.nxt+1)=some (.row 52 [.agg [.int .i64 0,.int .i64 0,.int .i64 0,.int .i64 0,.int .i64 0,.sl .nil [],.sl .nil [],.int .u16 0,.int .u16 0,.sl .nil []]]):=Y43
 have gA:zK b { D with msgs:=inc D.msgs } S:=by
  have e:∀ i,i≤b+5→i≠b+5→S.blk i=s.blk i:=fun i h1 h2=>Y51
  exact ⟨zl8,zmX,zlK,zmU,zmC,Y43⟩
 have gn:S.nxt=s.nxt+2:=UB
 have gf:∀ i,i<s.nxt→i≠b+5→S.blk i=s.blk i:=fun i h1 h2=>Y51
 clear hS
 have H:=aj g0 (aj g1 H)
 refine rr (k:=ro (pre:=[_,_,_,_,_,_]) (k:=?_))
 refine zm.callw au au au Y22 ((vm gA hx64 h3c).mono ?_)
 refine jO 2 ?_;rotate_left
 refine rr (k:=ro (pre:=[_,_]) (k:=?_))
 refine zm.callw au au au Y22 ((zja (hA1 _ _) hD hqo).mono ?_)
 refine jO 2 ?_;rotate_left
 any_goals
  refine jI 2 ?_
  rintro r s1 ⟨rfl,rfl⟩
  refine jO 3 ?_;rotate_left
 any_goals
  refine jI 3 ?_
  refine rh [7] (k:=rB (k:=rs (k:=rr (k:=ro (pre:=[_]) (k:=rC (h:=uG (by first | exact yS _ _ | exact Vm hD hqo)) (k:=rh [8] (k:=rs (k:=rg [4] (k:=rR (k:=?_))))))))))
  refine jO 1 ?_;rotate_left
 any_goals
  refine jI 1 ?_
  first
   |(have hEk:E=15:=of_decide_eq_true hc1
     have hB:xq D l=(yO (ZG { D with msgs:=inc D.msgs } (x%128) 1).1,(ZG { D with msgs:=inc D.msgs } (x%128) 1).2):=by
      unfold xq
      rw [← hE,hEk,hx0]
      rfl
     refine Ret.dev (ZG { D with msgs:=inc D.msgs } (x%128) 1).2 hA (r':=.sl .unk ((yO (ZG { D with msgs:=inc D.msgs } (x%128) 1).1).map (PV.int .u8))) zmm ?_ Y23 hwf ?_ ⟨Y97,Y97⟩
     ·simp only [PV.weak,zB]
     ·exact Y53)
   |(have hEk:E=12:=of_decide_eq_true hc2
     have hB:xq D l=(yO (ZG { D with msgs:=inc D.msgs } (x%128) 3).1,(ZG { D with msgs:=inc D.msgs } (x%128) 3).2):=by
      unfold xq
      rw [← hE,hEk,hx0]
      rfl
     refine Ret.dev (ZG { D with msgs:=inc D.msgs } (x%128) 3).2 hA (r':=.sl .unk ((yO (ZG { D with msgs:=inc D.msgs } (x%128) 3).1).map (PV.int .u8))) zmm ?_ Y23 hwf ?_ ⟨Y97,Y97⟩
     ·simp only [PV.weak,zB]
     ·exact Y53)
   |(have hEk:E=13:=of_decide_eq_true hc0
     have hB:xq D l=([],D):=by
      unfold xq
      rw [← hE,if_pos hEk]
     refine Ret.dev D hA (r':=.sl .unk (([]:List Int).map (PV.int .u8))) zmm ?_ Y23 hwf ?_ ⟨Y97,Y97⟩
     ·rfl
     ·rw [uM hA]
      exact fun i hi=>by have h0:=ltn hi;have h1:=lte hi;simp only [go_sem,Nat.add_assoc,Nat.reduceAdd,↓reduceIte,h0,h1])
   |(have hB:xq D l=(yO (doF D q).1,(doF D q).2):=by
      unfold xq
      rw [← hE,if_neg (of_decide_eq_false hc0),if_neg (of_decide_eq_false hc1),if_neg (of_decide_eq_false hc2),← hQ]
     refine Ret.dev (doF D q).2 hA (r':=.sl .unk ((yO (doF D q).1).map (PV.int .u8))) zmm ?_ Y23 hwf ?_ ⟨Y97,Y97⟩
     ·simp only [PV.weak,zB]
     ·exact (fun i hi=>by
      have h0:=ltn hi;have h1:=lte hi
      simp (disch:=first | omega |(simp only [zt,zq]<;>omega) | fail) only [go_sem,Nat.add_assoc,Nat.reduceAdd,↓reduceIte,h0,h1]
      exact Yd (m:=s.nxt) (fun j hj hj2=>by
       have h0:=ltn hj;have h1:=lte hj
       simp (disch:=first | omega |(simp only [zt,zq]<;>omega) | fail) only [go_sem,Nat.add_assoc,Nat.reduceAdd,↓reduceIte,h0,h1]) i hi))
end Go.Proofs
namespace Go.Proofs
open Go.PM
set_option maxHeartbeats 2000000
theorem uq {q:Req} (hq:q.ok) (h:zD q=0):OkB (yF q):=by
 have hR:=vF h
 have h1:=yM hR.has
 have h2:=hR.mb
 have h3:=hR.mv
 have h5:=xe q.bits
 have h6:=wC q.vals
 unfold yF
 refine OkB.cons ⟨Y18,Y18⟩ ?_
 repeat' split
 all_goals first
  | exact OkB.nil
  | exact (yB _).append (Ze _)
  | exact (yB _).append (yB _)
  | exact (yB _).append ((yB _).append (yB _))
  | exact (yB _).append ((yB _).append (OkB.cons ⟨Y18,Y18⟩ (XH _)))
  | exact (yB _).append ((yB _).append (OkB.cons ⟨Y18,Y18⟩ (Ze _)))
  | exact (yB _).append ((yB _).append (((yB _).append (yB _)).append (OkB.cons ⟨Y18,Y18⟩ (Ze _))))
  | exact (yB _).append ((yB _).append OkB.nil)
theorem uD {R:Rep} (h:R.ok):OkB (yO R):=by
 unfold yO
 split
 ·exact zig h ‹_›
 ·exact OkB.nil
theorem zfO {D:Dev} (hD:D.ok) {l:List Int} (hb:OkB l) (hl:l.length≤140737488351232):OkB (xq D l).1:=by
 unfold xq
 split
 ·exact OkB.nil
 ·dsimp only
  split
  ·exact uD (yS _ _)
  ·split
   ·exact uD (yS _ _)
   ·exact uD (Vm hD (zbZ hb hl))
theorem zbC {b:Nat} {D:Dev} {S:St} {i:Nat} (h:b+5<i) (x:Option Blk):putDev b D (S.set i x)=(putDev b D S).set i x:=by
 refine St.eq_of' rfl fun j=>?_
 by_cases hj:j=i
 ·subst hj;rw [yG h,zy,zy]
 ·rw [zd hj,zY,zY,zd hj]
end Go.Proofs
namespace Go.Proofs
open Go.PM
set_option maxHeartbeats 2000000
theorem Yl {α:Type} (l:List α) {a m:Int} (h:zz l.length a m=true):((cutF l a m).length:Int)=m:=by
 have ht:=YA h
 unfold cutF
 rw [if_pos h,List.length_take,List.length_drop]
 omega
theorem zks {D:Dev} {q:Req} (hr:zD q=0) (hc:yu q=true):doF D q=(if ¬ (zF { D with msgs:=inc D.msgs } q).1.code=0 then ZG (zF { D with msgs:=inc D.msgs } q).2 q.fn (zF { D with msgs:=inc D.msgs } q).1.code else zF { D with msgs:=inc D.msgs } q):=by
 have hh:¬ xO q.fn=false:=by
  intro h
  unfold zD at hr
  rw [if_pos h] at hr
  exact absurd hr Y19
 unfold doF
 dsimp only
 rw [if_neg hh,if_neg (by rw [hr,hc];simp)]
theorem zK.same {b:Nat} {D:Dev} {s s':St} (h:zK b D s) (e:∀ j,j≤b+5→s'.blk j=s.blk j):zK b D s' :=
 ⟨by rw [e _ Y18];exact h.st,by rw [e _ Y18];exact h.c0,by rw [e _ Y18];exact h.c1,by rw [e _ Y18];exact h.v0,by rw [e _ Y18];exact h.v1,by rw [e _ Y18];exact h.dv⟩
end Go.Proofs
namespace Go.Proofs
open Go.PM
set_option maxHeartbeats 2000000
structure QAt (s0:St) (tp:Nat) (T:Tp) (q:List PV) (S:St):Prop where
 nx:s0.nxt+2≤S.nxt
 tape:S.blk tp=some (.row 67 [T.pv])
 zero:S.blk s0.nxt=some (.row 47 [.agg [.int .i64 (0),.int .i64 (0),.int .i64 (0),.int .i64 (0),.int .i64 (0),.sl .nil [],.sl .nil [],.int .u16 (0),.int .u16 (0)]])
 row:S.blk (s0.nxt+1)=some (.row 47 [.agg q])
 rest:∀ j,j<s0.nxt→j≠tp→S.blk j=s0.blk j
theorem QAt.first {s0:St} {tp:Nat} {T:Tp} {q:List PV} {a:Option Blk} (h:tp<s0.nxt) {x:Blk}:QAt s0 tp T q ((((((s0.new (.row 47 [.agg [.int .i64 (0),.int .i64 (0),.int .i64 (0),.int .i64 (0),.int .i64 (0),.sl .nil [],.sl .nil [],.int .u16 (0),.int .u16 (0)]])).set tp a).new x).set (s0.nxt+1) (some (.row 47 [.agg q]))).set tp (some (.row 67 [T.pv])))):=by
 refine ⟨Nat.le_refl _,zy _ _ _,?_,?_,fun j hj hne=>?_⟩
 ·simp (disch:=first | omega |(simp only [zt,zq]<;>omega)) only [zd,zg,zN]
 ·simp (disch:=first | omega |(simp only [zt,zq]<;>omega)) only [zd,zg,zy]
 ·simp (disch:=first | omega |(simp only [zt,zq]<;>omega)) only [zd,zg]
theorem QAt.rw' {s0:St} {tp:Nat} {T:Tp} {q q':List PV} {S:St} (h:QAt s0 tp T q S) (hl:tp<s0.nxt):QAt s0 tp T q' (S.set (s0.nxt+1) (some (.row 47 [.agg q']))) :=
 ⟨h.nx,by rw [zd Y18];exact h.tape,by rw [zd Y18];exact h.zero,zy _ _ _,fun j hj hne=>by rw [zd Y18];exact h.rest j hj hne⟩
theorem QAt.nw {s0:St} {tp:Nat} {T:Tp} {q:List PV} {S:St} (h:QAt s0 tp T q S) (hl:tp<s0.nxt) (x:Blk):QAt s0 tp T q (S.new x):=by
 have:=h.nx
 exact ⟨Nat.le_succ_of_le h.nx,by rw [zg Y18];exact h.tape,by rw [zg Y18];exact h.zero,by rw [zg Y18];exact h.row,fun j hj hne=>by rw [zg Y18];exact h.rest j hj hne⟩
theorem QAt.tk {s0:St} {tp:Nat} {T:Tp} {q:List PV} {S:St} (h:QAt s0 tp T q S) (hl:tp<s0.nxt) {i:Nat} (hi:s0.nxt+2≤i) (x:Option Blk):QAt s0 tp T q (S.set i x) :=
 ⟨h.nx,by rw [zd Y18];exact h.tape,by rw [zd Y18];exact h.zero,by rw [zd Y18];exact h.row,fun j hj hne=>by rw [zd Y18];exact h.rest j hj hne⟩
theorem zdU {P:Program} {e:TypeId} {α:Type} {f:α→PV} {ys:List α} {s:St} {z:Nat} (hy:ys≠[]) (hc:P.cellsOf e=z) :
  yQ P e .nil [] (ys.map f) s=some (.sl (.tok s.nxt z) (ys.map f),s.new (.tok ys.length)):=by
 subst hc
 unfold yQ
 rw [if_neg (by simpa using hy)]
 simp
attribute [local go_sem] zf ye
end Go.Proofs

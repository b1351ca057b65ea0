import Derived.Test.YtdeiiaohdcpecaaGreatB4
import Derived.Test.YtdeiiaohdcpecaaGreatB2
import Derived.Test.YtdeiiaohdcpecaaGreatB3
set_option linter.unusedVariables false
set_option linter.unusedSimpArgs false
namespace Go.Proofs
open Go.PM
set_option maxHeartbeats 2000000
attribute [local go_sem] zf ye Req.pv
theorem zpF {p:Prop} (h:p:=by
 rcases List.mem_append.1 hr with hr | hr
 ·exact hoo r hr
 ·rw [List.mem_singleton.1 hr];exact hRo):p:=h
set_option maxRecDepth 100000 in
theorem zkj {b ln c cc un T:Nat} {t:Ten} {u:Us} {ns:Nat→Option Nat} {s:St} (h:xK b ln c cc un T t u ns s) (hll:u.l.length≤80000) {q:Req} (hq:q.ok) {ps:List (Req × Bool)} (hps:zfL q ps) {tick:Int} (ht:0≤tick∧tick≤1000000000) :
  za Tryz.prog 67 [.ptr un 0 0,q.pv,.sl .unk (ps.map ptV),.int .i64 tick] s (fun r s'=>r=.sl .unk ((xY q T tick 0 ps [] u).1.map Rep.pv)∧∃ ns',xK b ln c cc un T t (xY q T tick 0 ps [] u).2 ns' s'∧Fr5 b (b+6) ln cc ns ns' s s'∧(∀ r∈(xY q T tick 0 ps [] u).1,r.ok)∧(xY q T tick 0 ps [] u).1.length≤6∧(xY q T tick 0 ps [] u).2.l.length≤u.l.length+18):=by
 refine go Tryz.func67 (k:=fun hwf H=>?_)
 have hpl:=hps.len
 refine rs (k:=rg [0,2,3,5] (k:=rs (k:=rg [0,2,3,5,9] (k:=rs (k:=rs (k:=rg [0,3,5,9,15,16,17] (k:=rb (k:=?_))))))))
 refine Run.loop (fun e s'=>∃ (i:Nat) (out:List Rep) (v:Us) (kk:SK) (n1:Nat→Option Nat),e=[(0,.ptr un 0 0),(3,.int .i64 tick),(5,.ptr s.nxt 0 0),(9,.sl kk (out.map Rep.pv)),(15,.sl .unk (ps.map ptV)),(16,.int .i64 (ps.length:Int)),(17,.int .i64 (i:Int))]∧i≤ps.length∧out.length=i∧(∀ r∈out,r.ok)∧v.l.length≤u.l.length+3*i∧xY q T tick 0 ps [] u=xY q T tick i (ps.drop i) out v∧xK b ln c cc un T t v n1 s'∧Fr5 b (b+6) ln cc ns n1 s s'∧s'.blk s.nxt=some (.row 47 [.agg [.int .i64 (q).fn,.int .i64 (q).at_,.int .i64 (q).count,.int .i64 (q).wat,.int .i64 (q).sub,.sl .unk ((q).bits.map PV.bool),.sl .unk ((q).vals.map (PV.int .u16)),.int .u16 (q).and_,.int .u16 (q).or_]])∧s.nxt<s'.nxt∧yA s' kk out.length 10∧(∀ t z,kk=.tok t z→s.nxt≤t∧t<s'.nxt)∧(∀ t z,kk=.tok t z→∀ j,n1 j≠some t)) (fun e s'=>ps.length-xB e 17) ?_ ?_
 ·exact ⟨0,[],u,.nil,ns,rfl,Nat.zero_le _,rfl,(fun r hr=>by cases hr),Nat.le_refl _,rfl,h.nw _,(Fr5.refl _ _ _ _ _ _).nw _,zN,Nat.lt_succ_self _,.inl ⟨rfl,rfl⟩,(fun t z e=>Y17),(fun t z e=>Y17)⟩
 rintro e s1 ⟨i,out,v,kk,n1,rfl,hi,hol,hoo,hvl,hau,hU,hFr,hqb,hnx,hgr,htk,htn⟩
 have H:=aj hqb H
 refine rs (k:=rg [0,3,5,9,15,16,17,18] (k:=rs (k:=rc (ht:=fun hc0=>?_) (hf:=fun hc0=>?_))))
 have hc:=hc0
 refine rk (k:=rs (k:=rb (k:=rs (k:=?_))))
 have hip:i<ps.length:=Y83
 obtain ⟨x,hxe⟩:∃ z_,ps[i]'hip=z_:=⟨_,rfl⟩
 have hxx:(ps.map ptV)[i]? =some (.agg [.int .i64 x.1.fn,.int .i64 x.1.at_,.int .i64 x.1.count,.int .i64 x.1.wat,.int .i64 x.1.sub,.sl .unk (x.1.bits.map PV.bool),.sl .unk (x.1.vals.map (PV.int .u16)),.int .u16 x.1.and_,.int .u16 x.1.or_,.bool x.2]):=by rw [yP hip,hxe];rfl
 have hipT:(i<ps.length)=True:=eq_true hip
 have hw:IntKind.i64.wrap ((i:Int)+1)=((i+1:Nat):Int):=Y24
 have H:=aj hxx (aj hipT (aj hw H))
 refine rg [0,3,5,9,10,11,15,16,17] (k:=rs (k:=rg [0,3,5,9,10,11,12,15,16,17] (k:=rs (k:=?_))))
 refine Run.genS fun S1 hS=>?_
 obtain ⟨p11,h11⟩:∃ p,p=s1.nxt:=⟨_,rfl⟩
 obtain ⟨p12,h12⟩:∃ p,p=s1.nxt+1:=⟨_,rfl⟩
 rw [← h12,← h11]
 have hx11:S1.blk p11=some (.row 157 [.agg [.int .i64 x.1.fn,.int .i64 x.1.at_,.int .i64 x.1.count,.int .i64 x.1.wat,.int .i64 x.1.sub,.sl .unk (x.1.bits.map PV.bool),.sl .unk (x.1.vals.map (PV.int .u16)),.int .u16 x.1.and_,.int .u16 x.1.or_,.bool x.2]]):=by rw [hS];simp (disch:=first | omega |(simp only [zt,zq]<;>omega) | fail) only [go_sem,h11]<;>rfl
 have hx12:S1.blk p12=some (.row 47 [.agg [.int .i64 x.1.fn,.int .i64 x.1.at_,.int .i64 x.1.count,.int .i64 x.1.wat,.int .i64 x.1.sub,.sl .unk (x.1.bits.map PV.bool),.sl .unk (x.1.vals.map (PV.int .u16)),.int .u16 x.1.and_,.int .u16 x.1.or_]]):=by rw [hS];simp (disch:=first | omega |(simp only [zt,zq]<;>omega) | fail) only [go_sem,h12]<;>rfl
 have hn1:S1.nxt=p12+1:=by rw [hS,h12];rfl
 have hk1:∀ j,j<s1.nxt→S1.blk j=s1.blk j:=fun j hj=>Y51
 clear hS
 have hq1:S1.blk s.nxt=some (.row 47 [.agg [.int .i64 (q).fn,.int .i64 (q).at_,.int .i64 (q).count,.int .i64 (q).wat,.int .i64 (q).sub,.sl .unk ((q).bits.map PV.bool),.sl .unk ((q).vals.map (PV.int .u16)),.int .u16 (q).and_,.int .u16 (q).or_]]):=by rw [hk1 _ hnx];exact hqb
 have hU1:=hU.keep (s':=S1) Y18 fun j hj _=>hk1 j hj
 have hn12:(s.nxt=p12)=False:=eq_false Y18
 have hn13:(p12=s.nxt)=False:=eq_false Y18
 have hn14:(p11=p12)=False:=eq_false Y18
 obtain ⟨y,hy⟩:∃ y,y=ZM q x out:=⟨_,rfl⟩
 have hpt:zai y:=by rw [hy,← hxe];exact zlC hps hip out
 have hgr1:yA S1 kk out.length 10:=hgr.mono fun t e=>hk1 t (htk _ _ e).2
 have H:=aj hx11 (aj hx12 (aj hq1 (aj hn12 (aj hn13 (aj hn14 H)))))
 refine Run.join (fun e s'=>∃ kv:SK,e=[(0,.ptr un 0 0),(3,.int .i64 tick),(5,.ptr s.nxt 0 0),(9,.sl kk (out.map Rep.pv)),(10,.int .i64 (i:Int)),(12,.ptr p12 0 0),(15,.sl .unk (ps.map ptV)),(16,.int .i64 (ps.length:Int)),(17,.int .i64 (i:Int))]∧(∃ Z,s'=S1.set p12 Z)∧s'.blk p12=some (.row 47 [.agg [.int .i64 x.1.fn,.int .i64 x.1.at_,.int .i64 x.1.count,.int .i64 x.1.wat,.int .i64 x.1.sub,.sl .unk (x.1.bits.map PV.bool),.sl kv (y.vals.map (PV.int .u16)),.int .u16 x.1.and_,.int .u16 x.1.or_]])∧y={ x.1 with vals:=y.vals }) ?_ ?_
 ·rintro e S2 ⟨kv,rfl,⟨Z2,hS2⟩,h2y,hyx⟩
  have hn2:S2.nxt=p12+1:=by rw [hS2];exact hn1
  have h2q:S2.blk s.nxt=some (.row 47 [.agg [.int .i64 (q).fn,.int .i64 (q).at_,.int .i64 (q).count,.int .i64 (q).wat,.int .i64 (q).sub,.sl .unk ((q).bits.map PV.bool),.sl .unk ((q).vals.map (PV.int .u16)),.int .u16 (q).and_,.int .u16 (q).or_]]):=by rw [hS2,zd Y18];exact hq1
  have hU2:xK b ln c cc un T t v n1 S2:=by rw [hS2];exact hU1.hi (by have h9:=hU.fresh (r:=p12) Y18;exact h9) _
  have hFr2:Fr5 b (b+6) ln cc ns n1 s S2:=by
   have:=hFr.nx
   exact ⟨Y18,fun j a1 a2 a3 a4 a5=>by rw [hS2,zd Y18,hk1 j Y18];exact hFr.same j a1 a2 a3 a4 a5,hFr.new⟩
  have hgr2:yA S2 kk out.length 10:=by rw [hS2];exact hgr1.mono fun t e=>zd (by have:=(htk _ _ e).2;omega)
  have hk2:S2.nxt=s1.nxt+2:=Y18
  clear hS2
  have H:=aj hw trivial
  refine rs (k:=?_)
  have hw3:IntKind.i64.wrap ((i:Int)*3)=(i:Int)*3:=zi Y18
  have hw4:IntKind.i64.wrap ((i:Int)*3*4)=(i:Int)*3*4:=zi Y18
  have hwt:IntKind.i64.wrap (tick+(i:Int)*3*4)=tick+12*(i:Int):=Y24
  have hun:S2.blk un=some (.row 92 [.agg [.int .i64 t.unit,.int .u32 t.fns,.int .i64 t.queue,.sl .unk (t.wins.map Win.pv),.sl .unk (t.slts.map Slt.pv),.int .i64 (T:Int),.ptr ln 0 0,.ptr cc 0 0]]):=hU2.unb
  refine Run.reserve ?_
  obtain ⟨r9,hr9⟩:∃ r,r=S2.nxt:=⟨_,rfl⟩
  obtain ⟨S,hS⟩:∃ S,S=S2.new .res:=⟨_,rfl⟩
  have hSr:S.blk r9=some .res:=by rw [hS,hr9];exact zN
  have hSx:S.nxt=r9+1:=by rw [hS,hr9];rfl
  have hUS:xK b ln c cc un T t v n1 S:=by rw [hS];exact hU2.nw _
  have hSu:S.blk un=some (.row 92 [.agg [.int .i64 t.unit,.int .u32 t.fns,.int .i64 t.queue,.sl .unk (t.wins.map Win.pv),.sl .unk (t.slts.map Slt.pv),.int .i64 (T:Int),.ptr ln 0 0,.ptr cc 0 0]]):=hUS.unb
  have hSy:S.blk p12=some (.row 47 [.agg [.int .i64 x.1.fn,.int .i64 x.1.at_,.int .i64 x.1.count,.int .i64 x.1.wat,.int .i64 x.1.sub,.sl .unk (x.1.bits.map PV.bool),.sl kv (y.vals.map (PV.int .u16)),.int .u16 x.1.and_,.int .u16 x.1.or_]]):=by rw [hS,zg Y18];exact h2y
  have hSk:∀ j,j<S2.nxt→S.blk j=S2.blk j:=fun j hj=>by rw [hS];exact zg Y18
  rw [← hS]
  clear hS
  obtain ⟨⟨R,n9,D',FS',l'⟩,hAX⟩:∃ Z,Zo y v.FS T v.l (tick+12*(i:Int)) v.D=Z:=⟨_,rfl⟩
  have hao:=zmW hpt.ok hUS.uok.FS T hUS.uok.l (tick+12*(i:Int)) hUS.uok.D
  rw [hAX] at hao
  obtain ⟨hRo,hDo,hFo,hlo,hld⟩:=hao
  have hlo:l'.length≤v.l.length+3:=hlo
  have hb9:=hUS.bl
  have hi0:=h.lin.hc
  have hi00:=h.lin.nx
  have hi01:=h.lt
  have hyp:y.pv=.agg [.int .i64 x.1.fn,.int .i64 x.1.at_,.int .i64 x.1.count,.int .i64 x.1.wat,.int .i64 x.1.sub,.sl .unk (x.1.bits.map PV.bool),.sl .unk (y.vals.map (PV.int .u16)),.int .u16 x.1.and_,.int .u16 x.1.or_]:=by rw [hyx];rfl
  have hl9:=hUS.lt
  have hc9:=hUS.lin.hc
  have hx9:=hUS.lin.nx
  have hf9:xK.free b ln cc un n1 r9:=hU2.fresh Y18
  have hcall:∀ v9,(∀ L,v9≠some (.tok L))→za Tryz.prog 98 [.ptr ln 0 0,.int .i64 (T:Int),.int .i64 (tick+12*(i:Int)),.agg [.int .i64 x.1.fn,.int .i64 x.1.at_,.int .i64 x.1.count,.int .i64 x.1.wat,.int .i64 x.1.sub,.sl .unk (x.1.bits.map PV.bool),.sl .unk (y.vals.map (PV.int .u16)),.int .u16 x.1.and_,.int .u16 x.1.or_]] (S.set r9 v9) (fun r s2=>r=.tuple [R.pv,.int .i64 (n9:Int)]∧∃ Y,(∃ n2,xK b ln c cc un T t ⟨D',FS',l',v.c⟩ n2 Y∧Fr5 b (b+6) ln cc n1 n2 S Y∧Y.blk r9=some .res∧Y.blk p12=some (.row 47 [.agg [.int .i64 x.1.fn,.int .i64 x.1.at_,.int .i64 x.1.count,.int .i64 x.1.wat,.int .i64 x.1.sub,.sl .unk (x.1.bits.map PV.bool),.sl kv (y.vals.map (PV.int .u16)),.int .u16 x.1.and_,.int .u16 x.1.or_]]))∧s2=Y.set r9 v9):=fun v9 hv9=>by
   have hUv:=hUS.hi hf9 v9
   have h8:=zeK hUv.lin hUv.dv hUv.uok.D hUv.bl hUv.uok.FS hUv.T4 Y18 hpt.ok hpt.r hpt.len (tick:=tick+12*(i:Int)) Y18
   rw [hAX,hyp] at h8
   refine h8.mono ?_
   rintro r s2 ⟨rfl,n2,hL2,hD2,hF2⟩
   have hfr:∀ j,j<S.nxt→j≠ln→¬ (b≤j∧j<b+6)→(∀ i,n1 i≠some j)→s2.blk j=(S.set r9 v9).blk j:=fun j a1 a2 a3 a4=>hF2.same j a1 a2 a3 a4
   have hr2:s2.blk r9=v9:=by rw [hfr r9 Y18 hf9.hl (fun h=>hf9.hb ⟨h.1,Y18⟩) hf9.hn];exact zy _ _ _
   have hnr:∀ j,n1 j≠some p12:=fun j hj=>hUS.lin.notrow hj hSy
   have hn2:S.nxt≤s2.nxt:=hF2.nx
   have hnu:∀ j,n1 j≠some un:=fun j hj=>hUS.lin.notrow hj hSu
   have hnc:∀ j,n1 j≠some cc:=fun j hj=>hUS.lin.notrow hj hUS.cn
   have hn29:∀ j,n2 j≠some r9:=fun j hj=>by
    rcases hF2.new j r9 hj with ⟨i',h'⟩ | h'
    ·exact hf9.hn i' h'
    ·have h':S.nxt≤r9:=h';omega
   refine ⟨rfl,s2.set r9 (some .res),⟨n2,⟨?_,?_,?_,?_,⟨hDo,hFo,hUS.uok.c,hld⟩,hUS.tok,hUS.T4,hUS.bl,hUS.c1,hUS.n1,⟨Nat.lt_of_lt_of_le hl9.1 hn2,Nat.lt_of_lt_of_le hl9.2 hn2⟩⟩,⟨hn2,fun j a1 a2 a3 a4 a5=>?_,hF2.new⟩,zy _ _ _,?_⟩,by rw [ye];exact (YC hr2).symm⟩
   ·exact hL2.keep (Nat.le_refl _) fun j hj hj'=>zd (by
     rcases hj' with rfl | ⟨i',hi'⟩
     ·exact hf9.hl.symm
     ·rintro rfl;exact hn29 i' hi')
   ·exact hD2.sv Y18 _
   ·rw [zd hf9.hc.symm,hfr cc hl9.1 hUS.c1.1 hUS.c1.2 hnc,zd hf9.hc.symm];exact hUS.cn
   ·rw [zd hf9.hu.symm,hfr un hl9.2 hUS.n1.1 hUS.n1.2.1 hnu,zd hf9.hu.symm];exact hUS.unb
   ·by_cases e:j=r9
    ·rw [e,zy,hSr]
    ·rw [zd e,hfr j a1 a2 a4 a5,zd e]
   ·rw [zd Y18,hfr p12 Y18 Y18 Y18 hnr,zd Y18];exact hSy
  have hRv:R.pv=.agg [.int .i64 (R).fn,.int .i64 (R).code,.int .i64 (R).at_,.int .i64 (R).count,.int .i64 (R).sub,.sl .unk ((R).bits.map PV.bool),.sl .unk ((R).vals.map (PV.int .u16)),.int .u16 (R).and_,.int .u16 (R).or_,.sl .unk ((R).data.map (PV.int .u8))]:=rfl
  have n91:(un=r9)=False:=eq_false hf9.hu.symm
  have n92:(p12=r9)=False:=eq_false Y18
  have H:=aj hw3 (aj hw4 (aj hwt (aj hSu (aj hSy (aj hRv (aj n91 (aj n92 H)))))))
  have hgood:S.blk un=some (.row 92 [.agg [.int .i64 t.unit,.int .u32 t.fns,.int .i64 t.queue,.sl .unk (t.wins.map Win.pv),.sl .unk (t.slts.map Slt.pv),.int .i64 (T:Int),.ptr ln 0 0,.ptr cc 0 0]])∧S.blk p12=some (.row 47 [.agg [.int .i64 x.1.fn,.int .i64 x.1.at_,.int .i64 x.1.count,.int .i64 x.1.wat,.int .i64 x.1.sub,.sl .unk (x.1.bits.map PV.bool),.sl kv (y.vals.map (PV.int .u16)),.int .u16 x.1.and_,.int .u16 x.1.or_]])∧S.blk r9=some .res:=⟨hSu,hSy,hSr⟩
  refine Run.drawW 20 [14,18,19] [[false,false,false],[true,false,false],[false,true,false],[true,true,false],[true,true,true]] (fun X=>[S,X,(S.set r9 (some (.row 52 [.agg [.int .i64 0,.int .i64 0,.int .i64 0,.int .i64 0,.int .i64 0,.sl .nil [],.sl .nil [],.int .u16 0,.int .u16 0,.sl .nil []]]))),(X.set r9 (some (.row 52 [.agg [.int .i64 0,.int .i64 0,.int .i64 0,.int .i64 0,.int .i64 0,.sl .nil [],.sl .nil [],.int .u16 0,.int .u16 0,.sl .nil []]]))),(X.set r9 (some (.row 52 [.agg [.int .i64 (R).fn,.int .i64 (R).code,.int .i64 (R).at_,.int .i64 (R).count,.int .i64 (R).sub,.sl .unk ((R).bits.map PV.bool),.sl .unk ((R).vals.map (PV.int .u16)),.int .u16 (R).and_,.int .u16 (R).or_,.sl .unk ((R).data.map (PV.int .u8))]])))]) (fun X=>X.blk un=some (.row 92 [.agg [.int .i64 t.unit,.int .u32 t.fns,.int .i64 t.queue,.sl .unk (t.wins.map Win.pv),.sl .unk (t.slts.map Slt.pv),.int .i64 (T:Int),.ptr ln 0 0,.ptr cc 0 0]])∧X.blk p12=some (.row 47 [.agg [.int .i64 x.1.fn,.int .i64 x.1.at_,.int .i64 x.1.count,.int .i64 x.1.wat,.int .i64 x.1.sub,.sl .unk (x.1.bits.map PV.bool),.sl kv (y.vals.map (PV.int .u16)),.int .u16 x.1.and_,.int .u16 x.1.or_]])∧X.blk r9=some .res) (fun X=>∃ n2,xK b ln c cc un T t ⟨D',FS',l',v.c⟩ n2 X∧Fr5 b (b+6) ln cc n1 n2 S X∧X.blk r9=some .res∧X.blk p12=some (.row 47 [.agg [.int .i64 x.1.fn,.int .i64 x.1.at_,.int .i64 x.1.count,.int .i64 x.1.wat,.int .i64 x.1.sub,.sl .unk (x.1.bits.map PV.bool),.sl kv (y.vals.map (PV.int .u16)),.int .u16 x.1.and_,.int .u16 x.1.or_]])) 14 Tryz.mixed Y22 Y22 Y22 Y22 (fun _=>rfl) Y22 rfl hgood (fun X ⟨n2,a1,_,a3,a4⟩=>⟨a1.unb,a4,a3⟩) Y22 ?_
  refine wK.pre (pre:=[_,_,_,_,_,_,_,_,_,_,_,_,_,_]) [0,2] hgood Y22 Y22 (fun X hX=>by
    obtain ⟨gu,gy,gr⟩:=hX
    have H:=aj gu (aj gy H)
    simp only [vq,List.filterMap_cons,List.filterMap_nil,List.getElem?_cons_zero,List.getElem?_cons_succ]
    exact au) ?_
  refine wK.callX (v:=.tuple [R.pv,.int .i64 (n9:Int)]) [(0,1),(2,3)] Y22 Y22 au au au Y22 (fun X hX q hq s9 hs9=>by
    simp only [List.mem_cons,List.not_mem_nil,or_false] at hq
    have hS0:=hcall (some .res) (fun L e=>Y17)
    rw [YC hSr] at hS0
    rcases hq with rfl | rfl
    ·obtain rfl:=Option.some.inj hs9
     refine hS0.mono ?_
     rintro r s2 ⟨rfl,Y,hY,rfl⟩
     refine ⟨rfl,Y,hY,?_⟩
     obtain ⟨_,_,_,a3,_⟩:=hY
     rw [YC a3];rfl
    ·obtain rfl:=Option.some.inj hs9
     refine (hcall (some (.row 52 [.agg [.int .i64 0,.int .i64 0,.int .i64 0,.int .i64 0,.int .i64 0,.sl .nil [],.sl .nil [],.int .u16 0,.int .u16 0,.sl .nil []]])) (fun L e=>Y17)).mono ?_
     rintro r s2 ⟨rfl,Y,hY,rfl⟩
     exact ⟨rfl,Y,hY,rfl⟩) ?_
  refine wK.pre (pre:=[_,_,_]) [1,3,4] hgood Y22 Y22 (fun X hX=>by
    obtain ⟨gu,gy,gr⟩:=hX
    have H:=aj gu (aj gy H)
    simp only [vq,List.filterMap_cons,List.filterMap_nil,List.getElem?_cons_zero,List.getElem?_cons_succ]
    exact au) ?_
  refine wK.resAlloc (id:=r9) [(0,2),(1,3)] Y22 Y22 au rfl (by rw [Tryz.zp52]<;>rfl) (fun X hX q hq=>by
    obtain ⟨gu,gy,gr⟩:=hX
    simp only [vq,List.filterMap_cons,List.filterMap_nil,List.getElem?_cons_zero,List.getElem?_cons_succ] at hq
    simp only [List.mem_cons,List.not_mem_nil,or_false] at hq
    rcases hq with rfl | rfl
    ·exact ⟨hSr,rfl⟩
    ·exact ⟨gr,rfl⟩) ?_
  refine wK.eff (v:=.junk) [(3,4)] Y22 Y22 au (fun X hX q hq=>by
    obtain ⟨gu,gy,gr⟩:=hX
    have H:=aj gu (aj gy H)
    simp only [vq,List.filterMap_cons,List.filterMap_nil,List.getElem?_cons_zero,List.getElem?_cons_succ] at hq
    simp only [List.mem_cons,List.not_mem_nil,or_false] at hq
    rcases hq with rfl
    all_goals exact au) ?_
  refine wK.nil ?_
  intro X sN hX hN
  obtain rfl:=Option.some.inj hN
  obtain ⟨n2,hUX,hFX,hXr,hXy⟩:=hX
  have hnx9:=hFX.nx
  have hcX:xK b ln c cc un T t ⟨D',FS',l',v.c⟩ n2 (X.set r9 (some (.row 52 [.agg [.int .i64 (R).fn,.int .i64 (R).code,.int .i64 (R).at_,.int .i64 (R).count,.int .i64 (R).sub,.sl .unk ((R).bits.map PV.bool),.sl .unk ((R).vals.map (PV.int .u16)),.int .u16 (R).and_,.int .u16 (R).or_,.sl .unk ((R).data.map (PV.int .u8))]]))):=hUX.hi ⟨hf9.hl,hf9.hb,hf9.hc,hf9.hu,fun j hj=>by
   rcases hFX.new j r9 hj with ⟨i',h'⟩ | h'
   ·exact hf9.hn i' h'
   ·omega⟩ _
  have hun9:(X.set r9 (some (.row 52 [.agg [.int .i64 (R).fn,.int .i64 (R).code,.int .i64 (R).at_,.int .i64 (R).count,.int .i64 (R).sub,.sl .unk ((R).bits.map PV.bool),.sl .unk ((R).vals.map (PV.int .u16)),.int .u16 (R).and_,.int .u16 (R).or_,.sl .unk ((R).data.map (PV.int .u8))]]))).blk un=some (.row 92 [.agg [.int .i64 t.unit,.int .u32 t.fns,.int .i64 t.queue,.sl .unk (t.wins.map Win.pv),.sl .unk (t.slts.map Slt.pv),.int .i64 (T:Int),.ptr ln 0 0,.ptr cc 0 0]]):=hcX.unb
  have hcb:=zjj hcX.uok.c hcX.cn (n:=(n9:Int))
  obtain ⟨S5,hS5⟩:∃ S5,(X.set r9 (some (.row 52 [.agg [.int .i64 (R).fn,.int .i64 (R).code,.int .i64 (R).at_,.int .i64 (R).count,.int .i64 (R).sub,.sl .unk ((R).bits.map PV.bool),.sl .unk ((R).vals.map (PV.int .u16)),.int .u16 (R).and_,.int .u16 (R).or_,.sl .unk ((R).data.map (PV.int .u8))]]))).set cc (some (.row 112 [(v.c.bad (n9:Int)).pv]))=S5:=⟨_,rfl⟩
  have hU5:xK b ln c cc un T t (wL q T tick i x out v).2 n2 S5:=by
   have h9:=hcX.cnt (hcX.uok.c.bad (n9:Int))
   unfold wL
   rw [← hy,hAX,← hS5]
   exact h9
  have hx5:S5.nxt=X.nxt:=by rw [← hS5];rfl
  have h59:S5.blk r9=some (.row 52 [.agg [.int .i64 (R).fn,.int .i64 (R).code,.int .i64 (R).at_,.int .i64 (R).count,.int .i64 (R).sub,.sl .unk ((R).bits.map PV.bool),.sl .unk ((R).vals.map (PV.int .u16)),.int .u16 (R).and_,.int .u16 (R).or_,.sl .unk ((R).data.map (PV.int .u8))]]):=by rw [← hS5,zd hf9.hc];exact zy _ _ _
  have hk5:∀ j,j<S2.nxt→j≠ln→j≠cc→¬ (b≤j∧j<b+6)→(∀ i,n1 i≠some j)→S5.blk j=S2.blk j:=fun j a1 a2 a3 a4 a5=>by
   rw [← hS5,zd a3,zd Y18,hFX.same j Y18 a2 a3 a4 a5];exact hSk j a1
  have hF5:Fr5 b (b+6) ln cc ns n2 s S5:=by
   refine hFr2.trans ⟨Y18,hk5,fun i' t' e=>?_⟩
   rcases hFX.new i' t' e with h' | h'
   ·exact .inl h'
   ·exact .inr Y18
  have hq5:S5.blk s.nxt=some (.row 47 [.agg [.int .i64 (q).fn,.int .i64 (q).at_,.int .i64 (q).count,.int .i64 (q).wat,.int .i64 (q).sub,.sl .unk ((q).bits.map PV.bool),.sl .unk ((q).vals.map (PV.int .u16)),.int .u16 (q).and_,.int .u16 (q).or_]]):=by
   have:=h.lin.hc;have:=h.lin.nx;have:=h.bl;have:=h.lt
   rw [hk5 s.nxt Y18 Y18 Y18 Y18 (fun j hj=>hU2.lin.notrow hj h2q)];exact h2q
  have hlt5:∀ t z,kk=.tok t z→t<S5.nxt:=fun t z e=>by have:=(htk t z e).2;omega
  have htn2:∀ t z,kk=.tok t z→∀ j,n2 j≠some t:=fun t z e j hj=>by
   rcases hFX.new j t hj with ⟨i',h'⟩ | h'
   ·exact htn t z e i' h'
   ·have:=(htk t z e).2;omega
  have hG5:yA S5 kk out.length 10:=hgr2.mono fun t e=>by
   have:=h.lin.hc;have:=h.lin.nx;have:=h.bl;have:=h.lt;have:=htk _ _ e
   exact hk5 t Y18 Y18 Y18 Y18 (htn _ _ e)
  have H:=aj hun9 (aj h59 H)
  refine rh [0,3,5,9,13,14,15,16,17] (k:=rs (k:=rr (k:=ro (pre:=[_,_,_,_,_]) (k:=?_))))
  refine zm.callw au au au Y22 ((hcb).mono ?_)
  rintro r s9 ⟨rfl,hs⟩
  subst s9
  rw [hS5]
  refine rl [0,3,5,9,13,15,16,17] (k:=rs (k:=rr (k:=ro (pre:=[_,_]) (k:=rO (k:=?_)))))
  refine zm.grow (xs:=out.map Rep.pv) (ys:=[R].map Rep.pv) au au (by simp only [go_sem,List.map_cons,List.map_nil,Rep.pv,↓reduceIte,Nat.reduceEqDiff,H]<;>rfl) Tryz.td137 (by rw [Tryz.zp52];rfl) (zp (P:=Tryz.prog) (e:=52) (f:=Rep.pv) (fun a=>⟨rfl,by rw [Tryz.cz52];rfl⟩) _) (zp (P:=Tryz.prog) (e:=52) (f:=Rep.pv) (fun a=>⟨rfl,by rw [Tryz.cz52];rfl⟩) _) (by rw [Tryz.by52];decide) (by rw [Tryz.by52];simp;omega) (by rw [Tryz.cz52,List.length_map];exact hG5) Y71 ?_
  intro k' s3 hgr' htm
  rw [Tryz.cz52,List.length_map,List.length_map] at hgr'
  rw [← List.map_append]
  have hn3:=htm.nxt
  have h3k:∀ j,j<S5.nxt→(∀ t z,kk=.tok t z→t≠j)→s3.blk j=S5.blk j:=fun j hj hk=>htm.rest j hj fun z e=>hk _ _ e rfl
  have hU3:xK b ln c cc un T t (wL q T tick i x out v).2 n2 s3:=hU5.keep hn3 fun j hj hj'=>h3k j hj fun t z e=>by
   have h9:=(htk t z e).1
   rcases hj' with rfl | hj' | rfl | rfl | ⟨i9,hi9⟩
   ·have:=h.lin.hc;have:=h.lin.nx;omega
   ·have:=h.lin.hc;have:=h.lin.nx;have:=h.bl;omega
   ·have:=h.lt;omega
   ·have:=h.lt;omega
   ·rintro rfl
    exact htn2 _ _ e _ hi9
  have hF3:Fr5 b (b+6) ln cc ns n2 s s3:=⟨by have:=hF5.nx;omega,fun j q1 q2 q3 q4 q5=>by rw [h3k j (by have:=hF5.nx;omega) fun t z e=>by have:=(htk t z e).1;omega];exact hF5.same j q1 q2 q3 q4 q5,hF5.new⟩
  have hq3:s3.blk s.nxt=some (.row 47 [.agg [.int .i64 (q).fn,.int .i64 (q).at_,.int .i64 (q).count,.int .i64 (q).wat,.int .i64 (q).sub,.sl .unk ((q).bits.map PV.bool),.sl .unk ((q).vals.map (PV.int .u16)),.int .u16 (q).and_,.int .u16 (q).or_]]):=by rw [h3k s.nxt (by have:=hF5.nx;omega) fun t z e=>(hG5.ne e s.nxt hq5 zah)];exact hq5
  have h39:s3.blk r9=some (.row 52 [.agg [.int .i64 (R).fn,.int .i64 (R).code,.int .i64 (R).at_,.int .i64 (R).count,.int .i64 (R).sub,.sl .unk ((R).bits.map PV.bool),.sl .unk ((R).vals.map (PV.int .u16)),.int .u16 (R).and_,.int .u16 (R).or_,.sl .unk ((R).data.map (PV.int .u8))]]):=by rw [h3k r9 Y18 fun t z e=>(hG5.ne e r9 h59 zah)];exact h59
  have htk3:∀ t z,k'=.tok t z→s.nxt≤t∧t<s3.nxt:=fun t z e=>by
   rcases htm.fresh t z e with ⟨z',h'⟩ | ⟨h1,h2⟩
   ·have h8:=htk t z' h';have:=hU5.lin.nx;exact ⟨h8.1,by have:=hlt5 t z' h';omega⟩
   ·have:=hF5.nx;exact ⟨Y18,h2⟩
  have htn3:∀ t z,k'=.tok t z→∀ j,n2 j≠some t:=fun t z e j hj=>by
   rcases htm.fresh t z e with ⟨z',h'⟩ | ⟨h1,h2⟩
   ·exact htn2 t z' h' j hj
   ·have:=(hU5.lin.own j t hj).2;omega
  have H:=aj h39 (aj hq3 H)
  refine rh [0,3,5,9,13,15,16,17] (k:=rs (k:=rg [0,3,5,9,15,16,17,86] (k:=rc (ht:=fun hc2=>?_) (hf:=fun hc2=>?_))))
  ·have hc:=hc2
   refine rX (k:=rs (k:=rg [8] (k:=rR (k:=?_))))
   have hstep:=zc0 (q:=q) (T:=T) (tick:=tick) (out:=out) (u:=v) hip
   rw [hxe,show (wL q T tick i x out v).1=R by unfold wL;rw [← hy,hAX]] at hstep
   have hc9:¬ R.code=0:=by simpa using hc2
   rw [if_neg hc9] at hstep
   refine Ret.allW (r':=.sl .unk ((out++[R]).map Rep.pv)) (by simp only [Tryz.f67,go_sem,↓reduceIte]<;>rfl) (by simp only [PV.weak,Zj]) ?_
   rw [hau,hstep]
   refine ⟨rfl,n2,hU3,hF3,fun r hr=>?_,by rw [List.length_append,hol];simp only [List.length_singleton];omega,?_⟩
   ·exact zpF
   ·unfold wL
    rw [← hy,hAX]
    show l'.length≤_
    omega
  ·have hc:=hc2
   refine rk (k:=rB (k:=rg [0,3,5,9,15,16,17] (k:=?_)))
   have hstep:=zc0 (q:=q) (T:=T) (tick:=tick) (out:=out) (u:=v) hip
   rw [hxe,show (wL q T tick i x out v).1=R by unfold wL;rw [← hy,hAX]] at hstep
   have hc9:R.code=0:=by simpa using hc2
   rw [if_pos hc9] at hstep
   refine Run.lp ⟨⟨i+1,out++[R],(wL q T tick i x out v).2,k',n2,rfl,Y18,by rw [List.length_append,hol];rfl,fun r hr=>?_,?_,by rw [hau,hstep],hU3,hF3,hq3,by have:=hF3.nx;have:=htm.nxt;omega,by rw [List.length_append];exact hgr',htk3,htn3⟩,?_⟩
   ·exact zpF
   ·unfold wL
    rw [← hy,hAX]
    show l'.length≤_
    omega
   ·exact Y29
 intro hJs6
 refine rs (k:=rr (k:=ro (pre:=[_,_,_,_]) (k:=rQ 27 (ht:=fun hg3=>?_) (hf:=fun hg3=>?_))))
 refine rg1 (k:=rg1 (k:=ro (pre:=[_,_]) (k:=rQ 31 (ht:=fun hg7=>?_) (hf:=fun hg7=>?_))))
 have hm1:q.fn=22:=of_decide_eq_true hg3
 have hm2:x.2=true:=by simpa [hm1] using hg7
 have hi1:i=1:=zlf hps hm1 hip (by rw [hxe];exact hm2)
 obtain ⟨R0,out2,ho⟩:∃ R0 l,out=R0::l:=by
  cases out with
  | nil=>simp at hol;omega
  | cons a l=>exact ⟨a,l,rfl⟩
 have hR0:(out.map Rep.pv)[0]? =some (.agg [.int .i64 (R0).fn,.int .i64 (R0).code,.int .i64 (R0).at_,.int .i64 (R0).count,.int .i64 (R0).sub,.sl .unk ((R0).bits.map PV.bool),.sl .unk ((R0).vals.map (PV.int .u16)),.int .u16 (R0).and_,.int .u16 (R0).or_,.sl .unk ((R0).data.map (PV.int .u8))]):=by rw [ho];rfl
 have hol0:(0<out.length)=True:=eq_true (by rw [ho];exact Nat.succ_pos _)
 have H:=aj hR0 (aj hol0 H)
 refine rg1 (k:=rg1 (k:=rg1 (k:=rg1 (k:=rg1 (k:=rg1 (k:=rh [0,3,5,9,10,12,15,16,17,38] (k:=rc (ht:=fun hc1=>?_) (hf:=fun hc1=>?_))))))))
 ·have hc:=hc1
  have hm3:R0.vals.length=1:=Y79
  have hm:q.fn=22∧x.2=true∧(out.headD zeroP).vals.length=1:=⟨hm1,hm2,by rw [ho];exact hm3⟩
  obtain ⟨m0,hm0⟩:∃ v,R0.vals=[v]:=List.length_eq_one_iff.1 hm3
  have hy2:y={ x.1 with vals:=[Xj m0 q] }:=by
   rw [hy]
   unfold ZM
   rw [if_pos hm,ho]
   show _=_
   simp only [List.headD_cons,hm0]
  have hv0:(R0.vals.map (PV.int .u16))[0]? =some (.int .u16 m0):=by rw [hm0];rfl
  have hvl0:(0<R0.vals.length)=True:=eq_true (by rw [hm0];exact Nat.succ_pos _)
  have hmk:zR .or .u16 (zR .and .u16 m0 q.and_) (zR .andNot .u16 q.or_ q.and_)=Xj m0 q:=rfl
  have H:=aj hv0 (aj hvl0 (aj hmk H))
  refine rH 18 [17] [[false],[true]] [S1,(S1.set p12 (some (.row 47 [.agg [.int .i64 x.1.fn,.int .i64 x.1.at_,.int .i64 x.1.count,.int .i64 x.1.wat,.int .i64 x.1.sub,.sl .unk (x.1.bits.map PV.bool),.sl .clip [.int .u16 (Xj m0 q)],.int .u16 x.1.and_,.int .u16 x.1.or_]])))] Tryz.mixed (k:=?_)
  refine dP [0] (pre:=[_,_,_,_,_,_,_,_,_,_,_,_,_,_,_,_,_]) (k:=?_)
  refine dE [(0,1)] (k:=?_)
  refine zO.nil ?_
  refine rl [0,3,5,9,10,12,15,16,17] (k:=?_)
  exact hJs6 _ _ ⟨.clip,rfl,⟨_,rfl⟩,by rw [zy,hy2];rfl,by rw [hy2]⟩
 refine jO 1 ?_;rotate_left
 refine jO 2 ?_;rotate_left
 refine rg0 (k:=rg0 (k:=ro (pre:=[_,_]) (k:=rQ 31 (ht:=fun hg7=>?_) (hf:=fun hg7=>?_))))
 ·cases hg7
 refine jO 2 ?_;rotate_left
 ·have hc:=hc0
  refine rX (k:=rs (k:=rg [8] (k:=rR (k:=?_))))
  have hie:i=ps.length:=Y30
  rw [hie,List.drop_length] at hau
  refine Ret.allW (r':=.sl .unk (out.map Rep.pv)) (by simp only [Tryz.f67,go_sem,↓reduceIte]<;>rfl) (by simp only [PV.weak,Zj]) ?_
  rw [hau]
  exact ⟨rfl,n1,hU,hFr,hoo,by show out.length≤6;omega,by show v.l.length≤_;omega⟩
 any_goals
  refine jI 2 ?_
  refine rg0 (k:=rg0 (k:=rg0 (k:=rg0 (k:=rg0 (k:=rg0 (k:=rh [0,3,5,9,10,12,15,16,17,38] (k:=rc (ht:=fun hc1=>?_) (hf:=fun hc1=>?_))))))))
  ·cases hc1
  refine jO 1 ?_;rotate_left
 any_goals
  refine jI 1 ?_
  have hc:=hc1
  refine jO 3 ?_;rotate_left
 any_goals
  refine jI 3 ?_
  refine rk (k:=?_)
  refine jO 4 ?_;rotate_left
 any_goals
  refine jI 4 ?_
  have hy2:y=x.1:=by
   rw [hy]
   unfold ZM
   rw [if_neg]
   rintro ⟨e1,e2,e3⟩
   first
    | exact absurd e1 (by simpa using hg3)
    |(rw [e2] at hg7;simp [e1] at hg7;done)
    |(rw [ho] at e3;have e3:R0.vals.length=1:=e3;have h9:=of_decide_eq_false hc1;omega)
  refine jO 5 ?_;rotate_left
 any_goals
  refine jI 5 ?_
  refine Run.prune [0,3,5,9,10,12,15,16,17] rfl ?_
  refine jO 6 ?_;rotate_left
 any_goals
  refine jI 6 ?_
  exact hJs6 _ _ ⟨.unk,rfl,⟨_,(YC hx12).symm⟩,by rw [hy2];exact hx12,by rw [hy2]<;>rfl⟩
end Go.Proofs
namespace Go.Proofs
open Go.PM
set_option maxHeartbeats 2000000
theorem za8 {xs:List Int} (hne:xs≠[]) (hb:xs.length*2≤140737488355328) {s:St}:za Tryz.prog 44 [.sl .any (xs.map (PV.int .u16))] s (fun r s'=>r=.own s.nxt 0 xs.length∧s'=s.new (.row 39 (xs.map (PV.int .u16)))):=by
 refine go Tryz.func44 (k:=fun hwf H=>?_)
 refine rs (k:=rg [0] (k:=rs (k:=rs (k:=rg [0,4] (k:=rc (ht:=fun hc0=>?_) (hf:=fun hc0=>?_))))))
 ·cases hc0
 ·refine rk (k:=rs (k:=rr (k:=rO (k:=ro (pre:=[_]) (k:=?_)))))
  refine zm.appendFirst au au au Tryz.td23 zeY zfz (zp (P:=Tryz.prog) (e:=39) (f:=PV.int .u16) (fun a=>⟨rfl,zdS⟩) _) zhy zme (v:=.own s.nxt 0 xs.length) (s':=s.new (.row 39 (xs.map (PV.int .u16)))) (by unfold wB;dsimp only;rw [if_pos (by simpa using hne)];simp) ?_
  refine rh [2] (k:=rR (k:=?_))
  exact Ret.all (by simp only [Tryz.f44,go_sem,↓reduceIte]<;>rfl) ⟨rfl,rfl⟩
theorem zhu {xs:List Int} (hne:xs≠[]) (hb:xs.length*2≤140737488355328) {s:St}:za Tryz.prog 44 [.sl .unk (xs.map (PV.int .u16))] s (fun r s'=>r=.own s.nxt 0 xs.length∧s'=s.new (.row 39 (xs.map (PV.int .u16)))) :=
 za.unk1 (fun h=>absurd (by simpa using h) hne) (za8 hne hb)
theorem zc7 {id n:Nat} {els:List PV} {s:St} (hb:s.blk id=some (.row 39 els)):za Tryz.prog 91 [.own id 0 n] s (fun r s'=>r=.own id 0 n∧s'=s):=by
 refine go Tryz.func91 (k:=fun hwf H=>?_)
 refine rs (k:=rg [0] (k:=rs (k:=rr (k:=ro (pre:=[_,_,_,_,_]) (k:=?_)))))
 refine zm.clipOwn (el:=39) au au au au Tryz.td23 (by rw [Tryz.cz39];decide) hb rfl ?_
 refine rh [2] (k:=rR (k:=?_))
 exact Ret.all (by simp only [Tryz.f91,go_sem,↓reduceIte]<;>rfl) ⟨rfl,rfl⟩
theorem zdO {s:St} {fn sub:Int} {id t:Nat} {l:List Int} (hl:1=l.length) (hb:s.blk id=some (.row t (l.map (PV.int .u16)))):[PV.agg [.int .i64 fn,.int .i64 0,.int .i64 0,.int .i64 0,.int .i64 sub,.sl .nil [],.own id 0 1,.int .u16 0,.int .u16 0,.sl .nil []]].map (PV.frz false s (fun j=>j != id) 3)=[PV.agg [.int .i64 fn,.int .i64 0,.int .i64 0,.int .i64 0,.int .i64 sub,.sl .nil [],.sl .unk (l.map (PV.int .u16)),.int .u16 0,.int .u16 0,.sl .nil []]]:=by
 have h:=Vx (s:=s) (q:=fun j=>j != id) (id:=id) (n:=1) (l:=l) hl Y71 hb
 show [PV.agg [PV.int .i64 fn,PV.int .i64 0,PV.int .i64 0,PV.int .i64 0,PV.int .i64 sub,PV.sl .nil [],PV.frz false s (fun j=>j != id) 2 (.own id 0 1),PV.int .u16 0,PV.int .u16 0,PV.sl .nil []]]=_
 rw [h]
attribute [local go_sem] zf ye Req.pv Cn.pv
theorem ziK {p:Prop} (h:p:=by simp only [Tryz.f65,go_sem,↓reduceIte]<;>rfl):p:=h
theorem znz {p:Prop} (h:p:=by simp only [PV.blw,PV.blws,uo,and_true,true_and];exact ⟨fun t z e=>Y17,fun t z e=>Y17,fun t z e=>Y17⟩):p:=h
theorem zog {p:Prop} (h:p:=by rw [hd];simp only [PV.weak,PV.weaks,Rep.pv,zf,zA,zB,h8]<;>rfl):p:=h
theorem zjx {p:Prop} (h:p:=by rw [hS];exact zN):p:=h
theorem zpb {p:Prop} (h:p:=by rw [hd];simp only [PV.weak,PV.weaks,Rep.pv,zf,zA,zB]<;>rfl):p:=h
set_option maxRecDepth 100000 in
theorem zlh {cc:Nat} {c:Cn} (hc:c.ok) {s:St} (hb:s.blk cc=some (.row 112 [c.pv])) {q:Req} (hq:q.ok) {unit:Int}:za Tryz.prog 65 [.ptr cc 0 0,q.pv,.int .i64 unit] s (fun r s'=>r=(c.doC q unit).1.pv∧s'.blk cc=some (.row 112 [(c.doC q unit).2.pv])∧s.nxt≤s'.nxt∧∀ j,j<s.nxt→j≠cc→s'.blk j=s.blk j):=by
 refine go Tryz.func65 (k:=fun hwf H=>?_)
 have hcO:=hc
 have hlt:=xN hwf hb
 rw [Cn.pv] at hb
 have hnv:=hq.nv
 have and255:zR .and .i64 unit 255=unit%256:=VW unit
 have hwu:IntKind.u8.wrap (unit%256)=unit%256:=zan
 have H:=aj and255 (aj hwu (aj hb H))
 refine rs (k:=rg [0,2,4,6] (k:=rs (k:=rb (k:=rs (k:=rg [0,2,4,6,10] (k:=rc (ht:=fun hc0=>?_) (hf:=fun hc0=>?_)))))))
 have hc:=hc0
 refine rs (k:=rr (k:=ro (pre:=[_,_]) (k:=rC (h:=yf hq.fn Y20) (k:=rh [6] (k:=rR (k:=?_))))))
 simp only [Bool.and_eq_true,Bool.and_eq_false_iff,Bool.or_eq_true,Bool.or_eq_false_iff,Bool.not_eq_true',Bool.not_eq_false',decide_eq_true_eq,decide_eq_false_iff_not] at *
 have hd:c.doC q unit=(zE q.fn 1,c):=by
  unfold Cn.doC
  rw [if_pos hc0]
 refine jO 1 ?_;rotate_left
 have hc:=hc0
 refine rs (k:=rr (k:=ro (pre:=[_]) (k:=rC (h:=Ym (q:=q)) (k:=rh [0,2,4,6,22] (k:=rc (ht:=fun hc1=>?_) (hf:=fun hc1=>?_))))))
 have hc:=hc1
 refine rs (k:=rr (k:=ro (pre:=[_,_]) (k:=rC (h:=yf hq.fn Y20) (k:=rh [6] (k:=rR (k:=?_))))))
 simp only [Bool.and_eq_true,Bool.and_eq_false_iff,Bool.or_eq_true,Bool.or_eq_false_iff,Bool.not_eq_true',Bool.not_eq_false',decide_eq_true_eq,decide_eq_false_iff_not] at *
 have hd:c.doC q unit=(zE q.fn 3,c):=by
  unfold Cn.doC
  rw [if_neg Y18,if_pos hc1]
 refine jO 1 ?_;rotate_left
 have hc:=hc1
 refine rs (k:=rg [0,2,4,6,29] (k:=rc (ht:=fun hc2=>?_) (hf:=fun hc2=>?_)))
 have hc:=hc2
 refine rs (k:=rr (k:=ro (pre:=[_,_,_,_,_]) (k:=rO (k:=rh [6] (k:=rR (k:=?_))))))
 simp only [Bool.and_eq_true,Bool.and_eq_false_iff,Bool.or_eq_true,Bool.or_eq_false_iff,Bool.not_eq_true',Bool.not_eq_false',decide_eq_true_eq,decide_eq_false_iff_not] at *
 have hd:c.doC q unit=((⟨17,0,0,0,0,[],[],0,0,[unit%256,255]⟩:Rep),c):=by
  unfold Cn.doC
  rw [if_neg Y18,if_neg Y18,if_pos hc2]
 refine Ret.allW (r':=(c.doC q unit).1.pv) ziK (by rw [hd];simp only [PV.weak,PV.weaks,Rep.pv,zf,zA,zB,hc2]<;>rfl) ?_
 refine jO 2 ?_;rotate_left
 have hc:=hc2
 refine rk (k:=rB (k:=rs (k:=?_)))
 have hr0:zD q=0:=by simpa using hc1
 have h8:q.fn=8:=by
  simp only [Bool.and_eq_false_iff,Bool.not_eq_false',decide_eq_true_eq,decide_eq_false_iff_not] at hc0 hc2
  omega
 have hlen:q.vals.length=1:=by
  have h9:=(vF hr0).nv
  unfold uN at h9
  rw [if_pos (.inr h8)] at h9
  omega
 obtain ⟨v,hv⟩:=List.length_eq_one_iff.1 hlen
 have hne:q.vals≠[]:=by rw [hv];exact List.cons_ne_nil _ _
 have hv0:(q.vals.map (PV.int .u16))[0]? =some (.int .u16 v):=by rw [hv];rfl
 have hvl:(0<q.vals.length)=True:=eq_true Y18
 refine Run.reserve ?_
 refine Run.genS fun S0 hS=>?_
 have hn0:S0.nxt=s.nxt+3:=UB
 have r70:S0.blk (s.nxt+2)=some .res:=zjx
 have r40:S0.blk s.nxt=some (.row 47 [.agg [.int .i64 q.fn,.int .i64 q.at_,.int .i64 q.count,.int .i64 q.wat,.int .i64 q.sub,.sl .unk (q.bits.map PV.bool),.sl .unk (q.vals.map (PV.int .u16)),.int .u16 q.and_,.int .u16 q.or_]]):=Y43
 have r60:S0.blk (s.nxt+1)=some (.row 52 [.agg [.int .i64 0,.int .i64 0,.int .i64 0,.int .i64 0,.int .i64 0,.sl .nil [],.sl .nil [],.int .u16 0,.int .u16 0,.sl .nil []]]):=Y43
 have rc0:S0.blk cc=some (.row 112 [.agg [.int .i64 c.m,.int .i64 c.e,.int .i64 c.b]]):=by rw [hS];simp (disch:=first | omega |(simp only [zt,zq]<;>omega) | fail) only [go_sem];exact hb
 have lo0:∀ j,j<s.nxt→S0.blk j=s.blk j:=fun j hj=>Y51
 clear hS
 obtain ⟨W0,hW0⟩:∃ z,S0.new (.row 39 (q.vals.map (PV.int .u16)))=z:=⟨_,rfl⟩
 have hcl:∀ S:St,S.nxt=s.nxt+3→za Tryz.prog 44 [.sl .unk (q.vals.map (PV.int .u16))] S (fun r s'=>r=.own (s.nxt+3) 0 1∧s'=S.new (.row 39 (q.vals.map (PV.int .u16)))):=fun S h=>by
  have h9:=zhu hne Y18 (s:=S)
  rw [h,hlen] at h9
  exact h9
 have k0:=hcl S0 hn0
 rw [hW0] at k0
 have k7:∀ z,za Tryz.prog 44 [.sl .unk (q.vals.map (PV.int .u16))] (S0.set (s.nxt+2) z) (fun r s'=>r=.own (s.nxt+3) 0 1∧s'=W0.set (s.nxt+2) z):=fun z=>by
  have h9:=hcl (S0.set (s.nxt+2) z) hn0
  rw [← zaB _ _ _ _ Y18,hW0] at h9
  exact h9
 have hwn:W0.nxt=s.nxt+4:=by rw [← hW0];simp only [zq,hn0]
 have w7:W0.blk (s.nxt+2)=some .res:=by rw [← hW0,zg Y18];exact r70
 have w4:W0.blk s.nxt=some (.row 47 [.agg [.int .i64 q.fn,.int .i64 q.at_,.int .i64 q.count,.int .i64 q.wat,.int .i64 q.sub,.sl .unk (q.bits.map PV.bool),.sl .unk (q.vals.map (PV.int .u16)),.int .u16 q.and_,.int .u16 q.or_]]):=by rw [← hW0,zg Y18];exact r40
 have w6:W0.blk (s.nxt+1)=some (.row 52 [.agg [.int .i64 0,.int .i64 0,.int .i64 0,.int .i64 0,.int .i64 0,.sl .nil [],.sl .nil [],.int .u16 0,.int .u16 0,.sl .nil []]]):=by rw [← hW0,zg Y18];exact r60
 have wc:W0.blk cc=some (.row 112 [.agg [.int .i64 c.m,.int .i64 c.e,.int .i64 c.b]]):=by rw [← hW0,zg Y18];exact rc0
 have wl:∀ j,j<s.nxt→W0.blk j=s.blk j:=fun j hj=>by rw [← hW0,zg Y18];exact lo0 j hj
 have ww:W0.blk (s.nxt+3)=some (.row 39 (q.vals.map (PV.int .u16))):=by rw [← hW0,← hn0];exact zN
 have hcp:∀ z,(W0.set (s.nxt+2) z).blk (s.nxt+3)=some (.row 39 (q.vals.map (PV.int .u16))):=fun z=>by rw [zd Y18];exact ww
 have H:=aj r40 (aj r60 (aj w4 (aj w6 (aj hwn H))))
 refine rH 11 [6,9,10] [[false,false,false],[true,false,false],[false,true,false],[true,true,false],[true,true,true]] [S0,W0,(S0.set (s.nxt+2) (some (.row 52 [.agg [.int .i64 0,.int .i64 0,.int .i64 0,.int .i64 0,.int .i64 0,.sl .nil [],.sl .nil [],.int .u16 0,.int .u16 0,.sl .nil []]]))),(W0.set (s.nxt+2) (some (.row 52 [.agg [.int .i64 0,.int .i64 0,.int .i64 0,.int .i64 0,.int .i64 0,.sl .nil [],.sl .nil [],.int .u16 0,.int .u16 0,.sl .nil []]]))),(W0.set (s.nxt+2) (some (.row 52 [.agg [.int .i64 q.fn,.int .i64 0,.int .i64 0,.int .i64 0,.int .i64 q.sub,.sl .nil [],.own (s.nxt+3) 0 1,.int .u16 0,.int .u16 0,.sl .nil []]])))] Tryz.mixed (k:=?_)
 refine dP [0,1,2,3] (pre:=[_,_,_,_,_,_]) (k:=?_)
 refine dX (v:=.own (s.nxt+3) 0 1) [(0,1),(2,3)] (h:=by intro q hq;simp only [List.mem_cons,List.not_mem_nil,or_false] at hq;rcases hq with rfl | rfl<;>first | exact k0 | exact k7 _) (k:=?_)
 refine dC [1,3] (h:=fun s9 hs9=>by simp only [List.mem_cons,List.not_mem_nil,or_false] at hs9;rcases hs9 with rfl | rfl<;>first | exact zc7 ww | exact zc7 (hcp _)) (k:=?_)
 refine dP [1,3] (pre:=[_]) (k:=?_)
 refine zO.resAlloc (id:=(s.nxt+2)) [(0,2),(1,3)] _ Y22 pq au rfl (by rw [Tryz.zp52]<;>rfl) (by intro q hq;simp only [List.mem_cons,List.not_mem_nil,or_false] at hq;rcases hq with rfl | rfl<;>refine ⟨by simp (disch:=first | omega |(simp only [zt,zq]<;>omega) | fail) only [go_sem]<;>assumption,rfl⟩) ?_
 refine dE [(3,4)] (k:=?_)
 refine zO.nil ?_
 refine rl [0,4,6,7] (k:=rs (k:=rs (k:=?_)))
 refine Run.genS fun S7 hS=>?_
 have hn7:S7.nxt=s.nxt+4:=by rw [hS];exact hwn
 have y4:S7.blk s.nxt=some (.row 47 [.agg [.int .i64 q.fn,.int .i64 q.at_,.int .i64 q.count,.int .i64 q.wat,.int .i64 q.sub,.sl .unk (q.bits.map PV.bool),.sl .unk (q.vals.map (PV.int .u16)),.int .u16 q.and_,.int .u16 q.or_]]):=by rw [hS,zd Y18];exact w4
 have y6:S7.blk (s.nxt+1)=some (.row 52 [.agg [.int .i64 0,.int .i64 0,.int .i64 0,.int .i64 0,.int .i64 0,.sl .nil [],.sl .nil [],.int .u16 0,.int .u16 0,.sl .nil []]]):=by rw [hS,zd Y18];exact w6
 have y7:S7.blk (s.nxt+2)=some (.row 52 [.agg [.int .i64 q.fn,.int .i64 0,.int .i64 0,.int .i64 0,.int .i64 q.sub,.sl .nil [],.own (s.nxt+3) 0 1,.int .u16 0,.int .u16 0,.sl .nil []]]):=by rw [hS];exact zy _ _ _
 have yc:S7.blk cc=some (.row 112 [.agg [.int .i64 c.m,.int .i64 c.e,.int .i64 c.b]]):=by rw [hS,zd Y18];exact wc
 have yw:S7.blk (s.nxt+3)=some (.row 39 (q.vals.map (PV.int .u16))):=by rw [hS];exact hcp _
 have yl:∀ j,j<s.nxt→S7.blk j=s.blk j:=fun j hj=>by rw [hS,zd Y18];exact wl j hj
 clear hS
 have H:=aj y4 (aj y6 (aj y7 (aj yc (aj hv0 (aj hvl trivial)))))
 refine rg [0,4,6,7,50] (k:=rb (k:=rs (k:=rg [0,4,6,7,50,51] (k:=rc (ht:=fun hc3=>?_) (hf:=fun hc3=>?_)))))
 ·have hc:=hc3
  refine rs (k:=?_)
  refine Run.thawB (s.nxt+2) (s.nxt+3) 3 (els':=[.agg [.int .i64 q.fn,.int .i64 0,.int .i64 0,.int .i64 0,.int .i64 q.sub,.sl .nil [],.sl .unk (q.vals.map (PV.int .u16)),.int .u16 0,.int .u16 0,.sl .nil []]]) y7 Y18 (zdO (l:=q.vals) hlen.symm yw) znz ?_
  refine rg [6] (k:=rR (k:=?_))
  simp only [Bool.and_eq_true,Bool.and_eq_false_iff,Bool.or_eq_true,Bool.or_eq_false_iff,Bool.not_eq_true',Bool.not_eq_false',decide_eq_true_eq,decide_eq_false_iff_not] at *
  have hd:c.doC q unit=((⟨8,0,0,0,q.sub,[],q.vals,0,0,[]⟩:Rep),c):=by
   unfold Cn.doC
   rw [if_neg Y18,if_neg Y18,if_neg Y18,if_pos hc3]
  refine Ret.allW (r':=(c.doC q unit).1.pv) ziK zog ?_
  rw [hd]
  exact ⟨rfl,by rw [zd Y18,zd Y18,zd Y18];exact yc,by show s.nxt≤S7.nxt;omega,fun j hj hjc=>by rw [zd Y18,zd Y18,zd Y18];exact yl j hj⟩
 have hc:=hc3
 refine rs (k:=rg [0,4,6,7,54] (k:=rc (ht:=fun hc4=>?_) (hf:=fun hc4=>?_)))
 ·have hc:=hc4
  refine rs (k:=rr (k:=ro (pre:=[_]) (k:=?_)))
  refine zm.callw au au au Y22 ((zeW (c:=c) yc).mono ?_)
  rintro r s9 ⟨rfl,hs⟩
  subst s9
  refine rl [6,7] (k:=rs (k:=?_))
  have yc2:=yc
  refine Run.thawB (s.nxt+2) (s.nxt+3) 3 (els':=[.agg [.int .i64 q.fn,.int .i64 0,.int .i64 0,.int .i64 0,.int .i64 q.sub,.sl .nil [],.sl .unk (q.vals.map (PV.int .u16)),.int .u16 0,.int .u16 0,.sl .nil []]]) (by rw [zd Y18];exact y7) Y18 (zdO (l:=q.vals) hlen.symm (by rw [zd Y18];exact yw)) znz ?_
  refine rg [6] (k:=rR (k:=?_))
  simp only [Bool.and_eq_true,Bool.and_eq_false_iff,Bool.or_eq_true,Bool.or_eq_false_iff,Bool.not_eq_true',Bool.not_eq_false',decide_eq_true_eq,decide_eq_false_iff_not] at *
  have hd:c.doC q unit=((⟨8,0,0,0,q.sub,[],q.vals,0,0,[]⟩:Rep),(⟨0,0,0⟩:Cn)):=by
   unfold Cn.doC
   rw [if_neg Y18,if_neg Y18,if_neg Y18,if_neg Y18,if_pos hc4]
  refine Ret.allW (r':=(c.doC q unit).1.pv) ziK zog ?_
  rw [hd]
  exact ⟨rfl,by rw [zd Y18,zd Y18,zd Y18];exact zy _ _ _,by show s.nxt≤S7.nxt;omega,fun j hj hjc=>by rw [zd Y18,zd Y18,zd Y18,zd hjc];exact yl j hj⟩
 have hc:=hc4
 refine rk (k:=rB (k:=rs (k:=rr (k:=ro (pre:=[_,_,_]) (k:=rC (h:=zcQ (c:=c) hcO yc) (k:=rh [4,6,7,8,9] (k:=rs (k:=rs (k:=rr (k:=ro (pre:=[_,_,_]) (k:=rQ 68 (ht:=fun hg2=>?_) (hf:=fun hg2=>?_))))))))))))
 refine rg0 (k:=rg0 (k:=rg0 (k:=rg0 (k:=rg0 (k:=rh [4,6,7,8,74] (k:=rc (ht:=fun hc5=>?_) (hf:=fun hc5=>?_)))))))
 refine jO 3 ?_;rotate_left
 ·cases hc5
 refine rg1 (k:=rg1 (k:=rg1 (k:=rg1 (k:=rg1 (k:=rh [4,6,7,8,74] (k:=rc (ht:=fun hc5=>?_) (hf:=fun hc5=>?_)))))))
 refine jO 3 ?_;rotate_left
 ·have hc:=hc5
  refine rk (k:=rs (k:=?_))
  have hone:((0:Int)<((1:Nat):Int))=True:=eq_true Y19
  have H:=aj yw (aj hone H)
  refine rg [6,7] (k:=rs (k:=?_))
  refine Run.genS fun S8 hS8=>?_
  have hn8:S8.nxt=s.nxt+4:=by rw [hS8];exact hn7
  have y7w:S8.blk (s.nxt+2)=some (.row 52 [.agg [.int .i64 q.fn,.int .i64 0,.int .i64 0,.int .i64 0,.int .i64 q.sub,.sl .nil [],.own (s.nxt+3) 0 1,.int .u16 0,.int .u16 0,.sl .nil []]]):=by rw [hS8,zd Y18];exact y7
  have y7v:S8.blk (s.nxt+3)=some (.row 39 ([(c.get q.sub).getD 0].map (PV.int .u16))):=by rw [hS8,zy,hv];rfl
  have z6:S8.blk (s.nxt+1)=some (.row 52 [.agg [.int .i64 0,.int .i64 0,.int .i64 0,.int .i64 0,.int .i64 0,.sl .nil [],.sl .nil [],.int .u16 0,.int .u16 0,.sl .nil []]]):=by rw [hS8,zd Y18];exact y6
  have zc:S8.blk cc=some (.row 112 [.agg [.int .i64 c.m,.int .i64 c.e,.int .i64 c.b]]):=by rw [hS8,zd Y18];exact yc
  have zl:∀ j,j<s.nxt→S8.blk j=s.blk j:=fun j hj=>by rw [hS8,zd Y18];exact yl j hj
  clear hS8
  have H:=aj z6 trivial
  refine Run.thawB (s.nxt+2) (s.nxt+3) 3 (els':=[.agg [.int .i64 q.fn,.int .i64 0,.int .i64 0,.int .i64 0,.int .i64 q.sub,.sl .nil [],.sl .unk ([(c.get q.sub).getD 0].map (PV.int .u16)),.int .u16 0,.int .u16 0,.sl .nil []]]) y7w Y18 (zdO (l:=[(c.get q.sub).getD 0]) rfl y7v) znz ?_
  refine rg [6] (k:=rR (k:=?_))
  simp only [Bool.and_eq_true,Bool.and_eq_false_iff,Bool.or_eq_true,Bool.or_eq_false_iff,Bool.not_eq_true',Bool.not_eq_false',decide_eq_true_eq,decide_eq_false_iff_not] at *
  have hd:c.doC q unit=((⟨8,0,0,0,q.sub,[],[(c.get q.sub).getD 0],0,0,[]⟩:Rep),c):=by
   unfold Cn.doC
   rw [if_neg Y18,if_neg Y18,if_neg Y18,if_neg Y18,if_neg Y18]
   cases hg:c.get q.sub with
   | none=>rw [hg] at hg2;cases hg2
   | some n =>
     simp only [hv,List.headD_cons,Option.getD_some]
     rw [if_pos hc5]
  refine Ret.allW (r':=(c.doC q unit).1.pv) ziK zog ?_
  rw [hd]
  exact ⟨rfl,by rw [zd Y18,zd Y18,zd Y18];exact zc,by show s.nxt≤S8.nxt;omega,fun j hj hjc=>by rw [zd Y18,zd Y18,zd Y18];exact zl j hj⟩
 any_goals
  refine jI 3 ?_
  have hc:=hc5
  refine jO 4 ?_;rotate_left
 any_goals
  refine jI 4 ?_
  refine rs (k:=rr (k:=ro (pre:=[_,_]) (k:=rC (h:=yf hq.fn Y20) (k:=rh [6] (k:=rR (k:=?_))))))
  refine jO 5 ?_;rotate_left
 any_goals
  refine jI 5 ?_
  simp only [Bool.and_eq_true,Bool.and_eq_false_iff,Bool.or_eq_true,Bool.or_eq_false_iff,Bool.not_eq_true',Bool.not_eq_false',decide_eq_true_eq,decide_eq_false_iff_not] at *
  refine jO 6 ?_;rotate_left
 any_goals
  refine jI 6 ?_
  have hd:c.doC q unit=(zE q.fn 3,c):=by
   unfold Cn.doC
   rw [if_neg Y18,if_neg Y18,if_neg Y18,if_neg Y18,if_neg Y18]
   cases hg:c.get q.sub with
   | none=>rfl
   | some n =>
     simp only [hv,List.headD_cons]
     rw [if_neg (by first | exact hc5 |(rw [hg] at hg2;cases hg2))]
  refine jO 7 ?_;rotate_left
 any_goals
  refine jI 1 ?_
  refine Ret.allW (r':=(c.doC q unit).1.pv) ziK zpb ?_
  refine jO 2 ?_;rotate_left
 any_goals
  refine jI 7 ?_
  refine Ret.allW (r':=(c.doC q unit).1.pv) ziK zpb ?_
  refine jO 8 ?_;rotate_left
 any_goals
  refine jI 2 ?_
  rw [hd]
  refine jO 9 ?_;rotate_left
 any_goals
  refine jI 9 ?_
  exact ⟨rfl,by simp (disch:=first | omega |(simp only [zt,zq]<;>omega) | fail) only [go_sem];exact hb,by simp only [zt,zq];omega,fun j hj hjc=>znR⟩
 any_goals
  refine jI 8 ?_
  rw [hd]
  refine jO 10 ?_;rotate_left
 any_goals
  refine jI 10 ?_
  exact ⟨rfl,by rw [zd Y18];exact yc,by show s.nxt≤S7.nxt;omega,fun j hj hjc=>by rw [zd Y18];exact yl j hj⟩
end Go.Proofs
namespace Go.Proofs
open Go.PM
set_option maxHeartbeats 2000000
theorem zo2 {b:List Int} (h:OkB b):0≤fnF b∧fnF b≤127:=by
 unfold fnF
 split<;>omega
def yk (t:Ten) (T:Nat) (mun:Int) (b:List Int) (tick:Int) (u:Us):Rep × Us :=
 if ¬ mun=t.unit then (zE (fnF b) 10,u) else if (xx b).2=12 then (zE (fnF b) 3,u) else if ¬ (xx b).2=0 then (zE (fnF b) 1,u)
 else if ¬ xr t (xx b).1=0 then (zE (fnF b) (xr t (xx b).1),u) else if uR (xx b).1=true then ((u.c.doC (xx b).1 t.unit).1,{ u with c:=(u.c.doC (xx b).1 t.unit).2 })
 else (xz t (xx b).1 (xY (xx b).1 T tick 0 (yy t (xx b).1).1 [] u).1,(xY (xx b).1 T tick 0 (yy t (xx b).1).1 [] u).2)
def yq (t:Ten) (T:Nat) (mun:Int) (b:List Int) (tick:Int) (u:Us):List Int × Us :=
 (yO (yk t T mun b tick { u with c:=u.c.msg }).1,if ¬ (yk t T mun b tick { u with c:=u.c.msg }).1.code=0 then { (yk t T mun b tick { u with c:=u.c.msg }).2 with c:=(yk t T mun b tick { u with c:=u.c.msg }).2.c.exc } else (yk t T mun b tick { u with c:=u.c.msg }).2)
attribute [local go_sem] Zj Yt zf ye Req.pv
theorem zot {p:Prop} (h:p:=by rw [hA];first | exact XD _ | exact (XD _).symm | rfl):p:=h
theorem znw {p:Prop} (h:p:=by simp only [Tryz.f31,go_sem,↓reduceIte]<;>rfl):p:=h
set_option maxRecDepth 100000 in
theorem zeU {b ln c cc un T:Nat} {t:Ten} {u:Us} {ns:Nat→Option Nat} {s:St} (h:xK b ln c cc un T t u ns s) (hll:u.l.length≤70000) {pdu:List Int} (hb:OkB pdu) (hpl:pdu.length≤100000) {mid mun tick:Int} (ht:0≤tick∧tick≤1000000000) :
  za Tryz.prog 31 [.ptr un 0 0,.agg [.int .i64 mid,.int .i64 mun,.sl .unk (pdu.map (PV.int .u8))],.int .i64 tick] s (fun r s'=>r=(yk t T mun pdu tick u).1.pv∧∃ ns',xK b ln c cc un T t (yk t T mun pdu tick u).2 ns' s'∧Fr5 b (b+6) ln cc ns ns' s s'∧(yk t T mun pdu tick u).1.ok∧(yk t T mun pdu tick u).2.l.length≤u.l.length+18):=by
 refine go Tryz.func31 (k:=fun hwf H=>?_)
 obtain ⟨q,hqe⟩:∃ q,q=(xx pdu).1:=⟨_,rfl⟩
 obtain ⟨wy,hw⟩:∃ w,w=(xx pdu).2:=⟨_,rfl⟩
 have hqo:q.ok:=by rw [hqe];exact zbZ hb Y18
 obtain ⟨ps,hps⟩:∃ p,p=(yy t q).1:=⟨_,rfl⟩
 obtain ⟨cd,hcd⟩:∃ p,p=xr t q:=⟨_,rfl⟩
 have hcb:=zc3 t q
 rw [← hcd] at hcb
 have hfb:=zo2 hb
 have hfi:I64 (fnF pdu):=Y76
 refine rs (k:=rg [0,2,4,6] (k:=rs (k:=rr (k:=ro (pre:=[_,_]) (k:=rC (h:=zck hb) (k:=rh [0,2,4,6,7] (k:=rs (k:=rr (k:=ro (pre:=[_,_]) (k:=?_))))))))))
 refine zm.callw au au au Y22 ((zfE hb Y18).mono ?_)
 rintro r s9 ⟨rfl,hs⟩
 subst s9
 rw [← hqe,← hw]
 refine rh [0,2,4,6,7,8,9] (k:=rs (k:=rb (k:=rs (k:=?_))))
 refine Run.genS fun S1 hS=>?_
 have hx4:S1.blk s.nxt=some (.row 49 [.agg [.int .i64 mid,.int .i64 mun,.sl .unk (pdu.map (PV.int .u8))]]):=Y43
 have hx6:S1.blk (s.nxt+1)=some (.row 52 [.agg [.int .i64 0,.int .i64 0,.int .i64 0,.int .i64 0,.int .i64 0,.sl .nil [],.sl .nil [],.int .u16 0,.int .u16 0,.sl .nil []]]):=Y43
 have hx8:S1.blk (s.nxt+2)=some (.row 47 [.agg [.int .i64 q.fn,.int .i64 q.at_,.int .i64 q.count,.int .i64 q.wat,.int .i64 q.sub,.sl .unk (q.bits.map PV.bool),.sl .unk (q.vals.map (PV.int .u16)),.int .u16 q.and_,.int .u16 q.or_]]):=Y43
 have hn1:S1.nxt=s.nxt+3:=UB
 have hlo:∀ j,j<s.nxt→S1.blk j=s.blk j:=fun j hj=>Y51
 clear hS
 have hU1:xK b ln c cc un T t u ns S1:=h.keep Y18 fun j hj _=>hlo j hj
 have hx9:S1.blk un=some (.row 92 [.agg [.int .i64 t.unit,.int .u32 t.fns,.int .i64 t.queue,.sl .unk (t.wins.map Win.pv),.sl .unk (t.slts.map Slt.pv),.int .i64 (T:Int),.ptr ln 0 0,.ptr cc 0 0]]):=hU1.unb
 have hF1:Fr5 b (b+6) ln cc ns ns s S1:=⟨Y18,fun j a1 _ _ _ _=>hlo j a1,fun i t' e=>.inl ⟨i,e⟩⟩
 have hi0:=h.lin.hc
 have hi1:=h.lin.nx
 have hi2:=h.bl
 have hi3:=h.lt
 have n1:(un=s.nxt+1)=False:=eq_false Y18
 have n2:(s.nxt+2=s.nxt+1)=False:=eq_false Y18
 have hsp:∀ S,za Tryz.prog 63 [.agg [.int .i64 (t).unit,.int .u32 (t).fns,.int .i64 (t).queue,.sl .unk ((t).wins.map Win.pv),.sl .unk ((t).slts.map Slt.pv)],.agg [.int .i64 q.fn,.int .i64 q.at_,.int .i64 q.count,.int .i64 q.wat,.int .i64 q.sub,.sl .unk (q.bits.map PV.bool),.sl .unk (q.vals.map (PV.int .u16)),.int .u16 q.and_,.int .u16 q.or_]] S (fun r s'=>r=.tuple [.sl .unk (ps.map ptV),.int .i64 cd]∧s'=S):=fun S=>by
  have h9:=zbP h.tok hqo (s:=S)
  rw [← hps,zbs,← hcd] at h9
  exact h9
 have H:=aj hx4 (aj hx6 (aj hx8 (aj hx9 (aj n1 (aj n2 H)))))
 refine Run.drawC [] [0,2,6,7,8,9,21] Tryz.mixed Y22 ?_
 refine zj.all au ?_
 refine re (k:=rc (ht:=fun hc0=>?_) (hf:=fun hc0=>?_))
 have hc:=hc0
 refine rs (k:=rr (k:=ro (pre:=[_]) (k:=rC (h:=yf hfi Y20) (k:=rh [6] (k:=rR (k:=?_))))))
 simp only [Bool.not_eq_true',Bool.not_eq_false',decide_eq_true_eq,decide_eq_false_iff_not] at hc0
 have hA:yk t T mun pdu tick u=(zE (fnF pdu) 10,u):=by
  unfold yk
  rw [if_pos hc0]
 refine jO 1 ?_;rotate_left
 have hc:=hc0
 refine rs (k:=rg [0,2,6,7,8,9,32] (k:=rc (ht:=fun hc1=>?_) (hf:=fun hc1=>?_)))
 have hc:=hc1
 refine rs (k:=rr (k:=ro (pre:=[_]) (k:=rC (h:=yf hfi Y20) (k:=rh [6] (k:=rR (k:=?_))))))
 simp only [Bool.not_eq_true',Bool.not_eq_false',decide_eq_true_eq,decide_eq_false_iff_not] at hc0 hc1
 have hc0:¬ ¬ mun=t.unit:=fun h=>h hc0
 have hA:yk t T mun pdu tick u=(zE (fnF pdu) 3,u):=by
  unfold yk
  rw [if_neg hc0,← hw,if_pos hc1]
 refine jO 1 ?_;rotate_left
 have hc:=hc1
 refine rs (k:=rg [0,2,6,7,8,37] (k:=rc (ht:=fun hc2=>?_) (hf:=fun hc2=>?_)))
 have hc:=hc2
 refine rs (k:=rr (k:=ro (pre:=[_]) (k:=rC (h:=yf hfi Y20) (k:=rh [6] (k:=rR (k:=?_))))))
 simp only [Bool.not_eq_true',Bool.not_eq_false',decide_eq_true_eq,decide_eq_false_iff_not] at hc0 hc1 hc2
 have hc0:¬ ¬ mun=t.unit:=fun h=>h hc0
 have hA:yk t T mun pdu tick u=(zE (fnF pdu) 1,u):=by
  unfold yk
  rw [if_neg hc0,← hw,if_neg hc1,if_pos hc2]
 refine jO 1 ?_;rotate_left
 have hc:=hc2
 refine rk (k:=rB (k:=rs (k:=?_)))
 refine Run.drawC [] [0,2,6,7,8,10,11] Tryz.mixed Y22 ?_
 refine zj.pre (pre:=[_,_,_,_,_]) au ?_
 refine zj.call au au au Y22 (hsp _) ?_
 refine zj.all au ?_
 refine re (k:=rs (k:=rb (k:=rs (k:=rg [0,2,6,7,8,10,11,51] (k:=rc (ht:=fun hc3=>?_) (hf:=fun hc3=>?_))))))
 have hc:=hc3
 refine rs (k:=rr (k:=ro (pre:=[_,_]) (k:=rC (h:=yf hfi Y76) (k:=rh [6] (k:=rR (k:=?_))))))
 simp only [Bool.not_eq_true',Bool.not_eq_false',decide_eq_true_eq,decide_eq_false_iff_not] at hc0 hc1 hc2 hc3
 have hc0:¬ ¬ mun=t.unit:=fun h=>h hc0
 have hc2:¬ ¬ wy=0:=fun h=>h hc2
 have hA:yk t T mun pdu tick u=(zE (fnF pdu) cd,u):=by
  unfold yk
  rw [if_neg hc0,← hw,if_neg hc1,if_neg hc2,← hqe,← hcd,if_pos hc3]
 refine jO 1 ?_;rotate_left
 ·have hc:=hc3
  refine rs (k:=rr (k:=ro (pre:=[_]) (k:=rC (h:=zbY (q:=q)) (k:=rh [0,2,6,8,10,57] (k:=rc (ht:=fun hc4=>?_) (hf:=fun hc4=>?_))))))
  ·have hc:=hc4
   refine rs (k:=?_)
   refine Run.drawCut 10 [] Tryz.mixed Y22 Y22 ?_
   refine zj.all au ?_
   refine zm.callw au au au Y22 ((zlh hU1.uok.c hU1.cn hqo (unit:=t.unit)).mono ?_)
   rintro r s9 ⟨rfl,d1,d2,d3⟩
   have d6:s9.blk (s.nxt+1)=some (.row 52 [.agg [.int .i64 0,.int .i64 0,.int .i64 0,.int .i64 0,.int .i64 0,.sl .nil [],.sl .nil [],.int .u16 0,.int .u16 0,.sl .nil []]]):=by rw [d3 _ Y18 Y18];exact hx6
   have d8:s9.blk un=some (.row 92 [.agg [.int .i64 t.unit,.int .u32 t.fns,.int .i64 t.queue,.sl .unk (t.wins.map Win.pv),.sl .unk (t.slts.map Slt.pv),.int .i64 (T:Int),.ptr ln 0 0,.ptr cc 0 0]]):=by rw [d3 _ Y18 h.n1.2.2];exact hx9
   have hdv:(u.c.doC q t.unit).1.pv=.agg [.int .i64 ((u.c.doC q t.unit).1).fn,.int .i64 ((u.c.doC q t.unit).1).code,.int .i64 ((u.c.doC q t.unit).1).at_,.int .i64 ((u.c.doC q t.unit).1).count,.int .i64 ((u.c.doC q t.unit).1).sub,.sl .unk (((u.c.doC q t.unit).1).bits.map PV.bool),.sl .unk (((u.c.doC q t.unit).1).vals.map (PV.int .u16)),.int .u16 ((u.c.doC q t.unit).1).and_,.int .u16 ((u.c.doC q t.unit).1).or_,.sl .unk (((u.c.doC q t.unit).1).data.map (PV.int .u8))]:=rfl
   have H:=aj d6 (aj d8 (aj hdv H))
   have hU9:xK b ln c cc un T t { u with c:=(u.c.doC q t.unit).2 } ns s9:=(hU1.cnt (hU1.uok.c.doC q t.unit)).keep d2 fun j hj hj'=>by
    by_cases e:j=cc
    ·rw [e,d1,zy]
    ·rw [d3 j hj e,zd e]
   have hF9:Fr5 b (b+6) ln cc ns ns s s9:=hF1.trans ⟨d2,fun j a1 a2 a3 a4 a5=>d3 j a1 a3,fun i t' e=>.inl ⟨i,e⟩⟩
   refine rh [6] (k:=rR (k:=?_))
   simp only [Bool.not_eq_true',Bool.not_eq_false',decide_eq_true_eq,decide_eq_false_iff_not] at hc0 hc1 hc2 hc3
   have hc3:¬ ¬ cd=0:=fun h=>h hc3
   have hc0:¬ ¬ mun=t.unit:=fun h=>h hc0
   have hc2:¬ ¬ wy=0:=fun h=>h hc2
   have hA:yk t T mun pdu tick u=((u.c.doC q t.unit).1,{ u with c:=(u.c.doC q t.unit).2 }):=by
    unfold yk
    rw [if_neg hc0,← hw,if_neg hc1,if_neg hc2,← hqe,← hcd,if_neg hc3,if_pos hc4]
   refine Ret.allW (r':=(yk t T mun pdu tick u).1.pv) znw zot ?_
   rw [hA]
   exact ⟨rfl,ns,hU9.hi (h.fresh Y18) _,hF9.hi (.inl Y18) _,zmS hqo _,Nat.le_add_right _ _⟩
  ·have hc:=hc4
   refine rk (k:=rB (k:=rs (k:=?_)))
   have hc9:xr t q=0:=by rw [← hcd];simpa using hc3
   have hps9:zfL q ps:=by rw [hps];exact zjI hqo hc9
   have hcall:=zkj hU1 Y18 hqo hps9 ht
   have hup:.ptr un 0 0=PV.ptr un 0 0:=rfl
   have hgood:S1.blk un=some (.row 92 [.agg [.int .i64 t.unit,.int .u32 t.fns,.int .i64 t.queue,.sl .unk (t.wins.map Win.pv),.sl .unk (t.slts.map Slt.pv),.int .i64 (T:Int),.ptr ln 0 0,.ptr cc 0 0]])∧S1.blk (s.nxt+2)=some (.row 47 [.agg [.int .i64 q.fn,.int .i64 q.at_,.int .i64 q.count,.int .i64 q.wat,.int .i64 q.sub,.sl .unk (q.bits.map PV.bool),.sl .unk (q.vals.map (PV.int .u16)),.int .u16 q.and_,.int .u16 q.or_]]):=⟨hx9,hx8⟩
   refine Run.drawW 10 [9] [[false],[true]] (fun X=>[S1,X]) (fun X=>X.blk un=some (.row 92 [.agg [.int .i64 t.unit,.int .u32 t.fns,.int .i64 t.queue,.sl .unk (t.wins.map Win.pv),.sl .unk (t.slts.map Slt.pv),.int .i64 (T:Int),.ptr ln 0 0,.ptr cc 0 0]])∧X.blk (s.nxt+2)=some (.row 47 [.agg [.int .i64 q.fn,.int .i64 q.at_,.int .i64 q.count,.int .i64 q.wat,.int .i64 q.sub,.sl .unk (q.bits.map PV.bool),.sl .unk (q.vals.map (PV.int .u16)),.int .u16 q.and_,.int .u16 q.or_]])) (fun X=>∃ n2,xK b ln c cc un T t (xY q T tick 0 ps [] u).2 n2 X∧Fr5 b (b+6) ln cc ns n2 S1 X∧(∀ r∈(xY q T tick 0 ps [] u).1,r.ok)∧(xY q T tick 0 ps [] u).1.length≤6∧(xY q T tick 0 ps [] u).2.l.length≤u.l.length+18∧X.blk (s.nxt+2)=some (.row 47 [.agg [.int .i64 q.fn,.int .i64 q.at_,.int .i64 q.count,.int .i64 q.wat,.int .i64 q.sub,.sl .unk (q.bits.map PV.bool),.sl .unk (q.vals.map (PV.int .u16)),.int .u16 q.and_,.int .u16 q.or_]])∧X.blk (s.nxt+1)=some (.row 52 [.agg [.int .i64 0,.int .i64 0,.int .i64 0,.int .i64 0,.int .i64 0,.sl .nil [],.sl .nil [],.int .u16 0,.int .u16 0,.sl .nil []]])) 9 Tryz.mixed Y22 Y22 Y22 Y22 (fun _=>rfl) Y22 rfl hgood (fun X ⟨n2,a1,_,_,_,_,a3,_⟩=>⟨a1.unb,a3⟩) Y22 ?_
   refine wK.pre (pre:=[_,_,_,_,_,_,_,_,_]) [0,1] hgood Y22 Y22 (fun X hX=>by
     obtain ⟨gu,gy⟩:=hX
     have H:=aj gu (aj gy H)
     simp only [vq,List.filterMap_cons,List.filterMap_nil,List.getElem?_cons_zero,List.getElem?_cons_succ]
     exact au) ?_
   refine wK.callX (v:=.sl .unk ((xY q T tick 0 ps [] u).1.map Rep.pv)) [(0,1)] Y22 Y22 au au au Y22 (fun X hX q hq s9 hs9=>by
     simp only [List.mem_cons,List.not_mem_nil,or_false] at hq
     subst hq
     obtain rfl:=Option.some.inj hs9
     refine hcall.mono ?_
     rintro r s2 ⟨rfl,n2,a1,a2,a3,a4,a5⟩
     have k8:∀ p,s.nxt≤p→p<S1.nxt→(∃ ty vs,S1.blk p=some (.row ty vs))→s2.blk p=S1.blk p:=fun p p1 p2 ⟨ty,vs,p3⟩=>a2.same p p2 Y18 Y18 Y18 fun i hi=>hU1.lin.notrow hi p3
     exact ⟨rfl,s2,⟨n2,a1,a2,a3,a4,a5,by rw [k8 _ Y18 Y18 ⟨_,_,hx8⟩];exact hx8,by rw [k8 _ Y18 Y18 ⟨_,_,hx6⟩];exact hx6⟩,rfl⟩) ?_
   refine wK.nil ?_
   intro X sN hX hN
   obtain rfl:=Option.some.inj hN
   obtain ⟨n2,hUX,hFX,hRo,hRl,hlX,hX8,hX6⟩:=hX
   have hun9:X.blk un=some (.row 92 [.agg [.int .i64 t.unit,.int .u32 t.fns,.int .i64 t.queue,.sl .unk (t.wins.map Win.pv),.sl .unk (t.slts.map Slt.pv),.int .i64 (T:Int),.ptr ln 0 0,.ptr cc 0 0]]):=hUX.unb
   have hJv:(xz t q (xY q T tick 0 ps [] u).1).pv=.agg [.int .i64 ((xz t q (xY q T tick 0 ps [] u).1)).fn,.int .i64 ((xz t q (xY q T tick 0 ps [] u).1)).code,.int .i64 ((xz t q (xY q T tick 0 ps [] u).1)).at_,.int .i64 ((xz t q (xY q T tick 0 ps [] u).1)).count,.int .i64 ((xz t q (xY q T tick 0 ps [] u).1)).sub,.sl .unk (((xz t q (xY q T tick 0 ps [] u).1)).bits.map PV.bool),.sl .unk (((xz t q (xY q T tick 0 ps [] u).1)).vals.map (PV.int .u16)),.int .u16 ((xz t q (xY q T tick 0 ps [] u).1)).and_,.int .u16 ((xz t q (xY q T tick 0 ps [] u).1)).or_,.sl .unk (((xz t q (xY q T tick 0 ps [] u).1)).data.map (PV.int .u8))]:=rfl
   have hnX:=hFX.nx
   have hfr6:xK.free b ln cc un n2 (s.nxt+1):=⟨Y18,Y18,Y18,Y18,fun j hj=>hUX.lin.notrow hj hX6⟩
   have H:=aj hun9 (aj hX8 (aj hX6 (aj hJv H)))
   refine rC (h:=zg2 hU1.tok hqo hRo Y18) (k:=rh [6] (k:=rR (k:=?_)))
   simp only [Bool.not_eq_true',Bool.not_eq_false',decide_eq_true_eq,decide_eq_false_iff_not] at hc0 hc1 hc2 hc3
   have hc3:¬ ¬ cd=0:=fun h=>h hc3
   have hc4:¬ uR q=true:=by rw [show uR q=false from hc4];decide
   have hc0:¬ ¬ mun=t.unit:=fun h=>h hc0
   have hc2:¬ ¬ wy=0:=fun h=>h hc2
   have hA:yk t T mun pdu tick u=(xz t q (xY q T tick 0 ps [] u).1,(xY q T tick 0 ps [] u).2):=by
    unfold yk
    rw [if_neg hc0,← hw,if_neg hc1,if_neg hc2,← hqe,← hcd,if_neg hc3,if_neg hc4,← hps]
   refine Ret.allW (r':=(yk t T mun pdu tick u).1.pv) znw zot ?_
   rw [hA]
   exact ⟨rfl,n2,hUX.hi hfr6 _,(hF1.trans hFX).hi (.inl Y18) _,zj7 hqo hRo,hlX⟩
 any_goals
  refine jI 1 ?_
  refine Ret.allW (r':=(yk t T mun pdu tick u).1.pv) znw zot ?_
  refine jO 2 ?_;rotate_left
 any_goals
  refine jI 2 ?_
  rw [hA]
  refine jO 3 ?_;rotate_left
 any_goals
  refine jI 3 ?_
  exact ⟨rfl,ns,hU1.hi (h.fresh Y18) _,hF1.hi (.inl Y18) _,wX _ _,Nat.le_add_right _ _⟩
attribute [local go_sem] zf ye
set_option maxRecDepth 100000 in
theorem zhz {b ln c cc un T:Nat} {t:Ten} {u:Us} {ns:Nat→Option Nat} {s:St} (h:xK b ln c cc un T t u ns s) (hll:u.l.length≤70000) {pdu:List Int} (hb:OkB pdu) (hpl:pdu.length≤100000) {mid mun tick:Int} (ht:0≤tick∧tick≤1000000000) :
  za Tryz.prog 14 [.ptr un 0 0,.agg [.int .i64 mid,.int .i64 mun,.sl .unk (pdu.map (PV.int .u8))],.int .i64 tick] s (fun r s'=>r=.agg [.int .i64 mid,.int .i64 mun,.sl .unk ((yq t T mun pdu tick u).1.map (PV.int .u8))]∧∃ ns',xK b ln c cc un T t (yq t T mun pdu tick u).2 ns' s'∧Fr5 b (b+6) ln cc ns ns' s s'∧(yq t T mun pdu tick u).2.l.length≤u.l.length+18):=by
 refine go Tryz.func14 (k:=fun hwf H=>?_)
 obtain ⟨ra,hra⟩:∃ r,r=(yk t T mun pdu tick { u with c:=u.c.msg }).1:=⟨_,rfl⟩
 obtain ⟨ua,hua⟩:∃ r,r=(yk t T mun pdu tick { u with c:=u.c.msg }).2:=⟨_,rfl⟩
 refine rs (k:=rg [0,2,4,6] (k:=rs (k:=?_)))
 refine Run.genS fun S1 hS=>?_
 have hx4:S1.blk s.nxt=some (.row 49 [.agg [.int .i64 mid,.int .i64 mun,.sl .unk (pdu.map (PV.int .u8))]]):=Y43
 have hx6:S1.blk (s.nxt+1)=some (.row 49 [.agg [.int .i64 0,.int .i64 0,.sl .nil []]]):=Y43
 have hn1:S1.nxt=s.nxt+2:=UB
 have hlo:∀ j,j<s.nxt→S1.blk j=s.blk j:=fun j hj=>Y51
 clear hS
 have hU1:xK b ln c cc un T t u ns S1:=h.keep Y18 fun j hj _=>hlo j hj
 have hx9:S1.blk un=some (.row 92 [.agg [.int .i64 t.unit,.int .u32 t.fns,.int .i64 t.queue,.sl .unk (t.wins.map Win.pv),.sl .unk (t.slts.map Slt.pv),.int .i64 (T:Int),.ptr ln 0 0,.ptr cc 0 0]]):=hU1.unb
 have hF1:Fr5 b (b+6) ln cc ns ns s S1:=⟨Y18,fun j a1 _ _ _ _=>hlo j a1,fun i t' e=>.inl ⟨i,e⟩⟩
 have hi0:=h.lin.hc
 have hi1:=h.lin.nx
 have hi2:=h.bl
 have hi3:=h.lt
 have hi4:=h.n1
 have H:=aj hx4 (aj hx6 (aj hx9 H))
 refine rr (k:=ro (pre:=[_,_,_,_]) (k:=?_))
 refine zm.callw au au au Y22 ((zcv hU1.uok.c hU1.cn).mono ?_)
 rintro r s9 ⟨rfl,hs⟩
 refine rl [0,2,4,6] (k:=rs (k:=?_))
 have hU2:xK b ln c cc un T t { u with c:=u.c.msg } ns s9:=by rw [hs];exact hU1.cnt hU1.uok.c.msg
 have hF2:Fr5 b (b+6) ln cc ns ns s s9:=by rw [hs];exact hF1.hi (.inr rfl) _
 have hx4b:s9.blk s.nxt=some (.row 49 [.agg [.int .i64 mid,.int .i64 mun,.sl .unk (pdu.map (PV.int .u8))]]):=by rw [hs,zd Y18];exact hx4
 have hx6b:s9.blk (s.nxt+1)=some (.row 49 [.agg [.int .i64 0,.int .i64 0,.sl .nil []]]):=by rw [hs,zd Y18];exact hx6
 have hx9b:s9.blk un=some (.row 92 [.agg [.int .i64 t.unit,.int .u32 t.fns,.int .i64 t.queue,.sl .unk (t.wins.map Win.pv),.sl .unk (t.slts.map Slt.pv),.int .i64 (T:Int),.ptr ln 0 0,.ptr cc 0 0]]):=hU2.unb
 have hn2:s9.nxt=s.nxt+2:=by rw [hs];exact hn1
 have H:=aj hx4b (aj hx6b (aj hx9b trivial))
 clear hs
 refine rr (k:=ro (pre:=[_,_,_]) (k:=?_))
 refine zm.callw au au au Y22 ((zeU hU2 hll hb hpl ht (mid:=mid) (mun:=mun)).mono ?_)
 rintro r s9 ⟨rfl,n2,hU3,hF3,hRo,hl3⟩
 rw [← hra] at hRo ⊢
 rw [← hua] at hU3 hl3
 have hrv:ra.pv=.agg [.int .i64 (ra).fn,.int .i64 (ra).code,.int .i64 (ra).at_,.int .i64 (ra).count,.int .i64 (ra).sub,.sl .unk ((ra).bits.map PV.bool),.sl .unk ((ra).vals.map (PV.int .u16)),.int .u16 (ra).and_,.int .u16 (ra).or_,.sl .unk ((ra).data.map (PV.int .u8))]:=rfl
 have hF4:=hF2.trans hF3
 have hfr6:∀ n3:Nat→Option Nat,(∀ j,n3 j≠some (s.nxt+1))→xK.free b ln cc un n3 (s.nxt+1):=fun n3 h3=>⟨Y18,Y18,Y18,Y18,h3⟩
 have hi5:=hF3.nx
 have hx4':s9.blk s.nxt=some (.row 49 [.agg [.int .i64 mid,.int .i64 mun,.sl .unk (pdu.map (PV.int .u8))]]):=by rw [hF3.same _ Y18 Y18 Y18 Y18 (fun j hj=>hU2.lin.notrow hj hx4b)];exact hx4b
 have hx6':s9.blk (s.nxt+1)=some (.row 49 [.agg [.int .i64 0,.int .i64 0,.sl .nil []]]):=by rw [hF3.same _ Y18 Y18 Y18 Y18 (fun j hj=>hU2.lin.notrow hj hx6b)];exact hx6b
 have hx9':s9.blk un=some (.row 92 [.agg [.int .i64 t.unit,.int .u32 t.fns,.int .i64 t.queue,.sl .unk (t.wins.map Win.pv),.sl .unk (t.slts.map Slt.pv),.int .i64 (T:Int),.ptr ln 0 0,.ptr cc 0 0]]):=hU3.unb
 have hm1:(s.nxt=s9.nxt)=False:=eq_false Y18
 have hm2:(s.nxt+1=s9.nxt)=False:=eq_false Y18
 have hm3:(un=s9.nxt)=False:=eq_false Y18
 have H:=aj hrv (aj hx4' (aj hx6' (aj hx9' (aj hm1 (aj hm2 (aj hm3 H))))))
 refine rh [0,4,6,7] (k:=rs (k:=rs (k:=rg [0,4,6,7,21] (k:=rc (ht:=fun hc0=>?_) (hf:=fun hc0=>?_)))))
 ·have hc:=hc0
  refine rr (k:=ro (pre:=[_,_,_,_]) (k:=?_))
  refine zm.callw au au au Y22 ((zak hU3.uok.c (hU3.nw _).cn).mono ?_)
  rintro r s8 ⟨rfl,hs⟩
  have y4:s8.blk s.nxt=some (.row 49 [.agg [.int .i64 mid,.int .i64 mun,.sl .unk (pdu.map (PV.int .u8))]]):=by rw [hs,zd Y18,zg Y18];exact hx4'
  have y6:s8.blk (s.nxt+1)=some (.row 49 [.agg [.int .i64 0,.int .i64 0,.sl .nil []]]):=by rw [hs,zd Y18,zg Y18];exact hx6'
  have y7:s8.blk s9.nxt=some (.row 52 [.agg [.int .i64 (ra).fn,.int .i64 (ra).code,.int .i64 (ra).at_,.int .i64 (ra).count,.int .i64 (ra).sub,.sl .unk ((ra).bits.map PV.bool),.sl .unk ((ra).vals.map (PV.int .u16)),.int .u16 (ra).and_,.int .u16 (ra).or_,.sl .unk ((ra).data.map (PV.int .u8))]]):=by rw [hs,zd (by have:=hU3.lt;omega)];exact zN
  have hU8:xK b ln c cc un T t { ua with c:=ua.c.exc } n2 s8:=by rw [hs];exact (hU3.nw _).cnt hU3.uok.c.exc
  have hF8:Fr5 b (b+6) ln cc ns n2 s s8:=by rw [hs];exact (hF4.nw _).hi (.inr rfl) _
  have H:=aj y4 (aj y6 (aj y7 H))
  refine rl [4,6,7] (k:=rs (k:=rr (k:=ro (pre:=[_]) (k:=rC (h:=uG (r:=ra) hRo) (k:=rh [4,6,8] (k:=rs (k:=rg [6] (k:=rR (k:=?_)))))))))
  have hs1:(yq t T mun pdu tick u).1=yO ra:=by unfold yq;rw [← hra]
  have hs2:(yq t T mun pdu tick u).2={ ua with c:=ua.c.exc }:=by
   unfold yq
   rw [← hra,← hua]
   exact if_pos Y85
  refine Ret.allW (r':=.agg [.int .i64 mid,.int .i64 mun,.sl .unk ((yq t T mun pdu tick u).1.map (PV.int .u8))]) (by simp only [Tryz.f14,go_sem,↓reduceIte]<;>rfl) (by rw [hs1];simp only [PV.weak,PV.weaks,zB]) ?_
  rw [hs2]
  exact ⟨rfl,n2,hU8.hi (hfr6 n2 fun j hj=>hU8.lin.notrow hj y6) _,hF8.hi (.inl Y18) _,hl3⟩
 ·have hc:=hc0
  refine rk (k:=rs (k:=rr (k:=ro (pre:=[_]) (k:=rC (h:=uG (r:=ra) hRo) (k:=rh [4,6,8] (k:=rs (k:=rg [6] (k:=rR (k:=?_)))))))))
  have hs1:(yq t T mun pdu tick u).1=yO ra:=by unfold yq;rw [← hra]
  have hs2:(yq t T mun pdu tick u).2=ua:=by
   unfold yq
   rw [← hra,← hua]
   exact if_neg Y85
  refine Ret.allW (r':=.agg [.int .i64 mid,.int .i64 mun,.sl .unk ((yq t T mun pdu tick u).1.map (PV.int .u8))]) (by simp only [Tryz.f14,go_sem,↓reduceIte]<;>rfl) (by rw [hs1];simp only [PV.weak,PV.weaks,zB]) ?_
  rw [hs2]
  exact ⟨rfl,n2,(hU3.nw _).hi (hfr6 n2 fun j hj=>hU3.lin.notrow hj hx6') _,(hF4.nw _).hi (.inl Y18) _,hl3⟩
end Go.Proofs
namespace Go.Proofs
open Go.PM
set_option maxHeartbeats 2000000
def t21:Ten:=⟨5,4260104,0,[⟨3,0,100,4⟩,⟨3,4,50,4⟩],[]⟩
def u21:Us:=⟨Dev.zero 512,fun _=>[],[],⟨0,0,0⟩⟩
def a21:List Int × Us:=yq t21 1 5 (zL ⟨16,3,2,0,0,[],[7,8],0,0⟩) 200 u21
def b21:List Int × Us:=yq t21 1 5 (zL ⟨22,4,0,0,0,[],[],65280,18⟩) 400 a21.2
def c21:List Int × Us:=yq t21 1 5 (zL ⟨3,3,2,0,0,[],[],0,0⟩) 600 b21.2
def d21:List Int × Us:=yq t21 1 6 (zL ⟨3,3,2,0,0,[],[],0,0⟩) 800 c21.2
def e21:List Int × Us:=yq t21 1 5 [7] 900 d21.2
set_option maxRecDepth 100000 in
theorem k21:(a21.1=[16,0,3,0,2]∧b21.1=[22,0,4,255,0,0,18]∧c21.1=[3,4,0,7,0,18]∧d21.1=[131,10]∧e21.1=[135,1])∧e21.2.l.map Snt.tick=[200,212,400,412,600,612]∧e21.2.c.get 11=some 5∧e21.2.c.get 13=some 2:=by decide +kernel
theorem xK.line {b n ln c cc un T:Nat} {t:Ten} {u:Us} {ns ns':Nat→Option Nat} {FS':Nat→List Int} {s s':St} (h:xK b ln c cc un T t u ns s) (hL:Ln4 86 (b+5) ln c FS' u.l ns' s') (hF:Fr4 0 0 ln ns ns' s s') (hFS:FOk FS'):xK b ln c cc un T t { u with FS:=FS' } ns' s'∧Fr5 b n ln cc ns ns' s s':=by
 have h1:=h.lin.hc
 have h2:=h.lin.nx
 have h3:=h.bl
 have h4:=h.lt
 have h5:=hF.nx
 have e:∀ j,j<s.nxt→j≠ln→(∀ i,ns i≠some j)→s'.blk j=s.blk j:=fun j a1 a2 a3=>hF.same j a1 a2 Y18 a3
 have lo:∀ j,j<ln→∀ i,ns i≠some j:=fun j hj i hi=>by have:=(h.lin.own i j hi).1;omega
 have d:=h.dv
 refine ⟨⟨hL,?_,by rw [e cc h4.1 h.c1.1 (fun i hi=>h.lin.notrow hi h.cn)];exact h.cn,by rw [e un h4.2 h.n1.1 (fun i hi=>h.lin.notrow hi h.unb)];exact h.unb,⟨h.uok.D,hFS,h.uok.c,h.uok.l⟩,h.tok,h.T4,h.bl,h.c1,h.n1,⟨Y18,Y18⟩⟩,⟨hF.nx,fun j a1 a2 _ _ a5=>e j a1 a2 a5,hF.new⟩⟩
 have e2:∀ j,j≤b+5→s'.blk j=s.blk j:=fun j hj=>e j Y18 Y18 (lo j Y18)
 exact ⟨by rw [e2 _ Y18];exact d.st,by rw [e2 _ Y18];exact d.c0,by rw [e2 _ Y18];exact d.c1,by rw [e2 _ Y18];exact d.v0,by rw [e2 _ Y18];exact d.v1,by rw [e2 _ Y18];exact d.dv⟩
structure K21 (b cc un T:Nat) (t:Ten) (u:Us) (s0 S:St):Prop where
 at':∃ ns,xK b (b+6) (b+7) cc un T t u ns S
 low:∀ j,j<b→S.blk j=s0.blk j
 pos:b+6<cc∧cc<un∧un<S.nxt
theorem K21.op {b cc un T:Nat} {t:Ten} {u u':Us} {s0 S S':St} {ns ns':Nat→Option Nat} (h:K21 b cc un T t u s0 S) (h1:xK b (b+6) (b+7) cc un T t u ns S) (h2:xK b (b+6) (b+7) cc un T t u' ns' S') (h3:Fr5 b (b+6) (b+6) cc ns ns' S S') :
  K21 b cc un T t u' s0 S'∧S.nxt≤S'.nxt∧∀ j ty vs,b+6<j→j<S.nxt→j≠cc→S.blk j=some (.row ty vs)→S'.blk j=some (.row ty vs):=by
 have hp:=h.pos
 have hn:=h3.nx
 refine ⟨⟨⟨_,h2⟩,fun j hj=>?_,Y18⟩,hn,fun j ty vs a1 a2 a3 a4=>?_⟩
 ·rw [h3.same j Y18 Y18 Y18 Y18 (fun i hi=>by have:=(h1.lin.own i j hi).1;omega)];exact h.low j hj
 ·rw [h3.same j a2 Y18 a3 Y18 (fun i hi=>h1.lin.notrow hi a4)];exact a4
theorem K21.nw {b cc un T:Nat} {t:Ten} {u:Us} {s0 S:St} (h:K21 b cc un T t u s0 S) (x:Blk):K21 b cc un T t u s0 (S.new x):=by
 obtain ⟨ns,h1⟩:=h.at'
 have hp:=h.pos
 exact ⟨⟨ns,h1.nw x⟩,fun j hj=>by rw [zg Y18];exact h.low j hj,by show b+6<cc∧cc<un∧un<S.nxt+1;omega⟩
theorem zib {s0 S:St} {b T:Nat} {t:Ten} {z:Blk} {n:Nat} (hn:1≤n∧n≤65536) (hT:T<4) (ht:t.ok) (hA:zK b (Dev.zero n) S) (hl:S.blk (b+6)=some (xv (b+5) (.sl .nil []) (.sl .nil []) (.sl .nil []) (.sl .nil []) (.sl .nil []))) (hx:b+7≤S.nxt) (hlo:∀ j,j<b→S.blk j=s0.blk j) :
  K21 b (S.nxt+1) (S.nxt+2) T t ⟨Dev.zero n,fun _=>[],[],⟨0,0,0⟩⟩ s0 (((S.new z).new (.row 112 [(⟨0,0,0⟩:Cn).pv])).new (.row 92 [.agg [.int .i64 t.unit,.int .u32 t.fns,.int .i64 t.queue,.sl .unk (t.wins.map Win.pv),.sl .unk (t.slts.map Slt.pv),.int .i64 (T:Int),.ptr (b+6) 0 0,.ptr (S.nxt+1) 0 0]])):=by
 have z0:(⟨0,0,0⟩:Cn).ok:=⟨Y20,Y20,Y20⟩
 have hk:∀ j,j<S.nxt→(((S.new z).new (.row 112 [(⟨0,0,0⟩:Cn).pv])).new (.row 92 [.agg [.int .i64 t.unit,.int .u32 t.fns,.int .i64 t.queue,.sl .unk (t.wins.map Win.pv),.sl .unk (t.slts.map Slt.pv),.int .i64 (T:Int),.ptr (b+6) 0 0,.ptr (S.nxt+1) 0 0]])).blk j=S.blk j:=fun j hj=>by
  rw [zg (by show j≠S.nxt+1+1;omega),zg (by show j≠S.nxt+1;omega),zg Y18]
 refine ⟨⟨fun _=>none,⟨⟨⟨[_,_,_,_],.sl .nil [],by rw [hk _ Y18];exact hl,rfl,fun T hT=>?_,rfl,rfl⟩,fun i j t h=>(by cases h),fun i t h=>(by cases h),Y18,by show b+7≤S.nxt+1+1+1;omega,fun _ _=>rfl⟩,?_,by rw [zg (by show S.nxt+1≠S.nxt+1+1;omega)];exact zN,zN,⟨Dev.zero_ok hn.1 hn.2,fun T=>⟨Nat.zero_le _,fun f hf=>by cases hf⟩,z0,fun x hx=>by cases hx⟩,ht,hT,Y18,Y18,Y18,by show S.nxt+1<S.nxt+1+1+1∧S.nxt+2<S.nxt+1+1+1;omega⟩⟩,fun j hj=>by rw [hk j Y18];exact hlo j hj,by show b+6<S.nxt+1∧S.nxt+1<S.nxt+2∧S.nxt+2<S.nxt+1+1+1;omega⟩
 ·obtain rfl | rfl | rfl | rfl:T=0∨T=1∨T=2∨T=3:=Y18
  all_goals exact ⟨_,rfl,.inl rfl,rfl⟩
 ·exact ((hA.nw Y18 _).nw (by show b+5<S.nxt+1;omega) _).nw (by show b+5<S.nxt+1+1;omega) _
theorem K21.serve {b cc un T:Nat} {t:Ten} {u:Us} {s0 S:St} (h:K21 b cc un T t u s0 S) (hll:u.l.length≤70000) {pdu:List Int} (hb:OkB pdu) (hpl:pdu.length≤100000) {mid mun tick:Int} (ht:0≤tick∧tick≤1000000000) :
  za Tryz.prog 14 [.ptr un 0 0,.agg [.int .i64 mid,.int .i64 mun,.sl .unk (pdu.map (PV.int .u8))],.int .i64 tick] S (fun r s'=>r=.agg [.int .i64 mid,.int .i64 mun,.sl .unk ((yq t T mun pdu tick u).1.map (PV.int .u8))]∧K21 b cc un T t (yq t T mun pdu tick u).2 s0 s'∧S.nxt≤s'.nxt∧(∀ j ty vs,b+6<j→j<S.nxt→j≠cc→S.blk j=some (.row ty vs)→s'.blk j=some (.row ty vs))∧(yq t T mun pdu tick u).2.l.length≤u.l.length+18):=by
 obtain ⟨ns,hU⟩:=h.at'
 refine (zhz hU hll hb hpl ht (mid:=mid) (mun:=mun)).mono ?_
 rintro r s' ⟨rfl,ns',h1,h2,h3⟩
 obtain ⟨k1,k2,k3⟩:=h.op hU h1 h2
 exact ⟨rfl,k1,k2,k3,h3⟩
theorem K21.hurt {b cc un T:Nat} {t:Ten} {u:Us} {s0 S:St} (h:K21 b cc un T t u s0 S) (tn F:Int) :
  za Tryz.prog 20 [.ptr (b+6) 0 0,.int .i64 tn,.int .i64 F] S (fun r s'=>r=.bool (zcC u.FS tn F)∧K21 b cc un T t { u with FS:=XU u.FS tn F } s0 s'∧S.nxt≤s'.nxt∧∀ j ty vs,b+6<j→j<S.nxt→j≠cc→S.blk j=some (.row ty vs)→s'.blk j=some (.row ty vs)):=by
 obtain ⟨ns,hU⟩:=h.at'
 obtain ⟨S9,ns',hc,hL,hF⟩:=zgT hU.lin tn F
 refine hc.mono ?_
 rintro r s' ⟨rfl,rfl⟩
 obtain ⟨a1,a2⟩:=hU.line (n:=b+6) hL hF (hU.uok.FS.hurt tn F)
 obtain ⟨k1,k2,k3⟩:=h.op hU a1 a2
 exact ⟨rfl,k1,k2,k3⟩
theorem K21.sent {b cc un T:Nat} {t:Ten} {u:Us} {s0 S:St} (h:K21 b cc un T t u s0 S) (hll:u.l.length≤100000):za Tryz.prog 23 [.ptr (b+6) 0 0] S (fun r s'=>r=.sl .unk (u.l.map Snt.pv)∧s'=S):=by
 obtain ⟨ns,hU⟩:=h.at'
 exact zgG hU.lin hll (fun x hx=>by have:=hU.uok.l x hx;omega)
theorem K21.count {b cc un T:Nat} {t:Ten} {u:Us} {s0 S:St} (h:K21 b cc un T t u s0 S):za Tryz.prog 19 [.ptr un 0 0] S (fun r s'=>r=.ptr cc 0 0∧s'=S):=by
 obtain ⟨ns,hU⟩:=h.at'
 exact zhX hU.unb
theorem K21.get {b cc un T:Nat} {t:Ten} {u:Us} {s0 S:St} (h:K21 b cc un T t u s0 S) {sub:Int}:za Tryz.prog 22 [.ptr cc 0 0,.int .i64 sub] S (fun r s'=>r=.tuple [.int .u16 ((u.c.get sub).getD 0),.bool (u.c.get sub).isSome]∧s'=S):=by
 obtain ⟨ns,hU⟩:=h.at'
 exact zcQ hU.uok.c hU.cn
attribute [local go_sem] Tp.pv ye
set_option maxRecDepth 100000 in
theorem zd1 {tl:List Int} (htl:tl.length*8≤140737488351232) {i:Nat} {s:St}:za Tryz.prog 6 [.sl .unk (tl.map (PV.int .i64)),.int .i64 (i:Int)] s (fun r s'=>∃ (t:Tab) (x:Ten),r=x.pv∧x∈t.tens∧vj t=true∧t.few 6∧x.ok∧s'=s):=by
 refine go Tryz.func6 (k:=fun hwf H=>?_)
 have hT:(⟨tl,0⟩:Tp).ok:=⟨htl,Nat.zero_le _⟩
 have hTv:(⟨tl,0⟩:Tp).pv=.agg [.sl .unk (tl.map (PV.int .i64)),.int .i64 0]:=rfl
 refine rs (k:=rg [0,1,4] (k:=rs (k:=rr (k:=ro (pre:=[_,_,_]) (k:=?_)))))
 refine zm.callw au au au Y22 ((zhA hT (tp:=s.nxt+1) (by rw [hTv];exact zN)).mono ?_)
 rintro r s9 ⟨t,T',rfl,hs,_,hR,hfw⟩
 refine rh [1,4,5] (k:=rs (k:=?_))
 refine Run.genS fun S1 hS=>?_
 have hn9:s9.nxt=s.nxt+2:=by rw [hs];rfl
 have hlo9:∀ j,j<s.nxt+1→s9.blk j=(s.new (.row 28 [.agg [.int .i64 0,.int .u32 0,.int .i64 0,.sl .nil [],.sl .nil []]])).blk j:=fun j hj=>by rw [hs,zd Y18,zg (by show j≠s.nxt+1;omega)]
 have x4:S1.blk s.nxt=some (.row 28 [.agg [.int .i64 0,.int .u32 0,.int .i64 0,.sl .nil [],.sl .nil []]]):=by rw [hS];simp (disch:=first | omega |(simp only [zt,zq]<;>omega) | fail) only [go_sem];rw [hlo9 _ Y18];exact zN
 have x5:S1.blk s9.nxt=some (.row 82 [.agg [.int .i64 (t).frame,.sl .unk ((t).tens.map Ten.pv)]]):=Y43
 have lo1:∀ j,j<s.nxt→S1.blk j=s.blk j:=fun j hj=>by rw [hS];simp (disch:=first | omega |(simp only [zt,zq]<;>omega) | fail) only [go_sem];rw [hlo9 _ Y18,zg Y18]
 clear hS
 have hrt:=zkH (t:=t) (by simpa [vj] using hR)
 have hnt:=hrt.n
 have htm:Int.tmod (i:Int) (t.tens.length:Int)=((i%t.tens.length:Nat):Int):=by rw [Int.tmod_eq_emod_of_nonneg Y18];simp
 have hmt:=Nat.mod_lt i (show 0<t.tens.length from Y18)
 obtain ⟨j,hj⟩:∃ j,j=i%t.tens.length:=⟨_,rfl⟩
 rw [← hj] at hmt htm
 obtain ⟨x,hxe⟩:∃ z_,t.tens[j]'hmt=z_:=⟨_,rfl⟩
 have hxx:(t.tens.map Ten.pv)[j]? =some (.agg [.int .i64 (x).unit,.int .u32 (x).fns,.int .i64 (x).queue,.sl .unk ((x).wins.map Win.pv),.sl .unk ((x).slts.map Slt.pv)]):=by rw [yP hmt,hxe];rfl
 have hjT:(j<t.tens.length)=True:=eq_true hmt
 have hz:((t.tens.length:Int)=0)=False:=eq_false Y18
 have n1:(s9.nxt=s.nxt)=False:=eq_false Y18
 have H:=aj x4 (aj x5 (aj htm (aj hxx (aj hjT (aj hz (aj n1 H))))))
 refine rH 10 [9] [[false],[true]] [S1,(S1.set s.nxt (some (.row 28 [.agg [.int .i64 (x).unit,.int .u32 (x).fns,.int .i64 (x).queue,.sl .unk ((x).wins.map Win.pv),.sl .unk ((x).slts.map Slt.pv)]])))] Tryz.mixed (k:=?_)
 refine dP [0] (pre:=[_,_,_,_,_,_,_,_,_]) (k:=?_)
 refine dE [(0,1)] (k:=?_)
 refine zO.nil ?_
 refine rl [4] (k:=rR (k:=?_))
 exact Ret.pure (r':=x.pv) (by simp only [Tryz.f6,go_sem,↓reduceIte]<;>rfl) (zaX x).symm (zij _ _) hwf (fun i hi=>by rw [zd Y18];exact lo1 i hi) ⟨t,x,rfl,Y84,hR,hfw,hfw.ok.tens x Y84,rfl⟩
end Go.Proofs
namespace Go.Proofs
open Go.PM
set_option maxHeartbeats 2000000
attribute [local go_sem] ye zf
theorem zkD {p:Prop} (h:p:=by rw [hS];exact kk.nw _):p:=h
theorem zpn {p:Prop} (h:p:=by have h9:(a21.2).l.length≤(u21).l.length+18:=zl;have:=u0;omega):p:=h
theorem zoW {p:Prop} (h:p:=by have h9:(b21.2).l.length≤(a21.2).l.length+18:=zl;have:=u1;omega):p:=h
theorem zo5 {p:Prop} (h:p:=by have h9:(c21.2).l.length≤(b21.2).l.length+18:=zl;have:=u2;omega):p:=h
theorem zoK {p:Prop} (h:p:=by have h9:(d21.2).l.length≤(c21.2).l.length+18:=zl;have:=u3;omega):p:=h
theorem zqa {p:Prop} (h:p:=by have h9:(e21.2).l.length≤(d21.2).l.length+18:=zl;have:=u4;omega):p:=h
set_option maxRecDepth 100000 in
theorem zfY {s:St}:za Tryz.prog 18 [] s (fun r s'=>r=.bool true∧s'=s):=by
 refine go Tryz.func18 (k:=fun hwf H=>?_)
 have o3:OkB [7]:=fun x hx=>by rw [List.mem_singleton.1 hx];constructor<;>decide
 have z16:U16 0:=vS
 have hq1:(⟨16,3,2,0,0,[],[7,8],0,0⟩:Req).ok:=⟨Y20,Y20,Y20,Y20,Y20,(fun x hx=>by simp only [List.mem_cons,List.not_mem_nil,or_false] at hx;rcases hx with rfl | rfl<;>(constructor<;>decide)),z16,z16,Y19,Y19⟩
 have hq2:(⟨22,4,0,0,0,[],[],65280,18⟩:Req).ok:=⟨Y20,Y20,Y20,Y20,Y20,vW,Y20,Y20,Y19,Y19⟩
 have hq3:(⟨3,3,2,0,0,[],[],0,0⟩:Req).ok:=⟨Y20,Y20,Y20,Y20,Y20,vW,z16,z16,Y19,Y19⟩
 have p0:OkB (zL ⟨16,3,2,0,0,[],[7,8],0,0⟩):=by rw [xj Y19];exact uq hq1 Y19
 have p1:OkB (zL ⟨22,4,0,0,0,[],[],65280,18⟩):=by rw [xj Y19];exact uq hq2 Y19
 have p2:OkB (zL ⟨3,3,2,0,0,[],[],0,0⟩):=by rw [xj Y19];exact uq hq3 Y19
 have p3:=p2
 have p4:=o3
 have ht21:t21.ok:=⟨Y20,Y20,Y20,(fun w hw=>by simp only [t21,List.mem_cons,List.not_mem_nil,or_false] at hw;rcases hw with rfl | rfl<;>exact ⟨Y20,Y20,Y20,Y20⟩),(fun w hw=>by cases hw),Y19,Y19⟩
 refine rs (k:=rg [] (k:=rs (k:=rr (k:=?_))))
 refine zm.callw au au au Y22 ((zaC (n:=512) Y19 Y19).mono ?_)
 rintro r s1 ⟨rfl,hA0,hlo0,hnx0⟩
 have H:=aj hnx0 H
 refine zm.callw au au au Y22 ((zfn).mono ?_)
 rintro r s2 ⟨rfl,hs⟩
 have hr2:s2.blk (s.nxt+6)=some (xv (s.nxt+5) (.sl .nil []) (.sl .nil []) (.sl .nil []) (.sl .nil []) (.sl .nil [])):=by rw [hs,← hnx0];exact zN
 have hx2:s2.nxt=s.nxt+7:=by rw [hs];simp only [zq,hnx0]
 have hA2:zK s.nxt (Dev.zero 512) s2:=by rw [hs];exact hA0.nw Y18 _
 have hlo2:∀ j,j<s.nxt→s2.blk j=s.blk j:=fun j hj=>by rw [hs,zg Y18];exact hlo0 j hj
 clear hs
 have H:=aj hx2 H
 refine rh [1] (k:=rs (k:=rr (k:=ro (pre:=[_,_]) (k:=rO (k:=rh [1,2] (k:=rs (k:=?_)))))))
 refine Run.genS fun S0 hS=>?_
 have hx0:S0.nxt=s.nxt+8:=by rw [hS];show s2.nxt+1=_;omega
 have ht0:S0.blk (s.nxt+7)=some (.row 28 [.agg [.int .i64 5,.int .u32 4260104,.int .i64 0,.sl .clip [.agg [.int .i64 3,.int .i64 0,.int .i64 100,.int .i64 4],.agg [.int .i64 3,.int .i64 4,.int .i64 50,.int .i64 4]],.sl .nil []]]):=by rw [hS,← hx2];first | exact zN | exact zy _ _ _
 have hr0:S0.blk (s.nxt+6)=some (xv (s.nxt+5) (.sl .nil []) (.sl .nil []) (.sl .nil []) (.sl .nil []) (.sl .nil [])):=by rw [hS];first |(rw [zg Y18];exact hr2) |(rw [zd Y18,zg Y18];exact hr2)
 have hA0':zK s.nxt (Dev.zero 512) S0:=by rw [hS];first | exact hA2.nw Y18 _ | exact (hA2.nw Y18 _).sv Y18 _
 have hlo0':∀ j,j<s.nxt→S0.blk j=s.blk j:=fun j hj=>by rw [hS];first |(rw [zg Y18];exact hlo2 j hj) |(rw [zd Y18,zg Y18];exact hlo2 j hj)
 clear hS
 have H:=aj ht0 H
 refine rr (k:=ro (pre:=[_,_]) (k:=?_))
 refine zm.callw au au au Y22 ((zf2 (t:=t21) ht21 (T:=1) (ln:=s.nxt+6)).mono ?_)
 rintro r S9 ⟨z9,rfl,hs9⟩
 have H:=aj hx0 H
 refine rh [1,2,3] (k:=rs (k:=rs (k:=?_)))
 have K0:K21 s.nxt (s.nxt+9) (s.nxt+10) 1 t21 u21 s S9:=by
  rw [hs9,hx0]
  have h9:=zib (s0:=s) (z:=z9) (n:=512) Y19 (show 1<4 from Y19) ht21 hA0' hr0 Y18 hlo0'
  rw [hx0] at h9
  exact h9
 have hx9:S9.nxt=s.nxt+11:=by rw [hs9];show S0.nxt+1+1+1=_;omega
 have ht9:S9.blk (s.nxt+7)=some (.row 28 [.agg [.int .i64 5,.int .u32 4260104,.int .i64 0,.sl .clip [.agg [.int .i64 3,.int .i64 0,.int .i64 100,.int .i64 4],.agg [.int .i64 3,.int .i64 4,.int .i64 50,.int .i64 4]],.sl .nil []]]):=by rw [hs9,zg (by show s.nxt+7≠S0.nxt+1+1;omega),zg (by show s.nxt+7≠S0.nxt+1;omega),zg Y18];exact ht0
 have l0:u21.l.length≤70000:=Y19
 have u0:u21.l.length≤0:=Y19
 have H:=aj ht9 trivial
 clear hs9
 refine rr (k:=ro (pre:=[_,_,_,_,_,_,_]) (k:=rg1 (k:=rC (h:=zi0 (t:=t21)) (k:=rg1 (k:=ro (pre:=[_,_]) (k:=rg1 (k:=rC (h:=K0.count) (k:=rg1 (k:=rh [1,3,40] (k:=rc (ht:=fun hc0=>?_) (hf:=fun hc0=>?_)))))))))))
 ·cases hc0
 ·refine rk (k:=rs (k:=rr (k:=rO (k:=ro (pre:=[_]) (k:=rC (h:=Zz hq1) (k:=rh [1,3,4] (k:=rs (k:=rr (k:=ro (pre:=[_,_,_]) (k:=?_))))))))))
  refine zm.callw au au au Y22 ((K0.serve l0 (pdu:=(zL ⟨16,3,2,0,0,[],[7,8],0,0⟩)) p0 Y19 (mid:=9) (mun:=5) (tick:=200) Y20).mono ?_)
  rintro r z0 ⟨rfl,kk,zn,zr,zl⟩
  have kk:K21 s.nxt (s.nxt+9) (s.nxt+10) 1 t21 a21.2 s z0:=kk
  rw [show (yq t21 1 5 (zL ⟨16,3,2,0,0,[],[7,8],0,0⟩) 200 u21).1=a21.1 from rfl]
  refine rh [1,3,6] (k:=rs (k:=?_))
  refine Run.genS fun S1 hS=>?_
  have K1:K21 s.nxt (s.nxt+9) (s.nxt+10) 1 t21 a21.2 s S1:=zkD
  have l1:a21.2.l.length≤70000:=zpn
  have u1:(a21.2).l.length≤18*1:=zpn
  have m0q1:S1.blk z0.nxt=some (.row 49 [.agg [.int .i64 9,.int .i64 5,.sl .unk (a21.1.map (PV.int .u8))]]):=zjx
  have hx1:S1.nxt=z0.nxt+1:=UB
  clear hS
  have H:=aj m0q1 H
  refine rr (k:=ro (pre:=[_]) (k:=rC (h:=Zz hq2) (k:=rh [1,3,4,6] (k:=rs (k:=rr (k:=ro (pre:=[_,_,_]) (k:=?_)))))))
  refine zm.callw au au au Y22 ((K1.serve l1 (pdu:=(zL ⟨22,4,0,0,0,[],[],65280,18⟩)) p1 Y19 (mid:=10) (mun:=5) (tick:=400) Y20).mono ?_)
  rintro r z1 ⟨rfl,kk,zn,zr,zl⟩
  have kk:K21 s.nxt (s.nxt+9) (s.nxt+10) 1 t21 b21.2 s z1:=kk
  rw [show (yq t21 1 5 (zL ⟨22,4,0,0,0,[],[],65280,18⟩) 400 a21.2).1=b21.1 from rfl]
  refine rh [1,3,6,7] (k:=rs (k:=?_))
  refine Run.genS fun S2 hS=>?_
  have K2:K21 s.nxt (s.nxt+9) (s.nxt+10) 1 t21 b21.2 s S2:=zkD
  have l2:b21.2.l.length≤70000:=zoW
  have u2:(b21.2).l.length≤18*2:=zoW
  have m0q2:S2.blk z0.nxt=some (.row 49 [.agg [.int .i64 9,.int .i64 5,.sl .unk (a21.1.map (PV.int .u8))]]):=by rw [hS,zg Y18];exact zr _ _ _ Y18 Y18 Y18 m0q1
  have m1q2:S2.blk z1.nxt=some (.row 49 [.agg [.int .i64 10,.int .i64 5,.sl .unk (b21.1.map (PV.int .u8))]]):=zjx
  have hx2:S2.nxt=z1.nxt+1:=UB
  clear hS
  have H:=aj m0q2 (aj m1q2 H)
  refine rr (k:=ro (pre:=[_]) (k:=rC (h:=Zz hq3) (k:=rh [1,3,4,6,7] (k:=rs (k:=rr (k:=ro (pre:=[_,_,_]) (k:=?_)))))))
  refine zm.callw au au au Y22 ((K2.serve l2 (pdu:=(zL ⟨3,3,2,0,0,[],[],0,0⟩)) p2 Y19 (mid:=11) (mun:=5) (tick:=600) Y20).mono ?_)
  rintro r z2 ⟨rfl,kk,zn,zr,zl⟩
  have kk:K21 s.nxt (s.nxt+9) (s.nxt+10) 1 t21 c21.2 s z2:=kk
  rw [show (yq t21 1 5 (zL ⟨3,3,2,0,0,[],[],0,0⟩) 600 b21.2).1=c21.1 from rfl]
  refine rh [1,3,4,6,7,8] (k:=rs (k:=?_))
  refine Run.genS fun S3 hS=>?_
  have K3:K21 s.nxt (s.nxt+9) (s.nxt+10) 1 t21 c21.2 s S3:=zkD
  have l3:c21.2.l.length≤70000:=zo5
  have u3:(c21.2).l.length≤18*3:=zo5
  have m0q3:S3.blk z0.nxt=some (.row 49 [.agg [.int .i64 9,.int .i64 5,.sl .unk (a21.1.map (PV.int .u8))]]):=by rw [hS,zg Y18];exact zr _ _ _ Y18 Y18 Y18 m0q2
  have m1q3:S3.blk z1.nxt=some (.row 49 [.agg [.int .i64 10,.int .i64 5,.sl .unk (b21.1.map (PV.int .u8))]]):=by rw [hS,zg Y18];exact zr _ _ _ Y18 Y18 Y18 m1q2
  have m2q3:S3.blk z2.nxt=some (.row 49 [.agg [.int .i64 11,.int .i64 5,.sl .unk (c21.1.map (PV.int .u8))]]):=zjx
  have hx3:S3.nxt=z2.nxt+1:=UB
  clear hS
  have H:=aj m0q3 (aj m1q3 (aj m2q3 H))
  refine rr (k:=ro (pre:=[_,_,_]) (k:=?_))
  refine zm.callw au au au Y22 ((K3.serve l3 (pdu:=(zL ⟨3,3,2,0,0,[],[],0,0⟩)) p3 Y19 (mid:=12) (mun:=6) (tick:=800) Y20).mono ?_)
  rintro r z3 ⟨rfl,kk,zn,zr,zl⟩
  have kk:K21 s.nxt (s.nxt+9) (s.nxt+10) 1 t21 d21.2 s z3:=kk
  rw [show (yq t21 1 6 (zL ⟨3,3,2,0,0,[],[],0,0⟩) 800 c21.2).1=d21.1 from rfl]
  refine rh [1,3,6,7,8,9] (k:=rs (k:=?_))
  refine Run.genS fun S4 hS=>?_
  have K4:K21 s.nxt (s.nxt+9) (s.nxt+10) 1 t21 d21.2 s S4:=zkD
  have l4:d21.2.l.length≤70000:=zoK
  have u4:(d21.2).l.length≤18*4:=zoK
  have m0q4:S4.blk z0.nxt=some (.row 49 [.agg [.int .i64 9,.int .i64 5,.sl .unk (a21.1.map (PV.int .u8))]]):=by rw [hS,zg Y18];exact zr _ _ _ Y18 Y18 Y18 m0q3
  have m1q4:S4.blk z1.nxt=some (.row 49 [.agg [.int .i64 10,.int .i64 5,.sl .unk (b21.1.map (PV.int .u8))]]):=by rw [hS,zg Y18];exact zr _ _ _ Y18 Y18 Y18 m1q3
  have m2q4:S4.blk z2.nxt=some (.row 49 [.agg [.int .i64 11,.int .i64 5,.sl .unk (c21.1.map (PV.int .u8))]]):=by rw [hS,zg Y18];exact zr _ _ _ Y18 Y18 Y18 m2q3
  have m3q4:S4.blk z3.nxt=some (.row 49 [.agg [.int .i64 12,.int .i64 6,.sl .unk (d21.1.map (PV.int .u8))]]):=zjx
  have hx4:S4.nxt=z3.nxt+1:=UB
  clear hS
  have H:=aj m0q4 (aj m1q4 (aj m2q4 (aj m3q4 H)))
  refine rr (k:=ro (pre:=[_]) (k:=rO (k:=ro (pre:=[_]) (k:=?_))))
  refine zm.callw au au au Y22 ((K4.serve l4 (pdu:=[7]) p4 Y19 (mid:=13) (mun:=5) (tick:=900) Y20).mono ?_)
  rintro r z4 ⟨rfl,kk,zn,zr,zl⟩
  have kk:K21 s.nxt (s.nxt+9) (s.nxt+10) 1 t21 e21.2 s z4:=kk
  rw [show (yq t21 1 5 [7] 900 d21.2).1=e21.1 from rfl]
  refine rh [1,3,6,7,8,9,10] (k:=rs (k:=?_))
  refine Run.genS fun S5 hS=>?_
  have K5:K21 s.nxt (s.nxt+9) (s.nxt+10) 1 t21 e21.2 s S5:=zkD
  have l5:e21.2.l.length≤70000:=zqa
  have u5:(e21.2).l.length≤18*5:=zqa
  have m0q5:S5.blk z0.nxt=some (.row 49 [.agg [.int .i64 9,.int .i64 5,.sl .unk (a21.1.map (PV.int .u8))]]):=by rw [hS,zg Y18];exact zr _ _ _ Y18 Y18 Y18 m0q4
  have m1q5:S5.blk z1.nxt=some (.row 49 [.agg [.int .i64 10,.int .i64 5,.sl .unk (b21.1.map (PV.int .u8))]]):=by rw [hS,zg Y18];exact zr _ _ _ Y18 Y18 Y18 m1q4
  have m2q5:S5.blk z2.nxt=some (.row 49 [.agg [.int .i64 11,.int .i64 5,.sl .unk (c21.1.map (PV.int .u8))]]):=by rw [hS,zg Y18];exact zr _ _ _ Y18 Y18 Y18 m2q4
  have m3q5:S5.blk z3.nxt=some (.row 49 [.agg [.int .i64 12,.int .i64 6,.sl .unk (d21.1.map (PV.int .u8))]]):=by rw [hS,zg Y18];exact zr _ _ _ Y18 Y18 Y18 m3q4
  have m4q5:S5.blk z4.nxt=some (.row 49 [.agg [.int .i64 13,.int .i64 5,.sl .unk (e21.1.map (PV.int .u8))]]):=zjx
  have hx5:S5.nxt=z4.nxt+1:=UB
  clear hS
  have H:=aj m0q5 (aj m1q5 (aj m2q5 (aj m3q5 (aj m4q5 H))))
  refine rr (k:=ro (pre:=[_]) (k:=rC (h:=K5.sent Y18) (k:=rh [3,6,7,8,9,10,11] (k:=rs (k:=rr (k:=ro (pre:=[_]) (k:=rC (h:=K5.count) (k:=rC (h:=K5.get (sub:=11)) (k:=rh [3,6,7,8,9,10,11,12] (k:=rs (k:=rr (k:=ro (pre:=[_]) (k:=rC (h:=K5.count) (k:=rC (h:=K5.get (sub:=13)) (k:=rh [6,7,8,9,10,11,12,14] (k:=?_))))))))))))))))
  refine rs (k:=?_)
  obtain ⟨x0,x1,x2,x3,x4,x5,hL⟩:∃ x0 x1 x2 x3 x4 x5,e21.2.l=[x0,x1,x2,x3,x4,x5]:=by
   have h9:=congrArg List.length k21.2.1
   rw [List.length_map] at h9
   match h:e21.2.l,h9 with
   | [a,b,c,d,e,f],_=>exact ⟨a,b,c,d,e,f,rfl⟩
  have hT:=k21.2.1
  rw [hL] at hT
  simp only [List.map_cons,List.map_nil,List.cons.injEq,and_true] at hT
  have hL1:(e21.2.l.map Snt.pv)[1]? =some (.agg [.int .i64 212,.int .i64 x1.tenant,.sl .unk (x1.data.map (PV.int .u8))]):=by rw [hL,← hT.2.1];rfl
  have hL3:(e21.2.l.map Snt.pv)[3]? =some (.agg [.int .i64 412,.int .i64 x3.tenant,.sl .unk (x3.data.map (PV.int .u8))]):=by rw [hL,← hT.2.2.2.1];rfl
  have hL6:e21.2.l.length=6:=by rw [hL];rfl
  have hs0:((vf a21.1).toList==({ data:= #[16,0,3,0,2] }:ByteArray).toList)=true:=by rw [k21.1.1,show vf [16,0,3,0,2]=({ data:= #[16,0,3,0,2] }:ByteArray) from Y19];exact beq_self_eq_true _
  have hs1:((vf b21.1).toList==({ data:= #[22,0,4,255,0,0,18] }:ByteArray).toList)=true:=by rw [k21.1.2.1,show vf [22,0,4,255,0,0,18]=({ data:= #[22,0,4,255,0,0,18] }:ByteArray) from Y19];exact beq_self_eq_true _
  have hs2:((vf c21.1).toList==({ data:= #[3,4,0,7,0,18] }:ByteArray).toList)=true:=by rw [k21.1.2.2.1,show vf [3,4,0,7,0,18]=({ data:= #[3,4,0,7,0,18] }:ByteArray) from Y19];exact beq_self_eq_true _
  have hs3:((vf d21.1).toList==({ data:= #[131,10] }:ByteArray).toList)=true:=by rw [k21.1.2.2.2.1,show vf [131,10]=({ data:= #[131,10] }:ByteArray) from Y19];exact beq_self_eq_true _
  have hs4:((vf e21.1).toList==({ data:= #[135,1] }:ByteArray).toList)=true:=by rw [k21.1.2.2.2.2,show vf [135,1]=({ data:= #[135,1] }:ByteArray) from Y19];exact beq_self_eq_true _
  have hg1:=k21.2.2.1
  have hg2:=k21.2.2.2
  have H:=aj hL1 (aj hL3 (aj hL6 (aj hg1 (aj hg2 (aj hs0 (aj hs1 (aj hs2 (aj hs3 (aj hs4 H)))))))))
  refine rrA [some 91,some 92,some 93,some 94,some 95,some 96,some 97,some 98,some 99,some 100,some 101,some 102,some 103,some 104,some 105,some 106,some 107,some 108,some 109,some 110,some 111,some 112,some 113,some 114,some 115,some 116,some 117,some 118,some 119,some 120,some 121,some 122,some 123,some 124,some 125,some 126,some 127,some 128,some 129,some 130,some 131,some 132,some 133,some 134,some 135,some 136,some 137,some 138,some 139,some 140,some 141,some 142,some 143,some 144,some 145,some 146,some 147,some 148,some 149,some 150,some 151,some 152,some 153,some 154,some 155,some 0] (k:=fun ops hops=>?_)
  have H:=aj hops H
  refine ro (pre:=[_,_,_,_]) (k:=rg1 (k:=rg1 (k:=rg1 (k:=ro (pre:=[_,_]) (k:=rg1 (k:=rg1 (k:=rg1 (k:=rg1 (k:=ro (pre:=[_,_]) (k:=rg1 (k:=rg1 (k:=rg1 (k:=rg1 (k:=ro (pre:=[_,_]) (k:=rg1 (k:=rg1 (k:=rg1 (k:=rg1 (k:=ro (pre:=[_,_]) (k:=rg1 (k:=rg1 (k:=rg1 (k:=rg1 (k:=ro (pre:=[_,_]) (k:=rg1 (k:=rg1 (k:=?_)))))))))))))))))))))))))))
  refine rg1 (k:=rg1 (k:=ro (pre:=[_,_]) (k:=rg1 (k:=rg1 (k:=rg1 (k:=ro (pre:=[_,_]) (k:=rg1 (k:=rg1 (k:=rg1 (k:=rg1 (k:=rg1 (k:=ro (pre:=[_,_]) (k:=rg1 (k:=rg1 (k:=rg1 (k:=rg1 (k:=rg1 (k:=ro (pre:=[_,_]) (k:=rg1 (k:=rg1 (k:=ro (pre:=[_,_]) (k:=rg1 (k:=rg1 (k:=rh [0] (k:=rR (k:=?_))))))))))))))))))))))))))
  exact Ret.pure (r':=.bool true) (by simp only [Tryz.f18,go_sem,↓reduceIte]<;>rfl) rfl (by simp only [PV.blw]) hwf (fun i hi=>K5.low i hi) ⟨rfl,rfl⟩
end Go.Proofs
namespace Go.Proofs
open Go.PM
set_option maxHeartbeats 2000000
theorem znn {q:Req} (h:zD q=0):1≤q.fn∧q.fn≤127:=by
 have:=yM (vF h).has
 omega
end Go.Proofs
namespace Go.Proofs
open Go.PM
set_option maxHeartbeats 2000000
structure Au where
 fault:Int
 unit:Int
 hurt:Bool
 raw:List Int
def Au.pv (a:Au):PV:=.agg [.int .i64 a.fault,.int .i64 a.unit,.bool a.hurt,.sl .unk (a.raw.map (PV.int .u8))]
theorem K21.st {b cc un T r ty:Nat} {t:Ten} {u:Us} {s0 S:St} {vs:List PV} (h:K21 b cc un T t u s0 S) (hr:un<r) (hb:S.blk r=some (.row ty vs)) (y:Option Blk):K21 b cc un T t u s0 (S.set r y):=by
 obtain ⟨ns,h1⟩:=h.at'
 have hp:=h.pos
 exact ⟨⟨ns,h1.hi ⟨Y18,Y18,Y18,Y18,fun j hj=>h1.lin.notrow hj hb⟩ y⟩,fun j hj=>by rw [zd Y18];exact h.low j hj,h.pos⟩
theorem K21.ok {b cc un T:Nat} {t:Ten} {u:Us} {s0 S:St} (h:K21 b cc un T t u s0 S):u.ok:=by
 obtain ⟨ns,h1⟩:=h.at'
 exact h1.uok
attribute [local go_sem] ye zf
end Go.Proofs
namespace Go.Proofs
open Go.PM
set_option maxHeartbeats 2000000
def wq (k n:Int) (w:List Int):Req:=⟨16,k,n,0,0,[],w,0,0⟩
def rq (k n:Int):Req:=⟨3,k,n,0,0,[],[],0,0⟩
def zeH (p:Pc):Rep:=⟨16,0,p.phys,p.cnt,0,[],[],0,0,[]⟩
def zcp (v:List Int) (p:Pc):Rep:=⟨3,0,0,0,0,[],cutF v p.phys p.cnt,0,0,[]⟩
theorem zdk {N:Nat} {w:List Int} {k:Int} {p:Pc} (h:zag N w k p) {n:Int} (hn:n=p.cnt):zz N p.phys n=true:=by
 have h1:=h.ph;have h2:=h.pe;have h3:=h.one
 exact decide_eq_true Y18
theorem zlB {D:Dev} {w:List Int} {k:Int} {p:Pc} (h:zag D.c0.length w k p) (hr:zD ⟨16,p.phys,p.cnt,0,0,[],ptF w k p,0,0⟩=0) (hc:p.cnt≤123):∃ E,doF D ⟨16,p.phys,p.cnt,0,0,[],ptF w k p,0,0⟩=(zeH p,E)∧E.v1=yi D.v1 p.phys.toNat (ptF w k p)∧E.c0=D.c0:=by
 have h3:=h.one
 have hl:=YJ h
 have ht:zz D.c0.length p.phys (ptF w k p).length=true:=zdk h ze1
 have hcf:yu ⟨16,p.phys,p.cnt,0,0,[],ptF w k p,0,0⟩=true:=decide_eq_true ⟨hr,by dsimp only;rw [if_neg Y19,if_neg Y19,if_neg Y19,if_pos rfl];omega⟩
 have hb:∀ E:Dev,E.c0=D.c0→zF E ⟨16,p.phys,p.cnt,0,0,[],ptF w k p,0,0⟩=(zeH p,{ E with v1:=yi E.v1 p.phys.toNat (ptF w k p) }):=fun E hE=>by
  unfold zF
  dsimp only
  rw [if_neg Y19,if_neg Y19,if_neg Y19,if_neg Y19,if_neg Y19,if_pos Y19,hE,if_pos ht]
  rfl
 unfold doF
 dsimp only
 rw [if_neg Y19,if_neg (by rw [hcf];simp [hr]),hb { D with msgs:=inc D.msgs } rfl,if_neg (by show ¬ ¬ (0:Int)=0;decide)]
 exact ⟨_,rfl,rfl,rfl⟩
theorem zmr {D:Dev} {p:Pc} (ht:zz D.c0.length p.phys p.cnt=true) (hr:zD ⟨3,p.phys,p.cnt,0,0,[],[],0,0⟩=0) (hc:1≤p.cnt∧p.cnt≤125):∃ E,doF D ⟨3,p.phys,p.cnt,0,0,[],[],0,0⟩=(zcp D.v1 p,E)∧E.v1=D.v1∧E.c0=D.c0:=by
 have hcf:yu ⟨3,p.phys,p.cnt,0,0,[],[],0,0⟩=true:=decide_eq_true ⟨hr,by dsimp only;rw [if_neg Y19,if_pos Y19];exact hc⟩
 have hb:∀ E:Dev,E.c0=D.c0→zF E ⟨3,p.phys,p.cnt,0,0,[],[],0,0⟩=(zcp E.v1 p,E):=fun E hE=>by
  unfold zF
  dsimp only
  rw [if_neg Y19,if_neg Y19,if_pos Y19,hE,if_pos ht]
  rfl
 unfold doF
 dsimp only
 rw [if_neg Y19,if_neg (by rw [hcf];simp [hr]),hb { D with msgs:=inc D.msgs } rfl,if_neg (by show ¬ ¬ (0:Int)=0;decide)]
 exact ⟨_,rfl,rfl,rfl⟩
theorem zpu {y:Req} (hr:zD y=0) {FS:Nat→List Int} (hF:∀ i,FS i=[]) (T:Nat) (l:List Snt) (tick:Int) (D:Dev):(Zo y FS T l tick D).1=(doF D y).1∧(Zo y FS T l tick D).2.2.1=(doF D y).2∧∀ i,(Zo y FS T l tick D).2.2.2.1 i=[]:=by
 unfold Zo
 rw [if_pos hr,hF T]
 refine ⟨rfl,rfl,fun i=>?_⟩
 show upF FS T ([]:List Int).tail i=[]
 by_cases e:i=T
 ·rw [e,wE];rfl
 ·rw [xC e];exact hF i
theorem zdn {w:List Int} {k n:Int} {T:Nat} {tick:Int} (hw:w.length≤123):∀ (P:List Pc) (i:Nat) (out:List Rep) (u:Us),(∀ p∈P,zag u.D.c0.length w k p∧zD ⟨16,p.phys,p.cnt,0,0,[],ptF w k p,0,0⟩=0)→u.D.v1.length=u.D.c0.length→(∀ i,u.FS i=[]) →
  (xY (wq k n w) T tick i (P.map fun p=>(⟨16,p.phys,p.cnt,0,0,[],ptF w k p,0,0⟩,true)) out u).1=out++P.map zeH∧(xY (wq k n w) T tick i (P.map fun p=>(⟨16,p.phys,p.cnt,0,0,[],ptF w k p,0,0⟩,true)) out u).2.D.v1=wrF w k u.D.v1 P ∧
  (xY (wq k n w) T tick i (P.map fun p=>(⟨16,p.phys,p.cnt,0,0,[],ptF w k p,0,0⟩,true)) out u).2.D.c0=u.D.c0∧∀ j,(xY (wq k n w) T tick i (P.map fun p=>(⟨16,p.phys,p.cnt,0,0,[],ptF w k p,0,0⟩,true)) out u).2.FS j=[]
 | [],i,out,u,hp,hv,hF=>⟨(List.append_nil _).symm,rfl,rfl,hF⟩
 | p::P,i,out,u,hp,hv,hF=>by
   obtain ⟨h1,h2⟩:=hp p Y71
   have b1:=h1.hi;have b2:=h1.lo;have b3:=h1.one;have b4:=h1.ph;have b5:=h1.pe
   obtain ⟨E,e1,e2,e3⟩:=zlB h1 h2 Y18
   have hx:ZM (wq k n w) (⟨16,p.phys,p.cnt,0,0,[],ptF w k p,0,0⟩,true) out=⟨16,p.phys,p.cnt,0,0,[],ptF w k p,0,0⟩:=by
    unfold ZM
    rw [if_neg (by intro h;exact absurd h.1 (by show ¬ (16:Int)=22;decide))]
   obtain ⟨a1,a2,a3⟩:=zpu h2 hF T u.l (tick+12*(i:Int)) u.D
   rw [e1] at a1 a2
   have s1:(wL (wq k n w) T tick i (⟨16,p.phys,p.cnt,0,0,[],ptF w k p,0,0⟩,true) out u).1=zeH p:=by unfold wL;rw [hx];exact a1
   have s2:(wL (wq k n w) T tick i (⟨16,p.phys,p.cnt,0,0,[],ptF w k p,0,0⟩,true) out u).2.D=E:=by unfold wL;rw [hx];exact a2
   have s3:∀ j,(wL (wq k n w) T tick i (⟨16,p.phys,p.cnt,0,0,[],ptF w k p,0,0⟩,true) out u).2.FS j=[]:=by unfold wL;rw [hx];exact a3
   rw [List.map_cons]
   unfold xY
   rw [if_pos (by rw [s1];rfl)]
   obtain ⟨r1,r2,r3,r4⟩:=zdn (T:=T) (tick:=tick) (n:=n) hw P (i+1) (out++[(wL (wq k n w) T tick i (⟨16,p.phys,p.cnt,0,0,[],ptF w k p,0,0⟩,true) out u).1]) (wL (wq k n w) T tick i (⟨16,p.phys,p.cnt,0,0,[],ptF w k p,0,0⟩,true) out u).2
    (fun q hq=>by rw [s2,e3];exact hp q (by simp [hq])) (by rw [s2,e2,e3,wT (by rw [YJ h1];omega)];exact hv) s3
   refine ⟨by rw [r1,s1,List.append_assoc];rfl,by rw [r2,s2,e2];rfl,by rw [r3,s2,e3],r4⟩
theorem zgn {k n:Int} {T:Nat} {tick:Int}:∀ (P:List Pc) (i:Nat) (out:List Rep) (u:Us),(∀ p∈P,zz u.D.c0.length p.phys p.cnt=true∧zD ⟨3,p.phys,p.cnt,0,0,[],[],0,0⟩=0∧1≤p.cnt∧p.cnt≤125)→(∀ i,u.FS i=[]) →
  (xY (rq k n) T tick i (P.map (vI 3)) out u).1=out++P.map (zcp u.D.v1)∧(xY (rq k n) T tick i (P.map (vI 3)) out u).2.D.v1=u.D.v1
 | [],i,out,u,hp,hF=>⟨(List.append_nil _).symm,rfl⟩
 | p::P,i,out,u,hp,hF=>by
   obtain ⟨h1,h2,h3⟩:=hp p Y71
   obtain ⟨E,e1,e2,e3⟩:=zmr h1 h2 h3
   have hx:ZM (rq k n) (vI 3 p) out=⟨3,p.phys,p.cnt,0,0,[],[],0,0⟩:=by
    unfold ZM
    rw [if_neg (by intro h;exact absurd h.1 (by show ¬ (3:Int)=22;decide))]
    rfl
   obtain ⟨a1,a2,a3⟩:=zpu h2 hF T u.l (tick+12*(i:Int)) u.D
   rw [e1] at a1 a2
   have s1:(wL (rq k n) T tick i (vI 3 p) out u).1=zcp u.D.v1 p:=by unfold wL;rw [hx];exact a1
   have s2:(wL (rq k n) T tick i (vI 3 p) out u).2.D=E:=by unfold wL;rw [hx];exact a2
   have s3:∀ j,(wL (rq k n) T tick i (vI 3 p) out u).2.FS j=[]:=by unfold wL;rw [hx];exact a3
   rw [List.map_cons]
   unfold xY
   rw [if_pos (by rw [s1];rfl)]
   obtain ⟨r1,r2⟩:=zgn (T:=T) (tick:=tick) (n:=n) (k:=k) P (i+1) (out++[(wL (rq k n) T tick i (vI 3 p) out u).1]) (wL (rq k n) T tick i (vI 3 p) out u).2
    (fun q hq=>by rw [s2,e3];exact hp q (by simp [hq])) s3
   refine ⟨by rw [r1,s1,s2,e2,List.append_assoc];rfl,by rw [r2,s2,e2]⟩
theorem zbc {q:Req}:∀ (P:List Pc) {f:Pc→Req} (bits:List Bool) (vals:List Int),(∀ p∈P,(f p).fn=16∧yg (zeH p)=0)→uQ q (P.map fun p=>(f p,true)) (P.map zeH) bits vals=yH q bits vals
 | [],f,bits,vals,h=>rfl
 | p::P,f,bits,vals,h=>by
   have hp:=h p Y71
   rw [List.map_cons,List.map_cons]
   unfold uQ
   rw [if_neg (by rintro (h9 | h9);exact h9 hp.1.symm;exact h9 hp.2),if_pos rfl,if_pos rfl]
   exact zbc P bits vals fun z hz=>h z (by simp [hz])
theorem zc5 {q:Req} {v:List Int}:∀ (P:List Pc) (vals:List Int),(∀ p∈P,yg (zcp v p)=0)→uQ q (P.map (vI 3)) (P.map (zcp v)) [] vals=yH q [] (vals++P.flatMap fun p=>cutF v p.phys p.cnt)
 | [],vals,h=>by rw [List.flatMap_nil,List.append_nil];rfl
 | p::P,vals,h=>by
   have hp:=h p Y71
   rw [List.map_cons,List.map_cons]
   unfold uQ vI
   dsimp only
   rw [if_neg (by rintro (h9 | h9);exact h9 rfl;exact h9 hp),if_neg Y19,if_neg Y19]
   have:=zc5 (q:=q) P (vals++(zcp v p).vals) fun z hz=>h z (by simp [hz])
   rw [List.flatMap_cons,← List.append_assoc]
   exact this
end Go.Proofs
namespace Go.Proofs
open Go.PM
set_option maxHeartbeats 2000000
theorem zfJ {t:Ten} {T:Nat} {tick:Int} {u:Us} {q:Req} (hq:q.ok) (hr:zD q=0):yk t T t.unit (zL q) tick u=if ¬ xr t q=0 then (zE q.fn (xr t q),u) else if uR q=true then ((u.c.doC q t.unit).1,{ u with c:=(u.c.doC q t.unit).2 }) else (xz t q (xY q T tick 0 (yy t q).1 [] u).1,(xY q T tick 0 (yy t q).1 [] u).2):=by
 have hb:xx (zL q)=(q,0):=by rw [xj hr];exact zaT hq hr
 have hf:=znn hr
 have hfn:fnF (zL q)=q.fn:=by
  unfold fnF
  rw [xj hr,if_neg (show ¬ yF q=[] from List.cons_ne_nil _ _)]
  show q.fn%128=q.fn
  omega
 unfold yk
 rw [if_neg (fun n=>n rfl),hb,hfn]
 dsimp only
 rw [if_neg Y19,if_neg Y19]
theorem zia (t:Ten) (T:Nat) (mun:Int) (b:List Int) (tick:Int) (u:Us):(yq t T mun b tick u).2.D=(yk t T mun b tick { u with c:=u.c.msg }).2.D∧(yq t T mun b tick u).2.FS=(yk t T mun b tick { u with c:=u.c.msg }).2.FS:=by
 unfold yq
 dsimp only
 split<;>exact ⟨rfl,rfl⟩
structure zly (x:Ten) (k:Int) (w:List Int) (p2:List Int) (p3:List Int) (v1:List Int) (R:Rep):Prop where
 hd:∃ h l,p2=h::l∧0≤h∧h≤255∧(h=16↔R.code=0)
 tk:XO p3 ⟨3,0,w.length,0,0,[],[],0,0⟩=(R,0)
 ok:R.code=0→R.vals=w
 len:v1.length=512
 okb:OkB p3
 len3:p3.length≤1000
 yes:R.code=0→∀ y∈x.wins,∀ c:Nat,y.space=3→y.phys≤c→(c:Int)<y.phys+y.cnt→k≤y.virt+c-y.phys→y.virt+c-y.phys<k+w.length→v1[c]? =w[(y.virt+c-y.phys-k).toNat]?
 no:∀ c:Nat,c<512→(R.code=0→∀ y∈x.wins,¬ (y.space=3∧y.phys≤c∧(c:Int)<y.phys+y.cnt∧k≤y.virt+c-y.phys∧y.virt+c-y.phys<k+w.length))→v1[c]? =some 0
theorem zkY {x:Ten} (hx:x.fns=16777215) {q:Req} {P:List Pc × Bool} (hr:zD q=0) (hc:yu q=true) (hf:Ws x q.fn=true) (hP:(zJ x q).2.2=P.2∧(zJ x q).1.length+(zJ x q).2.1.length=P.1.length):xr x q=if P.2=false then 2 else if 6<P.1.length then 4 else 0:=by
 unfold xr
 rw [if_neg (by rw [hr,hf];simp),if_neg (by rw [hr,hc];simp),hP.1,hP.2]
theorem zpY {p:Prop} (h:p:=by exact (fun r hr=>by obtain ⟨p,_,rfl⟩:=List.mem_map.1 hr;show ¬ decide (¬ (0:Int)=0)=true;decide)):p:=h
theorem zl1 {x:Ten} (hx:x.fns=16777215) (hown:uE x.wins=true) (hrt:∀ y∈x.wins,yj y=true) {k:Int} (hk:0≤k∧k≤60) {w:List Int} (hw:1≤w.length∧w.length≤13) (hwo:OkW w) :
  ∃ R:Rep,zly x k w (yq x 0 x.unit (zL (wq k w.length w)) 100 ⟨Dev.zero 512,fun _=>[],[],⟨0,0,0⟩⟩).1 (yq x 0 x.unit (zL (rq k w.length)) 300 (yq x 0 x.unit (zL (wq k w.length w)) 100 ⟨Dev.zero 512,fun _=>[],[],⟨0,0,0⟩⟩).2).1
   (yq x 0 x.unit (zL (rq k w.length)) 300 (yq x 0 x.unit (zL (wq k w.length w)) 100 ⟨Dev.zero 512,fun _=>[],[],⟨0,0,0⟩⟩).2).2.D.v1 R:=by
 have pt1:zai (wq k w.length w):=Xk (.inr (.inr (.inr (.inr ⟨rfl,rfl,Y18,rfl⟩)))) ⟨Y18,Y18⟩ hwo
 have pt2:zai (rq k w.length):=Xk (.inl ⟨Y19,Y19,Y18,Y18,rfl,rfl⟩) ⟨Y18,Y18⟩ vW
 have c1:yu (wq k w.length w)=true:=decide_eq_true ⟨pt1.r,by unfold wq;dsimp only;rw [if_neg Y19,if_neg Y19,if_neg Y19,if_pos rfl];omega⟩
 have c2:yu (rq k w.length)=true:=decide_eq_true ⟨pt2.r,by unfold rq;dsimp only;rw [if_neg Y19,if_pos Y19];omega⟩
 have f1:Ws x 16=true:=by unfold Ws;rw [hx];decide
 have f2:Ws x 3=true:=by unfold Ws;rw [hx];decide
 obtain ⟨M,hM⟩:∃ M,M=xW x.wins 3 k w.length:=⟨_,rfl⟩
 have q1:zJ x (wq k w.length w)=(M.1,[],M.2):=by
  unfold zJ wq
  dsimp only
  rw [if_neg Y19,if_neg Y19,if_pos Y19,hM]
  rfl
 have q2:zJ x (rq k w.length)=([],M):=by
  unfold zJ rq
  dsimp only
  rw [if_pos Y19,hM]
  rfl
 obtain ⟨cd,hcd⟩:∃ c:Int,c=if M.2=false then 2 else if 6<M.1.length then 4 else 0:=⟨_,rfl⟩
 have d1:xr x (wq k w.length w)=cd:=by rw [hcd];exact zkY hx pt1.r c1 f1 (by rw [q1];exact ⟨rfl,rfl⟩)
 have d2:xr x (rq k w.length)=cd:=by rw [hcd];exact zkY hx pt2.r c2 f2 (by rw [q2];exact ⟨rfl,Y71⟩)
 obtain ⟨u0,hu0⟩:∃ u:Us,u=⟨Dev.zero 512,fun _=>[],[],⟨0,0,0⟩⟩:=⟨_,rfl⟩
 rw [← hu0]
 have hc0:u0.D.c0.length=512:=by rw [hu0];exact List.length_replicate
 have hv0:u0.D.v1=List.replicate 512 0:=by rw [hu0];rfl
 have hF0:∀ j,u0.FS j=[]:=fun j=>by rw [hu0]
 obtain ⟨z1,hz1⟩:∃ z,z=yq x 0 x.unit (zL (wq k w.length w)) 100 u0:=⟨_,rfl⟩
 obtain ⟨z2,hz2⟩:∃ z,z=yq x 0 x.unit (zL (rq k w.length)) 300 z1.2:=⟨_,rfl⟩
 rw [← hz1,← hz2]
 have A1:=zfJ (t:=x) (T:=0) (tick:=100) (u:={ u0 with c:=u0.c.msg }) pt1.ok pt1.r
 have A2:=zfJ (t:=x) (T:=0) (tick:=300) (u:={ z1.2 with c:=z1.2.c.msg }) pt2.ok pt2.r
 rw [d1] at A1
 rw [d2] at A2
 have s1:z1.1=yO (yk x 0 x.unit (zL (wq k w.length w)) 100 { u0 with c:=u0.c.msg }).1:=by rw [hz1];rfl
 have s2:z2.1=yO (yk x 0 x.unit (zL (rq k w.length)) 300 { z1.2 with c:=z1.2.c.msg }).1:=by rw [hz2];rfl
 have D1:=zia x 0 x.unit (zL (wq k w.length w)) 100 u0
 have D2:=zia x 0 x.unit (zL (rq k w.length)) 300 z1.2
 rw [← hz1] at D1
 rw [← hz2] at D2
 by_cases hc:cd=0
 case neg =>
  rw [if_pos hc] at A1 A2
  rw [A1] at s1 D1
  rw [A2] at s2 D2
  have hcv:cd=2∨cd=4:=by
   rw [hcd]
   rw [hcd] at hc
   split
   ·exact .inl rfl
   ·rename_i h9
    rw [if_neg h9] at hc
    split
    ·exact .inr rfl
    ·rename_i h8
     rw [if_neg h8] at hc
     exact absurd rfl hc
  have hz:z2.2.D.v1=List.replicate 512 0:=by rw [D2.1];show z1.2.D.v1=_;rw [D1.1];exact hv0
  have hnc:¬ (zE 3 cd).code=0:=by
   show ¬ cd%256=0
   omega
  refine ⟨zE 3 cd,⟨?_,?_,fun h=>absurd h hnc,by rw [hz];exact List.length_replicate,by rw [s2];exact uD (wX _ _),by rw [s2];rcases hcv with rfl | rfl<;>exact (by decide:([131,4]:List Int).length≤1000),fun h=>absurd h hnc,fun c h1 _=>?_⟩⟩
  ·refine ⟨144,[cd],?_,Y19,Y19,⟨(fun h=>absurd h Y19),(fun h=>absurd h hnc)⟩⟩
   rw [s1]
   rcases hcv with rfl | rfl<;>rfl
  ·rw [s2]
   exact (wO (q:=⟨3,0,w.length,0,0,[],[],0,0⟩) Y77 (c:=cd) Y18).take Y77
  ·rw [hz,List.getElem?_replicate,if_pos h1]
 case pos =>
  have hM2:M.2=true:=by
   cases e:M.2 with
   | true=>rfl
   | false=>rw [e,if_pos rfl] at hcd;omega
  have hl1:¬ uR (wq k w.length w)=true:=by show ¬ decide ((16:Int)=8∨(16:Int)=17)=true;decide
  have hl2:¬ uR (rq k w.length)=true:=by show ¬ decide ((3:Int)=8∨(3:Int)=17)=true;decide
  rw [if_neg (fun n=>n hc),if_neg hl1] at A1
  rw [if_neg (fun n=>n hc),if_neg hl2] at A2
  have g1:xr x (wq k w.length w)=0:=by rw [d1];exact hc
  have g2:xr x (rq k w.length)=0:=by rw [d2];exact hc
  have p1:yy x (wq k w.length w)=(M.1.map (fun p=>(⟨16,p.phys,p.cnt,0,0,[],ptF w k p,0,0⟩,true)),0):=by
   rw [uv g1 (by show ¬ (16:Int)=22;decide),q1]
   simp only [List.map_nil,List.append_nil]
   congr 1
  have p2:yy x (rq k w.length)=(M.1.map (vI 3),0):=by
   rw [uv g2 (by show ¬ (3:Int)=22;decide),q2]
   simp only [List.map_nil,List.nil_append]
   congr 1
  have hfit:∀ p∈M.1,zag 512 w k p:=fun p hp=>by
   rw [hM] at hp
   have h9:=(vx hp).1
   exact ⟨h9.ph,h9.pe,h9.one,h9.lo,h9.hi⟩
  have hr1:∀ p∈M.1,zD ⟨16,p.phys,p.cnt,0,0,[],ptF w k p,0,0⟩=0:=fun p hp=>by
   have h9:=zbn (t:=x) pt1.ok (⟨16,p.phys,p.cnt,0,0,[],ptF w k p,0,0⟩,true) (by rw [p1];exact List.mem_map.2 ⟨p,hp,rfl⟩)
   exact h9.r
  have hr2:∀ p∈M.1,zD ⟨3,p.phys,p.cnt,0,0,[],[],0,0⟩=0:=fun p hp=>by
   have h9:=zbn (t:=x) pt2.ok (vI 3 p) (by rw [p2];exact List.mem_map.2 ⟨p,hp,rfl⟩)
   exact h9.r
  rw [p1] at A1
  rw [p2] at A2
  obtain ⟨w1,w2,w3,w4⟩:=zdn (n:=w.length) (T:=0) (tick:=100) (w:=w) (k:=k) Y18 M.1 0 [] { u0 with c:=u0.c.msg } (fun p hp=>by show zag u0.D.c0.length w k p∧_;rw [hc0];exact ⟨hfit p hp,hr1 p hp⟩) (by show u0.D.v1.length=u0.D.c0.length;rw [hv0,hc0];exact List.length_replicate) hF0
  rw [List.nil_append] at w1
  have hap:M.1.Pairwise fun p q=>p.phys+p.cnt≤q.phys∨q.phys+q.cnt≤p.phys:=by rw [hM];exact zeo hown (by rw [← hM];exact hM2)
  have htile:ZV k (k+w.length) M.1:=by rw [hM];exact zdf (by rw [← hM];exact hM2)
  have hz1D:z1.2.D.v1=wrF w k (List.replicate 512 0) M.1∧z1.2.D.c0.length=512∧∀ j,z1.2.FS j=[]:=by
   rw [D1.1,D1.2,A1]
   refine ⟨?_,?_,w4⟩
   ·show (xY _ _ _ _ _ _ _).2.D.v1=_
    rw [w2]
    show wrF w k u0.D.v1 M.1=_
    rw [hv0]
   ·show (xY _ _ _ _ _ _ _).2.D.c0.length=_
    rw [w3];exact hc0
  have hlz:(List.replicate 512 (0:Int)).length=512:=List.length_replicate
  have hfz:∀ p∈M.1,zag (List.replicate 512 (0:Int)).length w k p:=fun p hp=>by rw [hlz];exact hfit p hp
  obtain ⟨v1,v2⟩:=zgn (n:=w.length) (k:=k) (T:=0) (tick:=300) M.1 0 [] { z1.2 with c:=z1.2.c.msg } (fun p hp=>by
   have h9:=hfit p hp
   have b1:=h9.hi;have b2:=h9.lo;have b3:=h9.one
   exact ⟨by show zz z1.2.D.c0.length _ _=true;rw [hz1D.2.1];exact zdk h9 rfl,hr2 p hp,b3,Y18⟩) hz1D.2.2
  rw [List.nil_append] at v1
  have hrr:∀ p∈M.1,cutF z1.2.D.v1 p.phys p.cnt=ptF w k p:=fun p hp=>by rw [hz1D.1];exact zgF hfz hap hp
  have hg1:∀ p∈M.1,yg (zeH p)=0:=fun p hp=>by
   have h9:=hfit p hp
   have b1:=h9.ph;have b2:=h9.pe;have b3:=h9.one
   exact (zaw (q:=⟨16,0,0,0,0,[],[],0,0⟩) (.inr rfl) (A:=p.phys) (C:=p.cnt) (by unfold U16;omega) (by unfold U16;omega)).good
  have hg2:∀ p∈M.1,yg (zcp z1.2.D.v1 p)=0:=fun p hp=>by
   have h9:=hfit p hp
   have b1:=h9.hi;have b2:=h9.lo;have b3:=h9.one
   have hl:=YJ h9
   have h8:=(Yj (q:=⟨3,0,p.cnt,0,0,[],[],0,0⟩) (.inl rfl) (V:=ptF w k p) (hwo.cut _ _) (by rw [hl];show ((p.cnt.toNat:Nat):Int)=p.cnt;omega) ze1).good
   unfold zcp
   rw [hrr p hp]
   exact h8
  have j1:xz x (wq k w.length w) (M.1.map zeH)=⟨16,0,k,w.length,0,[],[],0,0,[]⟩:=by
   unfold xz
   rw [p1]
   dsimp only
   rw [if_neg (fun n=>n rfl),if_neg hl1,List.length_map,List.take_of_length_le (by rw [List.length_map];exact Nat.le_refl _)]
   rw [List.find?_eq_none.2 zpY]
   dsimp only
   rw [zbc M.1 [] [] (fun p hp=>⟨rfl,hg1 p hp⟩)]
   rfl
  have hcat:(M.1.flatMap fun p=>cutF z1.2.D.v1 p.phys p.cnt)=w:=by
   have e1:(M.1.flatMap fun p=>cutF z1.2.D.v1 p.phys p.cnt)=M.1.flatMap (ptF w k):=by
    simp only [List.flatMap_def]
    congr 1
    exact List.map_congr_left fun p hp=>hrr p hp
   rw [e1,zfW htile (Int.le_refl _) rfl,Int.sub_self]
   rfl
  have j2:xz x (rq k w.length) (M.1.map (zcp z1.2.D.v1))=⟨3,0,0,0,0,[],w,0,0,[]⟩:=by
   unfold xz
   rw [p2]
   dsimp only
   rw [if_neg (fun n=>n rfl),if_neg hl2,List.length_map,List.take_of_length_le (by rw [List.length_map];exact Nat.le_refl _)]
   rw [List.find?_eq_none.2 zpY]
   dsimp only
   rw [zc5 M.1 [] hg2,List.nil_append,hcat]
   unfold yH rq
   dsimp only
   rw [if_neg Y19,if_neg Y19,if_neg Y19,if_neg Y19,if_pos (by rw [List.length_nil];omega)]
  rw [A1] at s1
  rw [A2] at s2
  dsimp only at s1 s2
  rw [w1,j1] at s1
  rw [v1,j2] at s2
  have hz2D:z2.2.D.v1=wrF w k (List.replicate 512 0) M.1:=by
   rw [D2.1,A2]
   show (xY _ _ _ _ _ _ _).2.D.v1=_
   rw [v2]
   exact hz1D.1
  have hgw:yg (⟨16,0,k,w.length,0,[],[],0,0,[]⟩:Rep)=0:=(zaw (q:=⟨16,0,0,0,0,[],[],0,0⟩) (.inr rfl) (A:=k) (C:=w.length) (by unfold U16;omega) (by unfold U16;omega)).good
  have hR3:(⟨3,0,0,0,0,[],w,0,0,[]⟩:Rep).ok:=⟨by constructor<;>(dsimp only;omega),xu,xu,xu,xu,hwo,vS,vS,OkB.nil,Nat.zero_le _,Y77,Nat.zero_le _⟩
  have hL3:(yO (⟨3,0,0,0,0,[],w,0,0,[]⟩:Rep)).length≤1000:=by
   unfold yO
   split
   ·show (3::((w.flatMap zx).length:Int)::w.flatMap zx).length≤1000
    rw [List.length_cons,List.length_cons,wC]
    omega
   ·exact Nat.zero_le _
  refine ⟨⟨3,0,0,0,0,[],w,0,0,[]⟩,⟨?_,?_,fun _=>rfl,by rw [hz2D,zee _ _ hfz];exact hlz,by rw [s2];exact uD hR3,by rw [s2];exact hL3,fun _ y hy c e1 e2 e3 e4 e5=>?_,fun c h1 hno=>?_⟩⟩
  ·refine ⟨16,zx k++zx w.length,?_,Y19,Y19,⟨fun _=>rfl,fun _=>rfl⟩⟩
   rw [s1]
   unfold yO
   rw [if_pos hgw]
   rfl
  ·rw [s2]
   exact (Yj (q:=⟨3,0,w.length,0,0,[],[],0,0⟩) (.inl rfl) (V:=w) hwo rfl Y18).take Y77
  ·rw [hz2D]
   obtain ⟨p,hp,o1,o2⟩:=htile.find (y.virt+c-y.phys) e4 e5
   have h9:=zi5 hown (by rw [← hM];exact hp) hy (hrt y hy) e1 ⟨o1,o2⟩ ⟨Y18,Y18⟩
   rw [zhP M.1 _ hfz hap p hp Y18 Y18]
   congr 2
   omega
  ·rw [hz2D,zea M.1 _ hfz (fun p hp=>?_),List.getElem?_replicate,if_pos h1]
   have hfp:=hfit p hp
   rw [hM] at hp
   obtain ⟨_,_,y,hy,o1,o2,o3⟩:=vx hp
   have ry:=vJ hy
   have hn:=hno rfl y ry.2.2
   have b1:=hfp.lo;have b2:=hfp.hi;have b3:=hfp.one
   rcases Int.lt_or_le (c:Int) p.phys with h9 | h9
   ·exact .inl h9
   ·right
    rcases Int.lt_or_le (c:Int) (p.phys+p.cnt) with h8 | h8
    ·exact absurd ⟨ry.2.1,Y18,Y18,Y18,Y18⟩ hn
    ·exact h8
end Go.Proofs
namespace Go.Proofs
open Go.PM
set_option maxHeartbeats 2000000
theorem zgj {xs ys:List Int} (nx:xs.length<140737488355328) {s:St}:za Tryz.prog 16 [.sl .unk (xs.map (PV.int .u16)),.sl .unk (ys.map (PV.int .u16))] s (fun r s'=>r=.bool (decide (xs=ys))∧s'=s):=by
 refine go Tryz.func16 (k:=fun hwf H=>?_)
 refine rs (k:=rg [0,1] (k:=rs (k:=rs (k:=rg [0,1,10] (k:=rc (ht:=fun hc0=>?_) (hf:=fun hc0=>?_))))))
 refine jO 1 ?_;rotate_left
 refine rk (k:=rs (k:=rs (k:=?_)))
 have hlen:xs.length=ys.length:=Y78
 refine rg [0,1,5] (k:=rb (k:=?_))
 refine Run.loop (fun e s'=>s'=s∧∃ i:Nat,e=[(0,.sl .unk (xs.map (PV.int .u16))),(1,.sl .unk (ys.map (PV.int .u16))),(5,.int .i64 (i:Int))]∧i≤xs.length∧xs.take i=ys.take i) (fun e s'=>xs.length-xB e 5) ?_ ?_
 ·exact zgc
 rintro e s' ⟨hs,i,rfl,hi,hbe⟩
 subst s'
 refine rs (k:=rs (k:=rg [0,1,5,14] (k:=rc (ht:=fun hc1=>?_) (hf:=fun hc1=>?_))))
 refine rk (k:=rs (k:=rb (k:=rs (k:=?_))))
 have hil:i<xs.length:=Y79
 have hjl:i<ys.length:=Y18
 obtain ⟨x,hxe⟩:∃ z_,xs[i]'hil=z_:=⟨_,rfl⟩
 have hxx:(xs.map (PV.int .u16))[i]? =some (.int .u16 x):=Y80
 obtain ⟨y,hye⟩:∃ z_,ys[i]'hjl=z_:=⟨_,rfl⟩
 have hxy:(ys.map (PV.int .u16))[i]? =some (.int .u16 y):=zj2
 have hw:IntKind.i64.wrap ((i:Int)+1)=((i+1:Nat):Int):=Y24
 have H:=aj hxx (aj hxy (aj hw H))
 refine Run.drawC [] [0,1,5,25] Tryz.mixed Y22 ?_
 refine zj.all au ?_
 refine re (k:=rc (ht:=fun hc2=>?_) (hf:=fun hc2=>?_))
 refine jO 1 ?_;rotate_left
 ·refine rk (k:=rB (k:=rg [0,1,5] (k:=?_)))
  have hxy:x=y:=by simpa using hc2
  refine Run.lp ⟨⟨rfl,i+1,rfl,Y18,?_⟩,?_⟩
  ·rw [xn hil,xn hjl,hbe,hxe,hye,hxy]
  ·exact Y29
 refine rX (k:=rs (k:=rg [4] (k:=rR (k:=rP (by simp only [Tryz.f16,go_sem];rfl) hwf ⟨?_,rfl⟩))))
 refine jO 2 ?_;rotate_left
 any_goals
  refine jI 1 ?_
  refine rs (k:=rg [4] (k:=rR (k:=rP (by simp only [Tryz.f16,go_sem];rfl) hwf ⟨?_,rfl⟩)))
  refine jO 2 ?_;rotate_left
 any_goals
  refine jI 2 ?_
  first
   |(have hne:xs≠ys:=by rintro rfl;simp at hc0
     rw [decide_eq_false hne];rfl)
   |(have hne:xs≠ys:=by
      rintro rfl
      rw [hxe] at hye
      subst hye
      simp at hc2
     rw [decide_eq_false hne];rfl)
   |(have hlen:xs.length=ys.length:=by simp at hc0;omega
     have:i=xs.length:=by have:=of_decide_eq_false hc1;omega
     rw [this,List.take_length,hlen,List.take_length] at hbe
     rw [decide_eq_true hbe];rfl)
theorem zg8 {x:Ten} {f:Int} (h:ZB x f=0):uE x.wins=true:=by
 unfold ZB at h
 split at h
 ·cases h
 ·split at h
  ·cases h
  ·split at h
   ·cases h
   ·split at h
    ·cases h
    ·rename_i h4
     cases e:uE x.wins with
     | true=>rfl
     | false=>exact absurd (by rw [e];simp) h4
theorem ziW:∃ (fs:Array Field) (fd:Field),Tryz.prog.underlying 49=some (.struct fs)∧fs[2]? =some fd∧yL Tryz.prog fd.type=some false∧fd.offset=2:=by
 obtain ⟨fs,h1,h2⟩:=Wi Tryz.td49
 have hl:fs.toList.length=3:=by have:=congrArg List.length h2;simpa using this.symm
 obtain ⟨x,y,z,hxy⟩:∃ x y z,fs.toList=[x,y,z]:=by
  match h:fs.toList,hl with
  | [a,b,c],_=>exact ⟨a,b,c,rfl⟩
 rw [hxy] at h2
 simp only [List.map_cons,List.map_nil,List.cons.injEq,Prod.mk.injEq] at h2
 refine ⟨fs,z,h1,?_,h2.2.2.1.2.2.symm,h2.2.2.1.1.symm⟩
 rw [← Array.getElem?_toList,hxy]
 rfl
theorem K21.keep {b cc un T:Nat} {t:Ten} {u:Us} {s0 S S':St} (h:K21 b cc un T t u s0 S) (hn:S.nxt≤S'.nxt) (hk:∀ j,j<S.nxt→S'.blk j=S.blk j):K21 b cc un T t u s0 S':=by
 obtain ⟨ns,h1⟩:=h.at'
 have hp:=h.pos
 exact ⟨⟨ns,h1.keep hn fun j hj _=>hk j hj⟩,fun j hj=>by rw [hk j Y18];exact h.low j hj,Y18⟩
theorem K21.dev {b cc un T:Nat} {t:Ten} {u:Us} {s0 S:St} (h:K21 b cc un T t u s0 S):za Tryz.prog 10 [.ptr (b+6) 0 0] S (fun r s'=>r=.ptr (b+5) 0 0∧s'=S):=by
 obtain ⟨ns,h1⟩:=h.at'
 exact zjB h1.lin
theorem K21.sto {b cc un T:Nat} {t:Ten} {u:Us} {s0 S:St} (h:K21 b cc un T t u s0 S):za Tryz.prog 11 [.ptr (b+5) 0 0] S (fun r s'=>r=.ptr b 0 0∧s'=S):=by
 obtain ⟨ns,h1⟩:=h.at'
 exact zdJ h1.dv
theorem K21.vals {b cc un T:Nat} {t:Ten} {u:Us} {s0 S:St} (h:K21 b cc un T t u s0 S) (hv:u.D.v1.length=512):za Tryz.prog 17 [.ptr b 0 0,.int .i64 3,.int .i64 0,.int .i64 512] S (fun r s'=>r=.tuple [.sl .unk (u.D.v1.map (PV.int .u16)),.bool true]∧s'=S):=by
 obtain ⟨ns,h1⟩:=h.at'
 have hD:=h1.uok.D
 have hc:u.D.c0.length=512:=by rw [← hD.v1];exact hv
 have h9:=Zn (h1.dv.st) (h1.dv.v1) hD.v1 hD.h2 (a:=0) (m:=512) xu Y19
 rw [hc] at h9
 have e1:cutF u.D.v1 0 512=u.D.v1:=by
  unfold cutF
  rw [hv,if_pos Y19]
  exact List.take_of_length_le (by rw [List.length_drop];show _≤512;omega)
 rw [e1] at h9
 exact h9
def zmt (k:Int) (n:Nat) (y:Win) (c:Nat):Prop:=y.space=3∧y.phys≤c∧(c:Int)<y.phys+y.cnt∧k≤y.virt+c-y.phys∧y.virt+c-y.phys<k+n
attribute [local go_sem] ye zf
set_option maxRecDepth 100000 in
theorem zi8 {tl v9:List Int} (htl:tl.length*8≤140737488351232) (hvl:v9.length*2≤140737488351232) (hvo:OkW v9) {i9 at9:Int} {s:St}:za Tryz.prog 3 [.sl .unk (tl.map (PV.int .i64)),.int .i64 i9,.int .i64 at9,.sl .unk (v9.map (PV.int .u16))] s (fun r s'=>r=.bool true∧s'=s):=by
 refine go Tryz.func3 (k:=fun hwf H=>?_)
 obtain ⟨n9,hn9⟩:∃ n:Nat,i9%4=n:=⟨(i9%4).toNat,Y18⟩
 have hand:zR .and .i64 i9 3=(n9:Int):=by rw [← hn9];exact Zi i9 2 Y19
 obtain ⟨b,hb⟩:∃ b,b=s.nxt+1:=⟨_,rfl⟩
 obtain ⟨m9,hm9⟩:∃ m:Nat,m=min v9.length 12:=⟨_,rfl⟩
 have hmn:(if (12:Int)<(v9.length:Int) then (12:Int) else (v9.length:Int))=(m9:Int):=by split<;>omega
 have hmn2:(if 12<v9.length then (12:Int) else (v9.length:Int))=(m9:Int):=by split<;>omega
 have hml:((m9:Int)≤(v9.length:Int))=True:=eq_true Y18
 have hsl9:(v9.map (PV.int .u16)).take m9=(v9.take m9).map (PV.int .u16):=List.map_take.symm
 obtain ⟨W,hW⟩:∃ W,W=7::v9.take m9:=⟨_,rfl⟩
 have hWl:1≤W.length∧W.length≤13:=by rw [hW,List.length_cons,List.length_take];omega
 have hWo:OkW W:=by
  rw [hW]
  intro z hz
  rcases List.mem_cons.1 hz with rfl | hz
  ·constructor<;>decide
  ·exact hvo z (List.mem_of_mem_take hz)
 obtain ⟨k,hk⟩:∃ k,k=ZH at9 0 60:=⟨_,rfl⟩
 have hkb:0≤k∧k≤60:=by rw [hk];exact WB Y19
 have pt1:zai (wq k W.length W):=Xk (.inr (.inr (.inr (.inr ⟨rfl,rfl,Y18,rfl⟩)))) ⟨Y18,Y18⟩ hWo
 have pt2:zai (rq k W.length):=Xk (.inl ⟨Y19,Y19,Y18,Y18,rfl,rfl⟩) ⟨Y18,Y18⟩ vW
 have qto:(⟨3,0,W.length,0,0,[],[],0,0⟩:Req).ok:=(Xk (fn:=3) (a:=0) (n:=W.length) (bits:=[]) (vals:=[]) (.inl ⟨Y19,Y19,Y18,Y18,rfl,rfl⟩) ⟨Y19,Y19⟩ vW).ok
 have po1:OkB (zL (wq k W.length W)):=by rw [xj pt1.r];exact uq pt1.ok pt1.r
 have pl1:(zL (wq k W.length W)).length≤100000:=by rw [xj pt1.r];have:=pt1.len;omega
 have po2:OkB (zL (rq k W.length)):=by rw [xj pt2.r];exact uq pt2.ok pt2.r
 have pl2:(zL (rq k W.length)).length≤100000:=by rw [xj pt2.r];have:=pt2.len;omega
 obtain ⟨fs9,fd9,hf1,hf2,hf3,hf4⟩:=ziW
 have hf5:∀ a b c:PV,[a,b,c][2]? =some c:=fun a b c=>rfl
 have H:=aj hand (aj hmn (aj hmn2 (aj hml (aj hsl9 (aj hf1 (aj hf2 (aj hf3 (aj hf4 (aj hf5 H)))))))))
 refine rs (k:=rg [0,1,2,3] (k:=rs (k:=rr (k:=ro (pre:=[_,_,_]) (k:=?_)))))
 refine zm.callw au au au Y22 ((zd1 htl (i:=n9)).mono ?_)
 rintro r s9 ⟨t,x,rfl,hxm,hR,hfw,hxo,hs⟩
 subst s9
 have hxv:x.pv=.agg [.int .i64 (x).unit,.int .u32 (x).fns,.int .i64 (x).queue,.sl .unk ((x).wins.map Win.pv),.sl .unk ((x).slts.map Slt.pv)]:=rfl
 have H:=aj hxv H
 refine rh [2,3,9] (k:=rs (k:=rg [2,3,9] (k:=rs (k:=?_))))
 refine Run.genS fun S0 hS=>?_
 have hx0:S0.nxt=b:=by rw [hS,hb];rfl
 have ht0:S0.blk s.nxt=some (.row 28 [.agg [.int .i64 x.unit,.int .u32 16777215,.int .i64 x.queue,.sl .unk (x.wins.map Win.pv),.sl .unk (x.slts.map Slt.pv)]]):=by rw [hS];first | exact zN | exact zy _ _ _
 have hl0:∀ j,j<s.nxt→S0.blk j=s.blk j:=fun j hj=>by rw [hS];first | exact zg Y18 |(rw [zd Y18];exact zg Y18)
 clear hS
 have htw:=(VG (t:=t) (by simpa [vj] using hR)).2.2 x hxm
 have hwr:=(YR htw).2.2.2.2.2.1
 have hwl:=(YR htw).1
 have hwo:=zg8 htw
 obtain ⟨X,hX⟩:∃ X:Ten,X={ x with fns:=16777215 }:=⟨_,rfl⟩
 have hXo:X.ok:=by rw [hX];exact ⟨hxo.unit,by constructor<;>(dsimp only;decide),hxo.queue,hxo.wins,hxo.slts,hxo.bw,hxo.bs⟩
 have hXv:X.pv=.agg [.int .i64 x.unit,.int .u32 16777215,.int .i64 x.queue,.sl .unk (x.wins.map Win.pv),.sl .unk (x.slts.map Slt.pv)]:=by rw [hX];rfl
 obtain ⟨u0,hu0⟩:∃ u:Us,u=⟨Dev.zero 512,fun _=>[],[],⟨0,0,0⟩⟩:=⟨_,rfl⟩
 obtain ⟨R0,hOL0'⟩:=zl1 (x:=X) (by rw [hX]) (by rw [hX];exact hwo) (by rw [hX];exact hwr) hkb hWl hWo
 have hOL0:∃ R,zly X k W _ _ _ R:=⟨R0,hOL0'⟩
 have hUN:= @zf2 X hXo 0 (b+6)
 rw [hXv] at hUN
 have hXu:X.unit=x.unit:=by rw [hX]
 have hXw:X.wins=x.wins:=by rw [hX]
 rw [hXu] at hOL0
 have H:=aj ht0 (aj hXv H)
 refine rr (k:=?_)
 refine zm.callw au au au Y22 ((zaC (n:=512) Y19 Y19).mono ?_)
 rintro r s1 ⟨rfl,hA0,hlo0,hnx0⟩
 rw [hx0] at hA0 hlo0 hnx0 ⊢
 have H:=aj hnx0 H
 refine zm.callw au au au Y22 ((zfn).mono ?_)
 rintro r s2 ⟨rfl,hs⟩
 have hr2:s2.blk (b+6)=some (xv (b+5) (.sl .nil []) (.sl .nil []) (.sl .nil []) (.sl .nil []) (.sl .nil [])):=by rw [hs,← hnx0];exact zN
 have hx2:s2.nxt=b+7:=by rw [hs];simp only [zq,hnx0]
 have hA2:zK b (Dev.zero 512) s2:=by rw [hs];exact hA0.nw Y18 _
 have hlo2:∀ j,j<b→s2.blk j=S0.blk j:=fun j hj=>by rw [hs,zg Y18];exact hlo0 j hj
 have hT2:s2.blk s.nxt=some (.row 28 [.agg [.int .i64 x.unit,.int .u32 16777215,.int .i64 x.queue,.sl .unk (x.wins.map Win.pv),.sl .unk (x.slts.map Slt.pv)]]):=by rw [hlo2 _ Y18];exact ht0
 clear hs
 rw [hnx0]
 have H:=aj hx2 (aj hT2 H)
 refine rh [2,3,9,10] (k:=rs (k:=rr (k:=ro (pre:=[_,_]) (k:=?_))))
 refine zm.callw au au au Y22 ((hUN).mono ?_)
 rintro r S9 ⟨z9,rfl,hs9⟩
 rw [hx2] at hs9 ⊢
 refine rh [2,3,9,10,11] (k:=rs (k:=rs (k:=?_)))
 have K0:K21 b (b+8) (b+9) 0 X u0 S0 S9:=by
  rw [hs9,hu0]
  have h9:=zib (s0:=S0) (z:=z9) (n:=512) Y19 (show 0<4 from Y19) hXo hA2 hr2 Y18 hlo2
  rw [hx2] at h9
  exact h9
 clear hs9
 refine rr (k:=ro (pre:=[_,_,_]) (k:=rg1 (k:=rg1 (k:=ro (pre:=[_,_]) (k:=rg1 (k:=rC (h:=K0.dev) (k:=rg1 (k:=ro (pre:=[_,_]) (k:=rg1 (k:=rC (h:=K0.dev) (k:=rC (h:=K0.sto) (k:=rg1 (k:=rh [2,3,9,10,11,52] (k:=rc (ht:=fun hc0=>?_) (hf:=fun hc0=>?_)))))))))))))))
 ·cases hc0
 refine rk (k:=rs (k:=rr (k:=rO (k:=ro (pre:=[_,_,_,_,_]) (k:=?_)))))
 refine zm.growL [7] (v9.take m9) W au (by simp only [go_sem,List.map_cons,List.map_nil,↓reduceIte,H]<;>rfl) (by simp only [go_sem,↓reduceIte,H]<;>rfl) (by rw [hW];rfl) Tryz.td23 zeY (fun a=>⟨rfl,zdS⟩) zhy zlQ ?_
 intro kw S1 hk1 hn1
 have K1:K21 b (b+8) (b+9) 0 X u0 S0 S1:=K0.keep hn1 hk1
 refine rh [2,9,10,11,12] (k:=rs (k:=rr (k:=ro (pre:=[_]) (k:=?_))))
 refine zm.callw au au au Y22 ((zh9 (lo:=0) (hi:=60) Y19 Y19 Y19).mono ?_)
 rintro r s9 ⟨rfl,hs⟩
 subst s9
 rw [← hk]
 refine rh [9,10,11,12,13] (k:=rs (k:=rr (k:=ro (pre:=[_,_,_,_,_]) (k:=rC (h:=Zz (q:=wq k W.length W) pt1.ok) (k:=rh [9,10,11,12,13,14] (k:=rs (k:=?_)))))))
 have hT1:S1.blk s.nxt=some (.row 28 [.agg [.int .i64 x.unit,.int .u32 16777215,.int .i64 x.queue,.sl .unk (x.wins.map Win.pv),.sl .unk (x.slts.map Slt.pv)]]):=by rw [K1.low _ Y18];exact ht0
 have H:=aj hT1 H
 refine rr (k:=ro (pre:=[_,_,_,_,_]) (k:=?_))
 refine zm.callw au au au Y22 ((K1.serve (by rw [hu0];exact Nat.zero_le _) (pdu:=zL (wq k W.length W)) po1 pl1 (mid:=0) (mun:=x.unit) (tick:=100) Y20).mono ?_)
 rintro r S2 ⟨rfl,K2,hn2,_,hl2⟩
 obtain ⟨P2,hP2⟩:∃ P,P=(yq X 0 x.unit (zL (wq k W.length W)) 100 u0).1:=⟨_,rfl⟩
 obtain ⟨u1,hu1⟩:∃ P,P=(yq X 0 x.unit (zL (wq k W.length W)) 100 u0).2:=⟨_,rfl⟩
 rw [← hP2]
 rw [← hu1] at K2 hl2
 have hul0:u0.l.length=0:=by rw [hu0];rfl
 have hul1:u1.l.length≤70000:=Y18
 have hT2:S2.blk s.nxt=some (.row 28 [.agg [.int .i64 x.unit,.int .u32 16777215,.int .i64 x.queue,.sl .unk (x.wins.map Win.pv),.sl .unk (x.slts.map Slt.pv)]]):=by rw [K2.low _ Y18];exact ht0
 have H:=aj hT2 H
 refine rh [9,10,11,12,13,16] (k:=rs (k:=rr (k:=ro (pre:=[_,_,_,_]) (k:=rC (h:=Zz (q:=rq k W.length) pt2.ok) (k:=rh [9,10,11,12,13,14,16] (k:=rs (k:=rr (k:=ro (pre:=[_,_,_,_,_]) (k:=?_)))))))))
 refine zm.callw au au au Y22 ((K2.serve hul1 (pdu:=zL (rq k W.length)) po2 pl2 (mid:=0) (mun:=x.unit) (tick:=300) Y20).mono ?_)
 rintro r S3 ⟨rfl,K3',hn3,_,_⟩
 obtain ⟨z2,hz2⟩:∃ P,P=yq X 0 x.unit (zL (rq k W.length)) 300 u1:=⟨_,rfl⟩
 rw [← hz2] at K3' ⊢
 have hOL2:=hOL0
 rw [← hu0,← hP2,← hu1,← hz2] at hOL2
 obtain ⟨R,hOL⟩:=hOL2
 refine ro (pre:=[_,_,_,_]) (k:=?_)
 refine zm.callw au au au Y22 ((zjY (b:=z2.1) hOL.okb (by have:=hOL.len3;omega) (q:=⟨3,0,W.length,0,0,[],[],0,0⟩) qto).mono ?_)
 rintro r s9 ⟨rfl,hs⟩
 subst s9
 rw [hOL.tk]
 refine rh [9,10,12,13,16,17,18] (k:=rs (k:=?_))
 refine Run.genS fun S4 hS=>?_
 obtain ⟨p17,hp17⟩:∃ p,p=S3.nxt:=⟨_,rfl⟩
 rw [← hp17]
 have h17:S4.blk p17=some (.row 52 [.agg [.int .i64 (R).fn,.int .i64 (R).code,.int .i64 (R).at_,.int .i64 (R).count,.int .i64 (R).sub,.sl .unk ((R).bits.map PV.bool),.sl .unk ((R).vals.map (PV.int .u16)),.int .u16 (R).and_,.int .u16 (R).or_,.sl .unk ((R).data.map (PV.int .u8))]]):=by rw [hS,hp17];exact zN
 have K3:K21 b (b+8) (b+9) 0 X z2.2 S0 S4:=by rw [hS];exact K3'.nw _
 have hT4:S4.blk s.nxt=some (.row 28 [.agg [.int .i64 x.unit,.int .u32 16777215,.int .i64 x.queue,.sl .unk (x.wins.map Win.pv),.sl .unk (x.slts.map Slt.pv)]]):=by rw [K3.low _ Y18];exact ht0
 have hb17:b<p17:=by have:=K3'.pos;omega
 have hn4:S4.nxt=p17+1:=by rw [hS,hp17];rfl
 clear hS
 obtain ⟨hh,hl,hd1,hd2,hd3,hd4⟩:=hOL.hd
 obtain ⟨V,hV⟩:∃ V,V=z2.2.D.v1:=⟨_,rfl⟩
 have hVl:V.length=512:=by rw [hV];exact hOL.len
 have hvn:(V.length:Int)=512:=Y18
 have hP0:(P2.map (PV.int .u8))[0]? =some (.int .u8 hh):=by rw [hd1];rfl
 have hPl:(0<P2.length)=True:=eq_true (by rw [hd1];exact Nat.succ_pos _)
 have hPz:decide ((P2.length:Int)=0)=false:=by rw [hd1];exact decide_eq_false (by rw [List.length_cons];omega)
 have hRv:R.pv=.agg [.int .i64 (R).fn,.int .i64 (R).code,.int .i64 (R).at_,.int .i64 (R).count,.int .i64 (R).sub,.sl .unk ((R).bits.map PV.bool),.sl .unk ((R).vals.map (PV.int .u16)),.int .u16 (R).and_,.int .u16 (R).or_,.sl .unk ((R).data.map (PV.int .u8))]:=rfl
 have hiff:decide (hh=16)=decide (R.code=0):=decide_eq_decide.2 hd4
 have hbb:∀ z:Bool,(z==z)=true:=fun z=>beq_self_eq_true z
 have H:=aj h17 (aj hT4 (aj hP0 (aj hPl (aj hPz (aj hiff (aj hbb (aj hvn H)))))))
 refine Run.join (fun e s'=>s'=S4∧e=[(9,.ptr s.nxt 0 0),(10,.ptr (b+6) 0 0),(12,.sl kw (W.map (PV.int .u16))),(13,.int .i64 k),(17,.ptr p17 0 0)]) ?_ ?_
 ·rintro e S5 ⟨hs5,rfl⟩
  subst hs5
  refine rs (k:=rr (k:=ro (pre:=[_]) (k:=rC (h:=K3.dev) (k:=rC (h:=K3.sto) (k:=?_)))))
  refine zm.callw au au au Y22 ((K3.vals hOL.len).mono ?_)
  rintro r s9 ⟨rfl,hs⟩
  subst s9
  rw [← hV]
  refine rh [9,12,13,17,19,20] (k:=rs (k:=rs (k:=rr (k:=ro (pre:=[_,_,_]) (k:=rg1 (k:=rg1 (k:=rg1 (k:=rh [9,12,13,17,19,142] (k:=rc (ht:=fun hc2=>?_) (hf:=fun hc2=>?_))))))))))
  ·cases hc2
  ·refine rk (k:=rs (k:=rs (k:=rg [9,12,13,17,19,144,145] (k:=rb (k:=?_)))))
   refine Run.loop (fun e s'=>∃ (c:Nat),e=[(9,.ptr s.nxt 0 0),(12,.sl kw (W.map (PV.int .u16))),(13,.int .i64 k),(17,.ptr p17 0 0),(19,.sl .unk (V.map (PV.int .u16))),(144,.int .i64 512),(145,.int .i64 (c:Int))]∧c≤512∧(∀ j,j<b→s'.blk j=S0.blk j)∧s'.blk p17=some (.row 52 [.agg [.int .i64 (R).fn,.int .i64 (R).code,.int .i64 (R).at_,.int .i64 (R).count,.int .i64 (R).sub,.sl .unk ((R).bits.map PV.bool),.sl .unk ((R).vals.map (PV.int .u16)),.int .u16 (R).and_,.int .u16 (R).or_,.sl .unk ((R).data.map (PV.int .u8))]])∧p17<s'.nxt) (fun e s'=>512-xB e 145) ?_ ?_
   ·exact ⟨0,rfl,Nat.zero_le _,K3.low,h17,Y18⟩
   rintro e S6 ⟨c,rfl,hc512,hlo6,h617,hn6⟩
   refine rs (k:=rg [9,12,13,17,19,144,145,146] (k:=rs (k:=rc (ht:=fun hc3=>?_) (hf:=fun hc3=>?_))))
   ·refine rk (k:=rs (k:=rb (k:=rs (k:=?_))))
    have hcl:c<512:=znV
    have hw:IntKind.i64.wrap ((c:Int)+1)=((c+1:Nat):Int):=Y24
    obtain ⟨a,hae⟩:∃ a,V[c]'Y18=a:=⟨_,rfl⟩
    have hVc:V[c]? =some a:=by rw [List.getElem?_eq_getElem Y18,hae]
    have hva:(V.map (PV.int .u16))[c]? =some (.int .u16 a):=by rw [List.getElem?_map,hVc];rfl
    have hcT:(c<V.length)=True:=eq_true Y18
    have hcT2:(c<512)=True:=eq_true hcl
    have hT6:S6.blk s.nxt=some (.row 28 [.agg [.int .i64 x.unit,.int .u32 16777215,.int .i64 x.queue,.sl .unk (x.wins.map Win.pv),.sl .unk (x.slts.map Slt.pv)]]):=by rw [hlo6 _ Y18];exact ht0
    have H:=aj hw (aj hva (aj hcT (aj hcT2 (aj hT6 H))))
    refine rg [9,12,13,17,19,21,144,145] (k:=rs (k:=rg [9,12,13,17,19,21,22,144,145] (k:=rs (k:=rs (k:=rg [9,12,13,17,19,21,22,144,145,149,150,151] (k:=rb (k:=?_)))))))
    refine Run.loop (fun e s'=>∃ (j:Nat) (inn:Bool),e=[(9,.ptr s.nxt 0 0),(12,.sl kw (W.map (PV.int .u16))),(13,.int .i64 k),(17,.ptr p17 0 0),(19,.sl .unk (V.map (PV.int .u16))),(21,.int .i64 (c:Int)),(22,.bool inn),(144,.int .i64 512),(145,.int .i64 (c:Int)),(149,.sl .unk (x.wins.map Win.pv)),(150,.int .i64 (x.wins.length:Int)),(151,.int .i64 (j:Int))]∧j≤x.wins.length∧(∀ j,j<b→s'.blk j=S0.blk j)∧s'.blk p17=some (.row 52 [.agg [.int .i64 (R).fn,.int .i64 (R).code,.int .i64 (R).at_,.int .i64 (R).count,.int .i64 (R).sub,.sl .unk ((R).bits.map PV.bool),.sl .unk ((R).vals.map (PV.int .u16)),.int .u16 (R).and_,.int .u16 (R).or_,.sl .unk ((R).data.map (PV.int .u8))]])∧p17<s'.nxt∧(inn=false→R.code=0→∀ y∈x.wins.take j,¬ zmt k W.length y c)) (fun e s'=>x.wins.length-xB e 151) ?_ ?_
    ·exact ⟨0,false,rfl,Nat.zero_le _,hlo6,h617,hn6,fun _ _ y hy=>by rw [List.take_zero] at hy;cases hy⟩
    rintro e S7 ⟨j,inn,rfl,hj,hlo7,h717,hn7,hin⟩
    refine rs (k:=rg [9,12,13,17,19,21,22,144,145,149,150,151,152] (k:=rs (k:=rc (ht:=fun hc4=>?_) (hf:=fun hc4=>?_))))
    ·refine rk (k:=rs (k:=rb (k:=rs (k:=?_))))
     have hil:j<x.wins.length:=by have:=of_decide_eq_true hc4;omega
     obtain ⟨y,hye⟩:∃ z_,x.wins[j]'hil=z_:=⟨_,rfl⟩
     have hxy:(x.wins.map Win.pv)[j]? =some (.agg [.int .i64 (y).space,.int .i64 (y).virt,.int .i64 (y).phys,.int .i64 (y).cnt]):=by rw [yP hil,hye];rfl
     have hilT:(j<x.wins.length)=True:=eq_true hil
     have hym:y∈x.wins:=zn2
     have hyr:=vD (hwr y hym)
     have hwj:IntKind.i64.wrap ((j:Int)+1)=((j+1:Nat):Int):=Y24
     have hw1:IntKind.i64.wrap (y.virt+(c:Int))=y.virt+(c:Int):=zi Y18
     have hw2:IntKind.i64.wrap (y.virt+(c:Int)-y.phys)=y.virt+(c:Int)-y.phys:=zi Y18
     have hw3:IntKind.i64.wrap (y.phys+y.cnt)=y.phys+y.cnt:=zi Y18
     have hw4:IntKind.i64.wrap (k+(W.length:Int))=k+(W.length:Int):=zi Y18
     have np:(p17=S7.nxt)=False:=eq_false Y18
     have H:=aj hxy (aj hilT (aj hwj (aj hw1 (aj hw2 (aj hw3 (aj hw4 (aj h717 (aj np H))))))))
     refine rg [9,12,13,17,19,21,22,24,144,145,149,150,151] (k:=rs (k:=rg [9,12,13,17,19,21,22,24,25,144,145,149,150,151] (k:=rs (k:=rg [9,12,13,17,19,21,22,25,144,145,149,150,151,197] (k:=rc (ht:=fun hc5=>?_) (hf:=fun hc5=>?_))))))
     ·refine rs (k:=?_)
      simp only [Bool.and_eq_true,decide_eq_true_eq] at hc5
      have hhit:zmt k W.length y c∧R.code=0:=by unfold zmt;omega
      obtain ⟨i0,hi0⟩:∃ i:Nat,y.virt+(c:Int)-y.phys-k=i:=⟨(y.virt+(c:Int)-y.phys-k).toNat,by have:=hhit.1.2.2.2.1;omega⟩
      have hwi:IntKind.i64.wrap (y.virt+(c:Int)-y.phys-k)=(i0:Int):=by rw [hi0];exact zi Y18
      have hyes:=hOL.yes hhit.2 y (by rw [hXw];exact hym) c hhit.1.1 hhit.1.2.1 hhit.1.2.2.1 hhit.1.2.2.2.1 hhit.1.2.2.2.2
      rw [← hV,hVc,hi0,Int.toNat_natCast] at hyes
      have hwx:(W.map (PV.int .u16))[i0]? =some (.int .u16 a):=by rw [List.getElem?_map,← hyes];rfl
      have hiT:(i0<W.length)=True:=eq_true (List.getElem?_eq_some_iff.1 hyes.symm).1
      have hb8:∀ n:Int,decide (n=n)=true:=fun n=>decide_eq_true rfl
      have H:=aj hwi (aj hwx (aj hiT (aj hb8 H)))
      refine Run.drawC [] [9,12,13,17,19,21,22,144,145,149,150,151] Tryz.mixed Y22 ?_
      refine zj.all au ?_
      refine re (k:=rs (k:=rg [9,12,13,17,19,21,22,144,145,149,150,151,210] (k:=rc (ht:=fun hc6=>?_) (hf:=fun hc6=>?_))))
      ·cases hc6
      ·refine rk (k:=rB (k:=rg [9,12,13,17,19,21,22,144,145,149,150,151] (k:=?_)))
       refine Run.lp ⟨⟨j+1,true,rfl,Y18,fun i hi=>by rw [zg Y18];exact hlo7 i hi,by rw [zg Y18];exact h717,Nat.lt_succ_of_lt hn7,fun h=>by cases h⟩,?_⟩
       simp only [xB,go_sem,↓reduceIte,Nat.reduceEqDiff]
       omega
     ·refine rk (k:=rB (k:=rg [9,12,13,17,19,21,22,144,145,149,150,151] (k:=?_)))
      refine Run.lp ⟨⟨j+1,inn,rfl,Y18,fun i hi=>by rw [zg Y18];exact hlo7 i hi,by rw [zg Y18];exact h717,Nat.lt_succ_of_lt hn7,fun h h0 z hz=>?_⟩,?_⟩
      ·rw [xn hil,hye] at hz
       rcases List.mem_append.1 hz with hz | hz
       ·exact hin h h0 z hz
       ·rw [List.mem_singleton.1 hz]
        intro hh
        unfold zmt at hh
        refine absurd hc5 (fun h5=>Bool.eq_false_iff.1 h5 ?_)
        simp only [Bool.and_eq_true,decide_eq_true_eq]
        omega
      ·exact Y29
    ·refine rX (k:=rs (k:=?_))
     have hje:j=x.wins.length:=by have:=of_decide_eq_false hc4;omega
     have hz:(!inn&& !decide (a=0))=false:=by
      cases inn with
      | true=>rfl
      | false =>
        have hno:=hOL.no c hcl (fun hc0' y hy hh=>by
         rw [hXw] at hy
         have h9:=hin rfl hc0' y (by rw [hje,List.take_length];exact hy)
         exact h9 hh)
        rw [← hV,hVc] at hno
        rw [Option.some.inj hno]
        rfl
     have H:=aj hz H
     refine rg [9,12,13,17,19,144,145,220] (k:=rc (ht:=fun hc7=>?_) (hf:=fun hc7=>?_))
     ·cases hc7
     ·refine rk (k:=rB (k:=rg [9,12,13,17,19,144,145] (k:=?_)))
      refine Run.lp ⟨⟨c+1,rfl,Y18,hlo7,h717,hn7⟩,?_⟩
      simp only [xB,go_sem,↓reduceIte,Nat.reduceEqDiff]
      omega
   ·refine rX (k:=rs (k:=rr (k:=rC (h:=zfY) (k:=rh [8] (k:=rR (k:=?_))))))
    exact Ret.pure (r':=.bool true) (by simp only [Tryz.f3,go_sem,↓reduceIte]<;>rfl) rfl (by simp only [PV.blw]) hwf (fun i hi=>by rw [hlo6 i Y18];exact hl0 i hi) ⟨rfl,rfl⟩
 intro hJs13
 refine rs (k:=?_)
 refine Run.drawC [] [9,10,12,13,17,128] Tryz.mixed Y22 ?_
 refine zj.pre (pre:=[_,_,_]) au ?_
 refine zj.gdo au au ?_
 refine zj.gdo au au ?_
 refine zj.gdo au au ?_
 refine zj.pre (pre:=[_,_]) au ?_
 refine zj.gdo au au ?_
 refine zj.gdo au au ?_
 refine zj.gdo au au ?_
 refine zj.gdo au au ?_
 refine zj.gdo au au ?_
 refine zj.gdo au au ?_
 refine zj.gdo au au ?_
 refine zj.gdo au au ?_
 refine zj.pre (pre:=[_,_]) au ?_
 refine zj.gdo au au ?_
 refine zj.gdo au au ?_
 refine zj.gdo au au ?_
 refine zj.gdo au au ?_
 rcases hd21:(decide (R.code=0)) with _ | _
 have H:=aj hd21 H
 refine zj.gskip' au ?_
 refine zj.gskip' au ?_
 refine zj.gskip' au ?_
 refine zj.gskip' au ?_
 refine zj.gskip' au ?_
 refine jO 1 ?_;rotate_left
 have H:=aj hd21 H
 have hsame:decide (R.vals=W)=true:=decide_eq_true (hOL.ok (of_decide_eq_true hd21))
 have H:=aj hsame H
 refine zj.gdo au au ?_
 refine zj.gdo au au ?_
 refine zj.gdo au au ?_
 refine zj.call au au au Y22 (zgj (xs:=R.vals) (ys:=W) (by rw [hOL.ok (of_decide_eq_true hd21)];omega)) ?_
 refine zj.gdo au au ?_
 refine jO 1 ?_;rotate_left
 any_goals
  refine jI 1 ?_
  refine zj.gdo au au ?_
  refine jO 2 ?_;rotate_left
 any_goals
  refine jI 2 ?_
  refine zj.all au ?_
  refine jO 3 ?_;rotate_left
 any_goals
  refine jI 3 ?_
  refine re (k:=rc (ht:=fun hc1=>?_) (hf:=fun hc1=>?_))
  ·cases hc1
  refine jO 4 ?_;rotate_left
 any_goals
  refine jI 4 ?_
  refine rk (k:=?_)
  refine Run.prune [9,10,12,13,17] rfl ?_
  exact hJs13 _ _ ⟨rfl,rfl⟩
end Go.Proofs

import Derived.Test.YtkdpnlcbccdogaaGreatB3
import Derived.Test.YtkdpnlcbccdogaaGreatB2
import Derived.Test.YtkdpnlcbccdogaaGreatB1
set_option linter.unusedVariables false
set_option linter.unusedSimpArgs false
namespace Go.Proofs
open Go.PM
set_option maxHeartbeats 2000000
theorem device_Do {b:Nat} {D:Dev} {s:St} (hA:DevAt b D s) (hD:D.ok) {q:Req} (hq:q.ok):ACalls Tryz.prog 114 [.ptr (b+5) 0 0,q.pv] s (fun r s'=>r=(doF D q).1.pv∧s'=putDev b (doF D q).2 s):=by
 cases hh:hasF q.fn with
 | false=>exact device_DoNo hA hq hh
 | true=>exact device_DoYes hA hD hq hh
theorem u8_and127 {a:Int} (h:U8 a):ibits .and .u8 a 127=a%128:=by
 unfold U8 at h
 obtain ⟨n,rfl⟩:∃ n:Nat,a=n:=⟨a.toNat,(Int.toNat_of_nonneg h.1).symm⟩
 have hn:n<256:=Y14
 have:∀ m:Fin 256,ibits .and .u8 ((m.val:Nat):Int) 127=((m.val:Nat):Int)%128:=by decide +kernel
 exact this ⟨n,hn⟩
theorem zeroR_ok:zeroR.ok:=⟨zI,zI,zI,zI,zI,zW,zU,zU,Y15,Y15⟩
theorem readF_ok {l:List Int} (h:OkB l) (hl:l.length≤140737488351232):(readF l).1.ok:=by
 unfold readF
 repeat' split
 ·exact zeroR_ok
 ·exact zeroR_ok
 ·exact guessF_ok h hl
 ·exact zeroR_ok
theorem readF_nil {l:List Int} (h:¬ (readF l).2=13):l≠[]:=by
 rintro rfl
 exact h rfl
attribute [local go_sem] set_set putDev_hi putDev_nxt weaks_bools Req.pv Rep.pv
theorem Y93 {p:Prop} (h:p:=by
 exact
                 (fun j hj hj2=>by
  have h0:=ltn hj;have h1:=lte hj
  simp (disch:=first | omega |(simp only [nxt_set,nxt_new]<;>omega) | fail) only [go_sem,Nat.add_assoc,Nat.reduceAdd,↓reduceIte,h0,h1])):p:=h
theorem Y216 {p:Prop} (h:p:=by simp only [Tryz.f101,go_sem,↓reduceIte]<;>rfl):p:=h
theorem Y322 {p:Prop} (h:p:=by first | exact refuseP_ok _ _ | exact doF_rep hD hqo):p:=h
theorem Y323 {p:Prop} (h:p:=by simp only [PV.weak,weaks_u8]):p:=h
set_option maxRecDepth 100000 in
theorem device_Pdu {b:Nat} {D:Dev} {s:St} (hA:DevAt b D s) (hD:D.ok) {l:List Int} (hb:OkB l) (hl:l.length≤140737488351232):ACalls Tryz.prog 101 [.ptr (b+5) 0 0,.sl .unk (l.map (PV.int .u8))] s (fun r s'=>r=.sl .unk ((pduF D l).1.map (PV.int .u8))∧s'=putDev b (pduF D l).2 s):=by
 refine go Tryz.func101 (k:=fun hwf H=>?_)
 have hdv:=hA.dv
 unfold devRow at hdv
 have hlt:=hA.lt hwf
 have hA1:∀ x y,DevAt b D ((s.new x).new y):=fun x y=>(hA.nw hlt x).nw Y89 y
 have h1c:I64 1:=Y16
 have h3c:I64 3:=Y16
 have hinc:IntKind.i64.wrap (D.msgs+1)=inc D.msgs:=rfl
 have H:=aj hdv (aj hinc H)
 obtain ⟨q,hQ⟩:∃ q,q=(readF l).1:=⟨_,rfl⟩
 obtain ⟨E,hE⟩:∃ E,E=(readF l).2:=⟨_,rfl⟩
 have hqo:q.ok:=by rw [hQ];exact readF_ok hb hl
 have hrd:∀ s,ACalls Tryz.prog 112 [.sl .unk (l.map (PV.int .u8))] s (fun r s'=>r=.tuple [q.pv,.int .i64 E]∧s'=s):=fun s=>by rw [hQ,hE];exact pdu_Read hb hl
 refine rs (k:=rg [0,1] (k:=rs (k:=rr (k:=ro (pre:=[_]) (k:=rC (h:=hrd _) (k:=rh [0,1,5,6] (k:=rs (k:=rg [0,1,5,6,7] (k:=rs (k:=rs (k:=rg [0,1,5,7,15] (k:=rb (k:=rs (k:=rg [0,1,5,7,15,19] (k:=rc (ht:=fun hc0=>?_) (hf:=fun hc0=>?_))))))))))))))))
 refine rs (k:=rg [4] (k:=rR (k:=?_)))
 refine jO 1 ?_;rotate_left
 refine rs (k:=rg [0,1,5,7,15,21] (k:=rc (ht:=fun hc1=>?_) (hf:=fun hc1=>?_)))
 refine rs (k:=?_)
 have hne:l≠[]:=readF_nil (by rw [← hE];have:=of_decide_eq_false hc0;exact this)
 have hll:0<l.length:=List.length_pos_iff.2 hne
 obtain ⟨x,hx⟩:∃ x,l[0]? =some x:=⟨l[0],List.getElem?_eq_getElem hll⟩
 have hxx:(l.map (PV.int .u8))[0]? =some (.int .u8 x):=Y141
 have hlT:(0<l.length)=True:=eq_true hll
 have hx8:U8 x:=hb x (List.mem_of_getElem? hx)
 have hx0:(l[0]?).getD 0=x:=Y253
 have ha127:ibits .and .u8 x 127=x%128:=u8_and127 hx8
 have hw:IntKind.i64.wrap (x%128)=x%128:=wrap_i64 Y14
 have hx64:I64 (x%128):=Y197
 have H:=aj hxx (aj hlT (aj ha127 (aj hw H)))
 refine rg [0,1,7] (k:=?_)
 refine Run.genS fun S hS=>?_
 have g0:S.blk s.nxt=some (.row 31 [.agg [.int .i64 q.fn,.int .i64 q.at_,.int .i64 q.count,.int .i64 q.wat,.int .i64 q.sub,.sl .unk (q.bits.map PV.bool),.sl .unk (q.vals.map (PV.int .u16)),.int .u16 q.and_,.int .u16 q.or_]]):=Y32
 have g1:S.blk (s.nxt+1)=some (.row 41 [.agg [.int .i64 0,.int .i64 0,.int .i64 0,.int .i64 0,.int .i64 0,.sl .nil [],.sl .nil [],.int .u16 0,.int .u16 0,.sl .nil []]]):=Y32
 have gA:DevAt b { D with msgs:=inc D.msgs } S:=by
  have e:∀ i,i≤b+5→i≠b+5→S.blk i=s.blk i:=fun i h1 h2=>Y41
  exact ⟨Y210,Y211,Y212,Y213,Y214,Y32⟩
 have gn:S.nxt=s.nxt+2:=Y267
 have gf:∀ i,i<s.nxt→i≠b+5→S.blk i=s.blk i:=fun i h1 h2=>Y41
 clear hS
 have H:=aj g0 (aj g1 H)
 refine rr (k:=ro (pre:=[_,_,_,_,_,_]) (k:=?_))
 refine RunO.callw au au au Y19 ((device_refuse gA hx64 h1c).mono ?_)
 refine jO 2 ?_;rotate_left
 refine rs (k:=rg [0,1,5,7,37] (k:=rc (ht:=fun hc2=>?_) (hf:=fun hc2=>?_)))
 refine rs (k:=?_)
 have hne:l≠[]:=readF_nil (by rw [← hE];have:=of_decide_eq_false hc0;exact this)
 have hll:0<l.length:=List.length_pos_iff.2 hne
 obtain ⟨x,hx⟩:∃ x,l[0]? =some x:=⟨l[0],List.getElem?_eq_getElem hll⟩
 have hxx:(l.map (PV.int .u8))[0]? =some (.int .u8 x):=Y141
 have hlT:(0<l.length)=True:=eq_true hll
 have hx8:U8 x:=hb x (List.mem_of_getElem? hx)
 have hx0:(l[0]?).getD 0=x:=Y253
 have ha127:ibits .and .u8 x 127=x%128:=u8_and127 hx8
 have hw:IntKind.i64.wrap (x%128)=x%128:=wrap_i64 Y14
 have hx64:I64 (x%128):=Y197
 have H:=aj hxx (aj hlT (aj ha127 (aj hw H)))
 refine rg [0,1,7] (k:=?_)
 refine Run.genS fun S hS=>?_
 have g0:S.blk s.nxt=some (.row 31 [.agg [.int .i64 q.fn,.int .i64 q.at_,.int .i64 q.count,.int .i64 q.wat,.int .i64 q.sub,.sl .unk (q.bits.map PV.bool),.sl .unk (q.vals.map (PV.int .u16)),.int .u16 q.and_,.int .u16 q.or_]]):=Y32
 have g1:S.blk (s.nxt+1)=some (.row 41 [.agg [.int .i64 0,.int .i64 0,.int .i64 0,.int .i64 0,.int .i64 0,.sl .nil [],.sl .nil [],.int .u16 0,.int .u16 0,.sl .nil []]]):=Y32
 have gA:DevAt b { D with msgs:=inc D.msgs } S:=by
  have e:∀ i,i≤b+5→i≠b+5→S.blk i=s.blk i:=fun i h1 h2=>Y41
  exact ⟨Y210,Y211,Y212,Y213,Y214,Y32⟩
 have gn:S.nxt=s.nxt+2:=Y267
 have gf:∀ i,i<s.nxt→i≠b+5→S.blk i=s.blk i:=fun i h1 h2=>Y41
 clear hS
 have H:=aj g0 (aj g1 H)
 refine rr (k:=ro (pre:=[_,_,_,_,_,_]) (k:=?_))
 refine RunO.callw au au au Y19 ((device_refuse gA hx64 h3c).mono ?_)
 refine jO 2 ?_;rotate_left
 refine rr (k:=ro (pre:=[_,_]) (k:=?_))
 refine RunO.callw au au au Y19 ((device_Do (hA1 _ _) hD hqo).mono ?_)
 refine jO 2 ?_;rotate_left
 any_goals
  refine jI 2 ?_
  rintro r s1 ⟨rfl,rfl⟩
  refine jO 3 ?_;rotate_left
 any_goals
  refine jI 3 ?_
  refine rh [7] (k:=rB (k:=rs (k:=rr (k:=ro (pre:=[_]) (k:=rC (h:=reply_Bytes Y322) (k:=rh [8] (k:=rs (k:=rg [4] (k:=rR (k:=?_))))))))))
  refine jO 1 ?_;rotate_left
 any_goals
  refine jI 1 ?_
  first
   |(have hEk:E=15:=of_decide_eq_true hc1
     have hB:pduF D l=(repF (refD { D with msgs:=inc D.msgs } (x%128) 1).1,(refD { D with msgs:=inc D.msgs } (x%128) 1).2):=by
      unfold pduF
      rw [← hE,hEk,hx0]
      rfl
     refine Ret.dev (refD { D with msgs:=inc D.msgs } (x%128) 1).2 hA (r':=.sl .unk ((repF (refD { D with msgs:=inc D.msgs } (x%128) 1).1).map (PV.int .u8))) Y216 ?_ Y20 hwf ?_ ⟨Y90,Y90⟩
     ·exact Y323
     ·exact Y43)
   |(have hEk:E=12:=of_decide_eq_true hc2
     have hB:pduF D l=(repF (refD { D with msgs:=inc D.msgs } (x%128) 3).1,(refD { D with msgs:=inc D.msgs } (x%128) 3).2):=by
      unfold pduF
      rw [← hE,hEk,hx0]
      rfl
     refine Ret.dev (refD { D with msgs:=inc D.msgs } (x%128) 3).2 hA (r':=.sl .unk ((repF (refD { D with msgs:=inc D.msgs } (x%128) 3).1).map (PV.int .u8))) Y216 ?_ Y20 hwf ?_ ⟨Y90,Y90⟩
     ·exact Y323
     ·exact Y43)
   |(have hEk:E=13:=of_decide_eq_true hc0
     have hB:pduF D l=([],D):=by
      unfold pduF
      rw [← hE,if_pos hEk]
     refine Ret.dev D hA (r':=.sl .unk (([]:List Int).map (PV.int .u8))) Y216 ?_ Y20 hwf ?_ ⟨Y90,Y90⟩
     ·rfl
     ·rw [putDev_self hA]
      exact fun i hi=>by have h0:=ltn hi;have h1:=lte hi;simp only [go_sem,Nat.add_assoc,Nat.reduceAdd,↓reduceIte,h0,h1])
   |(have hB:pduF D l=(repF (doF D q).1,(doF D q).2):=by
      unfold pduF
      rw [← hE,if_neg (of_decide_eq_false hc0),if_neg (of_decide_eq_false hc1),if_neg (of_decide_eq_false hc2),← hQ]
     refine Ret.dev (doF D q).2 hA (r':=.sl .unk ((repF (doF D q).1).map (PV.int .u8))) Y216 ?_ Y20 hwf ?_ ⟨Y90,Y90⟩
     ·exact Y323
     ·exact (fun i hi=>by
      have h0:=ltn hi;have h1:=lte hi
      simp (disch:=first | omega |(simp only [nxt_set,nxt_new]<;>omega) | fail) only [go_sem,Nat.add_assoc,Nat.reduceAdd,↓reduceIte,h0,h1]
      exact putDev_congr2 (m:=s.nxt) Y93 i hi))
end Go.Proofs
namespace Go.Proofs
open Go.PM
set_option maxHeartbeats 2000000
theorem writeF_ok {q:Req} (hq:q.ok) (h:rightF q=0):OkB (writeF q):=by
 have hR:=right0 h
 have h1:=has_cases hR.has
 have h2:=hR.mb
 have h3:=hR.mv
 have h5:=packB_len q.bits
 have h6:=flat2_lenX q.vals
 unfold writeF
 refine OkB.cons ⟨Y14,Y14⟩ ?_
 repeat' split
 all_goals first
  | exact OkB.nil
  | exact (num2_ok _).append (flat2_okB _)
  | exact (num2_ok _).append (num2_ok _)
  | exact (num2_ok _).append ((num2_ok _).append (num2_ok _))
  | exact (num2_ok _).append ((num2_ok _).append (OkB.cons ⟨Y14,Y14⟩ (packB_ok _)))
  | exact (num2_ok _).append ((num2_ok _).append (OkB.cons ⟨Y14,Y14⟩ (flat2_okB _)))
  | exact (num2_ok _).append ((num2_ok _).append (((num2_ok _).append (num2_ok _)).append (OkB.cons ⟨Y14,Y14⟩ (flat2_okB _))))
  | exact (num2_ok _).append ((num2_ok _).append OkB.nil)
theorem repF_ok {R:Rep} (h:R.ok):OkB (repF R):=by
 unfold repF
 split
 ·exact layF_ok h ‹_›
 ·exact OkB.nil
theorem pduF_okB {D:Dev} (hD:D.ok) {l:List Int} (hb:OkB l) (hl:l.length≤140737488351232):OkB (pduF D l).1:=by
 unfold pduF
 split
 ·exact OkB.nil
 ·dsimp only
  split
  ·exact repF_ok (refuseP_ok _ _)
  ·split
   ·exact repF_ok (refuseP_ok _ _)
   ·exact repF_ok (doF_rep hD (readF_ok hb hl))
theorem putDev_set {b:Nat} {D:Dev} {S:St} {i:Nat} (h:b+5<i) (x:Option Blk):putDev b D (S.set i x)=(putDev b D S).set i x:=by
 refine St.eq_of' rfl fun j=>?_
 by_cases hj:j=i
 ·subst hj;rw [putDev_hi h,blk_set_self,blk_set_self]
 ·rw [blk_set_ne hj,putDev_blk,putDev_blk,blk_set_ne hj]
end Go.Proofs
namespace Go.Proofs
open Go.PM
set_option maxHeartbeats 2000000
theorem order_right {F A C:Int} (hF:1≤F∧F≤4) (hA:0≤A∧A≤65535) (hC:0≤C∧C≤65535):rightF ⟨F,A,C,0,0,[],[],0,0⟩=0:=by
 refine right_of ⟨decide_eq_true (by show 1≤F∧F≤6∨_;omega),decide_eq_true ?_,decide_eq_true hA,Y81,Y81,decide_eq_true hC,?_,?_,Y143,Y143⟩
 ·show (¬ F=8∧¬ F=17∨A=0)∧((1≤F∧F≤4∨_)∨_)∧(_∨(0:Int)=0)∧(_∨(0:Int)=0)∧(_∨(0:Int)=0∧(0:Int)=0)
  exact ⟨.inl Y14,.inl (.inl hF),.inr rfl,.inr rfl,.inr ⟨rfl,rfl⟩⟩
 ·show ((0:Nat):Int)=(if F=5 then 1 else if F=15 then C else 0)
  rw [if_neg Y14,if_neg Y14];rfl
 ·show ((0:Nat):Int)=(if F=6∨F=8 then 1 else if F=16 then C else if F=23 then ((0:Nat):Int) else 0)
  rw [if_neg Y14,if_neg Y14,if_neg Y14];rfl
theorem cutF_size {α:Type} (l:List α) {a m:Int} (h:thereF l.length a m=true):((cutF l a m).length:Int)=m:=by
 have ht:=there_len h
 unfold cutF
 rw [if_pos h,List.length_take,List.length_drop]
 omega
theorem doF_base {D:Dev} {q:Req} (hr:rightF q=0) (hc:countF q=true):doF D q=(if ¬ (bodyF { D with msgs:=inc D.msgs } q).1.code=0 then refD (bodyF { D with msgs:=inc D.msgs } q).2 q.fn (bodyF { D with msgs:=inc D.msgs } q).1.code else bodyF { D with msgs:=inc D.msgs } q):=by
 have hh:¬ hasF q.fn=false:=by
  intro h
  unfold rightF at hr
  rw [if_pos h] at hr
  exact absurd hr Y15
 unfold doF
 dsimp only
 rw [if_neg hh,if_neg (by rw [hr,hc];simp)]
theorem Y434 {p:Prop} (h:p:=by show 0≤(W.length:Int)∧(W.length:Int)≤65535;omega):p:=h
theorem right16 {K:Int} {W:List Int} (hK:0≤K∧K≤65535) (hl:W.length≤127):rightF ⟨16,K,W.length,0,0,[],W,0,0⟩=0 :=
 right_of ⟨by show hasF 16=true;decide,decide_eq_true Y66,decide_eq_true hK,Y81,Y81,decide_eq_true Y434,rfl,rfl,Y143,hl⟩
theorem right15 {K:Int} {W:List Bool} (hK:0≤K∧K≤65535) (hl:W.length≤2040):rightF ⟨15,K,W.length,0,0,W,[],0,0⟩=0 :=
 right_of ⟨by show hasF 15=true;decide,decide_eq_true Y66,decide_eq_true hK,Y81,Y81,decide_eq_true Y434,rfl,rfl,hl,Y143⟩
theorem right22 {K a o:Int} (hK:0≤K∧K≤65535):rightF ⟨22,K,0,0,0,[],[],a,o⟩=0 :=
 right_of ⟨by show hasF 22=true;decide,decide_eq_true Y66,decide_eq_true hK,Y81,Y81,Y81,rfl,rfl,Y143,Y143⟩
theorem DevAt.same {b:Nat} {D:Dev} {s s':St} (h:DevAt b D s) (e:∀ j,j≤b+5→s'.blk j=s.blk j):DevAt b D s' :=
 ⟨Y257,Y258,Y259,Y260,Y261,Y262⟩
end Go.Proofs
namespace Go.Proofs
open Go.PM
set_option maxHeartbeats 2000000
structure QAt (s0:St) (tp:Nat) (T:Tp) (q:List PV) (S:St):Prop where
 nx:s0.nxt+2≤S.nxt
 tape:S.blk tp=some (.row 34 [T.pv])
 zero:S.blk s0.nxt=some (.row 31 [.agg [.int .i64 (0),.int .i64 (0),.int .i64 (0),.int .i64 (0),.int .i64 (0),.sl .nil [],.sl .nil [],.int .u16 (0),.int .u16 (0)]])
 row:S.blk (s0.nxt+1)=some (.row 31 [.agg q])
 rest:∀ j,j<s0.nxt→j≠tp→S.blk j=s0.blk j
theorem QAt.first {s0:St} {tp:Nat} {T:Tp} {q:List PV} {a:Option Blk} (h:tp<s0.nxt) {x:Blk}:QAt s0 tp T q ((((((s0.new (.row 31 [.agg [.int .i64 (0),.int .i64 (0),.int .i64 (0),.int .i64 (0),.int .i64 (0),.sl .nil [],.sl .nil [],.int .u16 (0),.int .u16 (0)]])).set tp a).new x).set (s0.nxt+1) (some (.row 31 [.agg q]))).set tp (some (.row 34 [T.pv])))):=by
 refine ⟨Nat.le_refl _,blk_set_self _ _ _,?_,?_,fun j hj hne=>?_⟩
 ·simp (disch:=first | omega |(simp only [nxt_set,nxt_new]<;>omega)) only [blk_set_ne,blk_new_ne,blk_new_eq]
 ·simp (disch:=first | omega |(simp only [nxt_set,nxt_new]<;>omega)) only [blk_set_ne,blk_new_ne,blk_set_self]
 ·simp (disch:=first | omega |(simp only [nxt_set,nxt_new]<;>omega)) only [blk_set_ne,blk_new_ne]
theorem Y435 {p:Prop} (h:p:=by rw [blk_set_ne Y14];exact h.zero):p:=h
theorem QAt.tp' {s0:St} {tp:Nat} {T T':Tp} {q:List PV} {S:St} (h:QAt s0 tp T q S) (hl:tp<s0.nxt):QAt s0 tp T' q (S.set tp (some (.row 34 [T'.pv]))) :=
 ⟨h.nx,blk_set_self _ _ _,Y435,by rw [blk_set_ne Y14];exact h.row,fun j hj hne=>by rw [blk_set_ne hne];exact h.rest j hj hne⟩
theorem QAt.rw' {s0:St} {tp:Nat} {T:Tp} {q q':List PV} {S:St} (h:QAt s0 tp T q S) (hl:tp<s0.nxt):QAt s0 tp T q' (S.set (s0.nxt+1) (some (.row 31 [.agg q']))) :=
 ⟨h.nx,by rw [blk_set_ne Y14];exact h.tape,Y435,blk_set_self _ _ _,fun j hj hne=>by rw [blk_set_ne Y14];exact h.rest j hj hne⟩
theorem QAt.nw {s0:St} {tp:Nat} {T:Tp} {q:List PV} {S:St} (h:QAt s0 tp T q S) (hl:tp<s0.nxt) (x:Blk):QAt s0 tp T q (S.new x):=by
 have:=h.nx
 exact ⟨Nat.le_succ_of_le h.nx,by rw [blk_new_ne Y14];exact h.tape,by rw [blk_new_ne Y14];exact h.zero,by rw [blk_new_ne Y14];exact h.row,fun j hj hne=>by rw [blk_new_ne Y14];exact h.rest j hj hne⟩
theorem QAt.tk {s0:St} {tp:Nat} {T:Tp} {q:List PV} {S:St} (h:QAt s0 tp T q S) (hl:tp<s0.nxt) {i:Nat} (hi:s0.nxt+2≤i) (x:Option Blk):QAt s0 tp T q (S.set i x) :=
 ⟨h.nx,by rw [blk_set_ne Y14];exact h.tape,Y435,by rw [blk_set_ne Y14];exact h.row,fun j hj hne=>by rw [blk_set_ne Y14];exact h.rest j hj hne⟩
theorem aAppend_nilL {P:Program} {e:TypeId} {α:Type} {f:α→PV} {ys:List α} {s:St} {z:Nat} (hy:ys≠[]) (hc:P.cellsOf e=z) :
  aAppend P e .nil [] (ys.map f) s=some (.sl (.tok s.nxt z) (ys.map f),s.new (.tok ys.length)):=by
 subst hc
 unfold aAppend
 rw [if_neg (by simpa using hy)]
 simp
def fnL:List Int:=[1,2,3,4,5,6,8,15,16,17,22,23]
def subL:List Int:=[0,10,11,12,13,14,2,300]
def vL:List Int:=[0,0,0,777]
theorem Y268 {p:Prop} (h:p:=by rw [List.getElem?_map,List.getElem?_eq_getElem this];rfl):p:=h
theorem fnL_get {u:Nat} (h:u≤11):∃ f,(fnL.map (PV.int .i64))[u]? =some (.int .i64 f)∧f∈fnL:=by
 have:u<fnL.length:=by show u<12;omega
 exact ⟨fnL[u],Y268,List.getElem_mem _⟩
theorem subL_get {u:Nat} (h:u≤7):∃ f,(subL.map (PV.int .i64))[u]? =some (.int .i64 f)∧U16 f:=by
 have:u<subL.length:=by show u<8;omega
 refine ⟨subL[u],Y268,?_⟩
 have h:∀ x∈subL,U16 x:=by unfold U16;decide
 exact h _ (List.getElem_mem _)
theorem vL_get {u:Nat} (h:u≤3):∃ f,(vL.map (PV.int .u16))[u]? =some (.int .u16 f)∧U16 f:=by
 have:u<vL.length:=by show u<4;omega
 refine ⟨vL[u],Y268,?_⟩
 have h:∀ x∈vL,U16 x:=by unfold U16;decide
 exact h _ (List.getElem_mem _)
theorem right5 {A:Int} (hA:0≤A∧A≤65535) (b:Bool):rightF ⟨5,A,0,0,0,[b],[],0,0⟩=0 :=
 right_of ⟨by show hasF 5=true;decide,decide_eq_true Y66,decide_eq_true hA,Y81,Y81,Y81,rfl,rfl,by show 1≤_;decide,Y143⟩
theorem right6 {A:Int} (hA:0≤A∧A≤65535) (v:Int):rightF ⟨6,A,0,0,0,[],[v],0,0⟩=0 :=
 right_of ⟨by show hasF 6=true;decide,decide_eq_true Y66,decide_eq_true hA,Y81,Y81,Y81,rfl,rfl,Y143,by show 1≤_;decide⟩
theorem right8 {A:Int} (hA:0≤A∧A≤65535) (v:Int):rightF ⟨8,0,0,0,A,[],[v],0,0⟩=0 :=
 right_of ⟨by show hasF 8=true;decide,decide_eq_true Y66,Y81,Y81,decide_eq_true hA,Y81,rfl,rfl,Y143,by show 1≤_;decide⟩
theorem right17:rightF ⟨17,0,0,0,0,[],[],0,0⟩=0:=Y15
theorem right23 {A C B:Int} {W:List Int} (hA:0≤A∧A≤65535) (hC:0≤C∧C≤65535) (hB:0≤B∧B≤65535) (hl:W.length≤127):rightF ⟨23,A,C,B,0,[],W,0,0⟩=0 :=
 right_of ⟨by show hasF 23=true;decide,decide_eq_true Y66,decide_eq_true hA,decide_eq_true hB,Y81,decide_eq_true hC,rfl,rfl,Y143,hl⟩
theorem req_okT {q:Req} (h1:0≤q.fn∧q.fn≤255) (h2:U16 q.at_) (h3:U16 q.count) (h4:U16 q.wat) (h5:U16 q.sub) (h6:OkW q.vals) (h7:U16 q.and_) (h8:U16 q.or_) (h9:q.bits.length≤2000) (h10:q.vals.length≤2000):q.ok:=by
 have lt:∀ {z:Int},U16 z→I64 z:=fun h=>Y243
 exact ⟨Y197,lt h2,lt h3,lt h4,lt h5,h6,h7,h8,Y14,Y14⟩
theorem keep_Functions {s:St}:ACalls Tryz.prog 21 [] s (fun r s'=>r=.sl .unk (fnL.map (PV.int .i64))∧s'=s):=by
 refine go Tryz.func21 (k:=fun hwf H=>?_)
 refine rs (k:=rg [] (k:=rs (k:=rr (k:=rO (k:=rh [0] (k:=rR (k:=rP (by simp only [Tryz.f21,go_sem];rfl) hwf ⟨?_,rfl⟩)))))))
 rfl
attribute [local go_sem] weaks_bools set_set
theorem Y44 {p:Prop} (h:p:=by dsimp only;first | omega |(simp;done) |(simp<;>omega) |(simp at hr1 ⊢;omega)):p:=h
theorem Y45 {p:Prop} (h:p:=by repeat' first | assumption | omega | apply QAt.rw' | apply QAt.tp' | apply QAt.nw | apply QAt.tk):p:=h
theorem Y94 {p:Prop} (h:p:=by simp only [decide_eq_true_eq,decide_eq_false_iff_not] at *;omega):p:=h
theorem Y269 {p:Prop} (h:p:=by rw [Tryz.cz29];first | done | rfl):p:=h
theorem Y95 {p:Prop} (h:p:=by first | exact isEls_map (P:=Tryz.prog) (e:=29) (f:=(PV.int .u16)) (fun a=>⟨rfl,Y269⟩) _ |(intro p hp;cases hp)):p:=h
theorem Y151 {p:Prop} (h:p:=by simp (disch:=first | omega |(simp only [nxt_set,nxt_new]<;>omega)) only [blk_set_ne,blk_new_eq,nxt_set]<;>first | rfl | exact blk_new_eq):p:=h
theorem Y152 {p:Prop} (h:p:=by intro q hq;rw [List.mem_singleton.1 hq];simp only;rw [← hy6];exact tape_Next hT3 hQ3.tape):p:=h
theorem Y153 {p:Prop} (h:p:=by intro q hq;rw [List.mem_singleton.1 hq];exact aAppend_tokL (f:=(PV.int .u16)) (xs:=L) (ys:=[y6]) rfl Y66 (by rw [blk_set_ne Y14];exact htb) rfl (by rw [Tryz.cz29])):p:=h
theorem Y436 {p:Prop} (h:p:=by rw [Tryz.cz4];first | done | rfl):p:=h
theorem Y217 {p:Prop} (h:p:=by first | exact isEls_map (P:=Tryz.prog) (e:=4) (f:=PV.bool) (fun a=>⟨rfl,Y436⟩) _ |(intro p hp;cases hp)):p:=h
theorem Y270 {p:Prop} (h:p:=by rw [u16_wrap];omega):p:=h
theorem Y271 {p:Prop} (h:p:=by simp at hr1 ⊢<;>omega):p:=h
theorem Y272 {p:Prop} (h:p:=by intro q hq;rw [List.mem_singleton.1 hq];exact aAppend_nilL (f:=(PV.int .u16)) (ys:=[y6]) Y66 (by rw [Tryz.cz29])):p:=h
theorem Y273 {p:Prop} (h:p:=by intro y hy;rcases List.mem_append.1 hy with hy | hy;exact hLo y hy;rw [List.mem_singleton.1 hy];exact ⟨Y14,Y14⟩):p:=h
theorem Y324 {p:Prop} (h:p:=by intro q hq;rw [List.mem_singleton.1 hq];simp only;rw [← hy2];exact tape_Next hT3 hQ3.tape):p:=h
theorem Y325 {p:Prop} (h:p:=by rw [Tryz.by29];simp<;>omega):p:=h
theorem Y437 {p:Prop} (h:p:=by simp only [Req.pv,PV.weak,PV.weaks,weaks_bools,weaks_u16]):p:=h
theorem Y438 {p:Prop} (h:p:=by rw [blk_set_ne Y14,blk_set_self]):p:=h
theorem Y439 {p:Prop} (h:p:=by intro y hy;rw [List.mem_singleton.1 hy];exact ⟨Y14,Y14⟩):p:=h
set_option maxRecDepth 100000 in
theorem tape_RequestL {T:Tp} (hT:T.ok) {s:St} {tp:Nat} (hb:s.blk tp=some (.row 34 [T.pv])):ACalls Tryz.prog 9 [.ptr tp 0 0] s (fun r s'=>∃ (q:Req) (T':Tp),r=q.pv∧s'=s.set tp (some (.row 34 [T'.pv]))∧T'.ok∧q.ok∧rightF q=0∧q.bits.length≤30∧q.vals.length≤30):=by
 refine go Tryz.func9 (k:=fun hwf H=>?_)
 have hlt:tp<s.nxt:=lt_blk hwf hb
 have hFt:(s.nxt=tp)=False:=eq_false Y14
 have htF:(tp=s.nxt)=False:=eq_false Y14
 have hRt:(s.nxt+1=tp)=False:=eq_false Y14
 have htR:(tp=s.nxt+1)=False:=eq_false Y14
 have zU:U16 0:=Y16
 have zW:OkW []:=fun x hx=>(List.not_mem_nil hx).elim
 have hv12:=T.val_bound (n:=12) Y15
 obtain ⟨u,hu,hue⟩:=T.val_nat (n:=12) Y15
 have hue:T.val 12=(u:Int):=hue
 obtain ⟨f,hfu,hfm⟩:=fnL_get (u:=u) Y14
 have hflen:(u<12)=True:=eq_true Y14
 have H:=aj hFt (aj htF (aj hRt (aj htR H)))
 refine rs (k:=rg [0,2] (k:=rs (k:=?_)))
 have H:=aj hue (aj hfu (aj hflen H))
 refine rr (k:=rC (h:=keep_Functions) (k:=ro (pre:=[_]) (k:=?_)))
 refine RunO.callw au au au Y19 ((tape_Next hT (n:=12) (by simp only [go_sem,htF,↓reduceIte];exact hb)).mono ?_)
 rintro r s9 ⟨rfl,hs⟩
 subst s9
 refine rh [0,2,3] (k:=rs (k:=rr (k:=ro (pre:=[_]) (k:=?_))))
 refine RunO.callw au au au Y19 ((tape_Next (hT.nx 12) (n:=70) (by simp only [go_sem,htR,htF,↓reduceIte])).mono ?_)
 rintro r s9 ⟨rfl,hs⟩
 subst s9
 refine rh [0,2,3,4] (k:=rs (k:=rs (k:=?_)))
 refine Run.genS fun S hS=>?_
 obtain ⟨T2,hT2e⟩:∃ y,(T.nx 12).nx 70=y:=⟨_,rfl⟩
 have hT2:T2.ok:=by rw [← hT2e];exact (hT.nx 12).nx 70
 have hab:=(T.nx 12).val_bound (n:=70) Y15
 obtain ⟨a,ha⟩:∃ y,(T.nx 12).val 70=y:=⟨_,rfl⟩
 rw [ha] at hab
 rw [ha]
 have hU:U16 a:=⟨Y14,Y14⟩
 have hQ:QAt s tp T2 [.int .i64 (f),.int .i64 (0),.int .i64 (0),.int .i64 (0),.int .i64 (0),.sl .nil [],.sl .nil [],.int .u16 (0),.int .u16 (0)] S:=by rw [hS,← hT2e];exact QAt.first hlt
 have hQr:=hQ.row
 have hQz:=hQ.zero
 clear hS
 have H:=aj hQr (aj hQz H)
 refine rg [0,2,3,4,17] (k:=?_)
 refine Run.join (fun e s'=>∃ (T':Tp) (q:Req) (kb kv:SK),e=[(2,.ptr s.nxt 0 0),(3,.ptr (s.nxt+1) 0 0)]∧T'.ok∧q.ok∧(rightF q=0∧q.bits.length≤30∧q.vals.length≤30)∧QAt s tp T' [.int .i64 q.fn,.int .i64 q.at_,.int .i64 q.count,.int .i64 q.wat,.int .i64 q.sub,.sl kb (q.bits.map PV.bool),.sl kv (q.vals.map (PV.int .u16)),.int .u16 q.and_,.int .u16 q.or_] s') ?_ ?_
 ·rintro e SJ ⟨TJ,q,kb,kv,rfl,hTJ,hq,hr,hQJ⟩
  have hJr:=hQJ.row
  have hJz:=hQJ.zero
  have H:=aj hJr (aj hJz H)
  refine rs (k:=rg [2] (k:=rR (k:=?_)))
  refine Ret.baseK (r':=q.pv) tp (.row 34 [TJ.pv]) hlt (by simp only [Tryz.f9,go_sem,↓reduceIte]<;>rfl) Y437 (blw_req _ _) (by simp only [Blk.blw,PV.blws];exact ⟨blw_tape _ _,trivial⟩) hwf (fun i hi=>?_) ⟨q,TJ,rfl,rfl,hTJ,hq,hr⟩
  rw [blk_set_ne Y14,blk_set]
  split
  ·rename_i e;rw [e];exact hQJ.tape
  ·rename_i e;exact hQJ.rest i hi e
 intro hJb0
 refine rb (k:=rs (k:=rs (k:=rg [0,2,3,4,17,18] (k:=rc (ht:=fun hc0=>?_) (hf:=fun hc0=>?_)))))
 refine rk (k:=rc (ht:=fun hc3=>?_) (hf:=fun hc3=>?_))
 refine jO 1 ?_;rotate_left
 ·exact Y417
 refine rs (k:=rg [0,2,3,4,17,18] (k:=rc (ht:=fun hc1=>?_) (hf:=fun hc1=>?_)))
 refine rk (k:=rc (ht:=fun hc3=>?_) (hf:=fun hc3=>?_))
 refine jO 1 ?_;rotate_left
 ·exact Y418
 refine rs (k:=rg [0,2,3,4,17,18] (k:=rc (ht:=fun hc2=>?_) (hf:=fun hc2=>?_)))
 refine rk (k:=rc (ht:=fun hc3=>?_) (hf:=fun hc3=>?_))
 refine jO 1 ?_;rotate_left
 ·exact Y195
 refine rg [0,2,3,4,17,18] (k:=rc (ht:=fun hc3=>?_) (hf:=fun hc3=>?_))
 refine jO 1 ?_;rotate_left
 ·refine rs (k:=rg [0,2,3,4,17,28] (k:=rc (ht:=fun hc4=>?_) (hf:=fun hc4=>?_)))
  ·have hy2b:=(T2).val_bound (n:=2) Y15
   obtain ⟨y2,hy2⟩:∃ y,(T2).val 2=y:=⟨_,rfl⟩
   rw [hy2] at hy2b
   have H:=aj hy2 H
   refine rr (k:=ro (pre:=[_,_]) (k:=?_))
   refine RunO.callw au au au Y19 ((tape_Next hT2 (n:=2) hQ.tape).mono ?_)
   rintro r s9 ⟨rfl,hs⟩
   subst s9
   refine ro (pre:=[_]) (k:=rO (k:=rh [2,3] (k:=rB (k:=?_))))
   have hf5:f=5:=Y94
   subst hf5
   exact hJb0 _ _ ⟨T2.nx 2,⟨5,a,0,0,0,[decide (y2=1)],[],0,0⟩,.clip,.nil,rfl,hT2.nx 2,(req_okT Y66 hU zU zU zU zW zU zU Y66 Y66),⟨(right5 Y14 _),Y44,Y44⟩,Y45⟩
  ·refine rs (k:=rg [0,2,3,4,17,37] (k:=rc (ht:=fun hc5=>?_) (hf:=fun hc5=>?_)))
   ·have hy6b:=(T2).val_bound (n:=65536) Y15
    obtain ⟨y6,hy6⟩:∃ y,(T2).val 65536=y:=⟨_,rfl⟩
    rw [hy6] at hy6b
    have hw6:IntKind.u16.wrap y6=y6:=Y270
    have H:=aj hy6 (aj hw6 H)
    refine rr (k:=ro (pre:=[_,_]) (k:=?_))
    refine RunO.callw au au au Y19 ((tape_Next hT2 (n:=65536) hQ.tape).mono ?_)
    rintro r s9 ⟨rfl,hs⟩
    subst s9
    refine ro (pre:=[_]) (k:=rO (k:=rh [2,3] (k:=rB (k:=?_))))
    have hf5:f=6:=Y94
    subst hf5
    exact hJb0 _ _ ⟨T2.nx 65536,⟨6,a,0,0,0,[],[y6],0,0⟩,.nil,.clip,rfl,hT2.nx 65536,(req_okT Y66 hU zU zU zU (OkW.one (show U16 y6 from ⟨Y14,Y14⟩)) zU zU Y66 Y66),⟨(right6 Y14 _),Y44,Y44⟩,Y45⟩
   ·refine rs (k:=rg [0,2,3,4,17,46] (k:=rc (ht:=fun hc6=>?_) (hf:=fun hc6=>?_)))
    ·obtain ⟨x8,hx8,hx8e⟩:=T2.val_nat (n:=8) Y15
     have hx8e:T2.val 8=(x8:Int):=hx8e
     obtain ⟨sb,hsb,hsbU⟩:=subL_get (u:=x8) Y14
     obtain ⟨x4,hx4,hx4e⟩:=(T2.nx 8).val_nat (n:=4) Y15
     have hx4e:(T2.nx 8).val 4=(x4:Int):=hx4e
     obtain ⟨vv,hvv,hvvU⟩:=vL_get (u:=x4) Y14
     have hl8:(x8<8)=True:=eq_true Y14
     have hl4:(x4<4)=True:=eq_true Y14
     simp only [subL,vL,List.map_cons,List.map_nil] at hsb hvv
     have H:=aj hx8e (aj hsb (aj hx4e (aj hvv (aj hl8 (aj hl4 H)))))
     refine rH 15 [2,7,12,14] [[false,false,false,false],[true,false,false,false],[true,true,false,false],[true,true,true,false],[true,true,true,true]] [S,(S.set tp (some (.row 34 [(T2.nx 8).pv]))),((S.set tp (some (.row 34 [(T2.nx 8).pv]))).set tp (some (.row 34 [((T2.nx 8).nx 4).pv]))),(((S.set tp (some (.row 34 [(T2.nx 8).pv]))).set tp (some (.row 34 [((T2.nx 8).nx 4).pv]))).set (s.nxt+1) (some (.row 31 [.agg [.int .i64 (f),.int .i64 (0),.int .i64 (0),.int .i64 (0),.int .i64 (sb),.sl .nil [],.sl .nil [],.int .u16 (0),.int .u16 (0)]]))),((((S.set tp (some (.row 34 [(T2.nx 8).pv]))).set tp (some (.row 34 [((T2.nx 8).nx 4).pv]))).set (s.nxt+1) (some (.row 31 [.agg [.int .i64 (f),.int .i64 (0),.int .i64 (0),.int .i64 (0),.int .i64 (sb),.sl .nil [],.sl .nil [],.int .u16 (0),.int .u16 (0)]]))).set (s.nxt+1) (some (.row 31 [.agg [.int .i64 (f),.int .i64 (0),.int .i64 (0),.int .i64 (0),.int .i64 (sb),.sl .nil [],.sl .clip [.int .u16 vv],.int .u16 (0),.int .u16 (0)]])))] Tryz.mixed (k:=?_)
     refine dP [0,1,2] (pre:=[_,_]) (k:=?_)
     refine dX (v:=.int .i64 x8) [(0,1)] (h:=by intro q hq;rw [List.mem_singleton.1 hq];simp only;rw [← hx8e];exact tape_Next hT2 hQ.tape) (k:=?_)
     refine dP [0,1,2,3] (pre:=[_,_,_,_]) (k:=?_)
     refine dX (v:=.int .i64 x4) [(1,2)] (h:=by intro q hq;rw [List.mem_singleton.1 hq];simp only;rw [← hx4e];exact tape_Next (hT2.nx 8) (blk_set_self _ _ _)) (k:=?_)
     refine dP [1,2,3] (pre:=[_,_,_,_]) (k:=?_)
     refine dE [(2,3)] (k:=?_)
     refine dP [3] (pre:=[_]) (k:=?_)
     refine dE [(3,4)] (k:=?_)
     refine DetHC.nil ?_
     refine rl [2,3] (k:=rB (k:=?_))
     have hf5:f=8:=Y94
     subst hf5
     exact hJb0 _ _ ⟨(T2.nx 8).nx 4,⟨8,0,0,0,sb,[],[vv],0,0⟩,.nil,.clip,rfl,(hT2.nx 8).nx 4,(req_okT Y66 zU zU zU hsbU (OkW.one hvvU) zU zU Y66 Y66),⟨(right8 (by unfold U16 at hsbU;omega) _),Y44,Y44⟩,Y45⟩
    ·refine rs (k:=rg [0,2,3,4,17,61] (k:=rc (ht:=fun hc7=>?_) (hf:=fun hc7=>?_)))
     ·refine rs (k:=?_)
      have hf5:f=15:=Y94
      subst hf5
      have hy26b:=(T2).val_bound (n:=26) Y15
      obtain ⟨y26,hy26⟩:∃ y,(T2).val 26=y:=⟨_,rfl⟩
      rw [hy26] at hy26b
      have H:=aj hy26 H
      refine rr (k:=ro (pre:=[_,_]) (k:=?_))
      refine RunO.callw au au au Y19 ((tape_Next hT2 (n:=26) hQ.tape).mono ?_)
      rintro r s9 ⟨rfl,hs⟩
      subst s9
      refine rh [0,2,3] (k:=rs (k:=rg [0,2,3,5] (k:=rb (k:=?_))))
      refine Run.loop (fun e s'=>∃ (T3:Tp) (i:Nat) (L:List Bool) (k:SK),e=[(0,.ptr tp 0 0),(2,.ptr s.nxt 0 0),(3,.ptr (s.nxt+1) 0 0),(5,.int .i64 (i:Int))]∧T3.ok∧QAt s tp T3 [.int .i64 (15),.int .i64 (a),.int .i64 (y26),.int .i64 (0),.int .i64 (0),.sl k (L.map PV.bool),.sl .nil [],.int .u16 (0),.int .u16 (0)] s'∧L.length=i∧(i:Int)≤y26∧(k=.nil∧L=[]∨∃ t,k=.tok t 1∧s.nxt+2≤t∧s'.blk t=some (.tok L.length))) (fun e s'=>y26.toNat-ivar e 5) ?_ ?_
      ·exact ⟨T2.nx 26,0,[],.nil,rfl,hT2.nx 26,Y45,rfl,Y14,.inl ⟨rfl,rfl⟩⟩
      rintro e S3 ⟨T3,i,L,k,rfl,hT3,hQ3,hr1,hr2,hk⟩
      have h3r:=hQ3.row
      have h3t:=hQ3.tape
      have h3n:=hQ3.nx
      have hN1:(s.nxt+1=S3.nxt)=False:=eq_false Y14
      have hN2:(tp=S3.nxt)=False:=eq_false Y14
      have H:=aj h3r (aj h3t (aj hN1 (aj hN2 H)))
      rcases hk with ⟨rfl,rfl⟩ | ⟨t,rfl,htn,htb⟩
      ·simp only [List.length_nil] at hr1
       refine rs (k:=rs (k:=rg [0,2,3,5,71] (k:=rc (ht:=fun hc8=>?_) (hf:=fun hc8=>?_))))
       ·refine rk (k:=rs (k:=rb (k:=?_)))
        have hy2b:=(T3).val_bound (n:=2) Y15
        obtain ⟨y2,hy2⟩:∃ y,(T3).val 2=y:=⟨_,rfl⟩
        rw [hy2] at hy2b
        have hic:(i:Int)<y26:=of_decide_eq_true hc8
        refine rH 9 [3,6,8] [[false,false,false],[true,false,false],[true,true,false],[true,true,true]] [S3,(S3.set tp (some (.row 34 [(T3.nx 2).pv]))),((S3.set tp (some (.row 34 [(T3.nx 2).pv]))).new (.tok [decide (y2=1)].length)),(((S3.set tp (some (.row 34 [(T3.nx 2).pv]))).new (.tok [decide (y2=1)].length)).set (s.nxt+1) (some (.row 31 [.agg [.int .i64 (15),.int .i64 (a),.int .i64 (y26),.int .i64 (0),.int .i64 (0),.sl (.tok S3.nxt 1) ([decide (y2=1)].map PV.bool),.sl .nil [],.int .u16 (0),.int .u16 (0)]])))] Tryz.mixed (k:=?_)
        refine dP [0,1] (pre:=[_,_,_]) (k:=?_)
        refine dX (v:=.int .i64 y2) [(0,1)] (h:=Y324) (k:=?_)
        refine dP [1] (pre:=[_,_]) (k:=?_)
        refine DetHC.app (kx:=.nil) (xs:=[]) (ys:=[decide (y2=1)].map PV.bool) (v:=.sl (.tok S3.nxt 1) ([decide (y2=1)].map PV.bool)) [(1,2)] _ Y19 pq au au au Tryz.td27 Y194 Y217 (isEls_map (P:=Tryz.prog) (e:=4) (f:=PV.bool) (fun a=>⟨rfl,Y436⟩) _) Y250 (by rw [Tryz.by4];simp<;>omega) (by intro q hq;rw [List.mem_singleton.1 hq];exact aAppend_nilL (f:=PV.bool) (ys:=[decide (y2=1)]) Y66 (by rw [Tryz.cz4])) ?_
        refine dP [2] (pre:=[_]) (k:=?_)
        refine dE [(2,3)] (k:=?_)
        refine DetHC.nil ?_
        refine rl [0,2,3,5] (k:=rB (k:=?_))
        have hwi:IntKind.i64.wrap ((i:Int)+1)=((i+1:Nat):Int):=Y21
        have H:=aj hwi H
        refine rg [0,2,3,5] (k:=?_)
        refine Run.lp ⟨⟨T3.nx 2,i+1,[decide (y2=1)],(.tok S3.nxt 1),rfl,hT3.nx 2,Y45,Y271,Y14,.inr ⟨S3.nxt,rfl,hQ3.nx,Y151⟩⟩,?_⟩
        simp only [ivar,ivar1,go_sem,↓reduceIte,Nat.reduceEqDiff]
        omega
       ·refine rX (k:=rB (k:=?_))
        have hie:(0:Int)=y26:=Y94
        rw [← hie] at hQ3
        refine rp [2,3] (k:=?_)
        exact hJb0 _ _ ⟨T3,⟨15,a,0,0,0,[],[],0,0⟩,.nil,.nil,rfl,hT3,(req_okT Y66 hU zU zU zU zW zU zU Y66 Y66),⟨(right15 (W:=[]) Y14 Y66),Y44,Y44⟩,Y45⟩
      ·have hN3:(s.nxt+1=t)=False:=eq_false Y14
       have hN4:(tp=t)=False:=eq_false Y14
       have hN5:(t=tp)=False:=eq_false Y14
       have hN6:(t=s.nxt+1)=False:=eq_false Y14
       have H:=aj hN3 (aj hN4 (aj hN5 (aj hN6 H)))
       refine rs (k:=rs (k:=rg [0,2,3,5,71] (k:=rc (ht:=fun hc8=>?_) (hf:=fun hc8=>?_))))
       ·refine rk (k:=rs (k:=rb (k:=?_)))
        have hy2b:=(T3).val_bound (n:=2) Y15
        obtain ⟨y2,hy2⟩:∃ y,(T3).val 2=y:=⟨_,rfl⟩
        rw [hy2] at hy2b
        have hic:(i:Int)<y26:=of_decide_eq_true hc8
        refine rH 9 [3,6,8] [[false,false,false],[true,false,false],[true,true,false],[true,true,true]] [S3,(S3.set tp (some (.row 34 [(T3.nx 2).pv]))),((S3.set tp (some (.row 34 [(T3.nx 2).pv]))).set t (some (.tok (L++[decide (y2=1)]).length))),(((S3.set tp (some (.row 34 [(T3.nx 2).pv]))).set t (some (.tok (L++[decide (y2=1)]).length))).set (s.nxt+1) (some (.row 31 [.agg [.int .i64 (15),.int .i64 (a),.int .i64 (y26),.int .i64 (0),.int .i64 (0),.sl (.tok t 1) ((L++[decide (y2=1)]).map PV.bool),.sl .nil [],.int .u16 (0),.int .u16 (0)]])))] Tryz.mixed (k:=?_)
        refine dP [0,1] (pre:=[_,_,_]) (k:=?_)
        refine dX (v:=.int .i64 y2) [(0,1)] (h:=Y324) (k:=?_)
        refine dP [1] (pre:=[_,_]) (k:=?_)
        refine DetHC.app (kx:=(.tok t 1)) (xs:=L.map PV.bool) (ys:=[decide (y2=1)].map PV.bool) (v:=.sl (.tok t 1) ((L++[decide (y2=1)]).map PV.bool)) [(1,2)] _ Y19 pq au au au Tryz.td27 Y194 Y217 (isEls_map (P:=Tryz.prog) (e:=4) (f:=PV.bool) (fun a=>⟨rfl,Y436⟩) _) Y250 (by rw [Tryz.by4];simp<;>omega) (by intro q hq;rw [List.mem_singleton.1 hq];exact aAppend_tokL (f:=PV.bool) (xs:=L) (ys:=[decide (y2=1)]) rfl Y66 (by rw [blk_set_ne Y14];exact htb) rfl (by rw [Tryz.cz4])) ?_
        refine dP [2] (pre:=[_]) (k:=?_)
        refine dE [(2,3)] (k:=?_)
        refine DetHC.nil ?_
        refine rl [0,2,3,5] (k:=rB (k:=?_))
        have hwi:IntKind.i64.wrap ((i:Int)+1)=((i+1:Nat):Int):=Y21
        have H:=aj hwi H
        refine rg [0,2,3,5] (k:=?_)
        refine Run.lp ⟨⟨T3.nx 2,i+1,(L++[decide (y2=1)]),(.tok t 1),rfl,hT3.nx 2,Y45,Y271,Y14,.inr ⟨t,rfl,htn,Y438⟩⟩,?_⟩
        simp only [ivar,ivar1,go_sem,↓reduceIte,Nat.reduceEqDiff]
        omega
       ·refine rX (k:=rB (k:=?_))
        have hie:((L.length:Nat):Int)=y26:=Y94
        rw [← hie] at hQ3
        refine rp [2,3] (k:=?_)
        exact hJb0 _ _ ⟨T3,⟨15,a,L.length,0,0,L,[],0,0⟩,_,.nil,rfl,hT3,(req_okT Y66 hU (show U16 ((L.length:Nat):Int) from ⟨Y14,Y14⟩) zU zU zW zU zU (by simp<;>omega) Y66),⟨(right15 Y14 Y14),Y44,Y44⟩,Y45⟩
     ·refine rs (k:=rg [0,2,3,4,17,82] (k:=rc (ht:=fun hc9=>?_) (hf:=fun hc9=>?_)))
      ·refine rs (k:=?_)
       have hf5:f=16:=Y94
       subst hf5
       have hy26b:=(T2).val_bound (n:=26) Y15
       obtain ⟨y26,hy26⟩:∃ y,(T2).val 26=y:=⟨_,rfl⟩
       rw [hy26] at hy26b
       have H:=aj hy26 H
       refine rr (k:=ro (pre:=[_,_]) (k:=?_))
       refine RunO.callw au au au Y19 ((tape_Next hT2 (n:=26) hQ.tape).mono ?_)
       rintro r s9 ⟨rfl,hs⟩
       subst s9
       refine rh [0,2,3] (k:=rs (k:=rg [0,2,3,6] (k:=rb (k:=?_))))
       refine Run.loop (fun e s'=>∃ (T3:Tp) (i:Nat) (L:List Int) (k:SK),e=[(0,.ptr tp 0 0),(2,.ptr s.nxt 0 0),(3,.ptr (s.nxt+1) 0 0),(6,.int .i64 (i:Int))]∧T3.ok∧QAt s tp T3 [.int .i64 (16),.int .i64 (a),.int .i64 (y26),.int .i64 (0),.int .i64 (0),.sl .nil [],.sl k (L.map (PV.int .u16)),.int .u16 (0),.int .u16 (0)] s'∧L.length=i∧(i:Int)≤y26∧(k=.nil∧L=[]∨∃ t,k=.tok t 1∧s.nxt+2≤t∧s'.blk t=some (.tok L.length))∧OkW L) (fun e s'=>y26.toNat-ivar e 6) ?_ ?_
       ·exact ⟨T2.nx 26,0,[],.nil,rfl,hT2.nx 26,Y45,rfl,Y14,.inl ⟨rfl,rfl⟩,zW⟩
       rintro e S3 ⟨T3,i,L,k,rfl,hT3,hQ3,hr1,hr2,hk,hLo⟩
       have h3r:=hQ3.row
       have h3t:=hQ3.tape
       have h3n:=hQ3.nx
       have hN1:(s.nxt+1=S3.nxt)=False:=eq_false Y14
       have hN2:(tp=S3.nxt)=False:=eq_false Y14
       have H:=aj h3r (aj h3t (aj hN1 (aj hN2 H)))
       rcases hk with ⟨rfl,rfl⟩ | ⟨t,rfl,htn,htb⟩
       ·simp only [List.length_nil] at hr1
        refine rs (k:=rs (k:=rg [0,2,3,6,92] (k:=rc (ht:=fun hc10=>?_) (hf:=fun hc10=>?_))))
        ·refine rk (k:=rs (k:=rb (k:=?_)))
         have hy6b:=(T3).val_bound (n:=65536) Y15
         obtain ⟨y6,hy6⟩:∃ y,(T3).val 65536=y:=⟨_,rfl⟩
         rw [hy6] at hy6b
         have hic:(i:Int)<y26:=of_decide_eq_true hc10
         have hw6:IntKind.u16.wrap y6=y6:=Y270
         have H:=aj hw6 H
         refine rH 9 [3,6,8] [[false,false,false],[true,false,false],[true,true,false],[true,true,true]] [S3,(S3.set tp (some (.row 34 [(T3.nx 65536).pv]))),((S3.set tp (some (.row 34 [(T3.nx 65536).pv]))).new (.tok [y6].length)),(((S3.set tp (some (.row 34 [(T3.nx 65536).pv]))).new (.tok [y6].length)).set (s.nxt+1) (some (.row 31 [.agg [.int .i64 (16),.int .i64 (a),.int .i64 (y26),.int .i64 (0),.int .i64 (0),.sl .nil [],.sl (.tok S3.nxt 1) ([y6].map (PV.int .u16)),.int .u16 (0),.int .u16 (0)]])))] Tryz.mixed (k:=?_)
         refine dP [0,1] (pre:=[_,_,_]) (k:=?_)
         refine dX (v:=.int .i64 y6) [(0,1)] (h:=Y152) (k:=?_)
         refine dP [1] (pre:=[_,_]) (k:=?_)
         refine DetHC.app (kx:=.nil) (xs:=[]) (ys:=[y6].map (PV.int .u16)) (v:=.sl (.tok S3.nxt 1) ([y6].map (PV.int .u16))) [(1,2)] _ Y19 pq au au au Tryz.td28 Y137 Y95 (isEls_map (P:=Tryz.prog) (e:=29) (f:=(PV.int .u16)) (fun a=>⟨rfl,Y269⟩) _) Y139 Y325 Y272 ?_
         refine dP [2] (pre:=[_]) (k:=?_)
         refine dE [(2,3)] (k:=?_)
         refine DetHC.nil ?_
         refine rl [0,2,3,6] (k:=rB (k:=?_))
         have hwi:IntKind.i64.wrap ((i:Int)+1)=((i+1:Nat):Int):=Y21
         have H:=aj hwi H
         refine rg [0,2,3,6] (k:=?_)
         refine Run.lp ⟨⟨T3.nx 65536,i+1,[y6],(.tok S3.nxt 1),rfl,hT3.nx 65536,Y45,Y271,Y14,.inr ⟨S3.nxt,rfl,hQ3.nx,Y151⟩,Y439⟩,?_⟩
         simp only [ivar,ivar1,go_sem,↓reduceIte,Nat.reduceEqDiff]
         omega
        ·refine rX (k:=rB (k:=?_))
         have hie:(0:Int)=y26:=Y94
         rw [← hie] at hQ3
         refine rp [2,3] (k:=?_)
         exact hJb0 _ _ ⟨T3,⟨16,a,0,0,0,[],[],0,0⟩,.nil,.nil,rfl,hT3,(req_okT Y66 hU zU zU zU zW zU zU Y66 Y66),⟨(right16 (W:=[]) Y14 Y66),Y44,Y44⟩,Y45⟩
       ·have hN3:(s.nxt+1=t)=False:=eq_false Y14
        have hN4:(tp=t)=False:=eq_false Y14
        have hN5:(t=tp)=False:=eq_false Y14
        have hN6:(t=s.nxt+1)=False:=eq_false Y14
        have H:=aj hN3 (aj hN4 (aj hN5 (aj hN6 H)))
        refine rs (k:=rs (k:=rg [0,2,3,6,92] (k:=rc (ht:=fun hc10=>?_) (hf:=fun hc10=>?_))))
        ·refine rk (k:=rs (k:=rb (k:=?_)))
         have hy6b:=(T3).val_bound (n:=65536) Y15
         obtain ⟨y6,hy6⟩:∃ y,(T3).val 65536=y:=⟨_,rfl⟩
         rw [hy6] at hy6b
         have hic:(i:Int)<y26:=of_decide_eq_true hc10
         have hw6:IntKind.u16.wrap y6=y6:=Y270
         have H:=aj hw6 H
         refine rH 9 [3,6,8] [[false,false,false],[true,false,false],[true,true,false],[true,true,true]] [S3,(S3.set tp (some (.row 34 [(T3.nx 65536).pv]))),((S3.set tp (some (.row 34 [(T3.nx 65536).pv]))).set t (some (.tok (L++[y6]).length))),(((S3.set tp (some (.row 34 [(T3.nx 65536).pv]))).set t (some (.tok (L++[y6]).length))).set (s.nxt+1) (some (.row 31 [.agg [.int .i64 (16),.int .i64 (a),.int .i64 (y26),.int .i64 (0),.int .i64 (0),.sl .nil [],.sl (.tok t 1) ((L++[y6]).map (PV.int .u16)),.int .u16 (0),.int .u16 (0)]])))] Tryz.mixed (k:=?_)
         refine dP [0,1] (pre:=[_,_,_]) (k:=?_)
         refine dX (v:=.int .i64 y6) [(0,1)] (h:=Y152) (k:=?_)
         refine dP [1] (pre:=[_,_]) (k:=?_)
         refine DetHC.app (kx:=(.tok t 1)) (xs:=L.map (PV.int .u16)) (ys:=[y6].map (PV.int .u16)) (v:=.sl (.tok t 1) ((L++[y6]).map (PV.int .u16))) [(1,2)] _ Y19 pq au au au Tryz.td28 Y137 Y95 (isEls_map (P:=Tryz.prog) (e:=29) (f:=(PV.int .u16)) (fun a=>⟨rfl,Y269⟩) _) Y139 Y325 Y153 ?_
         refine dP [2] (pre:=[_]) (k:=?_)
         refine dE [(2,3)] (k:=?_)
         refine DetHC.nil ?_
         refine rl [0,2,3,6] (k:=rB (k:=?_))
         have hwi:IntKind.i64.wrap ((i:Int)+1)=((i+1:Nat):Int):=Y21
         have H:=aj hwi H
         refine rg [0,2,3,6] (k:=?_)
         refine Run.lp ⟨⟨T3.nx 65536,i+1,(L++[y6]),(.tok t 1),rfl,hT3.nx 65536,Y45,Y271,Y14,.inr ⟨t,rfl,htn,Y438⟩,Y273⟩,?_⟩
         simp only [ivar,ivar1,go_sem,↓reduceIte,Nat.reduceEqDiff]
         omega
        ·refine rX (k:=rB (k:=?_))
         have hie:((L.length:Nat):Int)=y26:=Y94
         rw [← hie] at hQ3
         refine rp [2,3] (k:=?_)
         exact hJb0 _ _ ⟨T3,⟨16,a,L.length,0,0,[],L,0,0⟩,.nil,_,rfl,hT3,(req_okT Y66 hU (show U16 ((L.length:Nat):Int) from ⟨Y14,Y14⟩) zU zU hLo zU zU Y66 (by simp<;>omega)),⟨(right16 Y14 Y14),Y44,Y44⟩,Y45⟩
      ·refine rs (k:=rg [0,2,3,4,17,103] (k:=rc (ht:=fun hc11=>?_) (hf:=fun hc11=>?_)))
       ·have hcab:=(T2).val_bound (n:=65536) Y15
        obtain ⟨ca,hca⟩:∃ y,(T2).val 65536=y:=⟨_,rfl⟩
        rw [hca] at hcab
        have hcob:=(T2.nx 65536).val_bound (n:=65536) Y15
        obtain ⟨co,hco⟩:∃ y,(T2.nx 65536).val 65536=y:=⟨_,rfl⟩
        rw [hco] at hcob
        have hwa:IntKind.u16.wrap ca=ca:=Y270
        have hwo:IntKind.u16.wrap co=co:=Y270
        have H:=aj hca (aj hco (aj hwa (aj hwo H)))
        refine rr (k:=ro (pre:=[_,_]) (k:=?_))
        refine RunO.callw au au au Y19 ((tape_Next hT2 (n:=65536) hQ.tape).mono ?_)
        rintro r s9 ⟨rfl,hs⟩
        subst s9
        refine ro (pre:=[_,_]) (k:=?_)
        refine RunO.callw au au au Y19 ((tape_Next (hT2.nx 65536) (n:=65536) (blk_set_self _ _ _)).mono ?_)
        rintro r s9 ⟨rfl,hs⟩
        subst s9
        refine rh [2,3] (k:=rB (k:=?_))
        have hf5:f=22:=Y94
        subst hf5
        exact hJb0 _ _ ⟨(T2.nx 65536).nx 65536,⟨22,a,0,0,0,[],[],ca,co⟩,.nil,.nil,rfl,(hT2.nx 65536).nx 65536,(req_okT Y66 hU zU zU zU zW (show U16 ca from ⟨Y14,Y14⟩) (show U16 co from ⟨Y14,Y14⟩) Y66 Y66),⟨(right22 Y14),Y44,Y44⟩,Y45⟩
       ·refine rs (k:=rg [0,2,3,4,115] (k:=rc (ht:=fun hc12=>?_) (hf:=fun hc12=>?_)))
        ·refine rs (k:=?_)
         have hf5:f=23:=Y94
         subst hf5
         have hy20b:=(T2).val_bound (n:=20) Y15
         obtain ⟨y20,hy20⟩:∃ y,(T2).val 20=y:=⟨_,rfl⟩
         rw [hy20] at hy20b
         have hy40b:=(T2.nx 20).val_bound (n:=40) Y15
         obtain ⟨y40,hy40⟩:∃ y,(T2.nx 20).val 40=y:=⟨_,rfl⟩
         rw [hy40] at hy40b
         have hm0b:=((T2.nx 20).nx 40).val_bound (n:=20) Y15
         obtain ⟨m0,hm0⟩:∃ y,((T2.nx 20).nx 40).val 20=y:=⟨_,rfl⟩
         rw [hm0] at hm0b
         have H:=aj hy20 (aj hy40 (aj hm0 H))
         refine rr (k:=ro (pre:=[_,_]) (k:=?_))
         refine RunO.callw au au au Y19 ((tape_Next hT2 (n:=20) hQ.tape).mono ?_)
         rintro r s9 ⟨rfl,hs⟩
         subst s9
         refine ro (pre:=[_]) (k:=?_)
         refine RunO.callw au au au Y19 ((tape_Next (hT2.nx 20) (n:=40) (blk_set_self _ _ _)).mono ?_)
         rintro r s9 ⟨rfl,hs⟩
         subst s9
         refine rh [0,2,3] (k:=rs (k:=rr (k:=ro (pre:=[_]) (k:=?_))))
         refine RunO.callw au au au Y19 ((tape_Next ((hT2.nx 20).nx 40) (n:=20) (by first | exact blk_set_self _ _ _ |(simp (disch:=omega) only [blk_set_ne,blk_set_self]))).mono ?_)
         rintro r s9 ⟨rfl,hs⟩
         subst s9
         refine rh [0,2,3,7] (k:=rb (k:=?_))
         refine Run.loop (fun e s'=>∃ (T3:Tp) (m:Int) (L:List Int) (k:SK),e=[(0,.ptr tp 0 0),(2,.ptr s.nxt 0 0),(3,.ptr (s.nxt+1) 0 0),(7,.int .i64 m)]∧T3.ok∧QAt s tp T3 [.int .i64 (23),.int .i64 (a),.int .i64 (y20),.int .i64 (y40),.int .i64 (0),.sl .nil [],.sl k (L.map (PV.int .u16)),.int .u16 (0),.int .u16 (0)] s'∧L.length+m=m0∧0≤m∧(k=.nil∧L=[]∨∃ t,k=.tok t 1∧s.nxt+2≤t∧s'.blk t=some (.tok L.length))∧OkW L) (fun e s'=>ivar1 e 7) ?_ ?_
         ·exact ⟨((T2.nx 20).nx 40).nx 20,m0,[],.nil,rfl,((hT2.nx 20).nx 40).nx 20,Y45,Y66,Y14,.inl ⟨rfl,rfl⟩,zW⟩
         rintro e S3 ⟨T3,m,L,k,rfl,hT3,hQ3,hr1,hr2,hk,hLo⟩
         have h3r:=hQ3.row
         have h3t:=hQ3.tape
         have h3n:=hQ3.nx
         have hN1:(s.nxt+1=S3.nxt)=False:=eq_false Y14
         have hN2:(tp=S3.nxt)=False:=eq_false Y14
         have H:=aj h3r (aj h3t (aj hN1 (aj hN2 H)))
         rcases hk with ⟨rfl,rfl⟩ | ⟨t,rfl,htn,htb⟩
         ·simp only [List.length_nil] at hr1
          refine rs (k:=rs (k:=rg [0,2,3,7,128] (k:=rc (ht:=fun hc13=>?_) (hf:=fun hc13=>?_))))
          ·refine rk (k:=rs (k:=rb (k:=?_)))
           have hy6b:=(T3).val_bound (n:=65536) Y15
           obtain ⟨y6,hy6⟩:∃ y,(T3).val 65536=y:=⟨_,rfl⟩
           rw [hy6] at hy6b
           have hw6:IntKind.u16.wrap y6=y6:=Y270
           have H:=aj hw6 H
           refine rH 9 [3,6,8] [[false,false,false],[true,false,false],[true,true,false],[true,true,true]] [S3,(S3.set tp (some (.row 34 [(T3.nx 65536).pv]))),((S3.set tp (some (.row 34 [(T3.nx 65536).pv]))).new (.tok [y6].length)),(((S3.set tp (some (.row 34 [(T3.nx 65536).pv]))).new (.tok [y6].length)).set (s.nxt+1) (some (.row 31 [.agg [.int .i64 (23),.int .i64 (a),.int .i64 (y20),.int .i64 (y40),.int .i64 (0),.sl .nil [],.sl (.tok S3.nxt 1) ([y6].map (PV.int .u16)),.int .u16 (0),.int .u16 (0)]])))] Tryz.mixed (k:=?_)
           refine dP [0,1] (pre:=[_,_,_]) (k:=?_)
           refine dX (v:=.int .i64 y6) [(0,1)] (h:=Y152) (k:=?_)
           refine dP [1] (pre:=[_,_]) (k:=?_)
           refine DetHC.app (kx:=.nil) (xs:=[]) (ys:=[y6].map (PV.int .u16)) (v:=.sl (.tok S3.nxt 1) ([y6].map (PV.int .u16))) [(1,2)] _ Y19 pq au au au Tryz.td28 Y137 Y95 (isEls_map (P:=Tryz.prog) (e:=29) (f:=(PV.int .u16)) (fun a=>⟨rfl,Y269⟩) _) Y139 Y325 Y272 ?_
           refine dP [2] (pre:=[_]) (k:=?_)
           refine dE [(2,3)] (k:=?_)
           refine DetHC.nil ?_
           refine rl [0,2,3,7] (k:=rB (k:=?_))
           have hm1:0<m:=by have:=of_decide_eq_true hc13;omega
           have hwi:IntKind.i64.wrap (m-1)=m-1:=wrap_i64 Y14
           have H:=aj hwi H
           refine rg [0,2,3,7] (k:=?_)
           refine Run.lp ⟨⟨T3.nx 65536,m-1,[y6],(.tok S3.nxt 1),rfl,hT3.nx 65536,Y45,Y271,Y14,.inr ⟨S3.nxt,rfl,hQ3.nx,Y151⟩,Y439⟩,?_⟩
           simp only [ivar,ivar1,go_sem,↓reduceIte,Nat.reduceEqDiff]
           omega
          ·refine rX (k:=rB (k:=rp [2,3] (k:=?_)))
           exact hJb0 _ _ ⟨T3,⟨23,a,y20,y40,0,[],([]:List Int),0,0⟩,.nil,_,rfl,hT3,(req_okT Y66 hU (show U16 y20 from ⟨Y14,Y14⟩) (show U16 y40 from ⟨Y14,Y14⟩) zU hLo zU zU Y66 (by simp<;>omega)),⟨(right23 Y14 Y14 Y14 (by first | omega |(simp at hr1 ⊢<;>omega))),Y44,Y44⟩,Y45⟩
         ·have hN3:(s.nxt+1=t)=False:=eq_false Y14
          have hN4:(tp=t)=False:=eq_false Y14
          have hN5:(t=tp)=False:=eq_false Y14
          have hN6:(t=s.nxt+1)=False:=eq_false Y14
          have H:=aj hN3 (aj hN4 (aj hN5 (aj hN6 H)))
          refine rs (k:=rs (k:=rg [0,2,3,7,128] (k:=rc (ht:=fun hc13=>?_) (hf:=fun hc13=>?_))))
          ·refine rk (k:=rs (k:=rb (k:=?_)))
           have hy6b:=(T3).val_bound (n:=65536) Y15
           obtain ⟨y6,hy6⟩:∃ y,(T3).val 65536=y:=⟨_,rfl⟩
           rw [hy6] at hy6b
           have hw6:IntKind.u16.wrap y6=y6:=Y270
           have H:=aj hw6 H
           refine rH 9 [3,6,8] [[false,false,false],[true,false,false],[true,true,false],[true,true,true]] [S3,(S3.set tp (some (.row 34 [(T3.nx 65536).pv]))),((S3.set tp (some (.row 34 [(T3.nx 65536).pv]))).set t (some (.tok (L++[y6]).length))),(((S3.set tp (some (.row 34 [(T3.nx 65536).pv]))).set t (some (.tok (L++[y6]).length))).set (s.nxt+1) (some (.row 31 [.agg [.int .i64 (23),.int .i64 (a),.int .i64 (y20),.int .i64 (y40),.int .i64 (0),.sl .nil [],.sl (.tok t 1) ((L++[y6]).map (PV.int .u16)),.int .u16 (0),.int .u16 (0)]])))] Tryz.mixed (k:=?_)
           refine dP [0,1] (pre:=[_,_,_]) (k:=?_)
           refine dX (v:=.int .i64 y6) [(0,1)] (h:=Y152) (k:=?_)
           refine dP [1] (pre:=[_,_]) (k:=?_)
           refine DetHC.app (kx:=(.tok t 1)) (xs:=L.map (PV.int .u16)) (ys:=[y6].map (PV.int .u16)) (v:=.sl (.tok t 1) ((L++[y6]).map (PV.int .u16))) [(1,2)] _ Y19 pq au au au Tryz.td28 Y137 Y95 (isEls_map (P:=Tryz.prog) (e:=29) (f:=(PV.int .u16)) (fun a=>⟨rfl,Y269⟩) _) Y139 Y325 Y153 ?_
           refine dP [2] (pre:=[_]) (k:=?_)
           refine dE [(2,3)] (k:=?_)
           refine DetHC.nil ?_
           refine rl [0,2,3,7] (k:=rB (k:=?_))
           have hm1:0<m:=by have:=of_decide_eq_true hc13;omega
           have hwi:IntKind.i64.wrap (m-1)=m-1:=wrap_i64 Y14
           have H:=aj hwi H
           refine rg [0,2,3,7] (k:=?_)
           refine Run.lp ⟨⟨T3.nx 65536,m-1,(L++[y6]),(.tok t 1),rfl,hT3.nx 65536,Y45,Y271,Y14,.inr ⟨t,rfl,htn,Y438⟩,Y273⟩,?_⟩
           simp only [ivar,ivar1,go_sem,↓reduceIte,Nat.reduceEqDiff]
           omega
          ·refine rX (k:=rB (k:=rp [2,3] (k:=?_)))
           exact hJb0 _ _ ⟨T3,⟨23,a,y20,y40,0,[],L,0,0⟩,.nil,_,rfl,hT3,(req_okT Y66 hU (show U16 y20 from ⟨Y14,Y14⟩) (show U16 y40 from ⟨Y14,Y14⟩) zU hLo zU zU Y66 (by simp<;>omega)),⟨(right23 Y14 Y14 Y14 (by first | omega |(simp at hr1 ⊢<;>omega))),Y44,Y44⟩,Y45⟩
        ·refine rk (k:=rB (k:=?_))
         have hf5:f=17:=by simp only [decide_eq_true_eq,decide_eq_false_iff_not] at *;simp only [fnL,List.mem_cons,List.not_mem_nil,or_false] at hfm;omega
         subst hf5
         refine rp [2,3] (k:=?_)
         exact hJb0 _ _ ⟨T2,⟨17,0,0,0,0,[],[],0,0⟩,.nil,.nil,rfl,hT2,(req_okT Y66 zU zU zU zU zW zU zU Y66 Y66),⟨right17,Y44,Y44⟩,Y45⟩
 any_goals
  refine jI 1 ?_
  have hy26b:=(T2).val_bound (n:=26) Y15
  refine jO 2 ?_;rotate_left
 any_goals
  refine jI 2 ?_
  obtain ⟨y26,hy26⟩:∃ y,(T2).val 26=y:=⟨_,rfl⟩
  refine jO 3 ?_;rotate_left
 any_goals
  refine jI 3 ?_
  rw [hy26] at hy26b
  refine jO 4 ?_;rotate_left
 any_goals
  refine jI 4 ?_
  have H:=aj hy26 H
  refine jO 5 ?_;rotate_left
 any_goals
  refine jI 5 ?_
  refine rr (k:=ro (pre:=[_,_]) (k:=?_))
  refine jO 6 ?_;rotate_left
 any_goals
  refine jI 6 ?_
  refine RunO.callw au au au Y19 ((tape_Next hT2 (n:=26) hQ.tape).mono ?_)
  refine jO 7 ?_;rotate_left
 any_goals
  refine jI 7 ?_
  rintro r s9 ⟨rfl,hs⟩
  refine jO 8 ?_;rotate_left
 any_goals
  refine jI 8 ?_
  subst s9
  refine jO 9 ?_;rotate_left
 any_goals
  refine jI 9 ?_
  refine rh [2,3] (k:=rB (k:=?_))
  refine jO 10 ?_;rotate_left
 any_goals
  refine jI 10 ?_
  have hf4:1≤f∧f≤4:=Y94
  refine jO 11 ?_;rotate_left
 any_goals
  refine jI 11 ?_
  exact hJb0 _ _ ⟨T2.nx 26,⟨f,a,y26,0,0,[],[],0,0⟩,.nil,.nil,rfl,hT2.nx 26,(req_okT (by simp<;>omega) hU (show U16 y26 from ⟨Y14,Y14⟩) zU zU zW zU zU Y66 Y66),⟨(order_right Y14 Y14 Y14),Y44,Y44⟩,Y45⟩
end Go.Proofs
namespace Go.Proofs
open Go.PM
set_option maxHeartbeats 2000000
theorem has127 {q:Req} (hr:rightF q=0):1≤q.fn∧q.fn≤127:=by
 have:=has_cases (right0 hr).has
 omega
theorem body_fits {D:Dev} (hD:D.ok) {q:Req} (hq:q.ok) (hr:rightF q=0) (hc:countF q=true):Fits (bodyF D q).1 q:=by
 have hR:=right0 hr
 have wa:=u16_word hR.wa
 have wsb:=u16_word hR.ws
 have wc:=u16_word hR.wc
 have hcc:=(of_decide_eq_true hc).2
 have h127:=has127 hr
 have no:Fits (whereF q) q:=fits_refuse h127 Y15
 have h3:=hD.c1;have h4:=hD.v0;have h5:=hD.v1
 have hv0:U16 ((q.vals[0]?).getD 0):=head_ok hq.vals
 unfold bodyF
 by_cases e1:q.fn=1
 ·rw [if_pos (.inl e1)] at hcc
  rw [if_pos e1]
  split
  ·rename_i ht
   have:=cutF_size D.c0 ht
   exact fits_bits (.inl e1) this Y14
  ·exact no
 rw [if_neg e1]
 by_cases e2:q.fn=2
 ·rw [if_pos (.inr e2)] at hcc
  rw [if_pos e2]
  split
  ·rename_i ht
   have:=cutF_size D.c1 (by rw [h3];exact ht)
   exact fits_bits (.inr e2) this Y14
  ·exact no
 rw [if_neg e2]
 rw [if_neg Y14] at hcc
 by_cases e3:q.fn=3
 ·rw [if_pos (.inl e3)] at hcc
  rw [if_pos e3]
  split
  ·rename_i ht
   have:=cutF_size D.v1 (by rw [h5];exact ht)
   exact fits_vals (.inl e3) (cutF_ok hD.w1 _ _) this Y14
  ·exact no
 rw [if_neg e3]
 by_cases e4:q.fn=4
 ·rw [if_pos (.inr e4)] at hcc
  rw [if_pos e4]
  split
  ·rename_i ht
   have:=cutF_size D.v0 (by rw [h4];exact ht)
   exact fits_vals (.inr (.inl e4)) (cutF_ok hD.w0 _ _) this Y14
  ·exact no
 rw [if_neg e4]
 rw [if_neg Y14] at hcc
 by_cases e5:q.fn=5∨q.fn=15
 ·rw [if_pos e5]
  split
  ·by_cases e15:q.fn=15
   ·rw [if_pos e15];exact fits_15 (.inl e15) wa wc
   ·rw [if_neg e15];exact fits_5 Y14 wa _
  ·exact no
 rw [if_neg e5]
 by_cases e6:q.fn=6∨q.fn=16
 ·rw [if_pos e6]
  split
  ·by_cases e15:q.fn=16
   ·rw [if_pos e15];exact fits_15 (.inr e15) wa wc
   ·rw [if_neg e15];exact fits_6 Y14 wa hv0
  ·exact no
 rw [if_neg e6]
 by_cases e8:q.fn=8
 ·rw [if_pos e8]
  unfold diagF
  dsimp only
  split
  ·exact fits_8 e8 wsb hv0
  ·split
   ·exact fits_8 e8 wsb hv0
   ·split
    ·split
     ·exact fits_refuse h127 Y15
     ·exact fits_8 e8 wsb (u16_wrap_ok _)
    ·exact fits_refuse h127 Y15
 rw [if_neg e8]
 by_cases e17:q.fn=17
 ·rw [if_pos e17];exact fits_17 e17 _ _
 rw [if_neg e17]
 by_cases e22:q.fn=22
 ·rw [if_pos e22]
  split
  ·exact fits_22 e22 wa hq.and_ hq.or_
  ·exact no
 rw [if_neg e22]
 have e23:q.fn=23:=by have:=has_cases hR.has;omega
 rw [if_neg Y14,if_neg Y14,if_pos e23] at hcc
 split
 ·rename_i ht
  have hl:=there_len ht.2
  have:=cutF_size (overF D.v1 q.wat.toNat q.vals) (a:=q.at_) (m:=q.count) (by rw [overF_len Y14,h5];exact ht.1)
  exact fits_vals (.inr (.inr e23)) (cutF_ok (overF_ok hD.w1 hq.vals _) _ _) this Y14
 ·exact no
theorem do_fits {D:Dev} (hD:D.ok) {q:Req} (hq:q.ok) (hr:rightF q=0):Fits (doF D q).1 q:=by
 have h127:=has127 hr
 cases hc:countF q with
 | false =>
   have hh:¬ hasF q.fn=false:=by rw [(right0 hr).has];decide
   unfold doF
   dsimp only
   rw [if_neg hh,if_pos (.inr hc)]
   exact fits_refuse h127 Y15
 | true =>
   rw [doF_base hr hc]
   have hb:=body_fits (inc_ok hD) hq hr hc
   split
   ·rename_i hne
    have hg:=goodC hb.good hne
    exact fits_refuse h127 ⟨hg.1,hg.2.1⟩
   ·exact hb
theorem pdu_write {D:Dev} {q:Req} (hq:q.ok) (hr:rightF q=0):pduF D (writeF q)=(repF (doF D q).1,(doF D q).2):=by
 unfold pduF
 rw [read_write hq hr]
 rfl
theorem and127 {a:Int} (h:U8 a):ibits .and .u8 a 127=a%128:=by
 obtain ⟨n,rfl⟩:∃ n:Nat,a=n:=⟨a.toNat,(Int.toNat_of_nonneg h.1).symm⟩
 have hn:n<256:=by unfold U8 at h;omega
 have:∀ m:Fin 256,ibits .and .u8 ((m.val:Nat):Int) 127=((m.val:Nat):Int)%128:=by decide +kernel
 exact this ⟨n,hn⟩
theorem lay_two {R:Rep} (h:goodF R=0):2≤(layF R).length:=by
 unfold layF
 split
 ·exact Nat.le_refl _
 ·repeat' split
  all_goals simp only [List.length_cons,List.length_append,show ∀ n,(num2 n).length=2 from fun _=>rfl];omega
theorem fit_head {R:Rep} {q:Req} (h:Fits R q) (hq:1≤q.fn∧q.fn≤127):∃ x l,repF R=x::l∧1≤l.length∧x%128=q.fn:=by
 unfold repF
 rw [if_pos h.good]
 have h2:=lay_two h.good
 have h3:=lay_head (R:=R)
 have h4:=h.fn
 cases hl:layF R with
 | nil=>rw [hl] at h2;simp at h2
 | cons x l =>
   rw [hl] at h2 h3
   simp only [List.length_cons] at h2
   refine ⟨x,l,rfl,Y14,?_⟩
   have h3:x=if ¬ R.code=0 then R.fn+128 else R.fn:=h3
   rw [h3]
   split<;>omega
end Go.Proofs
namespace Go.Proofs
open Go.PM
set_option maxHeartbeats 2000000
def refRow (b:Nat) (D:Dev):Blk:=.row 83 [.agg [.ptr b 0 0,.int .i64 D.msgs,.int .i64 D.exc,.int .i64 D.unit]]
def rstRow (b n:Nat):Blk:=.row 111 [.agg [.int .i64 n,.own (b+1) 0 n,.own (b+3) 0 n,.own (b+2) 0 n,.own (b+4) 0 n]]
structure RefAt (b:Nat) (D:Dev) (s:St):Prop where
 st:s.blk b=some (rstRow b D.c0.length)
 c0:s.blk (b+1)=some (.row 4 (D.c0.map PV.bool))
 c1:s.blk (b+3)=some (.row 4 (D.c1.map PV.bool))
 v0:s.blk (b+2)=some (.row 29 (D.v0.map (PV.int .u16)))
 v1:s.blk (b+4)=some (.row 29 (D.v1.map (PV.int .u16)))
 dv:s.blk (b+5)=some (refRow b D)
def putRef (b:Nat) (D:Dev) (s:St):St:=((((s.set (b+1) (some (.row 4 (D.c0.map PV.bool)))).set (b+3) (some (.row 4 (D.c1.map PV.bool)))).set (b+2) (some (.row 29 (D.v0.map (PV.int .u16))))).set (b+4) (some (.row 29 (D.v1.map (PV.int .u16))))).set (b+5) (some (refRow b D))
theorem putRef_blk (b:Nat) (D:Dev) (s:St) (i:Nat):(putRef b D s).blk i=if i=b+5 then some (refRow b D) else if i=b+4 then some (.row 29 (D.v1.map (PV.int .u16))) else if i=b+2 then some (.row 29 (D.v0.map (PV.int .u16))) else if i=b+3 then some (.row 4 (D.c1.map PV.bool)) else if i=b+1 then some (.row 4 (D.c0.map PV.bool)) else s.blk i:=rfl
theorem putRef_nxt (b:Nat) (D:Dev) (s:St):(putRef b D s).nxt=s.nxt:=rfl
theorem RefAt.of {b:Nat} {D:Dev} {s:St} (h:RefAt b D s) {D':Dev} {s':St} (h0:s'.blk b=s.blk b) (hl:D'.c0.length=D.c0.length) (h1:s'.blk (b+1)=some (.row 4 (D'.c0.map PV.bool))) (h3:s'.blk (b+3)=some (.row 4 (D'.c1.map PV.bool)))
  (h2:s'.blk (b+2)=some (.row 29 (D'.v0.map (PV.int .u16)))) (h4:s'.blk (b+4)=some (.row 29 (D'.v1.map (PV.int .u16)))) (h5:s'.blk (b+5)=some (refRow b D')):RefAt b D' s':=⟨by rw [h0,hl];exact h.st,h1,h3,h2,h4,h5⟩
theorem RefAt.put {b:Nat} {D:Dev} {s:St} (h:RefAt b D s) {D':Dev} (hl:D'.c0.length=D.c0.length):RefAt b D' (putRef b D' s):=by
 refine ⟨?_,?_,?_,?_,?_,?_⟩<;>rw [putRef_blk]
 ·exact Y381
 ·rw [if_neg Y14,if_neg Y14,if_neg Y14,if_neg Y14,if_pos rfl]
 ·rw [if_neg Y14,if_neg Y14,if_neg Y14,if_pos rfl]
 ·rw [if_neg Y14,if_neg Y14,if_pos rfl]
 ·rw [if_neg Y14,if_pos rfl]
 ·rw [if_pos rfl]
theorem eq_putRef {b:Nat} {D:Dev} {s s':St} (hn:s'.nxt=s.nxt) (h:RefAt b D s') (hk:∀ i,i<b+1∨b+5<i→s'.blk i=s.blk i):s'=putRef b D s:=by
 refine St.eq_of hn fun i=>?_
 rw [putRef_blk]
 by_cases e5:i=b+5
 ·rw [if_pos e5,e5];exact h.dv
 rw [if_neg e5]
 by_cases e4:i=b+4
 ·rw [if_pos e4,e4];exact h.v1
 rw [if_neg e4]
 by_cases e2:i=b+2
 ·rw [if_pos e2,e2];exact h.v0
 rw [if_neg e2]
 by_cases e3:i=b+3
 ·rw [if_pos e3,e3];exact h.c1
 rw [if_neg e3]
 by_cases e1:i=b+1
 ·rw [if_pos e1,e1];exact h.c0
 rw [if_neg e1]
 exact hk i Y14
theorem putRef_self {b:Nat} {D:Dev} {s:St} (h:RefAt b D s):putRef b D s=s:=(eq_putRef rfl h fun _ _=>rfl).symm
theorem putRef_put {b:Nat} {D D':Dev} {s:St}:putRef b D' (putRef b D s)=putRef b D' s:=by
 refine St.eq_of rfl fun i=>?_
 simp only [putRef_blk]
 (repeat' split)<;>first | rfl |(exfalso;omega)
theorem putRef_wf {b:Nat} {D D':Dev} {s:St} (hA:RefAt b D s) (hwf:s.wf):(putRef b D' s).wf:=by
 intro i hi
 rw [putRef_nxt] at hi
 have h5:=lt_blk hwf hA.dv
 rw [putRef_blk,if_neg Y14,if_neg Y14,if_neg Y14,if_neg Y14,if_neg Y14]
 exact hwf i hi
theorem putRef_blw {b:Nat} {D D':Dev} {s:St} (hA:RefAt b D s) (hwf:s.wf) (i:Nat) (bl:Blk) (h:(putRef b D' s).blk i=some bl):s.blk i=some bl∨bl.blw s.nxt:=by
 have h0:=lt_blk hwf hA.st
 rw [putRef_blk] at h
 repeat' split at h
 ·cases h;right;simp only [refRow,Blk.blw,PV.blw,PV.blws,and_true];exact h0
 ·exact Y382
 ·exact Y382
 ·exact Y206
 ·exact Y206
 ·exact .inl h
theorem Ret.refd {fn:Func} {args:List PV} {s0 s:St} {Q:PV→St→Prop} {e:Env} {r r':PV} {b:Nat} {D:Dev} (D':Dev) (hA:RefAt b D s0) (hr:retv Tryz.prog fn.results.toList e s=some r) (hr':r'=r.weak) (hb:r'.blw s0.nxt) (hwf:s0.wf)
  (hk:∀ i,i<s0.nxt→s.blk i=(putRef b D' s0).blk i) (h:Q r' (putRef b D' s0)):Ret Tryz.prog fn args s0 Q e s :=
 Ret.put (putRef b D' s0) hr hr' hb (putRef_wf hA hwf) rfl hk (putRef_blw hA hwf) h
theorem RefAt.lt {b:Nat} {D:Dev} {s:St} (h:RefAt b D s) (hwf:s.wf):b+5<s.nxt:=lt_blk hwf h.dv
theorem RefAt.nw {b:Nat} {D:Dev} {s:St} (h:RefAt b D s) (hl:b+5<s.nxt) (x:Blk):RefAt b D (s.new x):=by
 have e:∀ i,i≤b+5→(s.new x).blk i=s.blk i:=fun i hi=>blk_new_ne Y14
 exact ⟨Y257,Y258,Y259,Y260,Y261,Y262⟩
theorem RefAt.same {b:Nat} {D:Dev} {s s':St} (h:RefAt b D s) (e:∀ j,j≤b+5→s'.blk j=s.blk j):RefAt b D s' :=
 ⟨Y257,Y258,Y259,Y260,Y261,Y262⟩
theorem ref3_Refuse {fn code:Int} {s:St}:ACalls Tryz.prog 46 [.int .i64 fn,.int .i64 code] s (fun r s'=>r=(refuseP fn code).pv∧s'=s):=by
 refine go Tryz.func46 (k:=fun hwf H=>?_)
 have and127:ibits .and .i64 fn 127=fn%128:=ibits_and127 fn
 have and255:ibits .and .i64 code 255=code%256:=ibits_and255 code
 have H:=aj and127 (aj and255 H)
 have H:=aj and127 (aj and255 H)
 refine rs (k:=rg [0,1,4] (k:=rs (k:=rg [4] (k:=rR (k:=rP (by simp only [Tryz.f46,go_sem];rfl) hwf ⟨?_,rfl⟩)))))
 rfl
attribute [local go_sem] set_set
set_option maxRecDepth 100000 in
theorem ref8_New {n:Nat} {s:St} (h1:1≤n) (h2:n≤65536):ACalls Tryz.prog 45 [.int .i64 (n:Int)] s (fun r s'=>r=.ptr s.nxt 0 0∧s'=(((((((((((s.new (.row 111 [.agg [.int .i64 (n:Int),.sl .nil [],.sl .nil [],.sl .nil [],.sl .nil []]])).new .res).new .res).set (s.nxt+1) (some (.row 4 (List.replicate n (.bool false))))).set (s.nxt+2) (some (.row 29 (List.replicate n (.int .u16 0))))).set s.nxt (some (.row 111 [.agg [.int .i64 (n:Int),.own (s.nxt+1) 0 n,.sl .nil [],.own (s.nxt+2) 0 n,.sl .nil []]]))).new .res).new .res).set (s.nxt+3) (some (.row 4 (List.replicate n (.bool false))))).set (s.nxt+4) (some (.row 29 (List.replicate n (.int .u16 0))))).set s.nxt (some (.row 111 [.agg [.int .i64 (n:Int),.own (s.nxt+1) 0 n,.own (s.nxt+3) 0 n,.own (s.nxt+2) 0 n,.own (s.nxt+4) 0 n]])))):=by
 refine go Tryz.func45 (k:=fun hwf H=>?_)
 refine rs (k:=rg [0] (k:=rs (k:=rg [0,3] (k:=rs (k:=rs (k:=rg [0,3,8] (k:=rb (k:=?_))))))))
 refine Run.loop (fun e s'=>∃ i:Nat,i≤2∧e=[(0,.int .i64 (n:Int)),(3,.ptr s.nxt 0 0),(8,.int .i64 (i:Int))]∧s'=(if i=0 then (s.new (.row 111 [.agg [.int .i64 (n:Int),.sl .nil [],.sl .nil [],.sl .nil [],.sl .nil []]])) else if i=1 then ((((((s.new (.row 111 [.agg [.int .i64 (n:Int),.sl .nil [],.sl .nil [],.sl .nil [],.sl .nil []]])).new .res).new .res).set (s.nxt+1) (some (.row 4 (List.replicate n (.bool false))))).set (s.nxt+2) (some (.row 29 (List.replicate n (.int .u16 0))))).set s.nxt (some (.row 111 [.agg [.int .i64 (n:Int),.own (s.nxt+1) 0 n,.sl .nil [],.own (s.nxt+2) 0 n,.sl .nil []]]))) else (((((((((((s.new (.row 111 [.agg [.int .i64 (n:Int),.sl .nil [],.sl .nil [],.sl .nil [],.sl .nil []]])).new .res).new .res).set (s.nxt+1) (some (.row 4 (List.replicate n (.bool false))))).set (s.nxt+2) (some (.row 29 (List.replicate n (.int .u16 0))))).set s.nxt (some (.row 111 [.agg [.int .i64 (n:Int),.own (s.nxt+1) 0 n,.sl .nil [],.own (s.nxt+2) 0 n,.sl .nil []]]))).new .res).new .res).set (s.nxt+3) (some (.row 4 (List.replicate n (.bool false))))).set (s.nxt+4) (some (.row 29 (List.replicate n (.int .u16 0))))).set s.nxt (some (.row 111 [.agg [.int .i64 (n:Int),.own (s.nxt+1) 0 n,.own (s.nxt+3) 0 n,.own (s.nxt+2) 0 n,.own (s.nxt+4) 0 n]]))))) (fun e s'=>2-ivar e 8) ?_ ?_
 ·exact ⟨0,Y15,rfl,rfl⟩
 rintro e s' ⟨i,hi,rfl,hs⟩
 subst hs
 obtain rfl | rfl | rfl:i=0∨i=1∨i=2:=Y14
 ·refine rs (k:=rg [0,3,8,9] (k:=rs (k:=rc (ht:=fun hc0=>?_) (hf:=fun hc0=>?_))))
  ·refine rk (k:=rs (k:=rb (k:=rs (k:=rg [0,3,4,8] (k:=?_)))))
   refine Run.reserve (Run.reserve ?_)
   refine rH 16 [5,7,11,15] [[false,false,false,false],[true,false,false,false],[false,true,false,false],[true,true,false,false],[true,false,true,false],[true,true,true,false],[true,true,true,true]] [(((s.new (.row 111 [.agg [.int .i64 (n:Int),.sl .nil [],.sl .nil [],.sl .nil [],.sl .nil []]])).new .res).new .res),((((s.new (.row 111 [.agg [.int .i64 (n:Int),.sl .nil [],.sl .nil [],.sl .nil [],.sl .nil []]])).new .res).new .res).set (s.nxt+1) (some (.row 4 (List.replicate n (.bool false))))),((((s.new (.row 111 [.agg [.int .i64 (n:Int),.sl .nil [],.sl .nil [],.sl .nil [],.sl .nil []]])).new .res).new .res).set (s.nxt+2) (some (.row 29 (List.replicate n (.int .u16 0))))),(((((s.new (.row 111 [.agg [.int .i64 (n:Int),.sl .nil [],.sl .nil [],.sl .nil [],.sl .nil []]])).new .res).new .res).set (s.nxt+1) (some (.row 4 (List.replicate n (.bool false))))).set (s.nxt+2) (some (.row 29 (List.replicate n (.int .u16 0))))),(((((s.new (.row 111 [.agg [.int .i64 (n:Int),.sl .nil [],.sl .nil [],.sl .nil [],.sl .nil []]])).new .res).new .res).set (s.nxt+1) (some (.row 4 (List.replicate n (.bool false))))).set s.nxt (some (.row 111 [.agg [.int .i64 (n:Int),.own (s.nxt+1) 0 n,.sl .nil [],.sl .nil [],.sl .nil []]]))),((((((s.new (.row 111 [.agg [.int .i64 (n:Int),.sl .nil [],.sl .nil [],.sl .nil [],.sl .nil []]])).new .res).new .res).set (s.nxt+1) (some (.row 4 (List.replicate n (.bool false))))).set (s.nxt+2) (some (.row 29 (List.replicate n (.int .u16 0))))).set s.nxt (some (.row 111 [.agg [.int .i64 (n:Int),.own (s.nxt+1) 0 n,.sl .nil [],.sl .nil [],.sl .nil []]]))),((((((s.new (.row 111 [.agg [.int .i64 (n:Int),.sl .nil [],.sl .nil [],.sl .nil [],.sl .nil []]])).new .res).new .res).set (s.nxt+1) (some (.row 4 (List.replicate n (.bool false))))).set (s.nxt+2) (some (.row 29 (List.replicate n (.int .u16 0))))).set s.nxt (some (.row 111 [.agg [.int .i64 (n:Int),.own (s.nxt+1) 0 n,.sl .nil [],.own (s.nxt+2) 0 n,.sl .nil []]])))] Tryz.mixed (k:=?_)
   refine dP [0,1,2,3,4,5] (pre:=[_,_,_,_,_]) (k:=?_)
   refine DetHC.resMake (s.nxt+1) n [(0,1),(2,3)] _ Y19 pq au au au Tryz.td27 (by rw [Tryz.zp4]) Y14 Y367 Y33 ?_
   refine dP [0,1,4] (pre:=[_]) (k:=?_)
   refine DetHC.resMake (s.nxt+2) n [(0,2),(1,3),(4,5)] _ Y19 pq au au au Tryz.td28 (by rw [Tryz.zp29]) Y14 Y365 Y34 ?_
   refine dP [0,1,2,3] (pre:=[_,_,_]) (k:=?_)
   refine dE [(1,4),(3,5)] (k:=?_)
   refine dP [0,1,2,3,4,5] (pre:=[_,_,_]) (k:=?_)
   refine dE [(5,6)] (k:=?_)
   refine DetHC.nil ?_
   refine rl [0,3,8] (k:=rB (k:=rg [0,3,8] (k:=?_)))
   refine Run.lp ⟨⟨1,Y15,Y361,Y361⟩,?_⟩
   simp only [ivar,go_sem,↓reduceIte,Nat.reduceEqDiff]
   decide
  ·cases hc0
 ·refine rs (k:=rg [0,3,8,9] (k:=rs (k:=rc (ht:=fun hc0=>?_) (hf:=fun hc0=>?_))))
  ·refine rk (k:=rs (k:=rb (k:=rs (k:=rg [0,3,4,8] (k:=?_)))))
   refine Run.reserve (Run.reserve ?_)
   refine rH 16 [5,7,11,15] [[false,false,false,false],[true,false,false,false],[false,true,false,false],[true,true,false,false],[true,false,true,false],[true,true,true,false],[true,true,true,true]] [((((((((s.new (.row 111 [.agg [.int .i64 (n:Int),.sl .nil [],.sl .nil [],.sl .nil [],.sl .nil []]])).new .res).new .res).set (s.nxt+1) (some (.row 4 (List.replicate n (.bool false))))).set (s.nxt+2) (some (.row 29 (List.replicate n (.int .u16 0))))).set s.nxt (some (.row 111 [.agg [.int .i64 (n:Int),.own (s.nxt+1) 0 n,.sl .nil [],.own (s.nxt+2) 0 n,.sl .nil []]]))).new .res).new .res),(((((((((s.new (.row 111 [.agg [.int .i64 (n:Int),.sl .nil [],.sl .nil [],.sl .nil [],.sl .nil []]])).new .res).new .res).set (s.nxt+1) (some (.row 4 (List.replicate n (.bool false))))).set (s.nxt+2) (some (.row 29 (List.replicate n (.int .u16 0))))).set s.nxt (some (.row 111 [.agg [.int .i64 (n:Int),.own (s.nxt+1) 0 n,.sl .nil [],.own (s.nxt+2) 0 n,.sl .nil []]]))).new .res).new .res).set (s.nxt+3) (some (.row 4 (List.replicate n (.bool false))))),(((((((((s.new (.row 111 [.agg [.int .i64 (n:Int),.sl .nil [],.sl .nil [],.sl .nil [],.sl .nil []]])).new .res).new .res).set (s.nxt+1) (some (.row 4 (List.replicate n (.bool false))))).set (s.nxt+2) (some (.row 29 (List.replicate n (.int .u16 0))))).set s.nxt (some (.row 111 [.agg [.int .i64 (n:Int),.own (s.nxt+1) 0 n,.sl .nil [],.own (s.nxt+2) 0 n,.sl .nil []]]))).new .res).new .res).set (s.nxt+4) (some (.row 29 (List.replicate n (.int .u16 0))))),((((((((((s.new (.row 111 [.agg [.int .i64 (n:Int),.sl .nil [],.sl .nil [],.sl .nil [],.sl .nil []]])).new .res).new .res).set (s.nxt+1) (some (.row 4 (List.replicate n (.bool false))))).set (s.nxt+2) (some (.row 29 (List.replicate n (.int .u16 0))))).set s.nxt (some (.row 111 [.agg [.int .i64 (n:Int),.own (s.nxt+1) 0 n,.sl .nil [],.own (s.nxt+2) 0 n,.sl .nil []]]))).new .res).new .res).set (s.nxt+3) (some (.row 4 (List.replicate n (.bool false))))).set (s.nxt+4) (some (.row 29 (List.replicate n (.int .u16 0))))),((((((((((s.new (.row 111 [.agg [.int .i64 (n:Int),.sl .nil [],.sl .nil [],.sl .nil [],.sl .nil []]])).new .res).new .res).set (s.nxt+1) (some (.row 4 (List.replicate n (.bool false))))).set (s.nxt+2) (some (.row 29 (List.replicate n (.int .u16 0))))).set s.nxt (some (.row 111 [.agg [.int .i64 (n:Int),.own (s.nxt+1) 0 n,.sl .nil [],.own (s.nxt+2) 0 n,.sl .nil []]]))).new .res).new .res).set (s.nxt+3) (some (.row 4 (List.replicate n (.bool false))))).set s.nxt (some (.row 111 [.agg [.int .i64 (n:Int),.own (s.nxt+1) 0 n,.own (s.nxt+3) 0 n,.own (s.nxt+2) 0 n,.sl .nil []]]))),(((((((((((s.new (.row 111 [.agg [.int .i64 (n:Int),.sl .nil [],.sl .nil [],.sl .nil [],.sl .nil []]])).new .res).new .res).set (s.nxt+1) (some (.row 4 (List.replicate n (.bool false))))).set (s.nxt+2) (some (.row 29 (List.replicate n (.int .u16 0))))).set s.nxt (some (.row 111 [.agg [.int .i64 (n:Int),.own (s.nxt+1) 0 n,.sl .nil [],.own (s.nxt+2) 0 n,.sl .nil []]]))).new .res).new .res).set (s.nxt+3) (some (.row 4 (List.replicate n (.bool false))))).set (s.nxt+4) (some (.row 29 (List.replicate n (.int .u16 0))))).set s.nxt (some (.row 111 [.agg [.int .i64 (n:Int),.own (s.nxt+1) 0 n,.own (s.nxt+3) 0 n,.own (s.nxt+2) 0 n,.sl .nil []]]))),(((((((((((s.new (.row 111 [.agg [.int .i64 (n:Int),.sl .nil [],.sl .nil [],.sl .nil [],.sl .nil []]])).new .res).new .res).set (s.nxt+1) (some (.row 4 (List.replicate n (.bool false))))).set (s.nxt+2) (some (.row 29 (List.replicate n (.int .u16 0))))).set s.nxt (some (.row 111 [.agg [.int .i64 (n:Int),.own (s.nxt+1) 0 n,.sl .nil [],.own (s.nxt+2) 0 n,.sl .nil []]]))).new .res).new .res).set (s.nxt+3) (some (.row 4 (List.replicate n (.bool false))))).set (s.nxt+4) (some (.row 29 (List.replicate n (.int .u16 0))))).set s.nxt (some (.row 111 [.agg [.int .i64 (n:Int),.own (s.nxt+1) 0 n,.own (s.nxt+3) 0 n,.own (s.nxt+2) 0 n,.own (s.nxt+4) 0 n]])))] Tryz.mixed (k:=?_)
   refine dP [0,1,2,3,4,5] (pre:=[_,_,_,_,_]) (k:=?_)
   refine DetHC.resMake (s.nxt+3) n [(0,1),(2,3)] _ Y19 pq au au au Tryz.td27 (by rw [Tryz.zp4]) Y14 Y367 Y33 ?_
   refine dP [0,1,4] (pre:=[_]) (k:=?_)
   refine DetHC.resMake (s.nxt+4) n [(0,2),(1,3),(4,5)] _ Y19 pq au au au Tryz.td28 (by rw [Tryz.zp29]) Y14 Y365 Y34 ?_
   refine dP [0,1,2,3] (pre:=[_,_,_]) (k:=?_)
   refine dE [(1,4),(3,5)] (k:=?_)
   refine dP [0,1,2,3,4,5] (pre:=[_,_,_]) (k:=?_)
   refine dE [(5,6)] (k:=?_)
   refine DetHC.nil ?_
   refine rl [0,3,8] (k:=rB (k:=rg [0,3,8] (k:=?_)))
   refine Run.lp ⟨⟨2,Y15,Y361,Y361⟩,?_⟩
   simp only [ivar,go_sem,↓reduceIte,Nat.reduceEqDiff]
   decide
  ·cases hc0
 ·refine rs (k:=rg [0,3,8,9] (k:=rs (k:=rc (ht:=fun hc0=>?_) (hf:=fun hc0=>?_))))
  ·cases hc0
  ·refine rX (k:=rs (k:=rg [2] (k:=rR (k:=?_))))
   exact Ret.all (by simp only [Tryz.f45,go_sem,↓reduceIte]<;>rfl) ⟨rfl,rfl⟩
set_option maxRecDepth 100000 in
theorem ref8_NewDevice {n:Nat} {s:St} (h1:1≤n) (h2:n≤65536):ACalls Tryz.prog 30 [.int .i64 (n:Int)] s (fun r s'=>r=.ptr (s.nxt+5) 0 0∧RefAt s.nxt (Dev.zero n) s'∧(∀ i,i<s.nxt→s'.blk i=s.blk i)∧s'.nxt=s.nxt+6):=by
 refine go Tryz.func30 (k:=fun hwf H=>?_)
 refine rs (k:=rg [0] (k:=rs (k:=rr (k:=ro (pre:=[_]) (k:=?_)))))
 refine RunO.callw au au au Y19 ((ref8_New h1 h2).mono ?_)
 rintro r s1 ⟨rfl,rfl⟩
 refine rh [2] (k:=rR (k:=?_))
 refine Ret.all (by simp only [Tryz.f30,go_sem,↓reduceIte]<;>rfl) ⟨rfl,⟨?_,?_,?_,?_,?_,?_⟩,fun i hi=>?_,rfl⟩
 refine jO 1 ?_;rotate_left
 refine jO 1 ?_;rotate_left
 refine jO 1 ?_;rotate_left
 refine jO 1 ?_;rotate_left
 refine jO 1 ?_;rotate_left
 ·simp (disch:=first | omega |(simp only [nxt_set,nxt_new]<;>omega) | fail) only [go_sem,↓reduceIte,Nat.add_assoc,Nat.reduceAdd]
  simp [refRow,Dev.zero]
 ·exact Y148
 any_goals
  refine jI 1 ?_
  simp (disch:=first | omega |(simp only [nxt_set,nxt_new]<;>omega) | fail) only [go_sem]
  simp [rstRow,refRow,Dev.zero]
theorem ref8_there {s:St} {st b0 b1 v0 v1 n:Nat} (hst:s.blk st=some (.row 111 [.agg [.int .i64 (n:Int),.own b0 0 n,.own b1 0 n,.own v0 0 n,.own v1 0 n]])) (hn:n≤65536) {a m:Int}:ACalls Tryz.prog 117 [.ptr st 0 0,.int .i64 a,.int .i64 m] s (fun r s'=>r=.bool (thereF n a m)∧s'=s):=by
 refine go Tryz.func117 (k:=fun hwf H=>?_)
 have H:=aj hst H
 refine rs (k:=rg [0,1,2] (k:=rs (k:=rg [6] (k:=rR (k:=?_)))))
 refine Ret.all (by simp only [Tryz.f117,go_sem,↓reduceIte]<;>rfl) ⟨?_,rfl⟩
 refine congrArg PV.bool ?_
 unfold thereF
 by_cases h0:0≤a
 ·exact Y146
 ·simp [h0]
theorem Y46 {p:Prop} (h:p:=by
 simp (disch:=omega) only [go_sem,↓reduceIte,hst,hb,hw]
 rw [if_pos ⟨Y15,Y14,Y14⟩,if_neg (show ¬ ((x:Int)=n) from Y14)]
 by_cases hx0:(x:Int)=0
 ·rw [if_pos hx0]
  have:x=0:=by omega
  subst this
  simp
 ·rw [if_neg hx0]
  have:(((x+y:Nat):Int)-(x:Int)).toNat=y:=by omega
  rw [this]):p:=h
theorem Y218 {p:Prop} (h:p:=by rw [hcc,List.length_take,List.length_drop];omega):p:=h
theorem Y219 {p:Prop} (h:p:=by simp only [Tryz.f118,go_sem,↓reduceIte]<;>rfl):p:=h
theorem Y274 {p:Prop} (h:p:=by unfold cutF;rw [hn,htT,if_pos rfl];rfl):p:=h
theorem Y275 {p:Prop} (h:p:=by rw [hcc,List.map_take,List.map_drop]):p:=h
theorem ref8_get0 {s:St} {st b0 b1 v0 v1 n:Nat} (hst:s.blk st=some (.row 111 [.agg [.int .i64 (n:Int),.own b0 0 n,.own b1 0 n,.own v0 0 n,.own v1 0 n]])) {l:List Bool} (hb:s.blk b0=some (.row 4 (l.map PV.bool))) (hn:l.length=n) (hn2:n≤65536) {a m:Int} (hm:1≤m):ACalls Tryz.prog 118 [.ptr st 0 0,.int .i64 0,.int .i64 a,.int .i64 m] s (fun r s'=>r=.tuple [.sl .unk ((cutF l a m).map PV.bool),.bool (thereF n a m)]∧s'=s):=by
 refine go Tryz.func118 (k:=fun hwf H=>?_)
 have f0:((0:Int)<((2:Nat):Int))=True:=Y15
 have f1:((1:Int)<((2:Nat):Int))=True:=Y15
 have ft:Int.toNat 1=1:=rfl
 have f2:((0:Int)≤1)=True:=Y15
 have H:=aj f0 (aj f1 (aj ft (aj f2 H)))
 have H:=aj hst (aj hb H)
 refine rs (k:=rg [0,1,2,3] (k:=rs (k:=rs (k:=rr (k:=ro (pre:=[_,_,_,_,_,_,_,_,_,_]) (k:=rG (h:=fun hb=>ref8_there hst hn2) (k:=rh [0,1,2,3,22] (k:=rc (ht:=fun hc0=>?_) (hf:=fun hc0=>?_)))))))))
 refine rs (k:=rg [8,9] (k:=rR (k:=?_)))
 refine jO 1 ?_;rotate_left
 refine rk (k:=rs (k:=?_))
 have htT:thereF n a m=true:=Y76
 have htt:=htT
 unfold thereF at htt
 have htt:=of_decide_eq_true htt
 obtain ⟨x,rfl⟩:∃ x:Nat,a=x:=⟨a.toNat,(Int.toNat_of_nonneg htt.1).symm⟩
 obtain ⟨y,rfl⟩:∃ y:Nat,m=y:=⟨m.toNat,(Int.toNat_of_nonneg Y14).symm⟩
 have hw:IntKind.i64.wrap ((x:Int)+y)=((x+y:Nat):Int):=Y21
 have hcc:cutF l (x:Int) (y:Int)=(l.drop x).take y:=Y274
 have hcl:(cutF l (x:Int) (y:Int)).length≤65536:=Y218
 have H:=aj hw H
 refine rr (k:=rO (k:=ro (pre:=[_,_,_,_,_,_,_,_,_,_]) (k:=?_)))
 refine RunO.gdo au (v:=.own b0 x y) (s':=s) Y46 ?_
 refine RunO.appendFrom (els:=l.map PV.bool) (ys:=(cutF l (x:Int) (y:Int)).map PV.bool) au au au hb Y275 Y256 Tryz.td27 Y194 (isEls_map (P:=Tryz.prog) (e:=4) (f:=PV.bool) (fun a=>⟨rfl,Y249⟩) _) Y250 Y378 (.inr rfl) ?_
 intro k1 s1 hm1
 refine rh [8,9] (k:=rR (k:=?_))
 refine jO 1 ?_;rotate_left
 any_goals
  refine jI 1 ?_
  first
   |(have htF:thereF n a m=false:=by simpa using hc0
     refine Ret.pure (r':=.tuple [.sl .unk ((cutF l a m).map PV.bool),.bool (thereF n a m)]) Y219 ?_ Y86 hwf (fun _ _=>rfl) ⟨rfl,rfl⟩
     simp only [PV.weak,PV.weaks,weaks_bools]
     unfold cutF
     rw [hn,htF];rfl)
   |(refine Ret.pure (r':=.tuple [.sl .unk ((cutF l (x:Int) (y:Int)).map PV.bool),.bool (thereF n (x:Int) (y:Int))]) Y219 ?_ Y86 hwf (hm1.fr hwf).blk ⟨rfl,rfl⟩
     simp only [PV.weak,PV.weaks,weaks_bools]
     rw [htT])
theorem ref8_get1 {s:St} {st b0 b1 v0 v1 n:Nat} (hst:s.blk st=some (.row 111 [.agg [.int .i64 (n:Int),.own b0 0 n,.own b1 0 n,.own v0 0 n,.own v1 0 n]])) {l:List Bool} (hb:s.blk b1=some (.row 4 (l.map PV.bool))) (hn:l.length=n) (hn2:n≤65536) {a m:Int} (hm:1≤m):ACalls Tryz.prog 118 [.ptr st 0 0,.int .i64 1,.int .i64 a,.int .i64 m] s (fun r s'=>r=.tuple [.sl .unk ((cutF l a m).map PV.bool),.bool (thereF n a m)]∧s'=s):=by
 refine go Tryz.func118 (k:=fun hwf H=>?_)
 have f0:((0:Int)<((2:Nat):Int))=True:=Y15
 have f1:((1:Int)<((2:Nat):Int))=True:=Y15
 have ft:Int.toNat 1=1:=rfl
 have f2:((0:Int)≤1)=True:=Y15
 have H:=aj f0 (aj f1 (aj ft (aj f2 H)))
 have H:=aj hst (aj hb H)
 refine rs (k:=rg [0,1,2,3] (k:=rs (k:=rs (k:=rr (k:=ro (pre:=[_,_,_,_,_,_,_,_,_,_]) (k:=rG (h:=fun hb=>ref8_there hst hn2) (k:=rh [0,1,2,3,22] (k:=rc (ht:=fun hc0=>?_) (hf:=fun hc0=>?_)))))))))
 refine rs (k:=rg [8,9] (k:=rR (k:=?_)))
 refine jO 1 ?_;rotate_left
 refine rk (k:=rs (k:=?_))
 have htT:thereF n a m=true:=Y76
 have htt:=htT
 unfold thereF at htt
 have htt:=of_decide_eq_true htt
 obtain ⟨x,rfl⟩:∃ x:Nat,a=x:=⟨a.toNat,(Int.toNat_of_nonneg htt.1).symm⟩
 obtain ⟨y,rfl⟩:∃ y:Nat,m=y:=⟨m.toNat,(Int.toNat_of_nonneg Y14).symm⟩
 have hw:IntKind.i64.wrap ((x:Int)+y)=((x+y:Nat):Int):=Y21
 have hcc:cutF l (x:Int) (y:Int)=(l.drop x).take y:=Y274
 have hcl:(cutF l (x:Int) (y:Int)).length≤65536:=Y218
 have H:=aj hw H
 refine rr (k:=rO (k:=ro (pre:=[_,_,_,_,_,_,_,_,_,_]) (k:=?_)))
 refine RunO.gdo au (v:=.own b1 x y) (s':=s) Y46 ?_
 refine RunO.appendFrom (els:=l.map PV.bool) (ys:=(cutF l (x:Int) (y:Int)).map PV.bool) au au au hb Y275 Y256 Tryz.td27 Y194 (isEls_map (P:=Tryz.prog) (e:=4) (f:=PV.bool) (fun a=>⟨rfl,Y249⟩) _) Y250 Y378 (.inr rfl) ?_
 intro k1 s1 hm1
 refine rh [8,9] (k:=rR (k:=?_))
 refine jO 1 ?_;rotate_left
 any_goals
  refine jI 1 ?_
  first
   |(have htF:thereF n a m=false:=by simpa using hc0
     refine Ret.pure (r':=.tuple [.sl .unk ((cutF l a m).map PV.bool),.bool (thereF n a m)]) Y219 ?_ Y86 hwf (fun _ _=>rfl) ⟨rfl,rfl⟩
     simp only [PV.weak,PV.weaks,weaks_bools]
     unfold cutF
     rw [hn,htF];rfl)
   |(refine Ret.pure (r':=.tuple [.sl .unk ((cutF l (x:Int) (y:Int)).map PV.bool),.bool (thereF n (x:Int) (y:Int))]) Y219 ?_ Y86 hwf (hm1.fr hwf).blk ⟨rfl,rfl⟩
     simp only [PV.weak,PV.weaks,weaks_bools]
     rw [htT])
theorem Y220 {p:Prop} (h:p:=by simp only [Tryz.f119,go_sem,↓reduceIte]<;>rfl):p:=h
theorem ref8_get2 {s:St} {st b0 b1 v0 v1 n:Nat} (hst:s.blk st=some (.row 111 [.agg [.int .i64 (n:Int),.own b0 0 n,.own b1 0 n,.own v0 0 n,.own v1 0 n]])) {l:List Int} (hb:s.blk v0=some (.row 29 (l.map (PV.int .u16)))) (hn:l.length=n) (hn2:n≤65536) {a m:Int} (hm:1≤m):ACalls Tryz.prog 119 [.ptr st 0 0,.int .i64 2,.int .i64 a,.int .i64 m] s (fun r s'=>r=.tuple [.sl .unk ((cutF l a m).map (PV.int .u16)),.bool (thereF n a m)]∧s'=s):=by
 refine go Tryz.func119 (k:=fun hwf H=>?_)
 have f0:((0:Int)<((2:Nat):Int))=True:=Y15
 have f1:((1:Int)<((2:Nat):Int))=True:=Y15
 have ft:Int.toNat 1=1:=rfl
 have f2:((0:Int)≤1)=True:=Y15
 have H:=aj f0 (aj f1 (aj ft (aj f2 H)))
 have w0:IntKind.i64.wrap (2-2)=0:=Y15
 have H:=aj w0 H
 have H:=aj hst (aj hb H)
 refine rs (k:=rg [0,1,2,3] (k:=rs (k:=rs (k:=rr (k:=ro (pre:=[_,_,_,_,_,_,_,_,_,_]) (k:=rG (h:=fun hb=>ref8_there hst hn2) (k:=rh [0,1,2,3,22] (k:=rc (ht:=fun hc0=>?_) (hf:=fun hc0=>?_)))))))))
 refine rs (k:=rg [8,9] (k:=rR (k:=?_)))
 refine jO 1 ?_;rotate_left
 refine rk (k:=rs (k:=?_))
 have htT:thereF n a m=true:=Y76
 have htt:=htT
 unfold thereF at htt
 have htt:=of_decide_eq_true htt
 obtain ⟨x,rfl⟩:∃ x:Nat,a=x:=⟨a.toNat,(Int.toNat_of_nonneg htt.1).symm⟩
 obtain ⟨y,rfl⟩:∃ y:Nat,m=y:=⟨m.toNat,(Int.toNat_of_nonneg Y14).symm⟩
 have hw:IntKind.i64.wrap ((x:Int)+y)=((x+y:Nat):Int):=Y21
 have hcc:cutF l (x:Int) (y:Int)=(l.drop x).take y:=Y274
 have hcl:(cutF l (x:Int) (y:Int)).length≤65536:=Y218
 have H:=aj hw H
 refine rr (k:=rO (k:=ro (pre:=[_,_,_,_,_,_,_,_,_,_,_]) (k:=?_)))
 refine RunO.gdo au (v:=.own v0 x y) (s':=s) Y46 ?_
 refine RunO.appendFrom (els:=l.map (PV.int .u16)) (ys:=(cutF l (x:Int) (y:Int)).map (PV.int .u16)) au au au hb Y275 Y256 Tryz.td28 Y137 (isEls_map (P:=Tryz.prog) (e:=29) (f:=(PV.int .u16)) (fun a=>⟨rfl,Y138⟩) _) Y139 Y379 (.inr rfl) ?_
 intro k1 s1 hm1
 refine rh [8,9] (k:=rR (k:=?_))
 refine jO 1 ?_;rotate_left
 any_goals
  refine jI 1 ?_
  first
   |(have htF:thereF n a m=false:=by simpa using hc0
     refine Ret.pure (r':=.tuple [.sl .unk ((cutF l a m).map (PV.int .u16)),.bool (thereF n a m)]) Y220 ?_ Y87 hwf (fun _ _=>rfl) ⟨rfl,rfl⟩
     simp only [PV.weak,PV.weaks,weaks_u16]
     unfold cutF
     rw [hn,htF];rfl)
   |(refine Ret.pure (r':=.tuple [.sl .unk ((cutF l (x:Int) (y:Int)).map (PV.int .u16)),.bool (thereF n (x:Int) (y:Int))]) Y220 ?_ Y87 hwf (hm1.fr hwf).blk ⟨rfl,rfl⟩
     simp only [PV.weak,PV.weaks,weaks_u16]
     rw [htT])
theorem ref8_get3 {s:St} {st b0 b1 v0 v1 n:Nat} (hst:s.blk st=some (.row 111 [.agg [.int .i64 (n:Int),.own b0 0 n,.own b1 0 n,.own v0 0 n,.own v1 0 n]])) {l:List Int} (hb:s.blk v1=some (.row 29 (l.map (PV.int .u16)))) (hn:l.length=n) (hn2:n≤65536) {a m:Int} (hm:1≤m):ACalls Tryz.prog 119 [.ptr st 0 0,.int .i64 3,.int .i64 a,.int .i64 m] s (fun r s'=>r=.tuple [.sl .unk ((cutF l a m).map (PV.int .u16)),.bool (thereF n a m)]∧s'=s):=by
 refine go Tryz.func119 (k:=fun hwf H=>?_)
 have f0:((0:Int)<((2:Nat):Int))=True:=Y15
 have f1:((1:Int)<((2:Nat):Int))=True:=Y15
 have ft:Int.toNat 1=1:=rfl
 have f2:((0:Int)≤1)=True:=Y15
 have H:=aj f0 (aj f1 (aj ft (aj f2 H)))
 have w0:IntKind.i64.wrap (3-2)=1:=Y15
 have H:=aj w0 H
 have H:=aj hst (aj hb H)
 refine rs (k:=rg [0,1,2,3] (k:=rs (k:=rs (k:=rr (k:=ro (pre:=[_,_,_,_,_,_,_,_,_,_]) (k:=rG (h:=fun hb=>ref8_there hst hn2) (k:=rh [0,1,2,3,22] (k:=rc (ht:=fun hc0=>?_) (hf:=fun hc0=>?_)))))))))
 refine rs (k:=rg [8,9] (k:=rR (k:=?_)))
 refine jO 1 ?_;rotate_left
 refine rk (k:=rs (k:=?_))
 have htT:thereF n a m=true:=Y76
 have htt:=htT
 unfold thereF at htt
 have htt:=of_decide_eq_true htt
 obtain ⟨x,rfl⟩:∃ x:Nat,a=x:=⟨a.toNat,(Int.toNat_of_nonneg htt.1).symm⟩
 obtain ⟨y,rfl⟩:∃ y:Nat,m=y:=⟨m.toNat,(Int.toNat_of_nonneg Y14).symm⟩
 have hw:IntKind.i64.wrap ((x:Int)+y)=((x+y:Nat):Int):=Y21
 have hcc:cutF l (x:Int) (y:Int)=(l.drop x).take y:=Y274
 have hcl:(cutF l (x:Int) (y:Int)).length≤65536:=Y218
 have H:=aj hw H
 refine rr (k:=rO (k:=ro (pre:=[_,_,_,_,_,_,_,_,_,_,_]) (k:=?_)))
 refine RunO.gdo au (v:=.own v1 x y) (s':=s) Y46 ?_
 refine RunO.appendFrom (els:=l.map (PV.int .u16)) (ys:=(cutF l (x:Int) (y:Int)).map (PV.int .u16)) au au au hb Y275 Y256 Tryz.td28 Y137 (isEls_map (P:=Tryz.prog) (e:=29) (f:=(PV.int .u16)) (fun a=>⟨rfl,Y138⟩) _) Y139 Y379 (.inr rfl) ?_
 intro k1 s1 hm1
 refine rh [8,9] (k:=rR (k:=?_))
 refine jO 1 ?_;rotate_left
 any_goals
  refine jI 1 ?_
  first
   |(have htF:thereF n a m=false:=by simpa using hc0
     refine Ret.pure (r':=.tuple [.sl .unk ((cutF l a m).map (PV.int .u16)),.bool (thereF n a m)]) Y220 ?_ Y87 hwf (fun _ _=>rfl) ⟨rfl,rfl⟩
     simp only [PV.weak,PV.weaks,weaks_u16]
     unfold cutF
     rw [hn,htF];rfl)
   |(refine Ret.pure (r':=.tuple [.sl .unk ((cutF l (x:Int) (y:Int)).map (PV.int .u16)),.bool (thereF n (x:Int) (y:Int))]) Y220 ?_ Y87 hwf (hm1.fr hwf).blk ⟨rfl,rfl⟩
     simp only [PV.weak,PV.weaks,weaks_u16]
     rw [htT])
theorem Y96 {p:Prop} (h:p:=by
 simp (disch:=omega) only [go_sem,↓reduceIte,hst,hb]
 rw [if_pos ⟨Y15,Y14⟩,if_neg (show ¬ ((p:Int)=n) from Y14)]
 by_cases hx0:(p:Int)=0
 ·rw [if_pos hx0]
  have:p=0:=Y14
  subst this
  simp
 ·rw [if_neg hx0]
  have:((n:Int)-(p:Int)).toNat=n-p:=Y14
  rw [this]):p:=h
theorem ref8_put0 {s:St} {st b0 b1 v0 v1 n:Nat} (hst:s.blk st=some (.row 111 [.agg [.int .i64 (n:Int),.own b0 0 n,.own b1 0 n,.own v0 0 n,.own v1 0 n]])) {l x:List Bool} (hb:s.blk b0=some (.row 4 (l.map PV.bool))) (hn:l.length=n) (hn2:n≤65536) {a:Int} (hx:x≠[]) (hst2:b0≠st):ACalls Tryz.prog 120 [.ptr st 0 0,.int .i64 0,.int .i64 a,.sl .unk (x.map PV.bool)] s (fun r s'=>r=.bool (thereF n a x.length)∧s'=(if thereF n a x.length=true then s.set b0 (some (.row 4 ((overF l a.toNat x).map PV.bool))) else s)):=by
 refine go Tryz.func120 (k:=fun hwf H=>?_)
 have f0:((0:Int)<((2:Nat):Int))=True:=Y15
 have f1:((1:Int)<((2:Nat):Int))=True:=Y15
 have ft:Int.toNat 1=1:=rfl
 have f2:((0:Int)≤1)=True:=Y15
 have H:=aj f0 (aj f1 (aj ft (aj f2 H)))
 have H:=aj hst (aj hb H)
 refine rs (k:=rg [0,1,2,3] (k:=rs (k:=rs (k:=rr (k:=ro (pre:=[_,_,_,_,_,_,_,_,_,_,_]) (k:=rG (h:=fun hb=>ref8_there hst hn2) (k:=rh [0,1,2,3,22] (k:=rc (ht:=fun hc0=>?_) (hf:=fun hc0=>?_)))))))))
 refine rs (k:=rg [8] (k:=rR (k:=?_)))
 refine jO 1 ?_;rotate_left
 refine rk (k:=rs (k:=?_))
 have hxl:1≤x.length:=List.length_pos_iff.2 hx
 have htT:thereF n a x.length=true:=Y76
 have htt:=htT
 unfold thereF at htt
 have htt:=of_decide_eq_true htt
 obtain ⟨p,hp⟩:∃ p:Nat,a=p:=⟨a.toNat,(Int.toNat_of_nonneg htt.1).symm⟩
 subst hp
 refine rr (k:=ro (pre:=[_,_,_,_,_,_,_]) (k:=?_))
 refine RunO.gdo au (v:=.own b0 p (n-p)) (s':=s) Y96 ?_
 refine ro (pre:=[_]) (k:=?_)
 refine RunO.copy (el:=4) (id:=b0) (off:=p) (len:=n-p) (ys:=x.map PV.bool) (s':=s.set b0 (some (.row 4 ((overF l p x).map PV.bool)))) au au au Tryz.td27 Y194 (isEls_map (P:=Tryz.prog) (e:=4) (f:=PV.bool) (fun a=>⟨rfl,Y249⟩) _) Y88 ?_
 refine rl [] (k:=rs (k:=rg [8] (k:=rR (k:=?_))))
 refine jO 1 ?_;rotate_left
 any_goals
  refine jI 1 ?_
  first
   |(have htF:thereF n a x.length=false:=by simpa using hc0
     refine Ret.all (by simp only [Tryz.f120,go_sem,↓reduceIte]<;>rfl) ⟨by rw [htF],by rw [htF];rfl⟩)
   |(refine Ret.all (by simp only [Tryz.f120,go_sem,↓reduceIte]<;>rfl) ⟨by rw [htT],Y380⟩)
theorem ref8_put3 {s:St} {st b0 b1 v0 v1 n:Nat} (hst:s.blk st=some (.row 111 [.agg [.int .i64 (n:Int),.own b0 0 n,.own b1 0 n,.own v0 0 n,.own v1 0 n]])) {l x:List Int} (hb:s.blk v1=some (.row 29 (l.map (PV.int .u16)))) (hn:l.length=n) (hn2:n≤65536) {a:Int} (hx:x≠[]) (hst2:v1≠st):ACalls Tryz.prog 121 [.ptr st 0 0,.int .i64 3,.int .i64 a,.sl .unk (x.map (PV.int .u16))] s (fun r s'=>r=.bool (thereF n a x.length)∧s'=(if thereF n a x.length=true then s.set v1 (some (.row 29 ((overF l a.toNat x).map (PV.int .u16)))) else s)):=by
 refine go Tryz.func121 (k:=fun hwf H=>?_)
 have f0:((0:Int)<((2:Nat):Int))=True:=Y15
 have f1:((1:Int)<((2:Nat):Int))=True:=Y15
 have ft:Int.toNat 1=1:=rfl
 have f2:((0:Int)≤1)=True:=Y15
 have H:=aj f0 (aj f1 (aj ft (aj f2 H)))
 have w0:IntKind.i64.wrap (3-2)=1:=Y15
 have H:=aj w0 H
 have H:=aj hst (aj hb H)
 refine rs (k:=rg [0,1,2,3] (k:=rs (k:=rs (k:=rr (k:=ro (pre:=[_,_,_,_,_,_,_,_,_,_,_]) (k:=rG (h:=fun hb=>ref8_there hst hn2) (k:=rh [0,1,2,3,22] (k:=rc (ht:=fun hc0=>?_) (hf:=fun hc0=>?_)))))))))
 refine rs (k:=rg [8] (k:=rR (k:=?_)))
 refine jO 1 ?_;rotate_left
 refine rk (k:=rs (k:=?_))
 have hxl:1≤x.length:=List.length_pos_iff.2 hx
 have htT:thereF n a x.length=true:=Y76
 have htt:=htT
 unfold thereF at htt
 have htt:=of_decide_eq_true htt
 obtain ⟨p,hp⟩:∃ p:Nat,a=p:=⟨a.toNat,(Int.toNat_of_nonneg htt.1).symm⟩
 subst hp
 refine rr (k:=ro (pre:=[_,_,_,_,_,_,_,_]) (k:=?_))
 refine RunO.gdo au (v:=.own v1 p (n-p)) (s':=s) Y96 ?_
 refine ro (pre:=[_]) (k:=?_)
 refine RunO.copy (el:=29) (id:=v1) (off:=p) (len:=n-p) (ys:=x.map (PV.int .u16)) (s':=s.set v1 (some (.row 29 ((overF l p x).map (PV.int .u16))))) au au au Tryz.td28 Y137 (isEls_map (P:=Tryz.prog) (e:=29) (f:=(PV.int .u16)) (fun a=>⟨rfl,Y138⟩) _) Y88 ?_
 refine rl [] (k:=rs (k:=rg [8] (k:=rR (k:=?_))))
 refine jO 1 ?_;rotate_left
 any_goals
  refine jI 1 ?_
  first
   |(have htF:thereF n a x.length=false:=by simpa using hc0
     refine Ret.all (by simp only [Tryz.f121,go_sem,↓reduceIte]<;>rfl) ⟨by rw [htF],by rw [htF];rfl⟩)
   |(refine Ret.all (by simp only [Tryz.f121,go_sem,↓reduceIte]<;>rfl) ⟨by rw [htT],Y380⟩)
attribute [local go_sem] weaks_bools Req.pv
theorem ref8_Masked {v:Int} {q:Req} {s:St}:ACalls Tryz.prog 122 [.int .u16 v,q.pv] s (fun r s'=>r=.int .u16 (maskF v q)∧s'=s):=by
 refine go Tryz.func122 (k:=fun hwf H=>?_)
 refine rs (k:=rg [0,3] (k:=rs (k:=rg [4] (k:=rR (k:=rP (by simp only [Tryz.f122,go_sem];rfl) hwf ⟨?_,rfl⟩)))))
 rfl
attribute [local go_sem] weaks_bools Req.pv
set_option maxRecDepth 100000 in
theorem ref8_Asked {q:Req} {s:St}:ACalls Tryz.prog 116 [q.pv] s (fun r s'=>r=.tuple [.int .i64 (askF q).1.1,.int .i64 (askF q).1.2,.int .i64 (askF q).2.1,.int .i64 (askF q).2.2]∧s'=s):=by
 refine go Tryz.func116 (k:=fun hwf H=>?_)
 refine rs (k:=rg [1] (k:=rs (k:=rs (k:=rg [1,7] (k:=rb (k:=rs (k:=rs (k:=rg [1,7,8] (k:=rc (ht:=fun hc0=>?_) (hf:=fun hc0=>?_))))))))))
 refine rk (k:=rc (ht:=fun hc3=>?_) (hf:=fun hc3=>?_))
 refine jO 1 ?_;rotate_left
 ·exact Y417
 refine rs (k:=rg [1,7,8] (k:=rc (ht:=fun hc1=>?_) (hf:=fun hc1=>?_)))
 refine rk (k:=rc (ht:=fun hc3=>?_) (hf:=fun hc3=>?_))
 refine jO 1 ?_;rotate_left
 ·exact Y418
 refine rs (k:=rg [1,7,8] (k:=rc (ht:=fun hc2=>?_) (hf:=fun hc2=>?_)))
 refine rk (k:=rc (ht:=fun hc3=>?_) (hf:=fun hc3=>?_))
 refine jO 1 ?_;rotate_left
 ·exact Y195
 refine rg [1,7,8] (k:=rc (ht:=fun hc3=>?_) (hf:=fun hc3=>?_))
 refine jO 1 ?_;rotate_left
 refine rs (k:=rs (k:=rg [1,7,17] (k:=rc (ht:=fun hc4=>?_) (hf:=fun hc4=>?_))))
 refine rk (k:=rc (ht:=fun hc5=>?_) (hf:=fun hc5=>?_))
 refine jO 1 ?_;rotate_left
 ·exact Y430
 refine rg [1,7,17] (k:=rc (ht:=fun hc5=>?_) (hf:=fun hc5=>?_))
 refine jO 1 ?_;rotate_left
 refine rs (k:=rs (k:=rg [1,7,22] (k:=rc (ht:=fun hc6=>?_) (hf:=fun hc6=>?_))))
 refine rk (k:=rc (ht:=fun hc7=>?_) (hf:=fun hc7=>?_))
 refine jO 1 ?_;rotate_left
 ·exact Bool.noConfusion (hc6.symm.trans hc7)
 refine rg [1,7,22] (k:=rc (ht:=fun hc7=>?_) (hf:=fun hc7=>?_))
 refine jO 1 ?_;rotate_left
 refine rs (k:=rg [1,7,29] (k:=rc (ht:=fun hc8=>?_) (hf:=fun hc8=>?_)))
 refine jO 1 ?_;rotate_left
 refine rs (k:=rg [1,35] (k:=rc (ht:=fun hc9=>?_) (hf:=fun hc9=>?_)))
 refine jO 1 ?_;rotate_left
 refine rk (k:=rB (k:=rs (k:=rg [2,3,4,5] (k:=rR (k:=rP (by simp only [Tryz.f116,go_sem];rfl) hwf ⟨?_,rfl⟩)))))
 refine jO 2 ?_;rotate_left
 any_goals
  refine jI 1 ?_
  refine rs (k:=?_)
  refine jO 3 ?_;rotate_left
 any_goals
  refine jI 3 ?_
  refine Run.drawC [] [2,3,4,5] Tryz.mixed Y19 ?_
  refine jO 4 ?_;rotate_left
 any_goals
  refine jI 4 ?_
  refine DetC.all au ?_
  refine jO 5 ?_;rotate_left
 any_goals
  refine jI 5 ?_
  refine re (k:=rR (k:=rP (by simp only [Tryz.f116,go_sem];rfl) hwf ⟨?_,rfl⟩))
  refine jO 2 ?_;rotate_left
 any_goals
  refine jI 2 ?_
  simp only [decide_eq_true_eq,decide_eq_false_iff_not,PV.weak,PV.weaks] at *
  refine jO 6 ?_;rotate_left
 any_goals
  refine jI 6 ?_
  unfold askF
  refine jO 7 ?_;rotate_left
 any_goals
  refine jI 7 ?_
  first
   | rw [if_pos Y14]
   | rw [if_neg Y14,if_pos Y14]
   | rw [if_neg Y14,if_neg Y14,if_pos Y14]
   | rw [if_neg Y14,if_neg Y14,if_neg Y14,if_pos Y14]
   | rw [if_neg Y14,if_neg Y14,if_neg Y14,if_neg Y14,if_pos Y14]
   | rw [if_neg Y14,if_neg Y14,if_neg Y14,if_neg Y14,if_neg Y14]
attribute [local go_sem] weaks_bools Rep.pv
theorem ref8_refuse {b:Nat} {D:Dev} {s:St} (hA:RefAt b D s) {fn code:Int}:ACalls Tryz.prog 103 [.ptr (b+5) 0 0,.int .i64 fn,.int .i64 code] s (fun r s'=>r=(refD D fn code).1.pv∧s'=putRef b (refD D fn code).2 s):=by
 refine go Tryz.func103 (k:=fun hwf H=>?_)
 have hdv:=hA.dv
 unfold refRow at hdv
 have hlt:=hA.lt hwf
 have hinc:IntKind.i64.wrap (D.exc+1)=inc D.exc:=rfl
 have H:=aj hinc H
 have H:=aj hdv H
 refine rs (k:=rg [0,1,2,6] (k:=rs (k:=rg [1,2,6] (k:=rs (k:=rr (k:=ro (pre:=[_,_]) (k:=rC (h:=ref3_Refuse (fn:=fn) (code:=code)) (k:=rh [6] (k:=rR (k:=?_))))))))))
 exact Ret.refd (refD D fn code).2 hA (r':=(refD D fn code).1.pv) (by simp only [Tryz.f103,go_sem,↓reduceIte]<;>rfl) Y361 (blw_rep _ _) hwf (fun i hi=>by
  have h0:=ltn hi;have h1:=lte hi
  rw [putRef_blk]
  simp only [go_sem,Nat.add_assoc,Nat.reduceAdd,↓reduceIte,h0,h1]
  by_cases e5:i=b+5
  ·rw [if_pos e5,if_pos e5];rfl
  rw [if_neg e5,if_neg e5]
  by_cases e4:i=b+4
  ·rw [if_pos e4,e4];exact hA.v1
  rw [if_neg e4]
  by_cases e2:i=b+2
  ·rw [if_pos e2,e2];exact hA.v0
  rw [if_neg e2]
  by_cases e3:i=b+3
  ·rw [if_pos e3,e3];exact hA.c1
  rw [if_neg e3]
  by_cases e1:i=b+1
  ·rw [if_pos e1,e1];exact hA.c0
  rw [if_neg e1]) ⟨rfl,rfl⟩
attribute [local go_sem] weaks_bools Rep.pv
theorem Y97 {p:Prop} (h:p:=by simp only [PV.blw,PV.blws,and_true,true_and];exact ⟨fun t z e=>Y65,blws_u8 _ _⟩):p:=h
theorem ref3_Lay {r:Rep} (hr:r.ok) {s:St}:ACalls Tryz.prog 70 [r.pv] s (fun v s'=>v=.tuple [.sl .unk ((repF r).map (PV.int .u8)),.int .i64 (goodF r)]∧s'=s):=by
 refine go Tryz.func70 (k:=fun hwf H=>?_)
 refine rs (k:=rg [1] (k:=rs (k:=rs (k:=rr (k:=ro (pre:=[_]) (k:=rC (h:=ref3_Good hr) (k:=rh [1,4] (k:=rs (k:=rg [1,4,8] (k:=rc (ht:=fun hc0=>?_) (hf:=fun hc0=>?_)))))))))))
 refine rs (k:=rg [2,3] (k:=rR (k:=?_)))
 refine jO 1 ?_;rotate_left
 refine rk (k:=rs (k:=?_))
 have hg0:goodF r=0:=Y76
 refine rr (k:=ro (pre:=[_]) (k:=rC (h:=ref3_lay hr hg0) (k:=rh [2,3] (k:=rR (k:=?_)))))
 refine jO 1 ?_;rotate_left
 any_goals
  refine jI 1 ?_
  refine Ret.pure (r':=.tuple [.sl .unk ((repF r).map (PV.int .u8)),.int .i64 (goodF r)]) (by simp only [Tryz.f70,go_sem,↓reduceIte]<;>rfl) ?_ Y97 hwf Y26 ⟨rfl,rfl⟩
  refine jO 2 ?_;rotate_left
 any_goals
  refine jI 2 ?_
  unfold repF
  refine jO 3 ?_;rotate_left
 any_goals
  refine jI 3 ?_
  simp only [Bool.not_eq_true',Bool.not_eq_false',decide_eq_true_eq,decide_eq_false_iff_not] at hc0
  refine jO 4 ?_;rotate_left
 any_goals
  refine jI 4 ?_
  first
   | rw [if_pos hc0];simp only [PV.weak,PV.weaks,weaks_u8,hc0]
   | rw [if_neg hc0];rfl
end Go.Proofs
namespace Go.Proofs
open Go.PM
set_option maxHeartbeats 2000000
theorem ref_u8_mod (D:Dev) (x c:Int):refD D (x%128) c=refD D x c:=by
 unfold refD refuseP
 rw [show x%128%128=x%128 from Y14]
theorem readF_err (l:List Int):((readF l).2=13↔l=[])∧((readF l).2=0∨(readF l).2=12∨(readF l).2=13∨(readF l).2=15):=by
 unfold readF
 repeat' split
 all_goals simp_all
theorem RefAt.sv {b:Nat} {D:Dev} {s:St} (h:RefAt b D s) {i:Nat} (hi:b+5<i) (x:Option Blk):RefAt b D (s.set i x):=by
 have e:∀ j,j≤b+5→(s.set i x).blk j=s.blk j:=fun j hj=>blk_set_ne Y14
 exact ⟨Y257,Y258,Y259,Y260,Y261,Y262⟩
theorem putRef_hi {b:Nat} {D:Dev} {s:St} {i:Nat} (h:b+5<i):(putRef b D s).blk i=s.blk i:=by
 rw [putRef_blk,if_neg Y14,if_neg Y14,if_neg Y14,if_neg Y14,if_neg Y14]
theorem putRef_lo {b:Nat} {D:Dev} {s:St} {i:Nat} (h:i<b+1):(putRef b D s).blk i=s.blk i:=by
 rw [putRef_blk,if_neg Y14,if_neg Y14,if_neg Y14,if_neg Y14,if_neg Y14]
theorem putRef_congr2 {b m:Nat} {D:Dev} {s s':St} (hk:∀ i,i<m→i<b+1∨b+5<i→s'.blk i=s.blk i) (i:Nat) (hi:i<m):(putRef b D s').blk i=(putRef b D s).blk i:=by
 by_cases h:i<b+1∨b+5<i
 ·rcases h with h | h
  ·rw [putRef_lo h,putRef_lo h];exact hk i hi (.inl h)
  ·rw [putRef_hi h,putRef_hi h];exact hk i hi (.inr h)
 ·rw [putRef_blk,putRef_blk]
  (repeat' split)<;>first | rfl |(exfalso;omega)
theorem writeR_ok {q:Req} (hq:q.ok) (h:rightF q=0):OkB (writeF q):=by
 have hR:=right0 h
 have h1:=has_cases hR.has
 have h2:=hR.mb
 have h3:=hR.mv
 have h5:=packB_len q.bits
 have h6:=flat2_lenX q.vals
 unfold writeF
 refine OkB.cons ⟨Y14,Y14⟩ ?_
 repeat' split
 all_goals first
  | exact OkB.nil
  | exact (num2_ok _).append (flat2_okB _)
  | exact (num2_ok _).append (num2_ok _)
  | exact (num2_ok _).append ((num2_ok _).append (num2_ok _))
  | exact (num2_ok _).append ((num2_ok _).append (OkB.cons ⟨Y14,Y14⟩ (packB_ok _)))
  | exact (num2_ok _).append ((num2_ok _).append (OkB.cons ⟨Y14,Y14⟩ (flat2_okB _)))
  | exact (num2_ok _).append ((num2_ok _).append (((num2_ok _).append (num2_ok _)).append (OkB.cons ⟨Y14,Y14⟩ (flat2_okB _))))
  | exact (num2_ok _).append ((num2_ok _).append OkB.nil)
attribute [local go_sem] weaks_bools Req.pv
set_option maxRecDepth 100000 in
theorem ref3_Counts {q:Req} {s:St}:ACalls Tryz.prog 115 [q.pv] s (fun r s'=>r=.bool (countF q)∧s'=s):=by
 refine go Tryz.func115 (k:=fun hwf H=>?_)
 refine rs (k:=rg [1] (k:=rs (k:=rs (k:=rr (k:=ro (pre:=[_]) (k:=rC (h:=ref3_Right (q:=q)) (k:=rh [1,6] (k:=rc (ht:=fun hc0=>?_) (hf:=fun hc0=>?_)))))))))
 refine jO 1 ?_;rotate_left
 refine rk (k:=rs (k:=rg [1,3] (k:=rs (k:=rs (k:=rg [1,3,10] (k:=rb (k:=rs (k:=rs (k:=rg [1,3,10,11] (k:=rc (ht:=fun hc1=>?_) (hf:=fun hc1=>?_)))))))))))
 refine rk (k:=rc (ht:=fun hc2=>?_) (hf:=fun hc2=>?_))
 refine jO 1 ?_;rotate_left
 ·exact Y196
 refine rg [1,3,10,11] (k:=rc (ht:=fun hc2=>?_) (hf:=fun hc2=>?_))
 refine jO 1 ?_;rotate_left
 refine rs (k:=rs (k:=rg [1,3,10,20] (k:=rc (ht:=fun hc3=>?_) (hf:=fun hc3=>?_))))
 refine rk (k:=rc (ht:=fun hc4=>?_) (hf:=fun hc4=>?_))
 refine jO 1 ?_;rotate_left
 ·exact Y198
 refine rg [1,3,10,20] (k:=rc (ht:=fun hc4=>?_) (hf:=fun hc4=>?_))
 refine jO 1 ?_;rotate_left
 refine rs (k:=rg [1,3,10,29] (k:=rc (ht:=fun hc5=>?_) (hf:=fun hc5=>?_)))
 refine jO 1 ?_;rotate_left
 refine rs (k:=rg [1,3,10,37] (k:=rc (ht:=fun hc6=>?_) (hf:=fun hc6=>?_)))
 refine jO 1 ?_;rotate_left
 refine rs (k:=rg [1,3,45] (k:=rc (ht:=fun hc7=>?_) (hf:=fun hc7=>?_)))
 refine jO 1 ?_;rotate_left
 refine rk (k:=rB (k:=rs (k:=rg [2] (k:=rR (k:=rP (by simp only [Tryz.f115,go_sem];rfl) hwf ⟨?_,rfl⟩)))))
 refine jO 2 ?_;rotate_left
 any_goals
  refine jI 1 ?_
  refine rs (k:=rg [2] (k:=rR (k:=rP (by simp only [Tryz.f115,go_sem];rfl) hwf ⟨?_,rfl⟩)))
  refine jO 2 ?_;rotate_left
 any_goals
  refine jI 2 ?_
  simp only [PV.weak]
  refine jO 3 ?_;rotate_left
 any_goals
  refine jI 3 ?_
  congr 1
  refine jO 4 ?_;rotate_left
 any_goals
  refine jI 4 ?_
  unfold countF
  refine jO 5 ?_;rotate_left
 any_goals
  refine jI 5 ?_
  simp only [Bool.not_eq_true',Bool.not_eq_false',Bool.or_eq_true,Bool.or_eq_false_iff,decide_eq_true_eq,decide_eq_false_iff_not] at *
  refine jO 6 ?_;rotate_left
 any_goals
  refine jI 6 ?_
  rw [Bool.eq_iff_iff]
  refine jO 7 ?_;rotate_left
 any_goals
  refine jI 7 ?_
  simp only [Bool.and_eq_true,decide_eq_true_eq,Bool.false_eq_true,false_iff,true_iff]
  refine jO 8 ?_;rotate_left
 any_goals
  refine jI 8 ?_
  first
   | omega
   |(simp only [*,Int.reduceEq,or_true,true_or,or_self,if_true,if_false,true_and,and_true,false_and,and_false,not_false_eq_true,ite_true,ite_false];first | done | omega)
   | skip
attribute [local go_sem] weaks_bools Req.pv
theorem ref3_ReadR {b:List Int} (hb:OkB b) (hl:b.length≤140737488351232) {s:St}:ACalls Tryz.prog 102 [.sl .unk (b.map (PV.int .u8))] s (fun r s'=>r=.tuple [(readR b).1.pv,.int .i64 (readR b).2]∧s'=s):=by
 refine go Tryz.func102 (k:=fun hwf H=>?_)
 refine rs (k:=rg [0,2] (k:=rs (k:=rs (k:=rg [0,2,7] (k:=rc (ht:=fun hc0=>?_) (hf:=fun hc0=>?_))))))
 refine jO 1 ?_;rotate_left
 refine rk (k:=rs (k:=rs (k:=?_)))
 have hlt:0<b.length:=Y75
 obtain ⟨x,hx⟩:∃ x,b[0]? =some x:=⟨b[0],List.getElem?_eq_getElem hlt⟩
 have hxx:(b.map (PV.int .u8))[0]? =some (.int .u8 x):=Y141
 have hlT:(0<b.length)=True:=eq_true hlt
 have hx8:U8 x:=hb x (List.mem_of_getElem? hx)
 have hxw:IntKind.i64.wrap x=x:=wrap_i64 Y142
 have hg0:(b[0]?).getD 0=x:=Y253
 have H:=aj hxx (aj hlT (aj hxw H))
 refine rr (k:=ro (pre:=[_,_,_,_]) (k:=rC (h:=ref3_Has (fn:=x)) (k:=rh [0,2,14] (k:=rc (ht:=fun hc1=>?_) (hf:=fun hc1=>?_)))))
 refine jO 1 ?_;rotate_left
 refine rk (k:=rs (k:=rr (k:=ro (pre:=[_]) (k:=rC (h:=ref3_guess hb hl hx) (k:=rh [0,2,4] (k:=rs (k:=rs (k:=?_))))))))
 have hGo:(guessR b).ok:=guessR_ok hb hl
 have hst:((strB (writeF (guessR b))).toList==(strB b).toList)=decide (writeF (guessR b)=b)∨¬ rightF (guessR b)=0:=by
  by_cases hg:rightF (guessR b)=0
  ·exact .inl (strB_beq (writeR_ok hGo hg) hb)
  ·exact .inr hg
 refine Run.drawC [] [2,4,28] Tryz.mixed Y19 ?_
 refine DetC.pre (pre:=[_]) au ?_
 refine DetC.call au au au Y19 (ref3_Right (q:=guessR b)) ?_
 refine DetC.pre (pre:=[_,_]) au ?_
 rcases hd3:(!decide (rightF (guessR b)=0)) with _ | _
 have H:=aj hd3 H
 have hst2:((strB (writeF (guessR b))).toList==(strB b).toList)=decide (writeF (guessR b)=b):=hst.resolve_right (by simpa using hd3)
 have H:=aj hst2 H
 refine DetC.gdo au au ?_
 refine DetC.call au au au Y19 (ref3_write hGo (by simpa using hd3)) ?_
 refine DetC.gdo au au ?_
 refine DetC.gdo au au ?_
 refine DetC.gdo au au ?_
 refine DetC.gdo au au ?_
 refine jO 2 ?_;rotate_left
 have H:=aj hd3 H
 refine DetC.gskip' au ?_
 refine DetC.gskip' au ?_
 refine DetC.gskip' au ?_
 refine DetC.gskip' au ?_
 refine DetC.gskip' au ?_
 refine DetC.gskip' au ?_
 refine jO 2 ?_;rotate_left
 any_goals
  refine jI 2 ?_
  refine DetC.all au ?_
  refine jO 3 ?_;rotate_left
 any_goals
  refine jI 3 ?_
  refine re (k:=rc (ht:=fun hc2=>?_) (hf:=fun hc2=>?_))
  refine jO 1 ?_;rotate_left
  refine jO 4 ?_;rotate_left
 any_goals
  refine jI 4 ?_
  refine rk (k:=rs (k:=rg [2,3] (k:=rR (k:=?_))))
  refine jO 5 ?_;rotate_left
 any_goals
  refine jI 1 ?_
  refine rs (k:=rg [2,3] (k:=rR (k:=?_)))
  refine jO 5 ?_;rotate_left
 any_goals
  refine jI 5 ?_
  refine Ret.pure (r':=.tuple [(readR b).1.pv,.int .i64 (readR b).2]) (by simp only [Tryz.f102,go_sem,↓reduceIte]<;>rfl) ?_ Y422 hwf Y26 ⟨rfl,rfl⟩
  refine jO 6 ?_;rotate_left
 any_goals
  refine jI 6 ?_
  simp only [PV.weak,PV.weaks,weaks_bools,weaks_u16]
  refine jO 7 ?_;rotate_left
 any_goals
  refine jI 7 ?_
  first
   |(cases hc2;done)
   |(have h0:b=[]:=List.length_eq_zero_iff.1 Y72
     unfold readR;rw [if_pos h0];rfl)
   |(have h0:¬ b=[]:=by intro h;rw [h] at hlt;cases hlt
     have h1:hasF x=false:=by simpa using hc1
     unfold readR;rw [if_neg h0,hg0,if_pos h1];rfl)
   |(have h0:¬ b=[]:=by intro h;rw [h] at hlt;cases hlt
     have h1:¬ hasF x=false:=by simpa using hc1
     have h2:¬ (rightF (guessR b)=0∧writeF (guessR b)=b):=by
      rintro ⟨e1,e2⟩
      first
       |(simp [e1] at hd3;done)
       |(simp [e2] at hc2;done)
     unfold readR;rw [if_neg h0,hg0,if_neg h1,if_neg h2];rfl)
   |(have h0:¬ b=[]:=by intro h;rw [h] at hlt;cases hlt
     have h1:¬ hasF x=false:=by simpa using hc1
     have h2:rightF (guessR b)=0∧writeF (guessR b)=b:=⟨by simpa using hd3,Y368⟩
     unfold readR;rw [if_neg h0,hg0,if_neg h1,if_pos h2];rfl)
theorem ref3_Read {b:List Int} (hb:OkB b) (hl:b.length≤140737488351232) {s:St}:ACalls Tryz.prog 102 [.sl .unk (b.map (PV.int .u8))] s (fun r s'=>r=.tuple [(readF b).1.pv,.int .i64 (readF b).2]∧s'=s):=by
 have:=ref3_ReadR hb hl (s:=s)
 rwa [readR_eq hb hl] at this
attribute [local go_sem] set_set putRef_hi putRef_nxt weaks_bools Req.pv Rep.pv
theorem Y47 {p:Prop} (h:p:=by simp (disch:=first | omega |(simp only [nxt_set,nxt_new]<;>omega) | fail) only [go_sem,↓reduceIte,H];unfold PV.frz;simp only [List.map_cons,List.map_nil];simp (disch:=first | omega |(simp only [nxt_set,nxt_new]<;>omega) | fail) [PV.frz,PV.weak,go_sem,H]):p:=h
theorem Y98 {p:Prop} (h:p:=by
 exact
                                                                             (fun i hi=>by
  have h0:=ltn hi;have h1:=lte hi
  simp (disch:=first | omega |(simp only [nxt_set,nxt_new]<;>omega) | fail) only [go_sem,Nat.add_assoc,Nat.reduceAdd,↓reduceIte,h0,h1]
  exact putRef_congr2 (m:=s.nxt) Y93 i hi)):p:=h
theorem Y154 {p:Prop} (h:p:=by simp only [Tryz.f123,go_sem,↓reduceIte]<;>rfl):p:=h
theorem Y440 {p:Prop} (h:p:=by simp [PV.blw,PV.blws]):p:=h
set_option maxRecDepth 100000 in
theorem ref8_diag {b:Nat} {D:Dev} {s:St} (hA:RefAt b D s) {q:Req} (hq:q.ok) (hc:countF q=true) (hf:q.fn=8):ACalls Tryz.prog 123 [.ptr (b+5) 0 0,q.pv] s (fun r s'=>r=(finR (diagF D q) q).1.pv∧s'=putRef b (finR (diagF D q) q).2 s):=by
 refine go Tryz.func123 (k:=fun hwf H=>?_)
 have hdv:=hA.dv
 unfold refRow at hdv
 have hlt:=hA.lt hwf
 have hr:=count_right hc
 obtain ⟨y,hye⟩:∃ y,q.vals=[y]:=⟨_,(one_getI (nv_6 hr (.inr hf))).symm⟩
 have hy0:(q.vals[0]?).getD 0=y:=Y318
 have hyy:(q.vals.map (PV.int .u16))[0]? =some (.int .u16 y):=Y318
 have hyl:(0<q.vals.length)=True:=by rw [hye];simp
 have hA1:∀ x y z,RefAt b D (((s.new x).new y).new z):=fun x y z=>((hA.nw hlt x).nw Y89 y).nw (by show b+5<s.nxt+2;omega) z
 have hA2:∀ x y z w u,RefAt b D ((((((s.new x).new y).new z).new w).set (s.nxt+2) u)):=fun x y z w u=>((hA1 x y z).nw (by show b+5<s.nxt+3;omega) w).sv Y14 _
 have f1:((0:Int)<((1:Nat):Int))=True:=Y15
 have H:=aj hyy (aj hyl (aj f1 H))
 have H:=aj hdv H
 refine rs (k:=rg [0,3,4] (k:=rs (k:=?_)))
 refine Run.reserve ?_
 refine rH 11 [7,9,10] [[false,false,false],[true,false,false],[false,true,false],[true,true,false],[true,true,true]] [(((s.new (.row 31 [.agg [.int .i64 q.fn,.int .i64 q.at_,.int .i64 q.count,.int .i64 q.wat,.int .i64 q.sub,.sl .unk (q.bits.map PV.bool),.sl .unk (q.vals.map (PV.int .u16)),.int .u16 q.and_,.int .u16 q.or_]])).new (.row 41 [.agg [.int .i64 0,.int .i64 0,.int .i64 0,.int .i64 0,.int .i64 0,.sl .nil [],.sl .nil [],.int .u16 0,.int .u16 0,.sl .nil []]])).new .res),((((s.new (.row 31 [.agg [.int .i64 q.fn,.int .i64 q.at_,.int .i64 q.count,.int .i64 q.wat,.int .i64 q.sub,.sl .unk (q.bits.map PV.bool),.sl .unk (q.vals.map (PV.int .u16)),.int .u16 q.and_,.int .u16 q.or_]])).new (.row 41 [.agg [.int .i64 0,.int .i64 0,.int .i64 0,.int .i64 0,.int .i64 0,.sl .nil [],.sl .nil [],.int .u16 0,.int .u16 0,.sl .nil []]])).new .res).new (.row 29 [.int .u16 y])),((((s.new (.row 31 [.agg [.int .i64 q.fn,.int .i64 q.at_,.int .i64 q.count,.int .i64 q.wat,.int .i64 q.sub,.sl .unk (q.bits.map PV.bool),.sl .unk (q.vals.map (PV.int .u16)),.int .u16 q.and_,.int .u16 q.or_]])).new (.row 41 [.agg [.int .i64 0,.int .i64 0,.int .i64 0,.int .i64 0,.int .i64 0,.sl .nil [],.sl .nil [],.int .u16 0,.int .u16 0,.sl .nil []]])).new .res).set (s.nxt+2) (some (.row 41 [.agg [.int .i64 0,.int .i64 0,.int .i64 0,.int .i64 0,.int .i64 0,.sl .nil [],.sl .nil [],.int .u16 0,.int .u16 0,.sl .nil []]]))),(((((s.new (.row 31 [.agg [.int .i64 q.fn,.int .i64 q.at_,.int .i64 q.count,.int .i64 q.wat,.int .i64 q.sub,.sl .unk (q.bits.map PV.bool),.sl .unk (q.vals.map (PV.int .u16)),.int .u16 q.and_,.int .u16 q.or_]])).new (.row 41 [.agg [.int .i64 0,.int .i64 0,.int .i64 0,.int .i64 0,.int .i64 0,.sl .nil [],.sl .nil [],.int .u16 0,.int .u16 0,.sl .nil []]])).new .res).new (.row 29 [.int .u16 y])).set (s.nxt+2) (some (.row 41 [.agg [.int .i64 0,.int .i64 0,.int .i64 0,.int .i64 0,.int .i64 0,.sl .nil [],.sl .nil [],.int .u16 0,.int .u16 0,.sl .nil []]]))),(((((s.new (.row 31 [.agg [.int .i64 q.fn,.int .i64 q.at_,.int .i64 q.count,.int .i64 q.wat,.int .i64 q.sub,.sl .unk (q.bits.map PV.bool),.sl .unk (q.vals.map (PV.int .u16)),.int .u16 q.and_,.int .u16 q.or_]])).new (.row 41 [.agg [.int .i64 0,.int .i64 0,.int .i64 0,.int .i64 0,.int .i64 0,.sl .nil [],.sl .nil [],.int .u16 0,.int .u16 0,.sl .nil []]])).new .res).new (.row 29 [.int .u16 y])).set (s.nxt+2) (some (.row 41 [.agg [.int .i64 q.fn,.int .i64 0,.int .i64 0,.int .i64 0,.int .i64 q.sub,.sl .nil [],.own (s.nxt+3) 0 1,.int .u16 0,.int .u16 0,.sl .nil []]])))] Tryz.mixed (k:=?_)
 refine dP [0,1,2,3] (pre:=[_,_,_,_,_,_,_]) (k:=?_)
 refine DetHC.appF (kx:=.clip) (ky:=.unk) (xs:=[]) (ys:=q.vals.map (PV.int .u16)) (v:=.own (s.nxt+3) 0 1) [(0,1),(2,3)] _ Y19 pq au au au Tryz.td28 Y137 (by intro p hp;cases hp) (isEls_map (P:=Tryz.prog) (e:=29) (f:=PV.int .u16) (fun a=>⟨rfl,Y138⟩) _) Y139 (by rw [Tryz.by29,List.length_map,hye];simp) (by intro q hq;simp only [List.mem_cons,List.not_mem_nil,or_false] at hq;rcases hq with rfl | rfl<;>(unfold aAppendFirst;rw [hye,List.map_cons,List.map_nil];dsimp only;rw [if_pos Y66];refine congrArg some (Prod.ext rfl ?_);first | rfl | exact St.eq_of rfl fun i=>by (by_cases e3:i=s.nxt+3<;>by_cases e2:i=s.nxt+2<;>simp only [blk_set,blk_new,nxt_new,nxt_set,List.nil_append,Nat.add_assoc,Nat.reduceAdd,e3,e2,if_true,if_false,Nat.add_left_cancel_iff,Nat.reduceEqDiff]))) ?_
 refine dP [1,3] (pre:=[_]) (k:=?_)
 refine DetHC.resAlloc (id:=s.nxt+2) [(0,2),(1,3)] _ Y19 pq au rfl (by rw [Tryz.zp41]) Y33 ?_
 refine dE [(3,4)] (k:=?_)
 refine DetHC.nil ?_
 refine rl [0,3,4,5] (k:=rs (k:=rg [0,3,4,5] (k:=rs (k:=rs (k:=rg [0,3,4,5,17] (k:=rb (k:=rs (k:=rg [0,3,4,5,17,22] (k:=rc (ht:=fun hc0=>?_) (hf:=fun hc0=>?_))))))))))
 have hc:=hc0
 refine rs (k:=rr (k:=ro (pre:=[_]) (k:=?_)))
 refine RunO.thaw 24 (s.nxt+3) 3 (v:=.agg [.int .i64 q.fn,.int .i64 0,.int .i64 0,.int .i64 0,.int .i64 q.sub,.sl .nil [],.sl .unk [.int .u16 y],.int .u16 0,.int .u16 0,.sl .nil []]) Y47 Y440 ?_
 refine jO 1 ?_;rotate_left
 have hc:=hc0
 refine rs (k:=rg [0,3,4,5,17,25] (k:=rc (ht:=fun hc1=>?_) (hf:=fun hc1=>?_)))
 have hc:=hc1
 refine rs (k:=rg [4,5] (k:=rs (k:=rr (k:=ro (pre:=[_]) (k:=?_)))))
 refine RunO.thaw 33 (s.nxt+3) 3 (v:=.agg [.int .i64 q.fn,.int .i64 0,.int .i64 0,.int .i64 0,.int .i64 q.sub,.sl .nil [],.sl .unk [.int .u16 y],.int .u16 0,.int .u16 0,.sl .nil []]) Y47 Y440 ?_
 refine jO 1 ?_;rotate_left
 have hc:=hc1
 refine rs (k:=rs (k:=rg [0,3,4,5,17,34] (k:=rc (ht:=fun hc2=>?_) (hf:=fun hc2=>?_))))
 have hc:=hc2
 refine rk (k:=rc (ht:=fun hc3=>?_) (hf:=fun hc3=>?_))
 refine jO 2 ?_;rotate_left
 ·exact Y195
 have hc:=hc2
 refine rg [0,3,4,5,17,34] (k:=rc (ht:=fun hc3=>?_) (hf:=fun hc3=>?_))
 refine jO 2 ?_;rotate_left
 have hc:=hc3
 refine rs (k:=rg [0,3,4,5,41] (k:=rc (ht:=fun hc4=>?_) (hf:=fun hc4=>?_)))
 have hc:=hc4
 refine rg [0,3,4,5,6] (k:=rB (k:=rs (k:=rs (k:=rg [0,3,4,5,6,51] (k:=rc (ht:=fun hc5=>?_) (hf:=fun hc5=>?_))))))
 refine jO 3 ?_;rotate_left
 have hc:=hc5
 refine rk (k:=rs (k:=rg [4,5] (k:=rs (k:=rr (k:=ro (pre:=[_]) (k:=?_))))))
 refine RunO.thaw 61 (s.nxt+3) 3 (v:=.agg [.int .i64 q.fn,.int .i64 0,.int .i64 0,.int .i64 0,.int .i64 q.sub,.sl .nil [],.sl .unk [.int .u16 (IntKind.u16.wrap D.exc)],.int .u16 0,.int .u16 0,.sl .nil []]) Y47 Y440 ?_
 refine jO 1 ?_;rotate_left
 have hc:=hc4
 refine jO 4 ?_;rotate_left
 any_goals
  refine jI 2 ?_
  have hc:=hc3
  refine jO 5 ?_;rotate_left
 any_goals
  refine jI 5 ?_
  refine rg [0,3,4,5,6] (k:=rB (k:=rs (k:=rs (k:=rg [0,3,4,5,6,51] (k:=rc (ht:=fun hc5=>?_) (hf:=fun hc5=>?_))))))
  refine jO 3 ?_;rotate_left
  refine jO 6 ?_;rotate_left
 any_goals
  refine jI 6 ?_
  have hc:=hc5
  refine jO 7 ?_;rotate_left
 any_goals
  refine jI 7 ?_
  refine rk (k:=rs (k:=rg [4,5] (k:=rs (k:=rr (k:=ro (pre:=[_]) (k:=?_))))))
  refine jO 8 ?_;rotate_left
 any_goals
  refine jI 8 ?_
  refine RunO.thaw 61 (s.nxt+3) 3 (v:=.agg [.int .i64 q.fn,.int .i64 0,.int .i64 0,.int .i64 0,.int .i64 q.sub,.sl .nil [],.sl .unk [.int .u16 (IntKind.u16.wrap D.msgs)],.int .u16 0,.int .u16 0,.sl .nil []]) Y47 Y440 ?_
  refine jO 1 ?_;rotate_left
 any_goals
  refine jI 3 ?_
  have hc:=hc5
  refine jO 4 ?_;rotate_left
 any_goals
  refine jI 4 ?_
  refine rs (k:=rr (k:=ro (pre:=[_,_,_]) (k:=?_)))
  refine jO 9 ?_;rotate_left
 any_goals
  refine jI 9 ?_
  refine RunO.callw au au au Y19 ((ref8_refuse (hA2 _ _ _ _ _)).mono ?_)
  refine jO 10 ?_;rotate_left
 any_goals
  refine jI 1 ?_
  refine ro (pre:=[_]) (k:=rl [4] (k:=rR (k:=?_)))
  refine jO 11 ?_;rotate_left
 any_goals
  refine jI 10 ?_
  rintro r s1 ⟨rfl,rfl⟩
  refine jO 12 ?_;rotate_left
 any_goals
  refine jI 12 ?_
  refine rh [4] (k:=rR (k:=?_))
  refine jO 11 ?_;rotate_left
 any_goals
  refine jI 11 ?_
  simp only [decide_eq_true_eq,decide_eq_false_iff_not,Bool.not_eq_true',Bool.not_eq_false'] at *
  refine jO 13 ?_;rotate_left
 any_goals
  refine jI 13 ?_
  first
   |(have hB:finR (diagF D q) q=(⟨q.fn,0,0,0,q.sub,[],[y],0,0,[]⟩,D):=by
      unfold diagF
      simp only [hy0]
      rw [if_pos Y14];rfl
     refine Ret.refd (D) hA (r':=(⟨q.fn,0,0,0,q.sub,[],[y],0,0,[]⟩:Rep).pv) Y154 ?_ (blw_rep _ _) hwf  (fun i hi=>by
      have h0:=ltn hi;have h1:=lte hi
      rw [putRef_blk]
      simp (disch:=first | omega |(simp only [nxt_set,nxt_new]<;>omega) | fail) only [go_sem,Nat.add_assoc,Nat.reduceAdd,↓reduceIte,h0,h1]
      (repeat' split)<;>first | rfl |(rename_i e;rw [e];first | exact hA.dv | exact hA.v1 | exact hA.v0 | exact hA.c1 | exact hA.c0) |(exfalso;omega)) ⟨Y90,Y90⟩
     simp only [Rep.pv,PV.weak,PV.weaks,weaks_u16,weaks_bools,weaks_u8];first | done | rfl)
   |(have hB:finR (diagF D q) q=(⟨q.fn,0,0,0,q.sub,[],[y],0,0,[]⟩,{ D with msgs:=0,exc:=0 }):=by
      unfold diagF
      simp only [hy0]
      rw [if_neg Y14,if_pos Y14];rfl
     refine Ret.refd ({ D with msgs:=0,exc:=0 }) hA (r':=(⟨q.fn,0,0,0,q.sub,[],[y],0,0,[]⟩:Rep).pv) Y154 ?_ (blw_rep _ _) hwf  (fun i hi=>by
      have h0:=ltn hi;have h1:=lte hi
      rw [putRef_blk]
      simp (disch:=first | omega |(simp only [nxt_set,nxt_new]<;>omega) | fail) only [go_sem,Nat.add_assoc,Nat.reduceAdd,↓reduceIte,h0,h1]
      (repeat' split)<;>first | rfl |(rename_i e;rw [e];first | exact hA.dv | exact hA.v1 | exact hA.v0 | exact hA.c1 | exact hA.c0) |(exfalso;omega)) ⟨Y90,Y90⟩
     simp only [Rep.pv,PV.weak,PV.weaks,weaks_u16,weaks_bools,weaks_u8];first | done | rfl)
   |(have hB:finR (diagF D q) q=((refD D q.fn 3).1,(refD D q.fn 3).2):=by
      unfold diagF
      simp only [hy0]
      rw [if_neg Y14,if_neg Y14,if_pos Y14,if_pos Y14];rfl
     refine Ret.refd ((refD D q.fn 3).2) hA (r':=((refD D q.fn 3).1:Rep).pv) Y154 ?_ (blw_rep _ _) hwf  Y98 ⟨Y90,Y90⟩
     simp only [Rep.pv,PV.weak,PV.weaks,weaks_u16,weaks_bools,weaks_u8];first | done | rfl)
   |(have hB:finR (diagF D q) q=(⟨q.fn,0,0,0,q.sub,[],[IntKind.u16.wrap D.exc],0,0,[]⟩,D):=by
      unfold diagF
      simp only [hy0]
      rw [if_neg Y14,if_neg Y14,if_pos Y14,if_neg Y14,if_pos Y14];rfl
     refine Ret.refd (D) hA (r':=(⟨q.fn,0,0,0,q.sub,[],[IntKind.u16.wrap D.exc],0,0,[]⟩:Rep).pv) Y154 ?_ (blw_rep _ _) hwf  (fun i hi=>by
      have h0:=ltn hi;have h1:=lte hi
      rw [putRef_blk]
      simp (disch:=first | omega |(simp only [nxt_set,nxt_new]<;>omega) | fail) only [go_sem,Nat.add_assoc,Nat.reduceAdd,↓reduceIte,h0,h1]
      (repeat' split)<;>first | rfl |(rename_i e;rw [e];first | exact hA.dv | exact hA.v1 | exact hA.v0 | exact hA.c1 | exact hA.c0) |(exfalso;omega)) ⟨Y90,Y90⟩
     simp only [Rep.pv,PV.weak,PV.weaks,weaks_u16,weaks_bools,weaks_u8];first | done | rfl)
   |(have hB:finR (diagF D q) q=(⟨q.fn,0,0,0,q.sub,[],[IntKind.u16.wrap D.msgs],0,0,[]⟩,D):=by
      unfold diagF
      simp only [hy0]
      rw [if_neg Y14,if_neg Y14,if_pos Y14,if_neg Y14,if_neg Y14];rfl
     refine Ret.refd (D) hA (r':=(⟨q.fn,0,0,0,q.sub,[],[IntKind.u16.wrap D.msgs],0,0,[]⟩:Rep).pv) Y154 ?_ (blw_rep _ _) hwf  (fun i hi=>by
      have h0:=ltn hi;have h1:=lte hi
      rw [putRef_blk]
      simp (disch:=first | omega |(simp only [nxt_set,nxt_new]<;>omega) | fail) only [go_sem,Nat.add_assoc,Nat.reduceAdd,↓reduceIte,h0,h1]
      (repeat' split)<;>first | rfl |(rename_i e;rw [e];first | exact hA.dv | exact hA.v1 | exact hA.v0 | exact hA.c1 | exact hA.c0) |(exfalso;omega)) ⟨Y90,Y90⟩
     simp only [Rep.pv,PV.weak,PV.weaks,weaks_u16,weaks_bools,weaks_u8];first | done | rfl)
   |(have hB:finR (diagF D q) q=((refD D q.fn 3).1,(refD D q.fn 3).2):=by
      unfold diagF
      simp only [hy0]
      rw [if_neg Y14,if_neg Y14,if_neg Y14];rfl
     refine Ret.refd ((refD D q.fn 3).2) hA (r':=((refD D q.fn 3).1:Rep).pv) Y154 ?_ (blw_rep _ _) hwf  Y98 ⟨Y90,Y90⟩
     simp only [Rep.pv,PV.weak,PV.weaks,weaks_u16,weaks_bools,weaks_u8];first | done | rfl)
end Go.Proofs
namespace Go.Proofs
open Go.PM
set_option maxHeartbeats 2000000
attribute [local go_sem] set_set putRef_hi putRef_nxt weaks_bools Req.pv Rep.pv
theorem Y48 {p:Prop} (h:p:=by rw [hB];simp only [Rep.pv,PV.weak,PV.weaks,weaks_u16,weaks_bools,weaks_u8];first | done | rfl):p:=h
theorem Y99 {p:Prop} (h:p:=by
 exact
                 (fun j hj hj2=>by
  have h0:=ltn hj;have h1:=lte hj;have h2:(j=S.nxt)=False:=eq_false Y321
  first
  | exact gf j hj Y14
  |(rcases hj2 with hj2 | hj2
    ·simp (disch:=first | omega |(simp only [nxt_set,nxt_new]<;>omega) | fail) only [h2,↓reduceIte,go_sem,putRef_lo,putRef_put];exact gf j hj Y14
    ·simp (disch:=first | omega |(simp only [nxt_set,nxt_new]<;>omega) | fail) only [h2,↓reduceIte,go_sem,putRef_hi,putRef_put];exact gf j hj Y14))):p:=h
theorem Y49 {p:Prop} (h:p:=by
 exact
    (fun i hi=>by
  have h0:=ltn hi;have h1:=lte hi;have h2:(i=S.nxt)=False:=eq_false Y321
  simp (disch:=first | omega |(simp only [nxt_set,nxt_new]<;>omega) | fail) only [h2,go_sem,Nat.add_assoc,Nat.reduceAdd,↓reduceIte,h0,h1]
  exact putRef_congr2 (m:=s.nxt) Y99 i hi)):p:=h
theorem Y50 {p:Prop} (h:p:=by
 exact
    (fun i hi=>by
  have h0:=ltn hi;have h1:=lte hi;have h2:(i=S.nxt)=False:=eq_false Y321
  rw [putRef_blk]
  simp (disch:=first | omega |(simp only [nxt_set,nxt_new]<;>omega) | fail) only [h2,go_sem,Nat.add_assoc,Nat.reduceAdd,↓reduceIte,h0,h1]
  (repeat' split)<;>first | rfl |(rename_i e;rw [e];first | exact gA.dv | exact gA.v1 | exact gA.v0 | exact gA.c1 | exact gA.c0) | exact gf i hi ‹_› |(exfalso;omega))):p:=h
theorem Y100 {p:Prop} (h:p:=by have:=hT.1;rwa [ha1,ha2] at this):p:=h
theorem Y101 {p:Prop} (h:p:=by have:=hT.2;rwa [ha3,ha4] at this):p:=h
theorem Y102 {p:Prop} (h:p:=by rw [hS2];simp (disch:=first | omega |(simp only [nxt_set,nxt_new]<;>omega) | fail) only [go_sem];exact g0):p:=h
theorem Y103 {p:Prop} (h:p:=by rw [hS2];simp (disch:=first | omega |(simp only [nxt_set,nxt_new]<;>omega) | fail) only [go_sem,gn]<;>rfl):p:=h
theorem Y104 {p:Prop} (h:p:=by rw [hS2];simp (disch:=first | omega |(simp only [nxt_set,nxt_new]<;>omega) | fail) only [go_sem];exact g1):p:=h
theorem Y105 {p:Prop} (h:p:=by simp only [Tryz.f104,go_sem,↓reduceIte]<;>rfl):p:=h
theorem Y106 {p:Prop} (h:p:=by
 exact
    (fun i hi=>by
  have h0:=ltn hi;have h1:=lte hi;have h2:(i=S.nxt)=False:=eq_false Y321
  rw [putRef_blk]
  simp (disch:=first | omega |(simp only [nxt_set,nxt_new]<;>omega) | fail) only [hmb,h2,go_sem,Nat.add_assoc,Nat.reduceAdd,↓reduceIte,h0,h1]
  (repeat' split)<;>first | rfl |(rename_i e;rw [e];first | exact gA.dv | exact gA.v1 | exact gA.v0 | exact gA.c1 | exact gA.c0) | exact gf i hi ‹_› |(exfalso;omega))):p:=h
theorem Y155 {p:Prop} (h:p:=by rw [ha]):p:=h
theorem Y156 {p:Prop} (h:p:=by rw [hS2];simp only [nxt_set,nxt_new,gn]):p:=h
set_option maxRecDepth 100000 in
theorem ref8_Do {b:Nat} {D:Dev} {s:St} (hA:RefAt b D s) (hD:D.ok) {q:Req} (hq:q.ok):ACalls Tryz.prog 104 [.ptr (b+5) 0 0,q.pv] s (fun r s'=>r=(doF D q).1.pv∧s'=putRef b (doF D q).2 s):=by
 refine go Tryz.func104 (k:=fun hwf H=>?_)
 have hdv:=hA.dv
 unfold refRow at hdv
 have hlt:=hA.lt hwf
 have hinc:IntKind.i64.wrap (D.msgs+1)=inc D.msgs:=rfl
 have hDu:=inc_ok hD
 have hd2:D.c0.length≤65536:=hD.h2
 have hd3:=hD.c1
 have hd4:=hD.v0
 have hd5:=hD.v1
 have hu8:IntKind.u8.wrap D.unit=D.unit:=by have:=hD.unit;unfold U8 at this;rw [u8_wrap];omega
 have H:=aj hdv (aj hinc (aj hu8 H))
 refine rs (k:=rg [0,3,4] (k:=rs (k:=rg [0,3,4] (k:=rs (k:=rs (k:=?_))))))
 refine Run.genS fun S hS=>?_
 have g0:S.blk s.nxt=some (.row 31 [.agg [.int .i64 q.fn,.int .i64 q.at_,.int .i64 q.count,.int .i64 q.wat,.int .i64 q.sub,.sl .unk (q.bits.map PV.bool),.sl .unk (q.vals.map (PV.int .u16)),.int .u16 q.and_,.int .u16 q.or_]]):=Y32
 have g1:S.blk (s.nxt+1)=some (.row 41 [.agg [.int .i64 0,.int .i64 0,.int .i64 0,.int .i64 0,.int .i64 0,.sl .nil [],.sl .nil [],.int .u16 0,.int .u16 0,.sl .nil []]]):=Y32
 have gA:RefAt b D.up S:=by
  have e:∀ i,i≤b+5→i≠b+5→S.blk i=s.blk i:=fun i h1 h2=>Y41
  exact ⟨Y210,Y211,Y212,Y213,Y214,Y32⟩
 have gn:S.nxt=s.nxt+2:=Y267
 have gf:∀ i,i<s.nxt→i≠b+5→S.blk i=s.blk i:=fun i h1 h2=>Y41
 clear hS
 have gd:=gA.dv
 unfold refRow at gd
 have H:=aj g0 (aj g1 (aj gn (aj gd H)))
 refine rr (k:=ro (pre:=[_,_]) (k:=rC (h:=ref3_Has (fn:=q.fn)) (k:=rh [0,3,4,22] (k:=rc (ht:=fun hc0=>?_) (hf:=fun hc0=>?_)))))
 refine jO 1 ?_;rotate_left
 refine rk (k:=rs (k:=rs (k:=rr (k:=ro (pre:=[_]) (k:=rC (h:=ref3_Counts (q:=q)) (k:=rh [0,3,4,29] (k:=rc (ht:=fun hc1=>?_) (hf:=fun hc1=>?_))))))))
 refine jO 1 ?_;rotate_left
 refine rk (k:=rs (k:=?_))
 have hcO:countF q=true:=by simpa using hc1
 refine rr (k:=ro (pre:=[_]) (k:=rC (h:=ref8_Asked (q:=q)) (k:=rh [0,3,4,5,6,7,8] (k:=rs (k:=rs (k:=rr (k:=ro (pre:=[_,_,_,_,_,_]) (k:=rC (h:=ref8_there gA.st hd2) (k:=ro (pre:=[_,_,_,_,_,_,_,_]) (k:=rG (h:=fun hb=>ref8_there gA.st hd2) (k:=rh [0,3,4,5,6,7,58] (k:=rc (ht:=fun hc2=>?_) (hf:=fun hc2=>?_)))))))))))))
 refine jO 1 ?_;rotate_left
 refine rk (k:=rs (k:=?_))
 have hTu:thereF D.up.c0.length (askF q).1.1 (askF q).1.2=true∧thereF D.up.c0.length (askF q).2.1 (askF q).2.2=true:=Y368
 have hT:thereF D.c0.length (askF q).1.1 (askF q).1.2=true∧thereF D.c0.length (askF q).2.1 (askF q).2.2=true:=hTu
 refine rg [0,3,4,5,6,7,9] (k:=rs (k:=rs (k:=rg [0,3,4,5,6,7,9,67] (k:=rb (k:=rs (k:=rs (k:=rg [0,3,4,5,6,7,9,67,68] (k:=rc (ht:=fun hc3=>?_) (hf:=fun hc3=>?_)))))))))
 refine rk (k:=rc (ht:=fun hc4=>?_) (hf:=fun hc4=>?_))
 have hf:q.fn=1:=of_decide_eq_true hc3
 have ha:=ask_r (q:=q) Y14
 have ha1:(askF q).1.1=q.at_:=Y155
 have ha2:(askF q).1.2=q.count:=Y155
 have ha3:(askF q).2.1=0:=Y155
 have ha4:(askF q).2.2=0:=Y155
 have hT1:thereF D.c0.length q.at_ q.count=true:=Y100
 have hT2:thereF D.c0.length 0 0=true:=Y101
 have gA1:∀ x y,RefAt b D.up ((S.new x).set (s.nxt+2) y):=fun x y=>(gA.nw Y14 x).sv Y14 y
 have hcn:=count_of hcO Y14
 have hw:IntKind.i64.wrap (q.fn-1)=0:=by rw [hf];decide
 have hcall:∀ S',RefAt b D.up S'→ACalls Tryz.prog 118 [.ptr b 0 0,.int .i64 0,.int .i64 q.at_,.int .i64 q.count] S' (fun r s'=>r=.tuple [.sl .unk ((cutF D.c0 q.at_ q.count).map PV.bool),.bool (thereF D.c0.length q.at_ q.count)]∧s'=S'):=fun S' h=>ref8_get0 h.st h.c0 rfl hd2 hcn
 refine Run.genS fun S2 hS2=>?_
 have k0:S2.blk s.nxt=some (.row 31 [.agg [.int .i64 q.fn,.int .i64 q.at_,.int .i64 q.count,.int .i64 q.wat,.int .i64 q.sub,.sl .unk (q.bits.map PV.bool),.sl .unk (q.vals.map (PV.int .u16)),.int .u16 q.and_,.int .u16 q.or_]]):=Y102
 have k2:S2.blk (s.nxt+2)=some (.row 41 [.agg [.int .i64 q.fn,.int .i64 0,.int .i64 0,.int .i64 0,.int .i64 0,.sl .nil [],.sl .nil [],.int .u16 0,.int .u16 0,.sl .nil []]]):=Y103
 have k1b:S2.blk (s.nxt+1)=some (.row 41 [.agg [.int .i64 0,.int .i64 0,.int .i64 0,.int .i64 0,.int .i64 0,.sl .nil [],.sl .nil [],.int .u16 0,.int .u16 0,.sl .nil []]]):=Y104
 have kn:S2.nxt=s.nxt+3:=Y156
 have gA13:RefAt b D.up S2:=by rw [hS2];exact gA1 _ _
 have gd13:=gA13.dv
 unfold refRow at gd13
 have H:=aj ha1 (aj ha2 (aj ha3 (aj ha4 (aj hw (aj gd13 (aj k0 (aj k2 (aj k1b (aj kn H)))))))))
 refine rH 15 [14] [[false],[true]] [S2,S2.set (s.nxt+2) (some (.row 41 [.agg [.int .i64 q.fn,.int .i64 0,.int .i64 0,.int .i64 0,.int .i64 0,(.sl .unk ((cutF D.c0 q.at_ q.count).map PV.bool)),.sl .nil [],.int .u16 0,.int .u16 0,.sl .nil []]]))] Tryz.mixed (k:=?_)
 refine jO 2 ?_;rotate_left
 ·exact Y198
 refine rg [0,3,4,5,6,7,9,67,68] (k:=rc (ht:=fun hc4=>?_) (hf:=fun hc4=>?_))
 have hf:q.fn=2:=of_decide_eq_true hc4
 have ha:=ask_r (q:=q) Y14
 have ha1:(askF q).1.1=q.at_:=Y155
 have ha2:(askF q).1.2=q.count:=Y155
 have ha3:(askF q).2.1=0:=Y155
 have ha4:(askF q).2.2=0:=Y155
 have hT1:thereF D.c0.length q.at_ q.count=true:=Y100
 have hT2:thereF D.c0.length 0 0=true:=Y101
 have gA1:∀ x y,RefAt b D.up ((S.new x).set (s.nxt+2) y):=fun x y=>(gA.nw Y14 x).sv Y14 y
 have hcn:=count_of hcO Y14
 have hw:IntKind.i64.wrap (q.fn-1)=1:=by rw [hf];decide
 have hcall:∀ S',RefAt b D.up S'→ACalls Tryz.prog 118 [.ptr b 0 0,.int .i64 1,.int .i64 q.at_,.int .i64 q.count] S' (fun r s'=>r=.tuple [.sl .unk ((cutF D.c1 q.at_ q.count).map PV.bool),.bool (thereF D.c0.length q.at_ q.count)]∧s'=S'):=fun S' h=>ref8_get1 h.st h.c1 hd3 hd2 hcn
 refine Run.genS fun S2 hS2=>?_
 have k0:S2.blk s.nxt=some (.row 31 [.agg [.int .i64 q.fn,.int .i64 q.at_,.int .i64 q.count,.int .i64 q.wat,.int .i64 q.sub,.sl .unk (q.bits.map PV.bool),.sl .unk (q.vals.map (PV.int .u16)),.int .u16 q.and_,.int .u16 q.or_]]):=Y102
 have k2:S2.blk (s.nxt+2)=some (.row 41 [.agg [.int .i64 q.fn,.int .i64 0,.int .i64 0,.int .i64 0,.int .i64 0,.sl .nil [],.sl .nil [],.int .u16 0,.int .u16 0,.sl .nil []]]):=Y103
 have k1b:S2.blk (s.nxt+1)=some (.row 41 [.agg [.int .i64 0,.int .i64 0,.int .i64 0,.int .i64 0,.int .i64 0,.sl .nil [],.sl .nil [],.int .u16 0,.int .u16 0,.sl .nil []]]):=Y104
 have kn:S2.nxt=s.nxt+3:=Y156
 have gA13:RefAt b D.up S2:=by rw [hS2];exact gA1 _ _
 have gd13:=gA13.dv
 unfold refRow at gd13
 have H:=aj ha1 (aj ha2 (aj ha3 (aj ha4 (aj hw (aj gd13 (aj k0 (aj k2 (aj k1b (aj kn H)))))))))
 refine rH 15 [14] [[false],[true]] [S2,S2.set (s.nxt+2) (some (.row 41 [.agg [.int .i64 q.fn,.int .i64 0,.int .i64 0,.int .i64 0,.int .i64 0,(.sl .unk ((cutF D.c1 q.at_ q.count).map PV.bool)),.sl .nil [],.int .u16 0,.int .u16 0,.sl .nil []]]))] Tryz.mixed (k:=?_)
 refine jO 2 ?_;rotate_left
 refine rs (k:=rg [0,3,4,5,6,7,9,67,85] (k:=rc (ht:=fun hc5=>?_) (hf:=fun hc5=>?_)))
 have hf:q.fn=3:=of_decide_eq_true hc5
 have ha:=ask_r (q:=q) Y14
 have ha1:(askF q).1.1=q.at_:=Y155
 have ha2:(askF q).1.2=q.count:=Y155
 have ha3:(askF q).2.1=0:=Y155
 have ha4:(askF q).2.2=0:=Y155
 have hT1:thereF D.c0.length q.at_ q.count=true:=Y100
 have hT2:thereF D.c0.length 0 0=true:=Y101
 have gA1:∀ x y,RefAt b D.up ((S.new x).set (s.nxt+2) y):=fun x y=>(gA.nw Y14 x).sv Y14 y
 have hcn:=count_of hcO Y14
 have H:=aj ha1 (aj ha2 (aj ha3 (aj ha4 H)))
 refine rr (k:=ro (pre:=[_,_,_,_,_,_]) (k:=rC (h:=ref8_get3 (l:=D.v1) (n:=D.c0.length) (gA1 _ _).st (gA1 _ _).v1 hd5 hd2 hcn) (k:=rh [4,9] (k:=rB (k:=rs (k:=rg [4] (k:=rR (k:=?_))))))))
 refine jO 3 ?_;rotate_left
 refine rs (k:=rg [0,3,4,5,6,7,9,67,98] (k:=rc (ht:=fun hc6=>?_) (hf:=fun hc6=>?_)))
 have hf:q.fn=4:=of_decide_eq_true hc6
 have ha:=ask_r (q:=q) Y14
 have ha1:(askF q).1.1=q.at_:=Y155
 have ha2:(askF q).1.2=q.count:=Y155
 have ha3:(askF q).2.1=0:=Y155
 have ha4:(askF q).2.2=0:=Y155
 have hT1:thereF D.c0.length q.at_ q.count=true:=Y100
 have hT2:thereF D.c0.length 0 0=true:=Y101
 have gA1:∀ x y,RefAt b D.up ((S.new x).set (s.nxt+2) y):=fun x y=>(gA.nw Y14 x).sv Y14 y
 have hcn:=count_of hcO Y14
 have H:=aj ha1 (aj ha2 (aj ha3 (aj ha4 H)))
 refine rr (k:=ro (pre:=[_,_,_,_,_,_]) (k:=rC (h:=ref8_get2 (l:=D.v0) (n:=D.c0.length) (gA1 _ _).st (gA1 _ _).v0 hd4 hd2 hcn) (k:=rh [4,9] (k:=rB (k:=rs (k:=rg [4] (k:=rR (k:=?_))))))))
 refine jO 3 ?_;rotate_left
 refine rs (k:=rs (k:=rg [0,3,4,5,6,7,9,67,111] (k:=rc (ht:=fun hc7=>?_) (hf:=fun hc7=>?_))))
 refine rk (k:=rc (ht:=fun hc8=>?_) (hf:=fun hc8=>?_))
 refine rs (k:=?_)
 have hf:q.fn=5:=of_decide_eq_true hc7
 have ha:=ask_1 (q:=q) Y14
 have ha1:(askF q).1.1=0:=Y155
 have ha2:(askF q).1.2=0:=Y155
 have ha3:(askF q).2.1=q.at_:=Y155
 have ha4:(askF q).2.2=1:=Y155
 have hT1:thereF D.c0.length 0 0=true:=Y100
 have hT2:thereF D.c0.length q.at_ 1=true:=Y101
 have gA1:∀ x y,RefAt b D.up ((S.new x).set (s.nxt+2) y):=fun x y=>(gA.nw Y14 x).sv Y14 y
 have hr:=count_right hcO
 have hmv:=(right0 hr).mv
 have hne:q.bits≠[]:=bits_of hr hcO Y14
 have hTx:thereF D.c0.length q.at_ q.bits.length=true:=by rw [nb_5 hr hf];exact hT2
 have hfT:decide (q.fn=5)=true:=Y383
 have H:=aj ha1 (aj ha2 (aj ha3 (aj ha4 (aj hfT H))))
 refine Run.drawCut 7 [] Tryz.mixed Y19 Y19 ?_
 refine DetC.all au ?_
 refine RunO.callw au au au Y19 ((ref8_put0 (l:=D.c0) (n:=D.c0.length) (gA1 _ _).st (gA1 _ _).c0 rfl hd2 hne Y14).mono ?_)
 rintro r s1 ⟨rfl,hs⟩
 have hs:=hs.trans (if_pos hTx)
 subst hs
 refine rl [3,4,9] (k:=rs (k:=?_))
 refine Run.genS fun S2 hS2=>?_
 have k0:S2.blk s.nxt=some (.row 31 [.agg [.int .i64 q.fn,.int .i64 q.at_,.int .i64 q.count,.int .i64 q.wat,.int .i64 q.sub,.sl .unk (q.bits.map PV.bool),.sl .unk (q.vals.map (PV.int .u16)),.int .u16 q.and_,.int .u16 q.or_]]):=Y102
 have k2:S2.blk (s.nxt+2)=some (.row 41 [.agg [.int .i64 q.fn,.int .i64 0,.int .i64 0,.int .i64 0,.int .i64 0,.sl .nil [],.sl .nil [],.int .u16 0,.int .u16 0,.sl .nil []]]):=Y103
 have k1b:S2.blk (s.nxt+1)=some (.row 41 [.agg [.int .i64 0,.int .i64 0,.int .i64 0,.int .i64 0,.int .i64 0,.sl .nil [],.sl .nil [],.int .u16 0,.int .u16 0,.sl .nil []]]):=Y104
 have kn:S2.nxt=s.nxt+3:=Y156
 have H:=aj k0 (aj k2 (aj k1b (aj kn H)))
 refine Run.drawM 8 [5,7] [S2,S2.set (s.nxt+2) (some (.row 41 [.agg [.int .i64 q.fn,.int .i64 0,.int .i64 q.at_,.int .i64 0,.int .i64 0,.sl .nil [],.sl .nil [],.int .u16 0,.int .u16 0,.sl .nil []]])),S2.set (s.nxt+2) (some (.row 41 [.agg [.int .i64 q.fn,.int .i64 0,.int .i64 q.at_,.int .i64 q.count,.int .i64 0,.sl .nil [],.sl .nil [],.int .u16 0,.int .u16 0,.sl .nil []]]))] Tryz.mixed Y19 Y19 ?_
 refine DetBC.pre (pre:=[_,_,_,_,_]) Y15 List.mem_cons_self au ?_
 refine DetBC.eff Y15 List.mem_cons_self au au ?_
 refine DetBC.pre (pre:=[_]) Y15 (List.mem_cons_of_mem _ List.mem_cons_self) au ?_
 refine DetBC.eff Y15 (List.mem_cons_of_mem _ List.mem_cons_self) au au ?_
 refine DetBC.nil (List.mem_cons_of_mem _ (List.mem_cons_of_mem _ List.mem_cons_self)) ?_
 refine rl [3,4,9] (k:=rs (k:=rg [3,4,9,130] (k:=rc (ht:=fun hc9=>?_) (hf:=fun hc9=>?_))))
 refine rr (k:=rO (k:=ro (pre:=[_,_]) (k:=?_)))
 refine RunO.made au au au Tryz.td27 Y194 (isEls_map (P:=Tryz.prog) (e:=4) (f:=PV.bool) (fun a=>⟨rfl,Y249⟩) _) Y250 (by rw [Tryz.by4];simp;have:=nb_5 hr hf;omega) (.inr rfl) ?_
 refine jO 4 ?_;rotate_left
 ·cases hc9
 ·exact Bool.noConfusion (hc7.symm.trans hc8)
 refine rg [0,3,4,5,6,7,9,67,111] (k:=rc (ht:=fun hc8=>?_) (hf:=fun hc8=>?_))
 refine rs (k:=?_)
 have hf:q.fn=15:=of_decide_eq_true hc8
 have ha:=ask_n (q:=q) Y14
 have ha1:(askF q).1.1=0:=Y155
 have ha2:(askF q).1.2=0:=Y155
 have ha3:(askF q).2.1=q.at_:=Y155
 have ha4:(askF q).2.2=q.count:=Y155
 have hT1:thereF D.c0.length 0 0=true:=Y100
 have hT2:thereF D.c0.length q.at_ q.count=true:=Y101
 have gA1:∀ x y,RefAt b D.up ((S.new x).set (s.nxt+2) y):=fun x y=>(gA.nw Y14 x).sv Y14 y
 have hr:=count_right hcO
 have hmv:=(right0 hr).mv
 have hne:q.bits≠[]:=bits_of hr hcO Y14
 have hTx:thereF D.c0.length q.at_ q.bits.length=true:=by rw [nb_15 hr hf];exact hT2
 have hfT:decide (q.fn=5)=false:=Y383
 have H:=aj ha1 (aj ha2 (aj ha3 (aj ha4 (aj hfT H))))
 refine Run.drawCut 7 [] Tryz.mixed Y19 Y19 ?_
 refine DetC.all au ?_
 refine RunO.callw au au au Y19 ((ref8_put0 (l:=D.c0) (n:=D.c0.length) (gA1 _ _).st (gA1 _ _).c0 rfl hd2 hne Y14).mono ?_)
 rintro r s1 ⟨rfl,hs⟩
 have hs:=hs.trans (if_pos hTx)
 subst hs
 refine rl [3,4,9] (k:=rs (k:=?_))
 refine Run.genS fun S2 hS2=>?_
 have k0:S2.blk s.nxt=some (.row 31 [.agg [.int .i64 q.fn,.int .i64 q.at_,.int .i64 q.count,.int .i64 q.wat,.int .i64 q.sub,.sl .unk (q.bits.map PV.bool),.sl .unk (q.vals.map (PV.int .u16)),.int .u16 q.and_,.int .u16 q.or_]]):=Y102
 have k2:S2.blk (s.nxt+2)=some (.row 41 [.agg [.int .i64 q.fn,.int .i64 0,.int .i64 0,.int .i64 0,.int .i64 0,.sl .nil [],.sl .nil [],.int .u16 0,.int .u16 0,.sl .nil []]]):=Y103
 have k1b:S2.blk (s.nxt+1)=some (.row 41 [.agg [.int .i64 0,.int .i64 0,.int .i64 0,.int .i64 0,.int .i64 0,.sl .nil [],.sl .nil [],.int .u16 0,.int .u16 0,.sl .nil []]]):=Y104
 have kn:S2.nxt=s.nxt+3:=Y156
 have H:=aj k0 (aj k2 (aj k1b (aj kn H)))
 refine Run.drawM 8 [5,7] [S2,S2.set (s.nxt+2) (some (.row 41 [.agg [.int .i64 q.fn,.int .i64 0,.int .i64 q.at_,.int .i64 0,.int .i64 0,.sl .nil [],.sl .nil [],.int .u16 0,.int .u16 0,.sl .nil []]])),S2.set (s.nxt+2) (some (.row 41 [.agg [.int .i64 q.fn,.int .i64 0,.int .i64 q.at_,.int .i64 q.count,.int .i64 0,.sl .nil [],.sl .nil [],.int .u16 0,.int .u16 0,.sl .nil []]]))] Tryz.mixed Y19 Y19 ?_
 refine DetBC.pre (pre:=[_,_,_,_,_]) Y15 List.mem_cons_self au ?_
 refine DetBC.eff Y15 List.mem_cons_self au au ?_
 refine DetBC.pre (pre:=[_]) Y15 (List.mem_cons_of_mem _ List.mem_cons_self) au ?_
 refine DetBC.eff Y15 (List.mem_cons_of_mem _ List.mem_cons_self) au au ?_
 refine DetBC.nil (List.mem_cons_of_mem _ (List.mem_cons_of_mem _ List.mem_cons_self)) ?_
 refine rl [3,4,9] (k:=rs (k:=rg [3,4,9,130] (k:=rc (ht:=fun hc9=>?_) (hf:=fun hc9=>?_))))
 ·cases hc9
 refine jO 5 ?_;rotate_left
 refine rs (k:=rs (k:=rg [0,3,4,5,6,7,9,67,136] (k:=rc (ht:=fun hc10=>?_) (hf:=fun hc10=>?_))))
 refine rk (k:=rc (ht:=fun hc11=>?_) (hf:=fun hc11=>?_))
 refine rs (k:=?_)
 have hf:q.fn=6:=of_decide_eq_true hc10
 have ha:=ask_1 (q:=q) Y14
 have ha1:(askF q).1.1=0:=Y155
 have ha2:(askF q).1.2=0:=Y155
 have ha3:(askF q).2.1=q.at_:=Y155
 have ha4:(askF q).2.2=1:=Y155
 have hT1:thereF D.c0.length 0 0=true:=Y100
 have hT2:thereF D.c0.length q.at_ 1=true:=Y101
 have gA1:∀ x y,RefAt b D.up ((S.new x).set (s.nxt+2) y):=fun x y=>(gA.nw Y14 x).sv Y14 y
 have hr:=count_right hcO
 have hmv:=(right0 hr).mv
 have hne:q.vals≠[]:=vals_of hr hcO Y14
 have hTx:thereF D.c0.length q.at_ q.vals.length=true:=by rw [nv_6 hr (.inl hf)];exact hT2
 have hfT:decide (q.fn=6)=true:=Y383
 have H:=aj ha1 (aj ha2 (aj ha3 (aj ha4 (aj hfT H))))
 refine Run.drawCut 7 [] Tryz.mixed Y19 Y19 ?_
 refine DetC.all au ?_
 refine RunO.callw au au au Y19 ((ref8_put3 (l:=D.v1) (n:=D.c0.length) (gA1 _ _).st (gA1 _ _).v1 hd5 hd2 hne Y14).mono ?_)
 rintro r s1 ⟨rfl,hs⟩
 have hs:=hs.trans (if_pos hTx)
 subst hs
 refine rl [3,4,9] (k:=rs (k:=?_))
 refine Run.genS fun S2 hS2=>?_
 have k0:S2.blk s.nxt=some (.row 31 [.agg [.int .i64 q.fn,.int .i64 q.at_,.int .i64 q.count,.int .i64 q.wat,.int .i64 q.sub,.sl .unk (q.bits.map PV.bool),.sl .unk (q.vals.map (PV.int .u16)),.int .u16 q.and_,.int .u16 q.or_]]):=Y102
 have k2:S2.blk (s.nxt+2)=some (.row 41 [.agg [.int .i64 q.fn,.int .i64 0,.int .i64 0,.int .i64 0,.int .i64 0,.sl .nil [],.sl .nil [],.int .u16 0,.int .u16 0,.sl .nil []]]):=Y103
 have k1b:S2.blk (s.nxt+1)=some (.row 41 [.agg [.int .i64 0,.int .i64 0,.int .i64 0,.int .i64 0,.int .i64 0,.sl .nil [],.sl .nil [],.int .u16 0,.int .u16 0,.sl .nil []]]):=Y104
 have kn:S2.nxt=s.nxt+3:=Y156
 have H:=aj k0 (aj k2 (aj k1b (aj kn H)))
 refine Run.drawM 8 [5,7] [S2,S2.set (s.nxt+2) (some (.row 41 [.agg [.int .i64 q.fn,.int .i64 0,.int .i64 q.at_,.int .i64 0,.int .i64 0,.sl .nil [],.sl .nil [],.int .u16 0,.int .u16 0,.sl .nil []]])),S2.set (s.nxt+2) (some (.row 41 [.agg [.int .i64 q.fn,.int .i64 0,.int .i64 q.at_,.int .i64 q.count,.int .i64 0,.sl .nil [],.sl .nil [],.int .u16 0,.int .u16 0,.sl .nil []]]))] Tryz.mixed Y19 Y19 ?_
 refine DetBC.pre (pre:=[_,_,_,_,_]) Y15 List.mem_cons_self au ?_
 refine DetBC.eff Y15 List.mem_cons_self au au ?_
 refine DetBC.pre (pre:=[_]) Y15 (List.mem_cons_of_mem _ List.mem_cons_self) au ?_
 refine DetBC.eff Y15 (List.mem_cons_of_mem _ List.mem_cons_self) au au ?_
 refine DetBC.nil (List.mem_cons_of_mem _ (List.mem_cons_of_mem _ List.mem_cons_self)) ?_
 refine rl [3,4,9] (k:=rs (k:=rg [3,4,9,155] (k:=rc (ht:=fun hc12=>?_) (hf:=fun hc12=>?_))))
 refine rr (k:=rO (k:=ro (pre:=[_,_]) (k:=?_)))
 refine RunO.made au au au Tryz.td28 Y137 (isEls_map (P:=Tryz.prog) (e:=29) (f:=PV.int .u16) (fun a=>⟨rfl,Y138⟩) _) Y139 (by rw [Tryz.by29];simp;try omega) (.inr rfl) ?_
 refine jO 4 ?_;rotate_left
 ·cases hc12
 ·exact Y370
 refine rg [0,3,4,5,6,7,9,67,136] (k:=rc (ht:=fun hc11=>?_) (hf:=fun hc11=>?_))
 refine rs (k:=?_)
 have hf:q.fn=16:=of_decide_eq_true hc11
 have ha:=ask_n (q:=q) Y14
 have ha1:(askF q).1.1=0:=Y155
 have ha2:(askF q).1.2=0:=Y155
 have ha3:(askF q).2.1=q.at_:=Y155
 have ha4:(askF q).2.2=q.count:=Y155
 have hT1:thereF D.c0.length 0 0=true:=Y100
 have hT2:thereF D.c0.length q.at_ q.count=true:=Y101
 have gA1:∀ x y,RefAt b D.up ((S.new x).set (s.nxt+2) y):=fun x y=>(gA.nw Y14 x).sv Y14 y
 have hr:=count_right hcO
 have hmv:=(right0 hr).mv
 have hne:q.vals≠[]:=vals_of hr hcO Y14
 have hTx:thereF D.c0.length q.at_ q.vals.length=true:=by rw [nv_16 hr hf];exact hT2
 have hfT:decide (q.fn=6)=false:=Y383
 have H:=aj ha1 (aj ha2 (aj ha3 (aj ha4 (aj hfT H))))
 refine Run.drawCut 7 [] Tryz.mixed Y19 Y19 ?_
 refine DetC.all au ?_
 refine RunO.callw au au au Y19 ((ref8_put3 (l:=D.v1) (n:=D.c0.length) (gA1 _ _).st (gA1 _ _).v1 hd5 hd2 hne Y14).mono ?_)
 rintro r s1 ⟨rfl,hs⟩
 have hs:=hs.trans (if_pos hTx)
 subst hs
 refine rl [3,4,9] (k:=rs (k:=?_))
 refine Run.genS fun S2 hS2=>?_
 have k0:S2.blk s.nxt=some (.row 31 [.agg [.int .i64 q.fn,.int .i64 q.at_,.int .i64 q.count,.int .i64 q.wat,.int .i64 q.sub,.sl .unk (q.bits.map PV.bool),.sl .unk (q.vals.map (PV.int .u16)),.int .u16 q.and_,.int .u16 q.or_]]):=Y102
 have k2:S2.blk (s.nxt+2)=some (.row 41 [.agg [.int .i64 q.fn,.int .i64 0,.int .i64 0,.int .i64 0,.int .i64 0,.sl .nil [],.sl .nil [],.int .u16 0,.int .u16 0,.sl .nil []]]):=Y103
 have k1b:S2.blk (s.nxt+1)=some (.row 41 [.agg [.int .i64 0,.int .i64 0,.int .i64 0,.int .i64 0,.int .i64 0,.sl .nil [],.sl .nil [],.int .u16 0,.int .u16 0,.sl .nil []]]):=Y104
 have kn:S2.nxt=s.nxt+3:=Y156
 have H:=aj k0 (aj k2 (aj k1b (aj kn H)))
 refine Run.drawM 8 [5,7] [S2,S2.set (s.nxt+2) (some (.row 41 [.agg [.int .i64 q.fn,.int .i64 0,.int .i64 q.at_,.int .i64 0,.int .i64 0,.sl .nil [],.sl .nil [],.int .u16 0,.int .u16 0,.sl .nil []]])),S2.set (s.nxt+2) (some (.row 41 [.agg [.int .i64 q.fn,.int .i64 0,.int .i64 q.at_,.int .i64 q.count,.int .i64 0,.sl .nil [],.sl .nil [],.int .u16 0,.int .u16 0,.sl .nil []]]))] Tryz.mixed Y19 Y19 ?_
 refine DetBC.pre (pre:=[_,_,_,_,_]) Y15 List.mem_cons_self au ?_
 refine DetBC.eff Y15 List.mem_cons_self au au ?_
 refine DetBC.pre (pre:=[_]) Y15 (List.mem_cons_of_mem _ List.mem_cons_self) au ?_
 refine DetBC.eff Y15 (List.mem_cons_of_mem _ List.mem_cons_self) au au ?_
 refine DetBC.nil (List.mem_cons_of_mem _ (List.mem_cons_of_mem _ List.mem_cons_self)) ?_
 refine rl [3,4,9] (k:=rs (k:=rg [3,4,9,155] (k:=rc (ht:=fun hc12=>?_) (hf:=fun hc12=>?_))))
 ·cases hc12
 refine jO 5 ?_;rotate_left
 refine rs (k:=rg [0,3,4,5,6,7,9,67,161] (k:=rc (ht:=fun hc13=>?_) (hf:=fun hc13=>?_)))
 refine rs (k:=?_)
 have hf:q.fn=22:=of_decide_eq_true hc13
 have ha:=ask_22 (q:=q) hf
 have ha1:(askF q).1.1=q.at_:=Y155
 have ha2:(askF q).1.2=1:=Y155
 have ha3:(askF q).2.1=q.at_:=Y155
 have ha4:(askF q).2.2=1:=Y155
 have hT1:thereF D.c0.length q.at_ 1=true:=Y100
 have hT2:thereF D.c0.length q.at_ 1=true:=Y101
 have gA1:∀ x y,RefAt b D.up ((S.new x).set (s.nxt+2) y):=fun x y=>(gA.nw Y14 x).sv Y14 y
 have H:=aj ha1 (aj ha2 (aj ha3 (aj ha4 H)))
 refine rr (k:=ro (pre:=[_,_,_,_,_]) (k:=rC (h:=ref8_get3 (l:=D.v1) (n:=D.c0.length) (gA1 _ _).st (gA1 _ _).v1 hd5 hd2 Y15) (k:=rh [0,3,4,5,9,10] (k:=rs (k:=?_)))))
 have htt:=hT1
 unfold thereF at htt
 have htt:=of_decide_eq_true htt
 have hat:q.at_.toNat<D.v1.length:=Y14
 have hcut:cutF D.v1 q.at_ 1=[(D.v1[q.at_.toNat]?).getD 0]:=by
  unfold cutF
  rw [show thereF D.v1.length q.at_ 1=true by rw [hd5];exact hT1,if_pos rfl]
  show (D.v1.drop q.at_.toNat).take 1=_
  rw [List.drop_eq_getElem_cons hat,List.getElem?_eq_getElem hat]
  rfl
 have hm0:((cutF D.v1 q.at_ 1).map (PV.int .u16))[0]? =some (.int .u16 ((D.v1[q.at_.toNat]?).getD 0)):=by rw [hcut];rfl
 have hml:(0<(cutF D.v1 q.at_ 1).length)=True:=by rw [hcut];simp
 have H:=aj hm0 (aj hml H)
 refine Run.drawCut 11 [] Tryz.mixed Y19 Y19 ?_
 refine DetC.pre (pre:=[_,_,_,_,_,_,_,_,_]) au ?_
 refine DetC.call au au au Y19 (ref8_Masked (q:=q)) ?_
 refine DetC.all au ?_
 refine RunO.callw au au au Y19 ((ref8_put3 (l:=D.v1) (n:=D.c0.length) (gA1 _ _).st (gA1 _ _).v1 (x:=[maskF ((D.v1[q.at_.toNat]?).getD 0) q]) hd5 hd2 Y66 Y14).mono ?_)
 rintro r s1 ⟨rfl,hs⟩
 have hs:=hs.trans (if_pos hT1)
 subst hs
 refine rl [3,4,9] (k:=?_)
 refine Run.genS fun S2 hS2=>?_
 have k0:S2.blk s.nxt=some (.row 31 [.agg [.int .i64 q.fn,.int .i64 q.at_,.int .i64 q.count,.int .i64 q.wat,.int .i64 q.sub,.sl .unk (q.bits.map PV.bool),.sl .unk (q.vals.map (PV.int .u16)),.int .u16 q.and_,.int .u16 q.or_]]):=Y102
 have k2:S2.blk (s.nxt+2)=some (.row 41 [.agg [.int .i64 q.fn,.int .i64 0,.int .i64 0,.int .i64 0,.int .i64 0,.sl .nil [],.sl .nil [],.int .u16 0,.int .u16 0,.sl .nil []]]):=Y103
 have k1b:S2.blk (s.nxt+1)=some (.row 41 [.agg [.int .i64 0,.int .i64 0,.int .i64 0,.int .i64 0,.int .i64 0,.sl .nil [],.sl .nil [],.int .u16 0,.int .u16 0,.sl .nil []]]):=Y104
 have kn:S2.nxt=s.nxt+3:=Y156
 have H:=aj k0 (aj k2 (aj k1b (aj kn H)))
 refine Run.drawM 12 [7,9,11] [S2,S2.set (s.nxt+2) (some (.row 41 [.agg [.int .i64 q.fn,.int .i64 0,.int .i64 q.at_,.int .i64 0,.int .i64 0,.sl .nil [],.sl .nil [],.int .u16 0,.int .u16 0,.sl .nil []]])),S2.set (s.nxt+2) (some (.row 41 [.agg [.int .i64 q.fn,.int .i64 0,.int .i64 q.at_,.int .i64 0,.int .i64 0,.sl .nil [],.sl .nil [],.int .u16 q.and_,.int .u16 0,.sl .nil []]])),S2.set (s.nxt+2) (some (.row 41 [.agg [.int .i64 q.fn,.int .i64 0,.int .i64 q.at_,.int .i64 0,.int .i64 0,.sl .nil [],.sl .nil [],.int .u16 q.and_,.int .u16 q.or_,.sl .nil []]]))] Tryz.mixed Y19 Y19 ?_
 refine DetBC.pre (pre:=[_,_,_,_,_,_,_]) Y15 List.mem_cons_self au ?_
 refine DetBC.eff Y15 List.mem_cons_self au au ?_
 refine DetBC.pre (pre:=[_]) Y15 (List.mem_cons_of_mem _ List.mem_cons_self) au ?_
 refine DetBC.eff Y15 (List.mem_cons_of_mem _ List.mem_cons_self) au au ?_
 refine DetBC.pre (pre:=[_]) Y15 (List.mem_cons_of_mem _ (List.mem_cons_of_mem _ List.mem_cons_self)) au ?_
 refine DetBC.eff Y15 (List.mem_cons_of_mem _ (List.mem_cons_of_mem _ List.mem_cons_self)) au au ?_
 refine DetBC.nil (List.mem_cons_of_mem _ (List.mem_cons_of_mem _ (List.mem_cons_of_mem _ List.mem_cons_self))) ?_
 refine jO 6 ?_;rotate_left
 refine rs (k:=rg [0,3,4,5,6,7,9,67,193] (k:=rc (ht:=fun hc14=>?_) (hf:=fun hc14=>?_)))
 refine rs (k:=?_)
 have hf:q.fn=23:=of_decide_eq_true hc14
 have ha:=ask_23 (q:=q) hf
 have ha1:(askF q).1.1=q.at_:=Y155
 have ha2:(askF q).1.2=q.count:=Y155
 have ha3:(askF q).2.1=q.wat:=Y155
 have ha4:(askF q).2.2=(q.vals.length:Int):=Y155
 have hT1:thereF D.c0.length q.at_ q.count=true:=Y100
 have hT2:thereF D.c0.length q.wat (q.vals.length:Int)=true:=Y101
 have gA1:∀ x y,RefAt b D.up ((S.new x).set (s.nxt+2) y):=fun x y=>(gA.nw Y14 x).sv Y14 y
 have hcn:=count_of hcO Y14
 have hr:=count_right hcO
 have hne:=vals_of hr hcO Y14
 have hTx:thereF D.c0.length q.wat q.vals.length=true:=hT2
 have hlo:(overF D.v1 q.wat.toNat q.vals).length=D.c0.length:=by
  rw [overF_len (by have:=there_len hTx;omega)];exact hd5
 have gA2:∀ x y,RefAt b { D.up with v1:=overF D.v1 q.wat.toNat q.vals } (((S.new x).set (s.nxt+2) y).set (b+4) (some (.row 29 ((overF D.v1 q.wat.toNat q.vals).map (PV.int .u16))))):=fun x y=>(gA1 x y).of (blk_set_ne Y14) rfl (by rw [blk_set_ne Y14];exact (gA1 x y).c0) (by rw [blk_set_ne Y14];exact (gA1 x y).c1) (by rw [blk_set_ne Y14];exact (gA1 x y).v0) (by rw [blk_set_self]) (by rw [blk_set_ne Y14];exact (gA1 x y).dv)
 have H:=aj ha1 (aj ha2 (aj ha3 (aj ha4 H)))
 refine Run.drawCut 7 [] Tryz.mixed Y19 Y19 ?_
 refine DetC.all au ?_
 refine RunO.callw au au au Y19 ((ref8_put3 (l:=D.v1) (n:=D.c0.length) (gA1 _ _).st (gA1 _ _).v1 hd5 hd2 hne Y14).mono ?_)
 rintro r s1 ⟨rfl,hs⟩
 have hs:=hs.trans (if_pos hTx)
 subst hs
 refine rl [0,4,5,6,9] (k:=rr (k:=ro (pre:=[_,_,_,_,_,_]) (k:=rC (h:=ref8_get3 (gA2 _ _).st (gA2 _ _).v1 hlo hd2 hcn) (k:=rh [4,9] (k:=rB (k:=rs (k:=rg [4] (k:=rR (k:=?_)))))))))
 refine jO 3 ?_;rotate_left
 refine rs (k:=rg [0,3,4,9,67,214] (k:=rc (ht:=fun hc15=>?_) (hf:=fun hc15=>?_)))
 refine rs (k:=?_)
 have hf:q.fn=8:=of_decide_eq_true hc15
 have gA1:∀ x y,RefAt b D.up ((S.new x).set (s.nxt+2) y):=fun x y=>(gA.nw Y14 x).sv Y14 y
 refine rr (k:=ro (pre:=[_,_]) (k:=?_))
 refine RunO.callw au au au Y19 ((ref8_diag (gA1 _ _) hq hcO hf).mono ?_)
 refine jO 7 ?_;rotate_left
 refine rs (k:=rg [0,4,9,219] (k:=rc (ht:=fun hc16=>?_) (hf:=fun hc16=>?_)))
 have hf:q.fn=17:=of_decide_eq_true hc16
 have hu9:D.up.unit%256=D.unit:=by show D.unit%256=D.unit;have:=hD.unit;unfold U8 at this;omega
 have gA1:∀ x y,RefAt b D.up ((S.new x).set (s.nxt+2) y):=fun x y=>(gA.nw Y14 x).sv Y14 y
 have H:=aj hu9 H
 refine rr (k:=ro (pre:=[_,_,_,_,_]) (k:=rO (k:=rh [4,9] (k:=rB (k:=rs (k:=rg [4] (k:=rR (k:=?_))))))))
 refine jO 3 ?_;rotate_left
 ·refine rk (k:=rB (k:=rs (k:=?_)))
  exfalso
  have hh:hasF q.fn=true:=Y76
  have:=has_cases hh
  simp only [decide_eq_true_eq,decide_eq_false_iff_not] at *
  omega
 any_goals
  refine jI 2 ?_
  refine dP [0] (pre:=[_,_,_,_,_,_,_,_,_]) (k:=?_)
  refine jO 8 ?_;rotate_left
 any_goals
  refine jI 8 ?_
  refine dC [0] (h:=fun s hs=>by rw [List.mem_singleton.1 hs];exact hcall _ gA13) (k:=?_)
  refine jO 9 ?_;rotate_left
 any_goals
  refine jI 1 ?_
  refine rs (k:=rr (k:=ro (pre:=[_,_,_]) (k:=?_)))
  refine jO 10 ?_;rotate_left
 any_goals
  refine jI 9 ?_
  refine dP [0,1] (pre:=[_,_,_,_]) (k:=?_)
  refine jO 11 ?_;rotate_left
 any_goals
  refine jI 4 ?_
  intro k1 s1 hm1
  refine jO 12 ?_;rotate_left
 any_goals
  refine jI 12 ?_
  have hmb:=hm1.blk
  refine jO 13 ?_;rotate_left
 any_goals
  refine jI 10 ?_
  refine RunO.callw au au au Y19 ((ref8_refuse gA).mono ?_)
  refine jO 7 ?_;rotate_left
 any_goals
  refine jI 11 ?_
  refine dE [(0,1)] (k:=?_)
  refine jO 14 ?_;rotate_left
 any_goals
  refine jI 13 ?_
  have hmx:=hm1.nx
  refine jO 15 ?_;rotate_left
 any_goals
  refine jI 14 ?_
  refine DetHC.nil ?_
  refine jO 6 ?_;rotate_left
 any_goals
  refine jI 15 ?_
  have H:=aj hmb H
  refine jO 16 ?_;rotate_left
 any_goals
  refine jI 6 ?_
  refine rl [4,9] (k:=rB (k:=rs (k:=rg [4] (k:=rR (k:=?_)))))
  refine jO 3 ?_;rotate_left
 any_goals
  refine jI 16 ?_
  refine rh [4,9] (k:=rB (k:=rs (k:=rg [4] (k:=rR (k:=?_)))))
  refine jO 3 ?_;rotate_left
 any_goals
  refine jI 5 ?_
  refine rk (k:=rB (k:=rs (k:=rg [4] (k:=rR (k:=?_)))))
  refine jO 3 ?_;rotate_left
 any_goals
  refine jI 7 ?_
  rintro r s1 ⟨rfl,rfl⟩
  refine jO 17 ?_;rotate_left
 any_goals
  refine jI 17 ?_
  refine rh [4] (k:=rR (k:=?_))
  refine jO 3 ?_;rotate_left
 any_goals
  refine jI 3 ?_
  first
   |(have hB:=(show doF D q=refD D.up q.fn 1 from by
      have hh:hasF q.fn=false:=Y76
      unfold doF
      dsimp only
      rw [if_pos hh];rfl)
     (try subst hS2)
     refine Ret.refd (doF D q).2 hA (r':=(doF D q).1.pv) Y105 ?_ (blw_rep _ _) hwf ?_ ⟨rfl,rfl⟩
     ·exact Y48
     ·rw [hB]
      exact Y49)
   |(have hB:=(show doF D q=refD D.up q.fn 3 from by
      have h00:¬ hasF q.fn=false:=Y76
      have hcc:¬ rightF q=0∨countF q=false:=.inr (by simpa using hc1)
      unfold doF
      dsimp only
      rw [if_neg h00,if_pos hcc];rfl)
     (try subst hS2)
     refine Ret.refd (doF D q).2 hA (r':=(doF D q).1.pv) Y105 ?_ (blw_rep _ _) hwf ?_ ⟨rfl,rfl⟩
     ·exact Y48
     ·rw [hB]
      exact Y49)
   |(have hB:=do_bad hcO (D:=D) (show thereF D.c0.length (askF q).1.1 (askF q).1.2=false∨thereF D.c0.length (askF q).2.1 (askF q).2.2=false by have hTu:thereF D.up.c0.length (askF q).1.1 (askF q).1.2=false∨thereF D.up.c0.length (askF q).2.1 (askF q).2.2=false:=Y368;exact hTu)
     (try subst hS2)
     refine Ret.refd (doF D q).2 hA (r':=(doF D q).1.pv) Y105 ?_ (blw_rep _ _) hwf ?_ ⟨rfl,rfl⟩
     ·exact Y48
     ·rw [hB]
      exact Y49)
   |(have hB:=do_8 hcO (D:=D) hf
     (try subst hS2)
     refine Ret.refd (doF D q).2 hA (r':=(doF D q).1.pv) Y105 ?_ (blw_rep _ _) hwf ?_ ⟨rfl,rfl⟩
     ·exact Y48
     ·rw [hB]
      exact Y49)
   |(have hB:=do_1 hcO (D:=D) hf hT1
     (try subst hS2)
     refine Ret.refd (doF D q).2 hA (r':=(doF D q).1.pv) Y105 ?_ (blw_rep _ _) hwf ?_ ⟨rfl,rfl⟩
     ·exact Y48
     ·rw [hB]
      exact Y50)
   |(have hB:=do_2 hcO (D:=D) hf hT1
     (try subst hS2)
     refine Ret.refd (doF D q).2 hA (r':=(doF D q).1.pv) Y105 ?_ (blw_rep _ _) hwf ?_ ⟨rfl,rfl⟩
     ·exact Y48
     ·rw [hB]
      exact Y50)
   |(have hB:=do_3 hcO (D:=D) hf hT1
     (try subst hS2)
     refine Ret.refd (doF D q).2 hA (r':=(doF D q).1.pv) Y105 ?_ (blw_rep _ _) hwf ?_ ⟨rfl,rfl⟩
     ·exact Y48
     ·rw [hB]
      exact Y50)
   |(have hB:=do_4 hcO (D:=D) hf hT1
     (try subst hS2)
     refine Ret.refd (doF D q).2 hA (r':=(doF D q).1.pv) Y105 ?_ (blw_rep _ _) hwf ?_ ⟨rfl,rfl⟩
     ·exact Y48
     ·rw [hB]
      exact Y50)
   |(have hB:=do_5 hcO (D:=D) hf hTx
     (try subst hS2)
     refine Ret.refd (doF D q).2 hA (r':=(doF D q).1.pv) Y105 ?_ (blw_rep _ _) hwf ?_ ⟨rfl,rfl⟩
     ·exact Y48
     ·rw [hB]
      exact Y106)
   |(have hB:=do_15 hcO (D:=D) hf hTx
     (try subst hS2)
     refine Ret.refd (doF D q).2 hA (r':=(doF D q).1.pv) Y105 ?_ (blw_rep _ _) hwf ?_ ⟨rfl,rfl⟩
     ·exact Y48
     ·rw [hB]
      exact Y50)
   |(have hB:=do_6 hcO (D:=D) hf hTx
     (try subst hS2)
     refine Ret.refd (doF D q).2 hA (r':=(doF D q).1.pv) Y105 ?_ (blw_rep _ _) hwf ?_ ⟨rfl,rfl⟩
     ·exact Y48
     ·rw [hB]
      exact Y106)
   |(have hB:=do_16 hcO (D:=D) hf hTx
     (try subst hS2)
     refine Ret.refd (doF D q).2 hA (r':=(doF D q).1.pv) Y105 ?_ (blw_rep _ _) hwf ?_ ⟨rfl,rfl⟩
     ·exact Y48
     ·rw [hB]
      exact Y50)
   |(have hB:=do_17 hcO (D:=D) hf
     (try subst hS2)
     refine Ret.refd (doF D q).2 hA (r':=(doF D q).1.pv) Y105 ?_ (blw_rep _ _) hwf ?_ ⟨rfl,rfl⟩
     ·exact Y48
     ·rw [hB]
      exact Y50)
   |(have hB:=do_22 hcO (D:=D) hf hT1
     (try subst hS2)
     refine Ret.refd (doF D q).2 hA (r':=(doF D q).1.pv) Y105 ?_ (blw_rep _ _) hwf ?_ ⟨rfl,rfl⟩
     ·exact Y48
     ·rw [hB]
      exact Y50)
   |(have hB:=do_23 hcO (D:=D) hf hT1 hTx
     (try subst hS2)
     refine Ret.refd (doF D q).2 hA (r':=(doF D q).1.pv) Y105 ?_ (blw_rep _ _) hwf ?_ ⟨rfl,rfl⟩
     ·exact Y48
     ·rw [hB]
      exact Y50)
end Go.Proofs
namespace Go.Proofs
open Go.PM
set_option maxHeartbeats 2000000
attribute [local go_sem] set_set putRef_hi putRef_nxt weaks_bools Req.pv Rep.pv
theorem Y51 {p:Prop} (h:p:=by
 exact
    (fun i hi=>by
  have h0:=ltn hi;have h1:=lte hi;have h2:(i=S.nxt)=False:=eq_false Y321
  try simp (disch:=first | omega |(simp only [nxt_set,nxt_new]<;>omega) | fail) only [h2,go_sem,Nat.add_assoc,Nat.reduceAdd,↓reduceIte,h0,h1]
  exact putRef_congr2 (m:=s.nxt) Y99 i hi)):p:=h
theorem Y221 {p:Prop} (h:p:=by simp only [Tryz.f71,go_sem,↓reduceIte]<;>rfl):p:=h
set_option maxRecDepth 100000 in
theorem ref8_Pdu {b:Nat} {D:Dev} {s:St} (hA:RefAt b D s) (hD:D.ok) {l:List Int} (hb:OkB l) (hl:l.length≤140737488351232):ACalls Tryz.prog 71 [.ptr (b+5) 0 0,.sl .unk (l.map (PV.int .u8))] s (fun r s'=>r=.sl .unk ((pduF D l).1.map (PV.int .u8))∧s'=putRef b (pduF D l).2 s):=by
 refine go Tryz.func71 (k:=fun hwf H=>?_)
 have hdv:=hA.dv
 unfold refRow at hdv
 have hlt:=hA.lt hwf
 have hA1:∀ x,RefAt b D (s.new x):=fun x=>hA.nw hlt x
 have hinc:IntKind.i64.wrap (D.msgs+1)=inc D.msgs:=rfl
 have H:=aj hdv (aj hinc H)
 obtain ⟨q,hQ⟩:∃ q,q=(readF l).1:=⟨_,rfl⟩
 obtain ⟨E,hE⟩:∃ E,E=(readF l).2:=⟨_,rfl⟩
 have hqo:q.ok:=by rw [hQ];exact readF_ok hb hl
 have hrd:∀ s,ACalls Tryz.prog 102 [.sl .unk (l.map (PV.int .u8))] s (fun r s'=>r=.tuple [q.pv,.int .i64 E]∧s'=s):=fun s=>by rw [hQ,hE];exact ref3_Read hb hl
 have hEr:=readF_err l
 rw [← hE] at hEr
 refine rs (k:=rg [0,1] (k:=rs (k:=rs (k:=rg [0,1,14] (k:=rc (ht:=fun hc0=>?_) (hf:=fun hc0=>?_))))))
 refine rs (k:=rg [4] (k:=rR (k:=?_)))
 refine jO 1 ?_;rotate_left
 refine rk (k:=rs (k:=?_))
 have hne:l≠[]:=by intro e;rw [e] at hc0;simp at hc0
 refine rr (k:=ro (pre:=[_]) (k:=rC (h:=hrd _) (k:=rh [0,1,5,6] (k:=rs (k:=rs (k:=rg [0,1,5,6,21] (k:=rc (ht:=fun hc1=>?_) (hf:=fun hc1=>?_))))))))
 refine rs (k:=rg [0,1,6] (k:=rs (k:=rg [0,1,6,7] (k:=rs (k:=rs (k:=rg [0,1,7,30] (k:=rc (ht:=fun hc2=>?_) (hf:=fun hc2=>?_))))))))
 refine rg [0,1,7] (k:=rs (k:=?_))
 refine jO 2 ?_;rotate_left
 refine rk (k:=rs (k:=?_))
 refine jO 2 ?_;rotate_left
 refine rk (k:=rs (k:=rr (k:=ro (pre:=[_,_]) (k:=?_))))
 refine RunO.callw au au au Y19 ((ref8_Do (hA1 _) hD hqo).mono ?_)
 rintro r s1 ⟨rfl,rfl⟩
 refine rC (h:=ref3_Lay Y322) (k:=rh [10] (k:=rs (k:=rg [4] (k:=rR (k:=?_)))))
 refine jO 1 ?_;rotate_left
 any_goals
  refine jI 2 ?_
  have hne:l≠[]:=by intro e;rw [e] at hc0;simp at hc0
  refine jO 3 ?_;rotate_left
 any_goals
  refine jI 3 ?_
  have hll:0<l.length:=List.length_pos_iff.2 hne
  refine jO 4 ?_;rotate_left
 any_goals
  refine jI 4 ?_
  obtain ⟨x,hx⟩:∃ x,l[0]? =some x:=⟨l[0],List.getElem?_eq_getElem hll⟩
  refine jO 5 ?_;rotate_left
 any_goals
  refine jI 5 ?_
  have hxx:(l.map (PV.int .u8))[0]? =some (.int .u8 x):=Y141
  refine jO 6 ?_;rotate_left
 any_goals
  refine jI 6 ?_
  have hlT:(0<l.length)=True:=eq_true hll
  refine jO 7 ?_;rotate_left
 any_goals
  refine jI 7 ?_
  have hx8:U8 x:=hb x (List.mem_of_getElem? hx)
  refine jO 8 ?_;rotate_left
 any_goals
  refine jI 8 ?_
  have hx0:(l[0]?).getD 0=x:=Y253
  refine jO 9 ?_;rotate_left
 any_goals
  refine jI 9 ?_
  have hxw:IntKind.i64.wrap x=x:=wrap_i64 Y142
  refine jO 10 ?_;rotate_left
 any_goals
  refine jI 10 ?_
  refine Run.genS fun S hS=>?_
  refine jO 11 ?_;rotate_left
 any_goals
  refine jI 11 ?_
  have gA:RefAt b D.up S:=by
   have e:∀ i,i≤b+5→i≠b+5→S.blk i=s.blk i:=fun i h1 h2=>Y41
   exact ⟨Y210,Y211,Y212,Y213,Y214,Y32⟩
  refine jO 12 ?_;rotate_left
 any_goals
  refine jI 12 ?_
  have gn:S.nxt=s.nxt+1:=Y267
  refine jO 13 ?_;rotate_left
 any_goals
  refine jI 13 ?_
  have gf:∀ i,i<s.nxt→i≠b+5→S.blk i=s.blk i:=fun i h1 h2=>Y41
  refine jO 14 ?_;rotate_left
 any_goals
  refine jI 14 ?_
  clear hS
  refine jO 15 ?_;rotate_left
 any_goals
  refine jI 15 ?_
  have H:=aj hxx (aj hlT (aj hxw (aj gn H)))
  refine jO 16 ?_;rotate_left
 any_goals
  refine jI 16 ?_
  refine rr (k:=ro (pre:=[_,_,_,_,_,_]) (k:=?_))
  refine jO 17 ?_;rotate_left
 any_goals
  refine jI 17 ?_
  refine RunO.callw au au au Y19 ((ref8_refuse gA).mono ?_)
  refine jO 18 ?_;rotate_left
 any_goals
  refine jI 18 ?_
  rintro r s1 ⟨rfl,rfl⟩
  refine jO 19 ?_;rotate_left
 any_goals
  refine jI 19 ?_
  refine rC (h:=ref3_Lay Y322) (k:=rh [8] (k:=rs (k:=rg [4] (k:=rR (k:=?_)))))
  refine jO 1 ?_;rotate_left
 any_goals
  refine jI 1 ?_
  first
   |(have hEk:E=15:=by
      have h1:¬ E=0:=by simpa using hc1
      have h2:E=15:=by simpa using hc2
      have h3:¬ E=13:=fun h=>hne (hEr.1.1 h)
      have h4:=hEr.2
      omega
     have hB:pduF D l=(repF (refD D.up x 1).1,(refD D.up x 1).2):=by
      rw [← ref_u8_mod D.up x 1]
      unfold pduF
      rw [← hE,hEk,hx0]
      rfl
     refine Ret.refd (refD D.up x 1).2 hA (r':=.sl .unk ((repF (refD D.up x 1).1).map (PV.int .u8))) Y221 ?_ Y20 hwf ?_ ⟨Y90,Y90⟩
     ·exact Y323
     ·exact Y51)
   |(have hEk:E=12:=by
      have h1:¬ E=0:=by simpa using hc1
      have h2:¬ E=15:=by simpa using hc2
      have h3:¬ E=13:=fun h=>hne (hEr.1.1 h)
      have h4:=hEr.2
      omega
     have hB:pduF D l=(repF (refD D.up x 3).1,(refD D.up x 3).2):=by
      rw [← ref_u8_mod D.up x 3]
      unfold pduF
      rw [← hE,hEk,hx0]
      rfl
     refine Ret.refd (refD D.up x 3).2 hA (r':=.sl .unk ((repF (refD D.up x 3).1).map (PV.int .u8))) Y221 ?_ Y20 hwf ?_ ⟨Y90,Y90⟩
     ·exact Y323
     ·exact Y51)
   |(have h0:l=[]:=List.length_eq_zero_iff.1 Y72
     have hB:pduF D l=([],D):=by
      rw [h0];rfl
     refine Ret.refd D hA (r':=.sl .unk (([]:List Int).map (PV.int .u8))) Y221 ?_ Y20 hwf ?_ ⟨Y90,Y90⟩
     ·rfl
     ·rw [show putRef b D s=s from (eq_putRef rfl hA fun _ _=>rfl).symm]
      exact fun i hi=>Y52)
   |(have hE0:E=0:=by simpa using hc1
     have hB:pduF D l=(repF (doF D q).1,(doF D q).2):=by
      unfold pduF
      rw [← hE,hE0,← hQ]
      rfl
     refine Ret.refd (doF D q).2 hA (r':=.sl .unk ((repF (doF D q).1).map (PV.int .u8))) Y221 ?_ Y20 hwf ?_ ⟨Y90,Y90⟩
     ·exact Y323
     ·exact (fun i hi=>by
      have h0:=ltn hi;have h1:=lte hi
      try simp (disch:=first | omega |(simp only [nxt_set,nxt_new]<;>omega) | fail) only [go_sem,Nat.add_assoc,Nat.reduceAdd,↓reduceIte,h0,h1]
      exact putRef_congr2 (m:=s.nxt) (fun j hj hj2=>by
       have h0:=ltn hj;have h1:=lte hj
       first | rfl | simp (disch:=first | omega |(simp only [nxt_set,nxt_new]<;>omega) | fail) only [go_sem,Nat.add_assoc,Nat.reduceAdd,↓reduceIte,h0,h1]) i hi))
end Go.Proofs
namespace Go.Proofs
open Go.PM
set_option maxHeartbeats 2000000
theorem Y326 {p:Prop} (h:p:=by rw [← List.map_drop,List.take_of_length_le (by rw [List.length_map,List.length_drop];omega)]):p:=h
theorem rtu_Read {b:List Int} (hb:OkB b) (hl:b.length≤140737488350000) {s:St}:ACalls Tryz.prog 41 [.sl .unk (b.map (PV.int .u8))] s (fun r s'=>r=.tuple [.int .i64 (rtuF b).1.1,.sl .unk ((rtuF b).1.2.map (PV.int .u8)),.int .i64 (rtuF b).2]∧s'=s):=by
 refine go Tryz.func41 (k:=fun hwf H=>?_)
 refine rs (k:=rg [0] (k:=rs (k:=rr (k:=ro (pre:=[_]) (k:=rC (h:=crc_Open hb hl) (k:=rh [0,5,6] (k:=rs (k:=rb (k:=rs (k:=rg [0,5,6,12] (k:=rc (ht:=fun hc0=>?_) (hf:=fun hc0=>?_))))))))))))
 refine jO 1 ?_;rotate_left
 refine rs (k:=rg [5,6,16] (k:=rc (ht:=fun hc1=>?_) (hf:=fun hc1=>?_)))
 refine jO 1 ?_;rotate_left
 refine rs (k:=rg [5,20] (k:=rc (ht:=fun hc2=>?_) (hf:=fun hc2=>?_)))
 refine jO 1 ?_;rotate_left
 refine rs (k:=?_)
 obtain ⟨x,ho⟩:∃ x,openB b=some x:=Option.isSome_iff_exists.1 Y368
 have hxl:x.length=b.length-2:=by
  unfold openB at ho
  split at ho
  ·cases ho;rw [List.length_take];omega
  ·cases ho
 have hbl:4≤b.length:=Y75
 have hxo:=open_ok hb ho
 have hx0:0<x.length:=Y14
 obtain ⟨y,hy⟩:∃ y,x[0]? =some y:=⟨x[0],List.getElem?_eq_getElem hx0⟩
 have hyy:(x.map (PV.int .u8))[0]? =some (.int .u8 y):=by rw [List.getElem?_map,hy];rfl
 have hxT:(0<x.length)=True:=eq_true hx0
 have hxT1:((1:Int)≤(x.length:Int))=True:=eq_true Y14
 have hgd:(openB b).getD []=x:=by rw [ho];rfl
 have hy8:U8 y:=hxo y (List.mem_of_getElem? hy)
 have hyw:IntKind.i64.wrap y=y:=wrap_i64 Y432
 have hh0:hd0 x=y:=by unfold hd0;rw [hy];rfl
 have hln:((x.length:Int)-1).toNat=x.length-1:=Y14
 have htk:((x.map (PV.int .u8)).drop 1).take (x.length-1)=(x.drop 1).map (PV.int .u8):=Y326
 have h1n:Int.toNat 1=1:=rfl
 have H:=aj hyy (aj hxT (aj hxT1 (aj hgd (aj hyw (aj hln (aj htk (aj h1n H)))))))
 refine rg [5,23] (k:=rc (ht:=fun hc3=>?_) (hf:=fun hc3=>?_))
 refine jO 1 ?_;rotate_left
 refine rk (k:=rB (k:=rs (k:=?_)))
 refine Run.drawC [] [2,3,4] Tryz.mixed Y19 ?_
 refine DetC.pre (pre:=[_,_,_,_,_,_]) au ?_
 refine DetC.call au au au Y19 (clip_u8 (xs:=x.drop 1)) ?_
 refine DetC.all au ?_
 refine re (k:=rR (k:=?_))
 refine jO 2 ?_;rotate_left
 any_goals
  refine jI 1 ?_
  refine rs (k:=rg [2,3,4] (k:=rR (k:=?_)))
  refine jO 2 ?_;rotate_left
 any_goals
  refine jI 2 ?_
  refine Ret.pure (r':=.tuple [.int .i64 (rtuF b).1.1,.sl .unk ((rtuF b).1.2.map (PV.int .u8)),.int .i64 (rtuF b).2]) (by simp only [Tryz.f41,go_sem,↓reduceIte]<;>rfl) ?_ Y97 hwf Y26 ⟨rfl,rfl⟩
  refine jO 3 ?_;rotate_left
 any_goals
  refine jI 3 ?_
  simp only [PV.weak,PV.weaks,weaks_u8]
  refine jO 4 ?_;rotate_left
 any_goals
  refine jI 4 ?_
  first
   |(have e:rtuF b=((0,[]),13):=by unfold rtuF;rw [if_pos Y72]
     rw [e];rfl)
   |(have e:rtuF b=((0,[]),3):=by unfold rtuF;rw [if_neg Y75,if_pos Y69]
     rw [e];rfl)
   |(have ho:openB b=none:=by cases hq:openB b with | none=>rfl | some x=>rw [hq] at hc2;simp at hc2
     have e:rtuF b=((0,[]),14):=by unfold rtuF;rw [if_neg Y75,if_neg Y73,ho]
     rw [e];rfl)
   |(have h3:hd0 x<1∨247<hd0 x:=by rw [hh0];simpa using hc3
     have e:rtuF b=((0,[]),1):=by unfold rtuF;rw [if_neg Y14,if_neg Y73,ho];exact if_pos h3
     rw [e];rfl)
   |(have h3:¬ (hd0 x<1∨247<hd0 x):=by rw [hh0];simp at hc3;omega
     have e:rtuF b=((y,x.drop 1),0):=by unfold rtuF;rw [if_neg Y14,if_neg Y73,ho];exact (if_neg h3).trans (by rw [hh0])
     rw [e];first | done | simp only [weaks_u8,List.map_drop] | rfl)
theorem ref5_Read {b:List Int} (hb:OkB b) (hl:b.length≤140737488350000) {s:St}:ACalls Tryz.prog 47 [.sl .unk (b.map (PV.int .u8))] s (fun r s'=>r=.tuple [.int .i64 (rtuF b).1.1,.sl .unk ((rtuF b).1.2.map (PV.int .u8)),.int .i64 (rtuF b).2]∧s'=s):=by
 refine go Tryz.func47 (k:=fun hwf H=>?_)
 refine rs (k:=rg [0] (k:=rs (k:=rs (k:=rg [0,9] (k:=rc (ht:=fun hc0=>?_) (hf:=fun hc0=>?_))))))
 refine jO 1 ?_;rotate_left
 refine rk (k:=rs (k:=rs (k:=rg [0,12] (k:=rc (ht:=fun hc1=>?_) (hf:=fun hc1=>?_)))))
 refine jO 1 ?_;rotate_left
 refine rk (k:=rs (k:=rr (k:=ro (pre:=[_]) (k:=rC (h:=ref1_Unseal hb hl) (k:=rh [5,6] (k:=rs (k:=rs (k:=rg [5,19] (k:=rc (ht:=fun hc2=>?_) (hf:=fun hc2=>?_))))))))))
 refine jO 1 ?_;rotate_left
 refine rk (k:=rs (k:=rs (k:=?_)))
 obtain ⟨x,ho⟩:∃ x,openB b=some x:=Option.isSome_iff_exists.1 Y368
 have hxl:x.length=b.length-2:=by
  unfold openB at ho
  split at ho
  ·cases ho;rw [List.length_take];omega
  ·cases ho
 have hbl:4≤b.length:=Y75
 have hxo:=open_ok hb ho
 have hx0:0<x.length:=Y14
 obtain ⟨y,hy⟩:∃ y,x[0]? =some y:=⟨x[0],List.getElem?_eq_getElem hx0⟩
 have hyy:(x.map (PV.int .u8))[0]? =some (.int .u8 y):=by rw [List.getElem?_map,hy];rfl
 have hxT:(0<x.length)=True:=eq_true hx0
 have hxT1:((1:Int)≤(x.length:Int))=True:=eq_true Y14
 have hgd:(openB b).getD []=x:=by rw [ho];rfl
 have hy8:U8 y:=hxo y (List.mem_of_getElem? hy)
 have hyw:IntKind.i64.wrap y=y:=wrap_i64 Y432
 have hh0:hd0 x=y:=by unfold hd0;rw [hy];rfl
 have hln:((x.length:Int)-1).toNat=x.length-1:=Y14
 have htk:((x.map (PV.int .u8)).drop 1).take (x.length-1)=(x.drop 1).map (PV.int .u8):=Y326
 have h1n:Int.toNat 1=1:=rfl
 have H:=aj hyy (aj hxT (aj hxT1 (aj hgd (aj hyw (aj hln (aj htk (aj h1n H)))))))
 refine rg [5,29] (k:=rc (ht:=fun hc3=>?_) (hf:=fun hc3=>?_))
 refine jO 1 ?_;rotate_left
 refine rk (k:=rs (k:=?_))
 refine Run.drawC [] [2,3,4] Tryz.mixed Y19 ?_
 refine DetC.all au ?_
 refine re (k:=rR (k:=?_))
 refine jO 2 ?_;rotate_left
 any_goals
  refine jI 1 ?_
  refine rs (k:=rg [2,3,4] (k:=rR (k:=?_)))
  refine jO 2 ?_;rotate_left
 any_goals
  refine jI 2 ?_
  refine Ret.pure (r':=.tuple [.int .i64 (rtuF b).1.1,.sl .unk ((rtuF b).1.2.map (PV.int .u8)),.int .i64 (rtuF b).2]) (by simp only [Tryz.f47,go_sem,↓reduceIte]<;>rfl) ?_ Y97 hwf Y26 ⟨rfl,rfl⟩
  refine jO 3 ?_;rotate_left
 any_goals
  refine jI 3 ?_
  simp only [PV.weak,PV.weaks,weaks_u8]
  refine jO 4 ?_;rotate_left
 any_goals
  refine jI 4 ?_
  first
   |(have e:rtuF b=((0,[]),13):=by unfold rtuF;rw [if_pos Y72]
     rw [e];rfl)
   |(have e:rtuF b=((0,[]),3):=by unfold rtuF;rw [if_neg Y75,if_pos Y69]
     rw [e];rfl)
   |(have ho:openB b=none:=by cases hq:openB b with | none=>rfl | some x=>rw [hq] at hc2;simp at hc2
     have e:rtuF b=((0,[]),14):=by unfold rtuF;rw [if_neg Y75,if_neg Y73,ho]
     rw [e];rfl)
   |(have h3:hd0 x<1∨247<hd0 x:=by rw [hh0];simpa using hc3
     have e:rtuF b=((0,[]),1):=by unfold rtuF;rw [if_neg Y14,if_neg Y73,ho];exact if_pos h3
     rw [e];rfl)
   |(have h3:¬ (hd0 x<1∨247<hd0 x):=by rw [hh0];simp at hc3;omega
     have e:rtuF b=((y,x.drop 1),0):=by unfold rtuF;rw [if_neg Y14,if_neg Y73,ho];exact (if_neg h3).trans (by rw [hh0])
     rw [e];first | done | simp only [weaks_u8,List.map_drop] | rfl)
theorem Y222 {p:Prop} (h:p:=by exact (fun i hi=>by first | rfl | exact hlo i hi |(have h0:=ltn hi;have h1:=lte hi;simp only [go_sem,Nat.add_assoc,Nat.reduceAdd,↓reduceIte,h0,h1]))):p:=h
theorem Y327 {p:Prop} (h:p:=by simp only [Bool.or_eq_false_iff,decide_eq_false_iff_not] at hc0;constructor<;>omega):p:=h
theorem Y384 {p:Prop} (h:p:=by simp only [Bool.or_eq_false_iff,decide_eq_false_iff_not] at hc0;rw [u8_wrap];omega):p:=h
theorem ref5_Frame {a:Int} {b:List Int} (hb:OkB b) (hl:b.length≤140737488350000) {s:St}:ACalls Tryz.prog 40 [.int .i64 a,.sl .unk (b.map (PV.int .u8))] s (fun r s'=>r=.tuple [.sl .unk ((frameA a b).1.map (PV.int .u8)),.int .i64 (frameA a b).2]∧s'=s):=by
 refine go Tryz.func40 (k:=fun hwf H=>?_)
 refine rs (k:=rg [0,1] (k:=rs (k:=rs (k:=rg [0,1,11] (k:=rc (ht:=fun hc0=>?_) (hf:=fun hc0=>?_))))))
 refine jO 1 ?_;rotate_left
 refine rk (k:=rs (k:=rs (k:=rg [0,1,14] (k:=rc (ht:=fun hc1=>?_) (hf:=fun hc1=>?_)))))
 refine jO 1 ?_;rotate_left
 refine rk (k:=rs (k:=rs (k:=rg [0,1,17] (k:=rc (ht:=fun hc2=>?_) (hf:=fun hc2=>?_)))))
 refine jO 1 ?_;rotate_left
 refine rk (k:=rs (k:=?_))
 have haw:IntKind.u8.wrap a=a:=Y384
 have hao:OkB (a::b):=OkB.cons Y327 hb
 have H:=aj haw H
 refine rr (k:=ro (pre:=[_,_]) (k:=rO (k:=ro (pre:=[_]) (k:=?_))))
 refine RunO.growL (f:=PV.int .u8) [a] b (a::b) (ky:=.unk) au au au rfl Tryz.td39 Y70 (fun a=>⟨rfl,Y23⟩) Y24 Y71 (fun k' S hlo hnx=>?_)
 refine rC (h:=ref1_Seal (l:=a::b) hao Y131) (k:=rh [4,5] (k:=rR (k:=?_)))
 refine jO 2 ?_;rotate_left
 any_goals
  refine jI 1 ?_
  refine rs (k:=rg [4,5] (k:=rR (k:=?_)))
  refine jO 2 ?_;rotate_left
 any_goals
  refine jI 2 ?_
  refine Ret.pure (r':=.tuple [.sl .unk ((frameA a b).1.map (PV.int .u8)),.int .i64 (frameA a b).2]) (by simp only [Tryz.f40,go_sem,↓reduceIte]<;>rfl) ?_ Y97 hwf Y222 ⟨rfl,rfl⟩
  refine jO 3 ?_;rotate_left
 any_goals
  refine jI 3 ?_
  simp only [PV.weak,PV.weaks,weaks_u8]
  refine jO 4 ?_;rotate_left
 any_goals
  refine jI 4 ?_
  simp only [Bool.or_eq_true,Bool.or_eq_false_iff,decide_eq_true_eq,decide_eq_false_iff_not] at *
  refine jO 5 ?_;rotate_left
 any_goals
  refine jI 5 ?_
  have hbn:b=[]↔(b.length:Int)=0:=⟨fun e=>by rw [e];rfl,fun e=>List.length_eq_zero_iff.1 Y14⟩
  refine jO 6 ?_;rotate_left
 any_goals
  refine jI 6 ?_
  first
   |(have e:frameA a b=([],1):=by unfold frameA;rw [if_pos hc0]
     rw [e];rfl)
   |(have e:frameA a b=([],13):=by unfold frameA;rw [if_neg Y14,if_pos (hbn.2 Y14)]
     rw [e];rfl)
   |(have e:frameA a b=([],3):=by unfold frameA;rw [if_neg Y14,if_neg (fun h=>absurd (hbn.1 h) Y14),if_pos Y14]
     rw [e];rfl)
   |(have e:frameA a b=(sealB (a::b),0):=by unfold frameA;rw [if_neg Y14,if_neg (fun h=>absurd (hbn.1 h) Y14),if_neg Y14]
     rw [e])
theorem rtu_Frame {a:Int} {b:List Int} (hb:OkB b) (hl:b.length≤140737488350000) {s:St}:ACalls Tryz.prog 38 [.int .i64 a,.sl .unk (b.map (PV.int .u8))] s (fun r s'=>r=.tuple [.sl .unk ((frameA a b).1.map (PV.int .u8)),.int .i64 (frameA a b).2]∧s'=s):=by
 refine go Tryz.func38 (k:=fun hwf H=>?_)
 refine rs (k:=rg [0,1] (k:=rs (k:=rb (k:=rs (k:=rg [0,1,6] (k:=rc (ht:=fun hc0=>?_) (hf:=fun hc0=>?_)))))))
 refine jO 1 ?_;rotate_left
 refine rs (k:=rg [0,1,13] (k:=rc (ht:=fun hc1=>?_) (hf:=fun hc1=>?_)))
 refine jO 1 ?_;rotate_left
 refine rs (k:=rg [0,1,17] (k:=rc (ht:=fun hc2=>?_) (hf:=fun hc2=>?_)))
 refine jO 1 ?_;rotate_left
 refine rk (k:=rB (k:=rs (k:=?_)))
 have haw:IntKind.u8.wrap a=a:=Y384
 have hao:OkB (a::b):=OkB.cons Y327 hb
 have H:=aj haw H
 refine rr (k:=ro (pre:=[_,_]) (k:=rO (k:=ro (pre:=[_]) (k:=?_))))
 refine RunO.growL (f:=PV.int .u8) [a] b (a::b) (ky:=.unk) au au au rfl Tryz.td39 Y70 (fun a=>⟨rfl,Y23⟩) Y24 Y71 (fun k' S hlo hnx=>?_)
 refine rC (h:=crc_Seal (l:=a::b) hao Y131) (k:=rh [4,5] (k:=rR (k:=?_)))
 refine jO 2 ?_;rotate_left
 any_goals
  refine jI 1 ?_
  refine rs (k:=rg [4,5] (k:=rR (k:=?_)))
  refine jO 2 ?_;rotate_left
 any_goals
  refine jI 2 ?_
  refine Ret.pure (r':=.tuple [.sl .unk ((frameA a b).1.map (PV.int .u8)),.int .i64 (frameA a b).2]) (by simp only [Tryz.f38,go_sem,↓reduceIte]<;>rfl) ?_ Y97 hwf Y222 ⟨rfl,rfl⟩
  refine jO 3 ?_;rotate_left
 any_goals
  refine jI 3 ?_
  simp only [PV.weak,PV.weaks,weaks_u8]
  refine jO 4 ?_;rotate_left
 any_goals
  refine jI 4 ?_
  simp only [Bool.or_eq_true,Bool.or_eq_false_iff,decide_eq_true_eq,decide_eq_false_iff_not] at *
  refine jO 5 ?_;rotate_left
 any_goals
  refine jI 5 ?_
  have hbn:b=[]↔(b.length:Int)=0:=⟨fun e=>by rw [e];rfl,fun e=>List.length_eq_zero_iff.1 Y14⟩
  refine jO 6 ?_;rotate_left
 any_goals
  refine jI 6 ?_
  first
   |(have e:frameA a b=([],1):=by unfold frameA;rw [if_pos hc0]
     rw [e];rfl)
   |(have e:frameA a b=([],13):=by unfold frameA;rw [if_neg Y14,if_pos (hbn.2 Y14)]
     rw [e];rfl)
   |(have e:frameA a b=([],3):=by unfold frameA;rw [if_neg Y14,if_neg (fun h=>absurd (hbn.1 h) Y14),if_pos Y14]
     rw [e];rfl)
   |(have e:frameA a b=(sealB (a::b),0):=by unfold frameA;rw [if_neg Y14,if_neg (fun h=>absurd (hbn.1 h) Y14),if_neg Y14]
     rw [e])
attribute [local go_sem] weaks_bools Req.pv
theorem Y441 {p:Prop} (h:p:=by unfold bytesF;split;exact writeF_ok hq ‹_›;exact OkB.nil):p:=h
theorem ref17_Frame {q:Req} (hq:q.ok) {s:St}:ACalls Tryz.prog 23 [q.pv] s (fun r s'=>r=.sl .unk ((frameF (bytesF q)).map (PV.int .u8))∧s'=s):=by
 refine go Tryz.func23 (k:=fun hwf H=>?_)
 have hbo:OkB (bytesF q):=Y441
 have hbl:(bytesF q).length≤140737488350000:=by
  unfold bytesF
  split
  ·have:=writeF_len ‹_›;omega
  ·simp
 refine rs (k:=rg [1] (k:=rs (k:=rr (k:=ro (pre:=[_]) (k:=rC (h:=ref3_Bytes hq) (k:=rh [3,4] (k:=rs (k:=rs (k:=rg [3,13] (k:=rc (ht:=fun hc0=>?_) (hf:=fun hc0=>?_)))))))))))
 refine rs (k:=rg [2] (k:=rR (k:=?_)))
 refine jO 1 ?_;rotate_left
 refine rk (k:=rs (k:=rr (k:=ro (pre:=[_]) (k:=rC (h:=ref5_Frame (a:=17) hbo hbl) (k:=rh [5] (k:=rs (k:=rg [2] (k:=rR (k:=?_)))))))))
 refine jO 1 ?_;rotate_left
 any_goals
  refine jI 1 ?_
  refine Ret.pure (r':=.sl .unk ((frameF (bytesF q)).map (PV.int .u8))) (by simp only [Tryz.f23,go_sem,↓reduceIte]<;>rfl) ?_ Y20 hwf Y26 ⟨rfl,rfl⟩
  refine jO 2 ?_;rotate_left
 any_goals
  refine jI 2 ?_
  simp only [PV.weak,PV.weaks,weaks_u8]
  refine jO 3 ?_;rotate_left
 any_goals
  refine jI 3 ?_
  first
   |(have h0:¬ rightF q=0:=by simpa using hc0
     have e:bytesF q=[]:=by unfold bytesF;rw [if_neg h0]
     rw [e];rfl)
   | rfl
end Go.Proofs
namespace Go.Proofs
open Go.PM
set_option maxHeartbeats 2000000
def lnRow (d:Nat) (a0 a1 a2 a3 st:PV):Blk:=.row 59 [.agg [.ptr d 0 0,a0,a1,a2,a3,st]]
theorem line_New {d:Nat} {s:St}:ACalls Tryz.prog 7 [.ptr d 0 0] s (fun r s'=>r=.ptr s.nxt 0 0∧s'=s.new (lnRow d (.sl .nil []) (.sl .nil []) (.sl .nil []) (.sl .nil []) (.sl .nil []))):=by
 refine go Tryz.func7 (k:=fun hwf H=>?_)
 refine rs (k:=rg [0] (k:=rs (k:=rs (k:=rg [0,4] (k:=rc (ht:=fun hc0=>?_) (hf:=fun hc0=>?_))))))
 ·cases hc0
 ·refine rk (k:=rs (k:=rg [2] (k:=rR (k:=?_))))
  exact Ret.all (by simp only [Tryz.f7,go_sem,↓reduceIte]<;>rfl) ⟨rfl,by unfold lnRow;rfl⟩
theorem line_is {t:Int} {s:St}:ACalls Tryz.prog 24 [.int .i64 t] s (fun r s'=>r=.bool (decide (0≤t)&&decide (t<4))∧s'=s):=by
 refine go Tryz.func24 (k:=fun hwf H=>?_)
 refine rs (k:=rg [0] (k:=rs (k:=rg [2] (k:=rR (k:=rP (by simp only [Tryz.f24,go_sem];rfl) hwf ⟨?_,rfl⟩)))))
 rfl
theorem line_Device {ln d:Nat} {a0 a1 a2 a3 st:PV} {s:St} (hl:s.blk ln=some (lnRow d a0 a1 a2 a3 st)):ACalls Tryz.prog 31 [.ptr ln 0 0] s (fun r s'=>r=.ptr d 0 0∧s'=s):=by
 refine go Tryz.func31 (k:=fun hwf H=>?_)
 unfold lnRow at hl
 have H:=aj hl H
 refine rs (k:=rg [0] (k:=rs (k:=rg [2] (k:=rR (k:=?_)))))
 exact Ret.all (by simp only [Tryz.f31,go_sem,↓reduceIte]<;>rfl) ⟨rfl,rfl⟩
theorem Y157 {p:Prop} (h:p:=by rw [Tryz.cz3];first | done | rfl):p:=h
theorem Y53 {p:Prop} (h:p:=by first | exact isEls_map (P:=Tryz.prog) (e:=3) (f:=PV.int .i64) (fun a=>⟨rfl,Y157⟩) _ |(intro p hp;cases hp)):p:=h
theorem Y158 {p:Prop} (h:p:=by rw [Tryz.by3];simp<;>omega):p:=h
theorem Y223 {p:Prop} (h:p:=by simp only [Tryz.f11,go_sem,↓reduceIte]<;>rfl):p:=h
theorem Y276 {p:Prop} (h:p:=by rw [Tryz.by3];decide):p:=h
theorem Y328 {p:Prop} (h:p:=by rw [Tryz.zp3];rfl):p:=h
theorem line_Hurt0N {ln d:Nat} {a1 a2 a3 st:PV} {F:Int} (hF:0≤F∧F≤4) {s:St} (hl:s.blk ln=some (lnRow d (.sl .nil []) a1 a2 a3 st)):ACalls Tryz.prog 11 [.ptr ln 0 0,.int .i64 0,.int .i64 F] s (fun r s'=>r=.bool true∧s'=((s.new (.tok [F].length)).set ln (some (lnRow d (.sl (.tok s.nxt 1) ([F].map (PV.int .i64))) a1 a2 a3 st)))):=by
 refine go Tryz.func11 (k:=fun hwf H=>?_)
 unfold lnRow at hl
 have hlt:=lt_blk hwf hl
 have f0:((0:Int)<((4:Nat):Int))=True:=eq_true Y15
 have f1:((0:Int)≤0)=True:=eq_true Y15
 have f2:Int.toNat 0=0:=rfl
 have f3:decide ((0:Int)≤0)=true:=Y15
 have f4:decide ((0:Int)<4)=true:=Y15
 have H:=aj f0 (aj f1 (aj f2 (aj f3 (aj f4 H))))
 have g1:decide (F<0)=false:=decide_eq_false Y14
 have g2:decide (4<F)=false:=decide_eq_false Y14
 have H:=aj g1 (aj g2 H)
 have g3:decide ((1000:Int)≤0)=false:=Y15
 have H:=aj g3 H
 have n1:(ln=s.nxt)=False:=eq_false Y14
 have H:=aj n1 H
 have H:=aj hl H
 refine rs (k:=rg [0,1,2] (k:=rs (k:=rs (k:=rr (k:=ro (pre:=[_]) (k:=rC (h:=(line_is (t:=0))) (k:=rh [0,1,2,27] (k:=rc (ht:=fun hc0=>?_) (hf:=fun hc0=>?_)))))))))
 ·cases hc0
 ·refine rk (k:=rs (k:=rH 15 [10,14] [[false,false],[true,false],[true,true]] [s,(s.new (.tok [F].length)),((s.new (.tok [F].length)).set ln (some (.row 59 [.agg [.ptr d 0 0,.sl (.tok s.nxt 1) ([F].map (PV.int .i64)),a1,a2,a3,st]])))] Tryz.mixed (k:=?_)))
  refine dP [0,1] (pre:=[_,_,_,_,_,_,_,_,_,_]) (k:=?_)
  refine DetHC.app (kx:=.nil) (xs:=[]) (ys:=[F].map (PV.int .i64)) (v:=.sl (.tok s.nxt 1) ([F].map (PV.int .i64))) [(0,1)] _ Y19 pq au au au Tryz.td22 Y328 Y53 (isEls_map (P:=Tryz.prog) (e:=3) (f:=PV.int .i64) (fun a=>⟨rfl,Y157⟩) _) Y276 Y158 (by intro q hq;rw [List.mem_singleton.1 hq];exact aAppend_nilL (f:=PV.int .i64) (ys:=[F]) Y66 (by rw [Tryz.cz3])) ?_
  refine dP [0,1] (pre:=[_,_,_]) (k:=?_)
  refine dE [(1,2)] (k:=?_)
  refine DetHC.nil ?_
  refine rl [] (k:=rs (k:=rg [6] (k:=rR (k:=?_))))
  exact Ret.all Y223 ⟨rfl,by unfold lnRow;rfl⟩
theorem Y159 {p:Prop} (h:p:=by intro q hq;rw [List.mem_singleton.1 hq];exact aAppend_tokL (f:=PV.int .i64) (xs:=L) (ys:=[F]) rfl Y66 ht rfl (by rw [Tryz.cz3])):p:=h
theorem line_Hurt0T {ln d t:Nat} {a1 a2 a3 st:PV} {L:List Int} (hL:L.length<1000) {F:Int} (hF:0≤F∧F≤4) {s:St} (hl:s.blk ln=some (lnRow d (.sl (.tok t 1) (L.map (PV.int .i64))) a1 a2 a3 st)) (ht:s.blk t=some (.tok L.length)) (hne:t≠ln):ACalls Tryz.prog 11 [.ptr ln 0 0,.int .i64 0,.int .i64 F] s (fun r s'=>r=.bool true∧s'=((s.set t (some (.tok (L++[F]).length))).set ln (some (lnRow d (.sl (.tok t 1) ((L++[F]).map (PV.int .i64))) a1 a2 a3 st)))):=by
 refine go Tryz.func11 (k:=fun hwf H=>?_)
 unfold lnRow at hl
 have hlt:=lt_blk hwf hl
 have f0:((0:Int)<((4:Nat):Int))=True:=eq_true Y15
 have f1:((0:Int)≤0)=True:=eq_true Y15
 have f2:Int.toNat 0=0:=rfl
 have f3:decide ((0:Int)≤0)=true:=Y15
 have f4:decide ((0:Int)<4)=true:=Y15
 have H:=aj f0 (aj f1 (aj f2 (aj f3 (aj f4 H))))
 have g1:decide (F<0)=false:=decide_eq_false Y14
 have g2:decide (4<F)=false:=decide_eq_false Y14
 have H:=aj g1 (aj g2 H)
 have g3:decide ((1000:Int)≤(L.length:Int))=false:=decide_eq_false Y14
 have H:=aj g3 H
 have n1:(ln=s.nxt)=False:=eq_false Y14
 have H:=aj n1 H
 have n2:(ln=t)=False:=eq_false Y14
 have n3:(t=ln)=False:=eq_false hne
 have H:=aj n2 (aj n3 H)
 have H:=aj hl H
 refine rs (k:=rg [0,1,2] (k:=rs (k:=rs (k:=rr (k:=ro (pre:=[_]) (k:=rC (h:=(line_is (t:=0))) (k:=rh [0,1,2,27] (k:=rc (ht:=fun hc0=>?_) (hf:=fun hc0=>?_)))))))))
 ·cases hc0
 ·refine rk (k:=rs (k:=rH 15 [10,14] [[false,false],[true,false],[true,true]] [s,(s.set t (some (.tok (L++[F]).length))),((s.set t (some (.tok (L++[F]).length))).set ln (some (.row 59 [.agg [.ptr d 0 0,.sl (.tok t 1) ((L++[F]).map (PV.int .i64)),a1,a2,a3,st]])))] Tryz.mixed (k:=?_)))
  refine dP [0,1] (pre:=[_,_,_,_,_,_,_,_,_,_]) (k:=?_)
  refine DetHC.app (kx:=.tok t 1) (xs:=L.map (PV.int .i64)) (ys:=[F].map (PV.int .i64)) (v:=.sl (.tok t 1) ((L++[F]).map (PV.int .i64))) [(0,1)] _ Y19 pq au au au Tryz.td22 Y328 Y53 (isEls_map (P:=Tryz.prog) (e:=3) (f:=PV.int .i64) (fun a=>⟨rfl,Y157⟩) _) Y276 Y158 Y159 ?_
  refine dP [0,1] (pre:=[_,_,_]) (k:=?_)
  refine dE [(1,2)] (k:=?_)
  refine DetHC.nil ?_
  refine rl [] (k:=rs (k:=rg [6] (k:=rR (k:=?_))))
  exact Ret.all Y223 ⟨rfl,by unfold lnRow;rfl⟩
theorem Y329 {p:Prop} (h:p:=by simp only [Tryz.f44,go_sem,↓reduceIte]<;>rfl):p:=h
theorem line_take0 {ln d:Nat} {a1 a2 a3 st:PV} {k:SK} {s:St} (hl:s.blk ln=some (lnRow d (.sl k []) a1 a2 a3 st)):ACalls Tryz.prog 44 [.ptr ln 0 0,.int .i64 0] s (fun r s'=>r=.int .i64 0∧s'=s):=by
 refine go Tryz.func44 (k:=fun hwf H=>?_)
 unfold lnRow at hl
 have f0:((0:Int)<((4:Nat):Int))=True:=eq_true Y15
 have f1:((0:Int)≤0)=True:=eq_true Y15
 have f2:Int.toNat 0=0:=rfl
 have f3:decide ((0:Int)≤0)=true:=Y15
 have f4:decide ((0:Int)<4)=true:=Y15
 have H:=aj f0 (aj f1 (aj f2 (aj f3 (aj f4 H))))
 have H:=aj hl H
 refine rs (k:=rg [0,1] (k:=rs (k:=rs (k:=rr (k:=ro (pre:=[_]) (k:=rC (h:=(line_is (t:=0))) (k:=rh [0,1,18] (k:=rc (ht:=fun hc0=>?_) (hf:=fun hc0=>?_)))))))))
 ·refine rs (k:=rg [4] (k:=rR (k:=?_)))
  exact Ret.all Y329 ⟨rfl,rfl⟩
 ·cases hc0
end Go.Proofs
namespace Go.Proofs
open Go.PM
set_option maxHeartbeats 2000000
theorem crc_SealO {l:List Int} (hb:OkB l) (hl:l.length+2≤140737488355328) {s:St}:ACalls Tryz.prog 55 [.sl .unk (l.map (PV.int .u8))] s (fun r s'=>r=.own s.nxt 0 (l.length+2)∧s'=s.new (.row 5 ((sealB l).map (PV.int .u8)))):=by
 refine go Tryz.func55 (k:=fun hwf H=>?_)
 refine rs (k:=rg [0] (k:=rs (k:=rr (k:=ro (pre:=[_]) (k:=?_)))))
 refine RunO.call au au Y19 ((crc_Of hb Y14).mono ?_)
 rintro r s1 ⟨rfl,hs⟩
 subst s1
 refine rh [0,3] (k:=rs (k:=rr (k:=ro (pre:=[_]) (k:=?_))))
 refine RunO.call au au Y19 ((clip_u8 (xs:=l)).mono ?_)
 rintro r s1 ⟨rfl,hs⟩
 subst s1
 refine ro (pre:=[_,_,_,_,_]) (k:=rO (k:=?_))
 refine RunO.appendFirst au au au Tryz.td39 Y70 (isEls_map (P:=Tryz.prog) (e:=5) (f:=PV.int .u8) (fun a=>⟨rfl,Y23⟩) _) (isEls_map (P:=Tryz.prog) (e:=5) (f:=PV.int .u8) (fun a=>⟨rfl,Y23⟩) [_,_]) Y24 Y71 (by unfold aAppendFirst;dsimp only;rw [if_pos Y66]) ?_
 refine rh [2] (k:=rR (k:=?_))
 refine Ret.all (r:=.own s.nxt 0 (l.length+2)) (by simp only [Tryz.f55,go_sem,↓reduceIte]<;>simp) ⟨rfl,?_⟩
 congr 2
 simp [sealB,crc_hi,crc_hi']
theorem Y385 {p:Prop} (h:p:=by unfold aAppend;rw [if_neg (by simpa using h1),Tryz.cz5];simp [Nat.add_comm]):p:=h
theorem rtu_FrameO {b:List Int} (hb:OkB b) (h1:b≠[]) (h2:b.length≤253) {s:St}:ACalls Tryz.prog 38 [.int .i64 17,.sl .unk (b.map (PV.int .u8))] s (fun r s'=>r=.tuple [.own (s.nxt+1) 0 (b.length+3),.int .i64 0]∧s'=(s.new (.tok (17::b).length)).new (.row 5 ((sealB (17::b)).map (PV.int .u8)))):=by
 refine go Tryz.func38 (k:=fun hwf H=>?_)
 have g0:decide ((17:Int)<1)=false:=Y15
 have g1:decide ((247:Int)<17)=false:=Y15
 have hp:0<b.length:=List.length_pos_iff.2 h1
 have g2:decide ((b.length:Int)=0)=false:=decide_eq_false Y14
 have g3:decide ((253:Int)<(b.length:Int))=false:=decide_eq_false Y14
 have gw:IntKind.u8.wrap 17=17:=Y15
 have hao:OkB (17::b):=OkB.cons Y16 hb
 have H:=aj g0 (aj g1 (aj g2 (aj g3 (aj gw H))))
 refine rs (k:=rg [0,1] (k:=rs (k:=rb (k:=rs (k:=rg [0,1,6] (k:=rc (ht:=fun hc0=>?_) (hf:=fun hc0=>?_)))))))
 ·cases hc0
 ·refine rs (k:=rg [0,1,13] (k:=rc (ht:=fun hc1=>?_) (hf:=fun hc1=>?_)))
  ·cases hc1
  ·refine rs (k:=rg [0,1,17] (k:=rc (ht:=fun hc2=>?_) (hf:=fun hc2=>?_)))
   ·cases hc2
   ·refine rk (k:=rB (k:=rs (k:=rr (k:=ro (pre:=[_,_]) (k:=rO (k:=ro (pre:=[_]) (k:=?_)))))))
    refine RunO.append (v:=.sl (.tok s.nxt 1) ((17::b).map (PV.int .u8))) (s':=s.new (.tok (17::b).length)) au au au Tryz.td39 Y70 (isEls_map (P:=Tryz.prog) (e:=5) (f:=PV.int .u8) (fun a=>⟨rfl,Y23⟩) [_]) (isEls_map (P:=Tryz.prog) (e:=5) (f:=PV.int .u8) (fun a=>⟨rfl,Y23⟩) b) Y24 Y71 Y385 ?_
    refine RunO.callw au au au Y19 ((crc_SealO (l:=17::b) hao Y131).mono ?_)
    rintro r s1 ⟨rfl,rfl⟩
    refine rh [4,5] (k:=rR (k:=?_))
    exact Ret.all (by simp only [Tryz.f38,go_sem,↓reduceIte]<;>rfl) ⟨by simp [nxt_new],rfl⟩
theorem line_frame {b:List Int} (hb:OkB b) (hl:b.length≤140737488350000) {s:St}:ACalls Tryz.prog 100 [.sl .unk (b.map (PV.int .u8))] s (fun r s'=>r=.sl .unk ((frameF b).map (PV.int .u8))∧s'=s):=by
 refine go Tryz.func100 (k:=fun hwf H=>?_)
 refine rs (k:=rg [0] (k:=rs (k:=rr (k:=ro (pre:=[_]) (k:=rC (h:=rtu_Frame (a:=17) hb hl) (k:=rh [3] (k:=rs (k:=rg [2] (k:=rR (k:=?_))))))))))
 exact Ret.all (by simp only [Tryz.f100,go_sem,↓reduceIte]<;>rfl) ⟨rfl,rfl⟩
theorem line_frameO {b:List Int} (hb:OkB b) (h1:b≠[]) (h2:b.length≤253) {s:St}:ACalls Tryz.prog 100 [.sl .unk (b.map (PV.int .u8))] s (fun r s'=>r=.own (s.nxt+1) 0 (b.length+3)∧s'=(s.new (.tok (17::b).length)).new (.row 5 ((sealB (17::b)).map (PV.int .u8)))):=by
 refine go Tryz.func100 (k:=fun hwf H=>?_)
 refine rs (k:=rg [0] (k:=rs (k:=rr (k:=ro (pre:=[_]) (k:=?_)))))
 refine RunO.callw au au au Y19 ((rtu_FrameO hb h1 h2).mono ?_)
 rintro r s1 ⟨rfl,rfl⟩
 refine rh [3] (k:=rs (k:=rg [2] (k:=rR (k:=?_))))
 exact Ret.all (by simp only [Tryz.f100,go_sem,↓reduceIte]<;>rfl) ⟨rfl,rfl⟩
theorem pduF_len {D:Dev} (hD:D.ok) {p:List Int} (hp:OkB p) (hpl:p.length≤253):(pduF D p).1.length≤140737488350000:=by
 have h:∀ R:Rep,(repF R).length≤300:=fun R=>by
  unfold repF
  split
  ·exact layF_len ‹_›
  ·simp
 unfold pduF
 split
 ·simp
 ·dsimp only
  exact Nat.le_trans (h _) Y14
theorem refuse_mod (x:Int):refuseP x 4=refuseP (x%128) 4:=by
 unfold refuseP
 rw [show x%128%128=x%128 from Y14]
theorem line_fine {ln b:Nat} {a0 a1 a2 a3 st:PV} {D:Dev} {s:St} (hl:s.blk ln=some (lnRow (b+5) a0 a1 a2 a3 st)) (hA:DevAt b D s) (hD:D.ok) {p:List Int} (hp:OkB p) (hpl:p.length≤253):ACalls Tryz.prog 64 [.ptr ln 0 0,.sl .unk (p.map (PV.int .u8))] s (fun r s'=>r=.sl .unk ((lineF 0 D p).1.map (PV.int .u8))∧s'=putDev b (lineF 0 D p).2 s):=by
 refine go Tryz.func64 (k:=fun hwf H=>?_)
 unfold lnRow at hl
 obtain ⟨⟨x,D'⟩,hX⟩:∃ Z,pduF D p=Z:=⟨_,rfl⟩
 have hxo:OkB x:=by have:=pduF_okB hD hp Y14;rwa [hX] at this
 have hxl:x.length≤140737488350000:=by have:=pduF_len hD hp hpl;rw [hX] at this;exact this
 have hpd:∀ s,DevAt b D s→ACalls Tryz.prog 101 [.ptr (b+5) 0 0,.sl .unk (p.map (PV.int .u8))] s (fun r s'=>r=.sl .unk (x.map (PV.int .u8))∧s'=putDev b D' s):=fun s hA=>by
  have:=device_Pdu hA hD hp (s:=s) Y14
  rwa [hX] at this
 have H:=aj hl H
 refine rs (k:=rg [0,1] (k:=rs (k:=rr (k:=ro (pre:=[_,_,_,_,_]) (k:=?_)))))
 refine RunO.callw au au au Y19 ((hpd _ hA).mono ?_)
 rintro r s1 ⟨rfl,rfl⟩
 refine rC (h:=line_frame hxo hxl) (k:=rh [4] (k:=rR (k:=?_)))
 exact Ret.all (by simp only [Tryz.f64,go_sem,↓reduceIte]<;>rfl) ⟨by show _=PV.sl .unk ((frameF (pduF D p).1).map _);rw [hX],by show _=putDev b (pduF D p).2 s;rw [hX]⟩
theorem line_fineO {ln b:Nat} {a0 a1 a2 a3 st:PV} {D:Dev} {s:St} (hl:s.blk ln=some (lnRow (b+5) a0 a1 a2 a3 st)) (hA:DevAt b D s) (hD:D.ok) {p:List Int} (hp:OkB p) (hpl:p.length≤253) (h1:(pduF D p).1≠[]) (h2:(pduF D p).1.length≤253):ACalls Tryz.prog 64 [.ptr ln 0 0,.sl .unk (p.map (PV.int .u8))] s (fun r s'=>r=.own (s.nxt+1) 0 ((pduF D p).1.length+3)∧s'=((putDev b (pduF D p).2 s).new (.tok (17::(pduF D p).1).length)).new (.row 5 ((sealB (17::(pduF D p).1)).map (PV.int .u8)))):=by
 refine go Tryz.func64 (k:=fun hwf H=>?_)
 unfold lnRow at hl
 obtain ⟨⟨x,D'⟩,hX⟩:∃ Z,pduF D p=Z:=⟨_,rfl⟩
 have hxo:OkB x:=by have:=pduF_okB hD hp Y14;rwa [hX] at this
 have hxl:x.length≤140737488350000:=by have:=pduF_len hD hp hpl;rw [hX] at this;exact this
 have hpd:∀ s,DevAt b D s→ACalls Tryz.prog 101 [.ptr (b+5) 0 0,.sl .unk (p.map (PV.int .u8))] s (fun r s'=>r=.sl .unk (x.map (PV.int .u8))∧s'=putDev b D' s):=fun s hA=>by
  have:=device_Pdu hA hD hp (s:=s) Y14
  rwa [hX] at this
 rw [hX] at h1 h2 ⊢
 have H:=aj hl H
 refine rs (k:=rg [0,1] (k:=rs (k:=rr (k:=ro (pre:=[_,_,_,_,_]) (k:=?_)))))
 refine RunO.callw au au au Y19 ((hpd _ hA).mono ?_)
 rintro r s1 ⟨rfl,rfl⟩
 refine RunO.callw au au au Y19 ((line_frameO hxo h1 h2).mono ?_)
 rintro r s1 ⟨rfl,rfl⟩
 refine rh [4] (k:=rR (k:=?_))
 exact Ret.all (by simp only [Tryz.f64,go_sem,↓reduceIte]<;>rfl) ⟨rfl,rfl⟩
theorem line_lost {ln b:Nat} {a0 a1 a2 a3 st:PV} {D:Dev} {s:St} (hl:s.blk ln=some (lnRow (b+5) a0 a1 a2 a3 st)) (hA:DevAt b D s) (hD:D.ok) {p:List Int} (hp:OkB p) (hpl:p.length≤253):ACalls Tryz.prog 65 [.ptr ln 0 0,.sl .unk (p.map (PV.int .u8))] s (fun r s'=>r=.sl .unk ((lineF 1 D p).1.map (PV.int .u8))∧s'=putDev b (lineF 1 D p).2 s):=by
 refine go Tryz.func65 (k:=fun hwf H=>?_)
 refine rs (k:=rg [] (k:=rs (k:=rg [4] (k:=rR (k:=?_)))))
 refine Ret.pure (r':=.sl .unk []) (by simp only [Tryz.f65,go_sem,↓reduceIte]<;>rfl) rfl Y78 hwf (fun _ _=>rfl) ⟨rfl,(putDev_self hA).symm⟩
theorem line_mute {ln b:Nat} {a0 a1 a2 a3 st:PV} {D:Dev} {s:St} (hl:s.blk ln=some (lnRow (b+5) a0 a1 a2 a3 st)) (hA:DevAt b D s) (hD:D.ok) {p:List Int} (hp:OkB p) (hpl:p.length≤253):ACalls Tryz.prog 66 [.ptr ln 0 0,.sl .unk (p.map (PV.int .u8))] s (fun r s'=>r=.sl .unk ((lineF 2 D p).1.map (PV.int .u8))∧s'=putDev b (lineF 2 D p).2 s):=by
 refine go Tryz.func66 (k:=fun hwf H=>?_)
 refine rs (k:=rg [0,1] (k:=rs (k:=rr (k:=ro (pre:=[_,_]) (k:=?_)))))
 refine RunO.callw au au au Y19 ((line_fine hl hA hD hp hpl).mono ?_)
 rintro r s1 ⟨rfl,rfl⟩
 refine rl [] (k:=rs (k:=rg [4] (k:=rR (k:=?_))))
 exact Ret.dev (lineF 2 D p).2 hA (r':=.sl .unk []) (by simp only [Tryz.f66,go_sem,↓reduceIte]<;>rfl) rfl Y78 hwf (fun _ _=>rfl) ⟨rfl,rfl⟩
attribute [local go_sem] weaks_bools Rep.pv
theorem line_refuse {ln b:Nat} {a0 a1 a2 a3 st:PV} {D:Dev} {s:St} (hl:s.blk ln=some (lnRow (b+5) a0 a1 a2 a3 st)) (hA:DevAt b D s) (hD:D.ok) {p:List Int} (hp:OkB p) (hpl:p.length≤253) (hne:p≠[]):ACalls Tryz.prog 68 [.ptr ln 0 0,.sl .unk (p.map (PV.int .u8))] s (fun r s'=>r=.sl .unk ((lineF 4 D p).1.map (PV.int .u8))∧s'=putDev b (lineF 4 D p).2 s):=by
 refine go Tryz.func68 (k:=fun hwf H=>?_)
 have hll:0<p.length:=List.length_pos_iff.2 hne
 obtain ⟨x,hx⟩:∃ x,p[0]? =some x:=⟨p[0],List.getElem?_eq_getElem hll⟩
 have hxx:(p.map (PV.int .u8))[0]? =some (.int .u8 x):=Y141
 have hlT:(0<p.length)=True:=eq_true hll
 have hx8:U8 x:=hp x (List.mem_of_getElem? hx)
 have hx0:(p[0]?).getD 0=x:=Y253
 have ha127:ibits .and .u8 x 127=x%128:=u8_and127 hx8
 have hw:IntKind.i64.wrap (x%128)=x%128:=wrap_i64 Y14
 have hx64:I64 (x%128):=Y197
 have h4:I64 4:=Y16
 have hrl:(repF (refuseP (x%128) 4)).length≤140737488350000:=by
  unfold repF
  split
  ·exact Nat.le_trans (layF_len ‹_›) Y14
  ·simp
 have H:=aj hxx (aj hlT (aj ha127 (aj hw H)))
 refine rs (k:=rg [1] (k:=rs (k:=rr (k:=ro (pre:=[_,_,_,_,_]) (k:=rC (h:=reply_Refuse (fn:=x%128) (code:=4) hx64 h4) (k:=rC (h:=reply_Bytes (refuseP_ok _ _)) (k:=rh [5] (k:=rs (k:=rr (k:=ro (pre:=[_]) (k:=rC (h:=line_frame (repF_ok (refuseP_ok _ _)) hrl) (k:=rh [4] (k:=rR (k:=?_))))))))))))))
 exact Ret.all (by simp only [Tryz.f68,go_sem,↓reduceIte]<;>rfl) ⟨by show _=PV.sl .unk ((frameF (repF (refuseP ((p[0]?).getD 0) 4))).map _);rw [hx0,refuse_mod x],(putDev_self hA).symm⟩
end Go.Proofs
namespace Go.Proofs
open Go.PM
set_option maxHeartbeats 2000000
theorem line_brokenN {ln b:Nat} {a0 a1 a2 a3 st:PV} {D:Dev} {s:St} (hl:s.blk ln=some (lnRow (b+5) a0 a1 a2 a3 st)) (hA:DevAt b D s) (hD:D.ok) {p:List Int} (hp:OkB p) (hpl:p.length≤253) (hz:frameF (pduF D p).1=[]):ACalls Tryz.prog 67 [.ptr ln 0 0,.sl .unk (p.map (PV.int .u8))] s (fun r s'=>r=.sl .unk ((lineF 3 D p).1.map (PV.int .u8))∧s'=putDev b (lineF 3 D p).2 s):=by
 refine go Tryz.func67 (k:=fun hwf H=>?_)
 have hz2:(lineF 0 D p).1=[]:=hz
 have hzl:(((lineF 0 D p).1.length:Nat):Int)=0:=by rw [hz2];rfl
 have H:=aj hzl H
 refine rs (k:=rg [0,1] (k:=rs (k:=rr (k:=ro (pre:=[_,_]) (k:=?_)))))
 refine RunO.callw au au au Y19 ((line_fine hl hA hD hp hpl).mono ?_)
 rintro r s1 ⟨rfl,rfl⟩
 refine rh [5] (k:=rs (k:=rs (k:=rg [5,6] (k:=rs (k:=rg [5,6,13] (k:=rc (ht:=fun hc0=>?_) (hf:=fun hc0=>?_)))))))
 ·cases hc0
 ·refine rk (k:=rs (k:=rg [4] (k:=rR (k:=?_))))
  exact Ret.all (by simp only [Tryz.f67,go_sem,↓reduceIte]<;>rfl) ⟨by rw [hz2];show _=PV.sl .unk ((flipL (frameF (pduF D p).1)).map _);rw [hz];rfl,rfl⟩
attribute [local go_sem] set_set putDev_hi putDev_nxt
theorem Y442 {p:Prop} (h:p:=by simp only [PV.blw,blws_u8T];exact ⟨fun t z e=>Y65,trivial⟩):p:=h
theorem line_brokenO {ln b:Nat} {a0 a1 a2 a3 st:PV} {D:Dev} {s:St} (hl:s.blk ln=some (lnRow (b+5) a0 a1 a2 a3 st)) (hA:DevAt b D s) (hD:D.ok) {p:List Int} (hp:OkB p) (hpl:p.length≤253) (h1:(pduF D p).1≠[]) (h2:(pduF D p).1.length≤253):ACalls Tryz.prog 67 [.ptr ln 0 0,.sl .unk (p.map (PV.int .u8))] s (fun r s'=>r=.sl .unk ((lineF 3 D p).1.map (PV.int .u8))∧s'=putDev b (lineF 3 D p).2 s):=by
 refine go Tryz.func67 (k:=fun hwf H=>?_)
 obtain ⟨Z,hZ⟩:∃ Z,Z=sealB (17::(pduF D p).1):=⟨_,rfl⟩
 have hZl:Z.length=(pduF D p).1.length+3:=by rw [hZ,sealB_len,List.length_cons]
 have hlt:=hA.lt hwf
 obtain ⟨m,hm⟩:∃ m,m+1=Z.length:=⟨(pduF D p).1.length+2,Y14⟩
 have hml:m<Z.length:=Y14
 obtain ⟨z,hz⟩:∃ z,Z[m]'hml=z:=⟨_,rfl⟩
 have hzz:(Z.map (PV.int .u8))[m]? =some (.int .u8 z):=by rw [map_get hml,hz]
 have hT1:((0:Int)<(((pduF D p).1.length+3:Nat):Int))=True:=eq_true Y14
 have hw:IntKind.i64.wrap ((((pduF D p).1.length+3:Nat):Int)-1)=(m:Int):=Y21
 have hmT:(m<(pduF D p).1.length+3)=True:=eq_true Y14
 have hmT2:((m:Int)<(((pduF D p).1.length+3:Nat):Int))=True:=eq_true Y14
 have hset:(Z.map (PV.int .u8)).set m (.int .u8 (ibits .xor .u8 z 1))=(Z.set m (ibits .xor .u8 z 1)).map (PV.int .u8):=by rw [List.map_set]
 have hfl:Z.set m (ibits .xor .u8 z 1)=flipL (frameF (pduF D p).1):=by
  rw [frameF_eq h1 h2,← hZ]
  unfold flipL
  rw [show Z.length-1=m from Y14,List.getElem?_eq_getElem hml,hz];rfl
 have H:=aj hzz (aj hT1 (aj hw (aj hmT (aj hmT2 (aj hset H)))))
 refine rs (k:=rg [0,1] (k:=rs (k:=rr (k:=ro (pre:=[_,_]) (k:=?_)))))
 refine RunO.callw au au au Y19 ((line_fineO hl hA hD hp hpl h1 h2).mono ?_)
 rintro r s1 ⟨rfl,rfl⟩
 rw [← hZ]
 refine rh [5] (k:=rs (k:=rs (k:=rg [5,6] (k:=rs (k:=rg [5,6,13] (k:=rc (ht:=fun hc0=>?_) (hf:=fun hc0=>?_)))))))
 ·refine rg [5] (k:=rs (k:=rr (k:=?_)))
  refine RunO.thaw 5 (s.nxt+1) 2 (v:=.sl .unk ((flipL (frameF (pduF D p).1)).map (PV.int .u8))) (by simp (disch:=omega) only [go_sem,↓reduceIte];rw [← hfl];exact frz_own_ints (t:=5) (by rw [List.length_set];omega) Y66 (by simp (disch:=first | omega |(simp only [nxt_set,nxt_new,putDev_nxt]<;>omega) | fail) only [go_sem,putDev_nxt,↓reduceIte,H]<;>rfl)) Y442 ?_
  refine ro (pre:=[_]) (k:=rh [4] (k:=rR (k:=?_)))
  exact Ret.dev (lineF 3 D p).2 hA (r':=.sl .unk ((flipL (frameF (pduF D p).1)).map (PV.int .u8))) (by simp only [Tryz.f67,go_sem,↓reduceIte]<;>rfl) (by simp only [PV.weak,weaks_u8]) Y20 hwf (fun i hi=>by first | rfl |(have h0:=ltn hi;have h1:=lte hi;simp (disch:=first | omega |(simp only [nxt_set,nxt_new,putDev_nxt]<;>omega) | fail) only [go_sem,putDev_nxt,Nat.add_assoc,Nat.reduceAdd,↓reduceIte,h0,h1]<;>rfl)) ⟨rfl,rfl⟩
 ·cases hc0
theorem line_broken {ln b:Nat} {a0 a1 a2 a3 st:PV} {D:Dev} {s:St} (hl:s.blk ln=some (lnRow (b+5) a0 a1 a2 a3 st)) (hA:DevAt b D s) (hD:D.ok) {p:List Int} (hp:OkB p) (hpl:p.length≤253):ACalls Tryz.prog 67 [.ptr ln 0 0,.sl .unk (p.map (PV.int .u8))] s (fun r s'=>r=.sl .unk ((lineF 3 D p).1.map (PV.int .u8))∧s'=putDev b (lineF 3 D p).2 s):=by
 by_cases h1:(pduF D p).1=[]
 ·exact line_brokenN hl hA hD hp hpl (by rw [h1];rfl)
 ·by_cases h2:(pduF D p).1.length≤253
  ·exact line_brokenO hl hA hD hp hpl h1 h2
  ·refine line_brokenN hl hA hD hp hpl ?_
   unfold frameF frameA
   rw [if_neg Y15,if_neg h1,if_pos Y14]
theorem Y160 {p:Prop} (h:p:=by simp only [Tryz.f43,go_sem,↓reduceIte]<;>rfl):p:=h
theorem Y161 {p:Prop} (h:p:=by simp only [PV.blw,PV.blws,and_true];exact hln):p:=h
theorem line_does0 {ln:Nat} {s:St} (hln:ln<s.nxt):ACalls Tryz.prog 43 [.ptr ln 0 0,.int .i64 0] s (fun r s'=>r=.fn (.func 64) [.ptr ln 0 0] []∧s'=s):=by
 refine go Tryz.func43 (k:=fun hwf H=>?_)
 have f0:((0:Int)<((5:Nat):Int))=True:=eq_true Y15
 have f1:((0:Int)≤0)=True:=eq_true Y15
 have f2:Int.toNat 0=0:=rfl
 have H:=aj f0 (aj f1 (aj f2 H))
 refine rs (k:=rg [0,1] (k:=rs (k:=rg [1,5] (k:=rs (k:=rg [4] (k:=rR (k:=?_)))))))
 exact Ret.pure (r':=.fn (.func 64) [.ptr ln 0 0] []) Y160 Y361 Y161 hwf Y26 ⟨rfl,rfl⟩
theorem line_does1 {ln:Nat} {s:St} (hln:ln<s.nxt):ACalls Tryz.prog 43 [.ptr ln 0 0,.int .i64 1] s (fun r s'=>r=.fn (.func 65) [.ptr ln 0 0] []∧s'=s):=by
 refine go Tryz.func43 (k:=fun hwf H=>?_)
 have f0:((1:Int)<((5:Nat):Int))=True:=eq_true Y15
 have f1:((0:Int)≤1)=True:=eq_true Y15
 have f2:Int.toNat 1=1:=rfl
 have H:=aj f0 (aj f1 (aj f2 H))
 refine rs (k:=rg [0,1] (k:=rs (k:=rg [1,5] (k:=rs (k:=rg [4] (k:=rR (k:=?_)))))))
 exact Ret.pure (r':=.fn (.func 65) [.ptr ln 0 0] []) Y160 Y361 Y161 hwf Y26 ⟨rfl,rfl⟩
theorem line_does2 {ln:Nat} {s:St} (hln:ln<s.nxt):ACalls Tryz.prog 43 [.ptr ln 0 0,.int .i64 2] s (fun r s'=>r=.fn (.func 66) [.ptr ln 0 0] []∧s'=s):=by
 refine go Tryz.func43 (k:=fun hwf H=>?_)
 have f0:((2:Int)<((5:Nat):Int))=True:=eq_true Y15
 have f1:((0:Int)≤2)=True:=eq_true Y15
 have f2:Int.toNat 2=2:=rfl
 have H:=aj f0 (aj f1 (aj f2 H))
 refine rs (k:=rg [0,1] (k:=rs (k:=rg [1,5] (k:=rs (k:=rg [4] (k:=rR (k:=?_)))))))
 exact Ret.pure (r':=.fn (.func 66) [.ptr ln 0 0] []) Y160 Y361 Y161 hwf Y26 ⟨rfl,rfl⟩
theorem line_does3 {ln:Nat} {s:St} (hln:ln<s.nxt):ACalls Tryz.prog 43 [.ptr ln 0 0,.int .i64 3] s (fun r s'=>r=.fn (.func 67) [.ptr ln 0 0] []∧s'=s):=by
 refine go Tryz.func43 (k:=fun hwf H=>?_)
 have f0:((3:Int)<((5:Nat):Int))=True:=eq_true Y15
 have f1:((0:Int)≤3)=True:=eq_true Y15
 have f2:Int.toNat 3=3:=rfl
 have H:=aj f0 (aj f1 (aj f2 H))
 refine rs (k:=rg [0,1] (k:=rs (k:=rg [1,5] (k:=rs (k:=rg [4] (k:=rR (k:=?_)))))))
 exact Ret.pure (r':=.fn (.func 67) [.ptr ln 0 0] []) Y160 Y361 Y161 hwf Y26 ⟨rfl,rfl⟩
theorem line_does4 {ln:Nat} {s:St} (hln:ln<s.nxt):ACalls Tryz.prog 43 [.ptr ln 0 0,.int .i64 4] s (fun r s'=>r=.fn (.func 68) [.ptr ln 0 0] []∧s'=s):=by
 refine go Tryz.func43 (k:=fun hwf H=>?_)
 have f0:((4:Int)<((5:Nat):Int))=True:=eq_true Y15
 have f1:((0:Int)≤4)=True:=eq_true Y15
 have f2:Int.toNat 4=4:=rfl
 have H:=aj f0 (aj f1 (aj f2 H))
 refine rs (k:=rg [0,1] (k:=rs (k:=rg [1,5] (k:=rs (k:=rg [4] (k:=rR (k:=?_)))))))
 exact Ret.pure (r':=.fn (.func 68) [.ptr ln 0 0] []) Y160 Y361 Y161 hwf Y26 ⟨rfl,rfl⟩
end Go.Proofs
namespace Go.Proofs
open Go.PM
set_option maxHeartbeats 2000000
theorem Ret.allW {P:Program} {fn:Func} {args:List PV} {s0 s:St} {Q:PV→St→Prop} {e:Env} {r r':PV} (hr:retv P fn.results.toList e s=some r) (hr':r'=r.weak) (h:Q r' s):Ret P fn args s0 Q e s:=by
 subst hr'
 exact ⟨r,hr,r.weak,s,h,fun g0 w0 g w _ hX hI v hv=>⟨g,hI,R_weak r v hv,hX⟩⟩
structure Snt where
 tick:Int
 tenant:Int
 data:List Int
def Snt.pv (x:Snt):PV:=.agg [.int .i64 x.tick,.int .i64 x.tenant,.sl .unk (x.data.map (PV.int .u8))]
theorem line_body {f:Int} (hf:0≤f∧f≤4):∃ N:Nat,(∀ {ln:Nat} {s:St},ln<s.nxt→ACalls Tryz.prog 43 [.ptr ln 0 0,.int .i64 f] s (fun r s'=>r=.fn (.func N) [.ptr ln 0 0] []∧s'=s))∧callable Tryz.prog N=true ∧
  ∀ {ln b:Nat} {a0 a1 a2 a3 st:PV} {D:Dev} {s:St},s.blk ln=some (lnRow (b+5) a0 a1 a2 a3 st)→DevAt b D s→D.ok→∀ {p:List Int},OkB p→p.length≤253→p≠[]→ACalls Tryz.prog N [.ptr ln 0 0,.sl .unk (p.map (PV.int .u8))] s (fun r s'=>r=.sl .unk ((lineF f D p).1.map (PV.int .u8))∧s'=putDev b (lineF f D p).2 s):=by
 obtain rfl | rfl | rfl | rfl | rfl:f=0∨f=1∨f=2∨f=3∨f=4:=Y14
 ·exact ⟨64,fun h=>line_does0 h,Y19,fun hl hA hD _ hp hpl _=>line_fine hl hA hD hp hpl⟩
 ·exact ⟨65,fun h=>line_does1 h,Y19,fun hl hA hD _ hp hpl _=>line_lost hl hA hD hp hpl⟩
 ·exact ⟨66,fun h=>line_does2 h,Y19,fun hl hA hD _ hp hpl _=>line_mute hl hA hD hp hpl⟩
 ·exact ⟨67,fun h=>line_does3 h,Y19,fun hl hA hD _ hp hpl _=>line_broken hl hA hD hp hpl⟩
 ·exact ⟨68,fun h=>line_does4 h,Y19,fun hl hA hD _ hp hpl hne=>line_refuse hl hA hD hp hpl hne⟩
attribute [local go_sem] set_set putDev_hi putDev_nxt
attribute [local go_sem] set_set putDev_hi putDev_nxt
end Go.Proofs
namespace Go.Proofs
open Go.PM
set_option maxHeartbeats 2000000
structure ElsAt (c:Nat) (s0 s':St) (kk:SK) (els ws:List PV):Prop where
 wk:PV.weaks els=ws
 el:∀ p∈els,p.ok=true∧p.cells.length=c
 fr:Fr s0 s'
 gr:Grows s' kk els.length c
 tk:∀ t z,kk=.tok t z→s0.nxt≤t∧t<s'.nxt
theorem weaks_snocP {a b:List PV}:PV.weaks (a++b)=PV.weaks a++PV.weaks b:=by
 induction a with
 | nil=>rfl
 | cons x l ih=>simp only [List.cons_append,PV.weaks,ih]
theorem ElsAt.snoc {c:Nat} {s0 s1 s2 s3:St} {kk k':SK} {els ws:List PV} {el w:PV} (h:ElsAt c s0 s1 kk els ws) (h1:el.ok=true) (h2:el.cells.length=c) (hw:el.weak=w) (h12:s1.nxt≤s2.nxt) (f2:Fr s0 s2)
  (hg:Grows s3 k' (els.length+[el].length) c) (htm:TMoves s2 s3 kk k'):ElsAt c s0 s3 k' (els++[el]) (ws++[w]):=by
 refine ⟨by rw [weaks_snocP,h.wk];simp only [PV.weaks,hw],fun p hp=>?_,f2.tm htm (fun t z e=>(h.tk t z e).1),by rw [List.length_append];exact hg,fun t z e=>?_⟩
 ·rcases List.mem_append.1 hp with hp | hp
  ·exact h.el p hp
  ·rw [List.mem_singleton.1 hp];exact ⟨h1,h2⟩
 ·have h9:=htm.nxt
  have h8:=f2.nxt
  rcases htm.fresh t z e with ⟨z',h'⟩ | ⟨h1,h2⟩
  ·have:=h.tk t z' h';omega
  ·omega
attribute [local go_sem] set_set
theorem Y330 {p:Prop} (h:p:=by rw [Tryz.by54];decide):p:=h
theorem Y386 {p:Prop} (h:p:=by rw [Tryz.zp54];rfl):p:=h
set_option maxRecDepth 100000 in
theorem line_Sent {ln d:Nat} {a0 a1 a2 a3:PV} {k:SK} {l:List Snt} (hll:l.length≤100000) (hld:∀ x∈l,x.data.length≤140737488350000) {s:St} (hl:s.blk ln=some (lnRow d a0 a1 a2 a3 (.sl k (l.map Snt.pv)))):ACalls Tryz.prog 17 [.ptr ln 0 0] s (fun r s'=>r=.sl .unk (l.map Snt.pv)∧s'=s):=by
 refine go Tryz.func17 (k:=fun hwf H=>?_)
 unfold lnRow at hl
 have hlt:=lt_blk hwf hl
 have n1:(ln=s.nxt)=False:=eq_false Y14
 have H:=aj n1 H
 have H:=aj hl H
 refine rs (k:=rg [0] (k:=rs (k:=rr (k:=ro (pre:=[_,_,_,_,_]) (k:=?_)))))
 refine RunO.makeCap (n:=l.length) au au au Tryz.td50 (by rw [Tryz.zp54]) Y14 (by rw [Tryz.by54];omega) ?_
 refine rh [0,3] (k:=rs (k:=rs (k:=rg [3,15,16,17] (k:=rb (k:=?_)))))
 refine Run.loop (fun e s'=>∃ (i:Nat) (els:List PV) (kk:SK),e=[(3,.sl kk els),(15,.sl k (l.map Snt.pv)),(16,.int .i64 (l.length:Int)),(17,.int .i64 (i:Int))]∧i≤l.length∧els.length=i∧ElsAt 3 s s' kk els ((l.take i).map Snt.pv)) (fun e s'=>l.length-ivar e 17) ?_ ?_
 ·exact ⟨0,[],.tok s.nxt 3,rfl,Nat.zero_le _,rfl,rfl,(fun p hp=>by cases hp),(Fr.refl hwf).new _,.inr (.inr ⟨s.nxt,rfl,blk_new_eq⟩),fun t z e=>by cases e;exact ⟨Nat.le_refl _,Nat.lt_succ_self _⟩⟩
 rintro e s1 ⟨i,els,kk,rfl,hi,hel,hE⟩
 have hFn:=hE.fr.nxt
 refine rs (k:=rg [3,15,16,17,18] (k:=rs (k:=rc (ht:=fun hc0=>?_) (hf:=fun hc0=>?_))))
 ·refine rk (k:=rs (k:=rb (k:=rs (k:=?_))))
  have hil:i<l.length:=Y72
  obtain ⟨x,hxe⟩:∃ z_,l[i]'hil=z_:=⟨_,rfl⟩
  have hxx:(l.map Snt.pv)[i]? =some (.agg [.int .i64 x.tick,.int .i64 x.tenant,.sl .unk (x.data.map (PV.int .u8))]):=by rw [map_get hil,hxe];rfl
  have hilT:(i<l.length)=True:=eq_true hil
  have hxd:x.data.length≤140737488350000:=hld x Y364
  have hw:IntKind.i64.wrap ((i:Int)+1)=((i+1:Nat):Int):=Y21
  have H:=aj hxx (aj hilT (aj hw H))
  refine rg [3,5,15,16,17] (k:=rs (k:=rr (k:=ro (pre:=[_,_]) (k:=rC (h:=clone_u8 (xs:=x.data) Y14) (k:=rC (h:=clip_u8 (xs:=x.data)) (k:=rh [3,5,15,16,17] (k:=rr (k:=ro (pre:=[_,_]) (k:=rO (k:=?_))))))))))
  refine RunO.grow (xs:=els) (ys:=[_]) au au au Tryz.td50 Y386 (by unfold isEls;rw [Tryz.cz54];exact hE.el) (by intro p hp;rw [List.mem_singleton.1 hp,Tryz.cz54];exact ⟨rfl,rfl⟩) Y330 (by rw [Tryz.by54];simp;omega) (by rw [Tryz.cz54];exact hE.gr.mono fun t e=>by have:=hE.tk _ _ e;simp (disch:=first | omega |(simp only [nxt_set,nxt_new]<;>omega) | fail) only [go_sem]) Y66 ?_
  intro k' s3 hgr' htm
  rw [Tryz.cz54] at hgr'
  refine rh [3,15,16,17] (k:=rB (k:=rg [3,15,16,17] (k:=?_)))
  refine Run.lp ⟨⟨i+1,_,k',rfl,Y14,by rw [List.length_append,hel];rfl,?_⟩,?_⟩
  ·rw [take_get hil,hxe,List.map_append]
   exact hE.snoc rfl rfl (by simp only [PV.weak,PV.weaks,weaks_u8,Snt.pv]) (Nat.le_succ _) (hE.fr.new _) hgr' htm
  ·exact Y74
 ·refine rX (k:=rs (k:=rg [2] (k:=rR (k:=?_))))
  have hi2:i=l.length:=Y75
  refine Ret.pure (r':=.sl .unk (l.map Snt.pv)) (by simp only [Tryz.f17,go_sem,↓reduceIte]<;>rfl) (by rw [PV.weak,hE.wk,hi2,List.take_length]) (by simp only [PV.blw];exact ⟨fun t z e=>Y65,blws_map Snt.pv _ (fun a=>by simp only [Snt.pv,PV.blw,PV.blws,and_true,true_and];exact ⟨fun t z e=>Y65,blws_u8 _ _⟩) _⟩) hwf hE.fr.blk ⟨rfl,rfl⟩
end Go.Proofs
namespace Go.Proofs
open Go.PM
set_option maxHeartbeats 2000000
def TkAt (s:St) (z:Nat) (els:List PV) (c:Nat) (x:PV):Option Nat→Prop
 | none=>x=.sl .nil []∧els=[]
 | some t=>x=.sl (.tok t z) els∧s.blk t=some (.tok els.length)∧c≤t∧t<s.nxt
theorem TkAt.keep {s s':St} {z:Nat} {els:List PV} {c:Nat} {x:PV} {n:Option Nat} (h:TkAt s z els c x n) (hb:∀ t,n=some t→t<s.nxt→s'.blk t=s.blk t) (hx:s.nxt≤s'.nxt):TkAt s' z els c x n:=by
 cases n with
 | none=>exact h
 | some t=>exact ⟨h.1,by rw [hb t rfl h.2.2.2];exact h.2.1,h.2.2.1,Nat.lt_of_lt_of_le h.2.2.2 hx⟩
structure LnAt (b ln c:Nat) (D:Dev) (F:List Int) (l:List Snt) (a1 a2 a3:PV) (s:St):Prop where
 row:∃ x st n m,s.blk ln=some (lnRow (b+5) x a1 a2 a3 st)∧TkAt s 1 (F.map (PV.int .i64)) c x n∧TkAt s 3 (l.map Snt.pv) c st m∧(n=none∨n≠m)
 dev:DevAt b D s
 lt:b+5<ln
 hc:ln<c
 nx:c≤s.nxt
structure Out (b ln c:Nat) (s s':St):Prop where
 nx:s.nxt≤s'.nxt
 same:∀ j,j<s.nxt→(j<c∨∀ L,s.blk j≠some (.tok L))→j≠ln→¬ (b≤j∧j≤b+5)→s'.blk j=s.blk j
theorem Out.refl (b ln c:Nat) (s:St):Out b ln c s s:=⟨Nat.le_refl _,fun _ _ _ _ _=>rfl⟩
theorem Out.trans {b ln c:Nat} {s s1 s2:St} (h:Out b ln c s s1) (k:Out b ln c s1 s2):Out b ln c s s2:=⟨Nat.le_trans h.nx k.nx,fun j h1 h2 h3 h4=>(k.same j (Nat.lt_of_lt_of_le h1 h.nx) (by rw [h.same j h1 h2 h3 h4];exact h2) h3 h4).trans (h.same j h1 h2 h3 h4)⟩
theorem LnAt.put {b ln c:Nat} {D D':Dev} {F:List Int} {l:List Snt} {a1 a2 a3:PV} {s:St} (h:LnAt b ln c D F l a1 a2 a3 s) (hl:D'.c0.length=D.c0.length):LnAt b ln c D' F l a1 a2 a3 (putDev b D' s)∧Out b ln c s (putDev b D' s):=by
 have h1:=h.lt
 have h2:=h.hc
 obtain ⟨x,st,n,m,r1,r2,r3,r4⟩:=h.row
 refine ⟨⟨⟨x,st,n,m,by rw [putDev_hi Y14];exact r1,?_,?_,r4⟩,DevAt.put h.dev hl,h1,h2,h.nx⟩,Nat.le_refl _,fun j _ _ _ h3=>?_⟩
 ·refine r2.keep (fun t e ht=>?_) (Nat.le_refl _)
  subst e
  have:=r2.2.2.1
  exact putDev_hi Y14
 ·refine r3.keep (fun t e ht=>?_) (Nat.le_refl _)
  subst e
  have:=r3.2.2.1
  exact putDev_hi Y14
 ·by_cases hj:j<b
  ·exact putDev_lo Y14
  ·exact putDev_hi Y14
theorem LnAt.nw {b ln c:Nat} {D:Dev} {F:List Int} {l:List Snt} {a1 a2 a3:PV} {s:St} (h:LnAt b ln c D F l a1 a2 a3 s) (x:Blk):LnAt b ln c D F l a1 a2 a3 (s.new x):=by
 have h1:=h.lt
 have h2:=h.hc
 have h3:=h.nx
 obtain ⟨y,st,n,m,r1,r2,r3,r4⟩:=h.row
 exact ⟨⟨y,st,n,m,by rw [blk_new_ne Y14];exact r1,r2.keep (fun t e ht=>blk_new_ne Y14) (Nat.le_succ _),r3.keep (fun t e ht=>blk_new_ne Y14) (Nat.le_succ _),r4⟩,h.dev.nw Y14 _,h1,h2,Nat.le_succ_of_le h3⟩
theorem Y162 {p:Prop} (h:p:=by rw [blk_set_ne Y14];exact r1):p:=h
theorem LnAt.hi {b ln c r:Nat} {D:Dev} {F:List Int} {l:List Snt} {a1 a2 a3:PV} {s:St} (h:LnAt b ln c D F l a1 a2 a3 s) (hr:c≤r) (hb:∀ L,s.blk r≠some (.tok L)) (x:Option Blk):LnAt b ln c D F l a1 a2 a3 (s.set r x):=by
 have h1:=h.lt
 have h2:=h.hc
 obtain ⟨y,st,n,m,r1,r2,r3,r4⟩:=h.row
 refine ⟨⟨y,st,n,m,Y162,r2.keep (fun t e ht=>?_) (Nat.le_refl _),r3.keep (fun t e ht=>?_) (Nat.le_refl _),r4⟩,h.dev.sv Y14 _,h1,h2,h.nx⟩
 ·subst e
  exact blk_set_ne (by rintro rfl;exact hb _ r2.2.1)
 ·subst e
  exact blk_set_ne (by rintro rfl;exact hb _ r3.2.1)
theorem Out.nw {b ln c:Nat} {s s':St} (h:Out b ln c s s') (x:Blk):Out b ln c s (s'.new x) :=
 ⟨Nat.le_succ_of_le h.nx,fun j q1 q2 q3 q4=>by rw [blk_new_ne (by have:=h.nx;omega)];exact h.same j q1 q2 q3 q4⟩
theorem Out.hi {b ln c r:Nat} {s s':St} (h:Out b ln c s s') (hr:s.nxt≤r) (x:Option Blk):Out b ln c s (s'.set r x) :=
 ⟨h.nx,fun j q1 q2 q3 q4=>by rw [blk_set_ne Y14];exact h.same j q1 q2 q3 q4⟩
theorem Y331 {p:Prop} (h:p:=by rw [blk_set_ne q2,blk_new_ne Y14]):p:=h
theorem LnAt.newF {b ln c:Nat} {D:Dev} {F:List Int} {l:List Snt} {a1 a2 a3 st:PV} {m:Option Nat} {s:St} (hd:DevAt b D s) (h1:b+5<ln) (h2:ln<c) (h3:c≤s.nxt) (hm:TkAt s 3 (l.map Snt.pv) c st m) :
  LnAt b ln c D F l a1 a2 a3 ((s.new (.tok F.length)).set ln (some (lnRow (b+5) (.sl (.tok s.nxt 1) (F.map (PV.int .i64))) a1 a2 a3 st)))∧Out b ln c s ((s.new (.tok F.length)).set ln (some (lnRow (b+5) (.sl (.tok s.nxt 1) (F.map (PV.int .i64))) a1 a2 a3 st))):=by
 refine ⟨⟨⟨_,st,some s.nxt,m,blk_set_self _ _ _,⟨rfl,?_,h3,Nat.lt_succ_self _⟩,hm.keep (fun t e ht=>?_) (Nat.le_succ _),.inr ?_⟩,(hd.nw Y14 _).sv Y14 _,h1,h2,Nat.le_succ_of_le h3⟩,Nat.le_succ _,fun j q1 _ q2 _=>?_⟩
 ·rw [blk_set_ne Y14,List.length_map];exact blk_new_eq
 ·subst e
  have:=hm.2.2.1
  rw [blk_set_ne Y14,blk_new_ne Y14]
 ·rintro rfl
  have:=hm.2.2.2
  omega
 ·exact Y331
theorem Y163 {p:Prop} (h:p:=by rw [blk_set_ne Y14,List.length_map];exact blk_set_self _ _ _):p:=h
theorem Y332 {p:Prop} (h:p:=by rintro rfl;rcases qt with h | h;omega;exact h _ hb):p:=h
theorem Y387 {p:Prop} (h:p:=by
 subst e
 have:=hm.2.2.1
 rw [blk_set_ne Y14,blk_set_ne (fun e=>hne (by rw [e]))]):p:=h
theorem LnAt.setF {b ln c t:Nat} {D:Dev} {F:List Int} {l:List Snt} {a1 a2 a3 st:PV} {m:Option Nat} {s:St} (hd:DevAt b D s) (h1:b+5<ln) (h2:ln<c) (h3:c≤s.nxt) (ht:c≤t) (htx:t<s.nxt) {L0:Nat} (hb:s.blk t=some (.tok L0)) (hm:TkAt s 3 (l.map Snt.pv) c st m) (hne:some t≠m) :
  LnAt b ln c D F l a1 a2 a3 ((s.set t (some (.tok F.length))).set ln (some (lnRow (b+5) (.sl (.tok t 1) (F.map (PV.int .i64))) a1 a2 a3 st)))∧Out b ln c s ((s.set t (some (.tok F.length))).set ln (some (lnRow (b+5) (.sl (.tok t 1) (F.map (PV.int .i64))) a1 a2 a3 st))):=by
 refine ⟨⟨⟨_,st,some t,m,blk_set_self _ _ _,⟨rfl,?_,ht,htx⟩,hm.keep (fun t' e ht'=>?_) (Nat.le_refl _),.inr hne⟩,(hd.sv Y14 _).sv Y14 _,h1,h2,h3⟩,Nat.le_refl _,fun j q1 qt q2 _=>?_⟩
 ·exact Y163
 ·exact Y387
 ·rw [blk_set_ne q2,blk_set_ne Y332]
theorem LnAt.newS {b ln c:Nat} {D:Dev} {F:List Int} {l:List Snt} {a1 a2 a3 x:PV} {n:Option Nat} {s:St} (hd:DevAt b D s) (h1:b+5<ln) (h2:ln<c) (h3:c≤s.nxt) (hm:TkAt s 1 (F.map (PV.int .i64)) c x n) :
  LnAt b ln c D F l a1 a2 a3 ((s.new (.tok l.length)).set ln (some (lnRow (b+5) x a1 a2 a3 (.sl (.tok s.nxt 3) (l.map Snt.pv)))))∧Out b ln c s ((s.new (.tok l.length)).set ln (some (lnRow (b+5) x a1 a2 a3 (.sl (.tok s.nxt 3) (l.map Snt.pv))))):=by
 refine ⟨⟨⟨x,_,n,some s.nxt,blk_set_self _ _ _,hm.keep (fun t e ht=>?_) (Nat.le_succ _),⟨rfl,?_,h3,Nat.lt_succ_self _⟩,.inr ?_⟩,(hd.nw Y14 _).sv Y14 _,h1,h2,Nat.le_succ_of_le h3⟩,Nat.le_succ _,fun j q1 _ q2 _=>?_⟩
 ·subst e
  have:=hm.2.2.1
  rw [blk_set_ne Y14,blk_new_ne Y14]
 ·rw [blk_set_ne Y14,List.length_map];exact blk_new_eq
 ·rintro rfl
  have:=hm.2.2.2
  omega
 ·exact Y331
theorem LnAt.setS {b ln c t:Nat} {D:Dev} {F:List Int} {l:List Snt} {a1 a2 a3 x:PV} {n:Option Nat} {s:St} (hd:DevAt b D s) (h1:b+5<ln) (h2:ln<c) (h3:c≤s.nxt) (ht:c≤t) (htx:t<s.nxt) {L0:Nat} (hb:s.blk t=some (.tok L0)) (hm:TkAt s 1 (F.map (PV.int .i64)) c x n) (hne:n≠some t) :
  LnAt b ln c D F l a1 a2 a3 ((s.set t (some (.tok l.length))).set ln (some (lnRow (b+5) x a1 a2 a3 (.sl (.tok t 3) (l.map Snt.pv)))))∧Out b ln c s ((s.set t (some (.tok l.length))).set ln (some (lnRow (b+5) x a1 a2 a3 (.sl (.tok t 3) (l.map Snt.pv))))):=by
 refine ⟨⟨⟨x,_,n,some t,blk_set_self _ _ _,hm.keep (fun t' e ht'=>?_) (Nat.le_refl _),⟨rfl,?_,ht,htx⟩,.inr hne⟩,(hd.sv Y14 _).sv Y14 _,h1,h2,h3⟩,Nat.le_refl _,fun j q1 qt q2 _=>?_⟩
 ·exact Y387
 ·exact Y163
 ·rw [blk_set_ne q2,blk_set_ne Y332]
theorem LnAt.cutF {b ln c t k:Nat} {D:Dev} {F:List Int} {l:List Snt} {a1 a2 a3 st:PV} {m:Option Nat} {s:St} (hd:DevAt b D s) (h1:b+5<ln) (h2:ln<c) (h3:c≤s.nxt) (ht:c≤t) (htx:t<s.nxt) {L0:Nat} (hb:s.blk t=some (.tok L0)) (hm:TkAt s 3 (l.map Snt.pv) c st m) (hne:some t≠m) (hk:k=F.length) :
  LnAt b ln c D F l a1 a2 a3 (((s.set t none).new (.tok k)).set ln (some (lnRow (b+5) (.sl (.tok s.nxt 1) (F.map (PV.int .i64))) a1 a2 a3 st)))∧Out b ln c s (((s.set t none).new (.tok k)).set ln (some (lnRow (b+5) (.sl (.tok s.nxt 1) (F.map (PV.int .i64))) a1 a2 a3 st))):=by
 subst hk
 have ho:Out b ln c s (s.set t none):=⟨Nat.le_refl _,fun j q1 qt q2 _=>blk_set_ne Y332⟩
 have hm':TkAt (s.set t none) 3 (l.map Snt.pv) c st m:=hm.keep (fun t' e ht'=>blk_set_ne (fun e'=>hne (by rw [e,e']))) (Nat.le_refl _)
 obtain ⟨k1,k2⟩:=LnAt.newF (F:=F) (a1:=a1) (a2:=a2) (a3:=a3) (hd.sv Y14 none) h1 h2 h3 hm'
 exact ⟨k1,ho.trans k2⟩
attribute [local go_sem] set_set putDev_hi putDev_nxt
theorem Y443 {p:Prop} (h:p:=by rw [Tryz.cz54];first | done | rfl):p:=h
theorem Y54 {p:Prop} (h:p:=by first | exact isEls_map (P:=Tryz.prog) (e:=54) (f:=Snt.pv) (fun a=>⟨rfl,Y443⟩) _ |(intro p hp;cases hp)):p:=h
theorem Y164 {p:Prop} (h:p:=by simp only [go_sem,List.map_cons,List.map_nil,Snt.pv,↓reduceIte,Nat.reduceEqDiff,H]<;>rfl):p:=h
theorem Y224 {p:Prop} (h:p:=by simp only [Tryz.f27,go_sem,↓reduceIte]<;>rfl):p:=h
theorem Y333 {p:Prop} (h:p:=by rw [Tryz.by54];simp<;>omega):p:=h
set_option maxRecDepth 100000 in
theorem line_SendXN {ln b:Nat} {a0 a1 a2 a3 c0 c1 c2 c3 st9:PV} {S9:St} {D:Dev} {tn tick f:Int} (hf:0≤f∧f≤4) {fr:List Int} (hfo:OkB fr) (hfl:fr.length≤140737488350000) {s:St} (hl:s.blk ln=some (lnRow (b+5) a0 a1 a2 a3 (.sl .nil []))) (hA:DevAt b D s) (hD:D.ok) (hbl:b+5<ln)
  (htake:ACalls Tryz.prog 44 [.ptr ln 0 0,.int .i64 tn] ((s.new (.tok [(⟨tick,tn,fr⟩:Snt)].length)).set ln (some (lnRow (b+5) a0 a1 a2 a3 (.sl (.tok s.nxt 3) ([(⟨tick,tn,fr⟩:Snt)].map Snt.pv))))) (fun r s'=>r=.int .i64 f∧s'=S9)) (hl9:S9.blk ln=some (lnRow (b+5) c0 c1 c2 c3 st9)) (hA9:DevAt b D S9) (hx9:ln<S9.nxt) :
  ACalls Tryz.prog 27 [.ptr ln 0 0,.int .i64 tn,.int .i64 tick,.sl .unk (fr.map (PV.int .u8))] s (fun r s'=>r=.sl .unk ((sendF f D fr).1.map (PV.int .u8))∧s'=putDev b (sendF f D fr).2 S9):=by
 refine go Tryz.func27 (k:=fun hwf H=>?_)
 unfold lnRow at hl
 have hlt:=lt_blk hwf hl
 obtain ⟨Nf,hdoes,hcal,hbody⟩:=line_body hf
 have n1:(ln=s.nxt)=False:=eq_false Y14
 have hfl2:fr.length*1≤140737488355328:=Y14
 have H:=aj n1 H
 have H:=aj hl H
 refine rs (k:=rg [0,1,2,3] (k:=rs (k:=rH 15 [11,14] [[false,false],[true,false],[true,true]] [s,(s.new (.tok [(⟨tick,tn,fr⟩:Snt)].length)),((s.new (.tok [(⟨tick,tn,fr⟩:Snt)].length)).set ln (some (.row 59 [.agg [.ptr (b+5) 0 0,a0,a1,a2,a3,.sl (.tok s.nxt 3) ([(⟨tick,tn,fr⟩:Snt)].map Snt.pv)]])))] Tryz.mixed (k:=?_))))
 refine dP [0,1] (pre:=[_,_,_,_,_,_,_,_]) (k:=?_)
 refine dC [0] (h:=fun s _=>clone_u8 (xs:=fr) hfl2) (k:=?_)
 refine dP [0] (pre:=[_,_]) (k:=?_)
 refine DetHC.app (kx:=.nil) (xs:=[]) (ys:=[(⟨tick,tn,fr⟩:Snt)].map Snt.pv) (v:=.sl (.tok s.nxt 3) ([(⟨tick,tn,fr⟩:Snt)].map Snt.pv)) [(0,1)] _ Y19 pq au au Y164 Tryz.td50 Y386 Y54 Y54 Y330 Y333 (by intro q hq;rw [List.mem_singleton.1 hq];exact aAppend_nilL (f:=Snt.pv) (ys:=[(⟨tick,tn,fr⟩:Snt)]) Y66 (by rw [Tryz.cz54])) ?_
 refine dP [1] (pre:=[_,_]) (k:=?_)
 refine dE [(1,2)] (k:=?_)
 refine DetHC.nil ?_
 refine rl [0,1,3] (k:=rs (k:=rr (k:=ro (pre:=[_,_,_]) (k:=?_))))
 refine RunO.callw au au au Y19 ((htake).mono ?_)
 rintro r s1 ⟨rfl,hs⟩
 subst s1
 refine rC (h:=hdoes hx9) (k:=rh [3,9] (k:=rs (k:=rr (k:=ro (pre:=[_]) (k:=rC (h:=rtu_Read hfo hfl) (k:=rh [9,10,11,12] (k:=rs (k:=rs (k:=rg [9,11,43] (k:=rc (ht:=fun hc0=>?_) (hf:=fun hc0=>?_)))))))))))
 refine rs (k:=rg [8] (k:=rR (k:=?_)))
 refine jO 1 ?_;rotate_left
 refine rk (k:=rs (k:=?_))
 have hrt:(rtuF fr).2=0∧(rtuF fr).1.1=17:=Y76
 have hpd:=rtu_pdu hrt.1
 have hso:sendF f D fr=lineF f D (rtuF fr).1.2:=if_pos hrt
 refine rr (k:=ro (pre:=[_,_]) (k:=?_))
 refine RunO.callw au au au hcal ((hbody hl9 hA9 hD (rtu_ok hfo) hpd.2.1 hpd.1).mono ?_)
 rintro r s1 ⟨rfl,hs⟩
 subst s1
 refine rC (h:=clip_u8 (xs:=(lineF f D (rtuF fr).1.2).1)) (k:=rh [8] (k:=rR (k:=?_)))
 refine jO 1 ?_;rotate_left
 any_goals
  refine jI 1 ?_
  first
   |(have hso:sendF f D fr=([],D):=if_neg (by rintro ⟨e1,e2⟩;rw [e1,e2] at hc0;cases hc0)
     refine Ret.allW (r':=.sl .unk []) Y224 Y361 ⟨by rw [hso];rfl,?_⟩
     rw [hso]
     exact (putDev_self hA9).symm)
   |(refine Ret.allW (r':=.sl .unk ((sendF f D fr).1.map (PV.int .u8))) Y224 ?_ ⟨rfl,?_⟩
     ·rw [hso];simp only [PV.weak,weaks_u8]
     ·rw [hso]<;>rfl)
attribute [local go_sem] set_set putDev_hi putDev_nxt
set_option maxRecDepth 100000 in
theorem line_SendXT {ln b t:Nat} {a0 a1 a2 a3 c0 c1 c2 c3 st9:PV} {S9:St} {D:Dev} {tn tick f:Int} (hf:0≤f∧f≤4) {fr:List Int} (hfo:OkB fr) (hfl:fr.length≤140737488350000) {l:List Snt} (hL:l.length≤100000) {s:St} (hl:s.blk ln=some (lnRow (b+5) a0 a1 a2 a3 (.sl (.tok t 3) (l.map Snt.pv)))) (hA:DevAt b D s) (hD:D.ok) (hbl:b+5<ln) (ht:s.blk t=some (.tok l.length)) (hne:t≠ln) (hbt:b+5<t)
  (htake:ACalls Tryz.prog 44 [.ptr ln 0 0,.int .i64 tn] ((s.set t (some (.tok (l++[(⟨tick,tn,fr⟩:Snt)]).length))).set ln (some (lnRow (b+5) a0 a1 a2 a3 (.sl (.tok t 3) ((l++[(⟨tick,tn,fr⟩:Snt)]).map Snt.pv))))) (fun r s'=>r=.int .i64 f∧s'=S9)) (hl9:S9.blk ln=some (lnRow (b+5) c0 c1 c2 c3 st9)) (hA9:DevAt b D S9) (hx9:ln<S9.nxt) :
  ACalls Tryz.prog 27 [.ptr ln 0 0,.int .i64 tn,.int .i64 tick,.sl .unk (fr.map (PV.int .u8))] s (fun r s'=>r=.sl .unk ((sendF f D fr).1.map (PV.int .u8))∧s'=putDev b (sendF f D fr).2 S9):=by
 refine go Tryz.func27 (k:=fun hwf H=>?_)
 unfold lnRow at hl
 have hlt:=lt_blk hwf hl
 obtain ⟨Nf,hdoes,hcal,hbody⟩:=line_body hf
 have n1:(ln=s.nxt)=False:=eq_false Y14
 have hfl2:fr.length*1≤140737488355328:=Y14
 have H:=aj n1 H
 have htl:=lt_blk hwf ht
 have n2:(ln=t)=False:=eq_false Y14
 have n3:(t=ln)=False:=eq_false Y14
 have H:=aj n2 (aj n3 H)
 have H:=aj hl H
 refine rs (k:=rg [0,1,2,3] (k:=rs (k:=rH 15 [11,14] [[false,false],[true,false],[true,true]] [s,(s.set t (some (.tok (l++[(⟨tick,tn,fr⟩:Snt)]).length))),((s.set t (some (.tok (l++[(⟨tick,tn,fr⟩:Snt)]).length))).set ln (some (.row 59 [.agg [.ptr (b+5) 0 0,a0,a1,a2,a3,.sl (.tok t 3) ((l++[(⟨tick,tn,fr⟩:Snt)]).map Snt.pv)]])))] Tryz.mixed (k:=?_))))
 refine dP [0,1] (pre:=[_,_,_,_,_,_,_,_]) (k:=?_)
 refine dC [0] (h:=fun s _=>clone_u8 (xs:=fr) hfl2) (k:=?_)
 refine dP [0] (pre:=[_,_]) (k:=?_)
 refine DetHC.app (kx:=.tok t 3) (xs:=l.map Snt.pv) (ys:=[(⟨tick,tn,fr⟩:Snt)].map Snt.pv) (v:=.sl (.tok t 3) ((l++[(⟨tick,tn,fr⟩:Snt)]).map Snt.pv)) [(0,1)] _ Y19 pq au au Y164 Tryz.td50 Y386 Y54 Y54 Y330 Y333 (by intro q hq;rw [List.mem_singleton.1 hq];exact aAppend_tokL (f:=Snt.pv) (xs:=l) (ys:=[(⟨tick,tn,fr⟩:Snt)]) rfl Y66 ht rfl (by rw [Tryz.cz54])) ?_
 refine dP [1] (pre:=[_,_]) (k:=?_)
 refine dE [(1,2)] (k:=?_)
 refine DetHC.nil ?_
 refine rl [0,1,3] (k:=rs (k:=rr (k:=ro (pre:=[_,_,_]) (k:=?_))))
 refine RunO.callw au au au Y19 ((htake).mono ?_)
 rintro r s1 ⟨rfl,hs⟩
 subst s1
 refine rC (h:=hdoes hx9) (k:=rh [3,9] (k:=rs (k:=rr (k:=ro (pre:=[_]) (k:=rC (h:=rtu_Read hfo hfl) (k:=rh [9,10,11,12] (k:=rs (k:=rs (k:=rg [9,11,43] (k:=rc (ht:=fun hc0=>?_) (hf:=fun hc0=>?_)))))))))))
 refine rs (k:=rg [8] (k:=rR (k:=?_)))
 refine jO 1 ?_;rotate_left
 refine rk (k:=rs (k:=?_))
 have hrt:(rtuF fr).2=0∧(rtuF fr).1.1=17:=Y76
 have hpd:=rtu_pdu hrt.1
 have hso:sendF f D fr=lineF f D (rtuF fr).1.2:=if_pos hrt
 refine rr (k:=ro (pre:=[_,_]) (k:=?_))
 refine RunO.callw au au au hcal ((hbody hl9 hA9 hD (rtu_ok hfo) hpd.2.1 hpd.1).mono ?_)
 rintro r s1 ⟨rfl,hs⟩
 subst s1
 refine rC (h:=clip_u8 (xs:=(lineF f D (rtuF fr).1.2).1)) (k:=rh [8] (k:=rR (k:=?_)))
 refine jO 1 ?_;rotate_left
 any_goals
  refine jI 1 ?_
  first
   |(have hso:sendF f D fr=([],D):=if_neg (by rintro ⟨e1,e2⟩;rw [e1,e2] at hc0;cases hc0)
     refine Ret.allW (r':=.sl .unk []) Y224 Y361 ⟨by rw [hso];rfl,?_⟩
     rw [hso]
     exact (putDev_self hA9).symm)
   |(refine Ret.allW (r':=.sl .unk ((sendF f D fr).1.map (PV.int .u8))) Y224 ?_ ⟨rfl,?_⟩
     ·rw [hso];simp only [PV.weak,weaks_u8]
     ·rw [hso]<;>rfl)
theorem Y277 {p:Prop} (h:p:=by intro q hq;rw [List.mem_singleton.1 hq];exact ⟨by rw [List.length_map];exact ht,rfl,by rw [List.length_map];rfl⟩):p:=h
theorem line_take0C {ln d t:Nat} {a1 a2 a3 st:PV} {x:Int} {L:List Int} (hL:L.length<1000) {s:St} (hl:s.blk ln=some (lnRow d (.sl (.tok t 1) ((x::L).map (PV.int .i64))) a1 a2 a3 st)) (ht:s.blk t=some (.tok (x::L).length)) (hne:t≠ln):ACalls Tryz.prog 44 [.ptr ln 0 0,.int .i64 0] s (fun r s'=>r=.int .i64 x∧s'=(((s.set t none).new (.tok L.length)).set ln (some (lnRow d (.sl (.tok s.nxt 1) (L.map (PV.int .i64))) a1 a2 a3 st)))):=by
 refine go Tryz.func44 (k:=fun hwf H=>?_)
 unfold lnRow at hl
 have hlt:=lt_blk hwf hl
 have htl:=lt_blk hwf ht
 have f0:((0:Int)<((4:Nat):Int))=True:=eq_true Y15
 have f1:((0:Int)≤0)=True:=eq_true Y15
 have f2:Int.toNat 0=0:=rfl
 have f3:decide ((0:Int)≤0)=true:=Y15
 have f4:decide ((0:Int)<4)=true:=Y15
 have H:=aj f0 (aj f1 (aj f2 (aj f3 (aj f4 H))))
 have g0:decide (((L.length+1:Nat):Int)=0)=false:=decide_eq_false Y14
 have n1:(ln=s.nxt)=False:=eq_false Y14
 have n2:(ln=t)=False:=eq_false (fun e=>hne e.symm)
 have g4:(0<L.length+1)=True:=eq_true Y14
 have h1n:Int.toNat 1=1:=rfl
 have h10:((1:Int)=0)=False:=eq_false Y15
 have H:=aj g0 (aj n1 (aj n2 (aj g4 (aj h1n (aj h10 H)))))
 have H:=aj hl H
 refine rs (k:=rg [0,1] (k:=rs (k:=rs (k:=rr (k:=ro (pre:=[_]) (k:=rC (h:=(line_is (t:=0))) (k:=rh [0,1,18] (k:=rc (ht:=fun hc0=>?_) (hf:=fun hc0=>?_)))))))))
 ·cases hc0
 ·refine rk (k:=rs (k:=rg [0,1,5] (k:=rs (k:=rH 13 [8,12] [[false,false],[true,false],[true,true]] [s,((s.set t none).new (.tok L.length)),(((s.set t none).new (.tok L.length)).set ln (some (.row 59 [.agg [.ptr d 0 0,.sl (.tok s.nxt 1) (L.map (PV.int .i64)),a1,a2,a3,st]])))] Tryz.mixed (k:=?_)))))
  refine dP [0,1] (pre:=[_,_,_,_,_,_,_,_]) (k:=?_)
  refine DetHC.cut (tk:=t) (lo:=1) (el:=3) (xs:=(x::L).map (PV.int .i64)) (v:=.sl (.tok s.nxt 1) (L.map (PV.int .i64))) [(0,1)] _ Y19 pq au au au Tryz.td22 Tryz.cz3 Y15 Y15 Y66 Y277 ?_
  refine dP [0,1] (pre:=[_,_,_]) (k:=?_)
  refine dE [(1,2)] (k:=?_)
  refine DetHC.nil ?_
  refine rl [5] (k:=rs (k:=rg [4] (k:=rR (k:=?_))))
  exact Ret.all Y329 ⟨rfl,by unfold lnRow;rfl⟩
theorem line_HurtX {b ln c:Nat} {D:Dev} {F:List Int} {l:List Snt} {a1 a2 a3:PV} {s:St} (h:LnAt b ln c D F l a1 a2 a3 s) {f:Int} (hf:0≤f∧f≤4) (hF:F.length<1000) :
  ACalls Tryz.prog 11 [.ptr ln 0 0,.int .i64 0,.int .i64 f] s (fun r s'=>r=.bool true∧LnAt b ln c D (F++[f]) l a1 a2 a3 s'∧Out b ln c s s'):=by
 obtain ⟨x,st,n,m,r1,r2,r3,r4⟩:=h.row
 have h1:=h.hc
 cases n with
 | none =>
   obtain ⟨rfl,e⟩:=r2
   have e:F=[]:=by cases F with | nil=>rfl | cons _ _=>simp at e
   subst e
   exact (line_Hurt0N hf r1).mono fun r s' ⟨q1,q2⟩=>⟨q1,by rw [q2];exact LnAt.newF h.dev h.lt h.hc h.nx r3⟩
 | some t =>
   obtain ⟨rfl,q2,q3,q4⟩:=r2
   rw [List.length_map] at q2
   exact (line_Hurt0T hF hf r1 q2 Y14).mono fun r s' ⟨k1,k2⟩=>⟨k1,by rw [k2];exact LnAt.setF h.dev h.lt h.hc h.nx q3 q4 q2 r3 (r4.resolve_left Y66)⟩
theorem new_set {s:St} {r:Nat} (hr:r<s.nxt) (v:Option Blk) (x:Blk):(s.set r v).new x=(s.new x).set r v:=by
 refine St.eq_of rfl fun i=>?_
 rw [blk_new,blk_set,blk_set,blk_new]
 show (if i=s.nxt then _ else _)=_
 by_cases h1:i=s.nxt
 ·rw [if_pos h1,if_neg Y14,if_pos h1]
 ·rw [if_neg h1,if_neg h1]
theorem set_same {s:St} {r:Nat} {v:Option Blk} (h:s.blk r=v):s.set r v=s:=by
 refine St.eq_of rfl fun i=>?_
 rw [blk_set]
 split
 ·rename_i e;rw [e];exact h.symm
 ·rfl
theorem Y334 {p:Prop} (h:p:=by rw [blk_set_ne Y14,blk_new_ne (by show r≠s.nxt;omega),blk_set_ne (Ne.symm htr)];exact hrb):p:=h
theorem line_takeV {b ln c r:Nat} {D:Dev} {F:List Int} {l:List Snt} {a1 a2 a3:PV} {s:St} (h:LnAt b ln c D F l a1 a2 a3 s) (hF:F.length≤1000) (hr:c≤r) (hrx:r<s.nxt) (hrb:s.blk r=some .res) :
  ∃ S9,(∀ v,ACalls Tryz.prog 44 [.ptr ln 0 0,.int .i64 0] (s.set r v) (fun x s'=>x=.int .i64 (F.headD 0)∧s'=S9.set r v))∧LnAt b ln c D F.tail l a1 a2 a3 S9∧Out b ln c s S9∧S9.blk r=some .res:=by
 obtain ⟨x,st,n,m,r1,r2,r3,r4⟩:=h.row
 have h1:=h.hc
 cases F with
 | nil =>
   refine ⟨s,fun v=>?_,h,Out.refl _ _ _ _,hrb⟩
   have r1':(s.set r v).blk ln=some (lnRow (b+5) x a1 a2 a3 st):=Y162
   cases n with
   | none =>
     obtain ⟨rfl,_⟩:=r2
     exact line_take0 r1'
   | some t =>
     obtain ⟨rfl,_⟩:=r2
     exact line_take0 r1'
 | cons f L =>
   cases n with
   | none=>exact absurd r2.2 Y66
   | some t =>
     obtain ⟨rfl,q2,q3,q4⟩:=r2
     rw [List.length_map] at q2
     have htr:t≠r:=by rintro rfl;rw [hrb] at q2;cases q2
     obtain ⟨k1,k2⟩:=LnAt.cutF (F:=L) (a1:=a1) (a2:=a2) (a3:=a3) h.dev h.lt h.hc h.nx q3 q4 q2 r3 (r4.resolve_left Y66) rfl
     refine ⟨_,fun v=>?_,k1,k2,Y334⟩
     have r1':(s.set r v).blk ln=some (lnRow (b+5) (.sl (.tok t 1) ((f::L).map (PV.int .i64))) a1 a2 a3 st):=Y162
     refine (line_take0C (t:=t) (x:=f) (L:=L) (by simp at hF;omega) r1' (by rw [blk_set_ne htr];exact q2) Y14).mono fun y s' ⟨e1,e2⟩=>⟨e1,?_⟩
     rw [e2,set_comm _ (Ne.symm htr),new_set (by show r<s.nxt;omega),set_comm _ (show r≠ln from Y14)]
     first | done | rfl
theorem Y388 {p:Prop} (h:p:=by rw [putDev_hi Y14];exact t4):p:=h
theorem Y444 {p:Prop} (h:p:=by show ln<S9.nxt;omega):p:=h
theorem line_SendV {b ln c r:Nat} {D:Dev} {F:List Int} {l:List Snt} {a1 a2 a3:PV} {s:St} (h:LnAt b ln c D F l a1 a2 a3 s) (hD:D.ok) (hF:F.length≤1000) (hf:0≤F.headD 0∧F.headD 0≤4) (hl:l.length≤100000) {fr:List Int} (hfo:OkB fr) (hfl:fr.length≤140737488350000) {tick:Int}
  (hr:c≤r) (hrx:r<s.nxt) (hrb:s.blk r=some .res) {B:List Int} {D':Dev} (hs:sendF (F.headD 0) D fr=(B,D')) (hlen:D'.c0.length=D.c0.length) :
  ∃ S9,(∀ v,ACalls Tryz.prog 27 [.ptr ln 0 0,.int .i64 0,.int .i64 tick,.sl .unk (fr.map (PV.int .u8))] (s.set r v) (fun x s'=>x=.sl .unk (B.map (PV.int .u8))∧s'=S9.set r v))∧LnAt b ln c D' F.tail (l++[⟨tick,0,fr⟩]) a1 a2 a3 S9∧Out b ln c s S9∧S9.blk r=some .res:=by
 have e1:(sendF (F.headD 0) D fr).1=B:=by rw [hs]
 have e2:(sendF (F.headD 0) D fr).2=D':=by rw [hs]
 obtain ⟨x,st,n,m,r1,r2,r3,r4⟩:=h.row
 have h1:=h.hc
 have h2:=h.nx
 have h3:=h.lt
 have hdv:∀ v,DevAt b D (s.set r v):=fun v=>h.dev.sv Y14 _
 cases m with
 | none =>
   obtain ⟨rfl,e⟩:=r3
   have e:l=[]:=by cases l with | nil=>rfl | cons _ _=>simp at e
   subst e
   obtain ⟨k1,k2⟩:=LnAt.newS (l:=[⟨tick,0,fr⟩]) (a1:=a1) (a2:=a2) (a3:=a3) h.dev h.lt h.hc h.nx r2
   obtain ⟨S9,t1,t2,t3,t4⟩:=line_takeV k1 hF hr (Nat.lt_succ_of_lt hrx) (by rw [blk_set_ne Y14,blk_new_ne Y14];exact hrb)
   obtain ⟨x9,st9,n9,m9,w1,_⟩:=t2.row
   have h9:=t2.nx
   obtain ⟨p1,p2⟩:=t2.put (D':=D') hlen
   refine ⟨_,fun v=>?_,p1,(k2.trans t3).trans p2,Y388⟩
   have ht:=t1 v
   rw [← set_comm _ (show r≠ln from Y14),← new_set hrx] at ht
   refine (line_SendXN hf hfo hfl Y162 (hdv v) hD h.lt ht (by rw [blk_set_ne Y14];exact w1) (t2.dev.sv Y14 _) Y444).mono fun y s' ⟨q1,q2⟩=>⟨by rw [q1,e1],?_⟩
   rw [q2,e2]
   exact putDev_set Y14 v
 | some t =>
   obtain ⟨rfl,q2,q3,q4⟩:=r3
   rw [List.length_map] at q2
   have htr:t≠r:=by rintro rfl;rw [hrb] at q2;cases q2
   have hne:n≠some t:=by rcases r4 with e | e;rw [e];simp;exact e
   obtain ⟨k1,k2⟩:=LnAt.setS (l:=l++[⟨tick,0,fr⟩]) (a1:=a1) (a2:=a2) (a3:=a3) h.dev h.lt h.hc h.nx q3 q4 q2 r2 hne
   obtain ⟨S9,t1,t2,t3,t4⟩:=line_takeV k1 hF hr hrx (by rw [blk_set_ne Y14,blk_set_ne (Ne.symm htr)];exact hrb)
   obtain ⟨x9,st9,n9,m9,w1,_⟩:=t2.row
   have h9:=t2.nx
   obtain ⟨p1,p2⟩:=t2.put (D':=D') hlen
   refine ⟨_,fun v=>?_,p1,(k2.trans t3).trans p2,Y388⟩
   have ht:=t1 v
   rw [← set_comm _ (show r≠ln from Y14),← set_comm _ (Ne.symm htr)] at ht
   refine (line_SendXT hf hfo hfl hl Y162 (hdv v) hD h.lt (by rw [blk_set_ne htr];exact q2) Y14 Y14 ht (by rw [blk_set_ne Y14];exact w1) (t2.dev.sv Y14 _) Y444).mono fun y s' ⟨z1,z2⟩=>⟨by rw [z1,e1],?_⟩
   rw [z2,e2]
   exact putDev_set Y14 v
theorem line_SentX {b ln c:Nat} {D:Dev} {F:List Int} {l:List Snt} {a1 a2 a3:PV} {s:St} (h:LnAt b ln c D F l a1 a2 a3 s) (hll:l.length≤100000) (hld:∀ x∈l,x.data.length≤140737488350000):ACalls Tryz.prog 17 [.ptr ln 0 0] s (fun r s'=>r=.sl .unk (l.map Snt.pv)∧s'=s):=by
 obtain ⟨x,st,n,m,r1,r2,r3,_⟩:=h.row
 cases m with
 | none =>
   obtain ⟨rfl,e⟩:=r3
   have e:l=[]:=by cases l with | nil=>rfl | cons _ _=>simp at e
   subst e
   exact line_Sent (k:=.nil) (l:=[]) hll hld r1
 | some t =>
   obtain ⟨rfl,_⟩:=r3
   exact line_Sent hll hld r1
end Go.Proofs
namespace Go.Proofs
open Go.PM
set_option maxHeartbeats 2000000
def lnR (ty d:Nat) (xs:List PV) (st:PV):Blk:=.row ty [.agg (.ptr d 0 0::(xs++[st]))]
theorem drop_one {xs:List PV} {st x p:PV} {T:Nat} (h:xs[T]? =some x):List.drop (1+T) (p::(xs++[st]))=x::List.drop (T+1) (xs++[st]):=by
 have ht:T<xs.length:=(List.getElem?_eq_some_iff.1 h).1
 rw [Nat.add_comm,List.drop_succ_cons,List.drop_eq_getElem_cons (by rw [List.length_append];omega),List.getElem_append_left ht]
 rw [List.getElem?_eq_getElem ht] at h
 rw [Option.some.inj h]
theorem set_one {xs:List PV} {st p v:PV} {T:Nat} (ht:T<xs.length):(p::(xs++[st])).set (1+T) v=p::(xs.set T v++[st]):=by
 rw [Nat.add_comm 1 T,List.set_cons_succ,List.set_append_left _ _ ht]
theorem app_new {P:Program} {e:TypeId} {k:SK} {f:Int→PV} {ys:List Int} {s:St} {z:Nat} (hk:k=.nil∨k=.clip) (hy:ys≠[]) (hc:P.cellsOf e=z):aAppend P e k [] (ys.map f) s=some (.sl (.tok s.nxt z) (ys.map f),s.new (.tok ys.length)):=by
 unfold aAppend
 rw [if_neg (by simpa using hy),hc]
 rcases hk with rfl | rfl<;>simp
theorem Y107 {p:Prop} (h:p:=by rw [List.length_append];simp;omega):p:=h
theorem Y278 {p:Prop} (h:p:=by intro q hq;rw [List.mem_singleton.1 hq];exact app_new (f:=PV.int .i64) (ys:=[F]) hk Y66 (by rw [Tryz.cz3])):p:=h
theorem line_HurtGN {ln d T:Nat} {xs:List PV} {st:PV} {L:List Int} {k:SK} {F:Int} (hT:T<4) (hF:0≤F∧F≤4) (hxl:xs.length=4) (hk:k=.nil∨k=.clip) (hx:xs[T]? =some (.sl k [])) {s:St} (hl:s.blk ln=some (lnR 59 d xs st)):ACalls Tryz.prog 11 [.ptr ln 0 0,.int .i64 (T:Int),.int .i64 F] s (fun r s'=>r=.bool true∧s'=((s.new (.tok [F].length)).set ln (some (lnR 59 d (xs.set T (.sl (.tok s.nxt 1) ([F].map (PV.int .i64)))) st)))):=by
 refine go Tryz.func11 (k:=fun hwf H=>?_)
 unfold lnR at hl
 have ht4:((T:Int)<((4:Nat):Int))=True:=eq_true Y14
 have ht0:decide ((0:Int)≤(T:Int))=true:=decide_eq_true Y14
 have ht5:decide ((T:Int)<4)=true:=decide_eq_true Y14
 have hdr:=drop_one (st:=st) (p:=.ptr d 0 0) hx
 have hst:=fun v=>set_one (st:=st) (p:=.ptr d 0 0) (v:=v) (show T<xs.length from Y14)
 have H:=aj ht4 (aj ht0 (aj ht5 (aj hdr (aj hst H))))
 have hlt:=lt_blk hwf hl
 have g1:decide (F<0)=false:=decide_eq_false Y14
 have g2:decide (4<F)=false:=decide_eq_false Y14
 have g6:decide ((T:Int)<0)=false:=decide_eq_false Y14
 have g7:decide (4≤(T:Int))=false:=decide_eq_false Y14
 have g8:(1+T≤(xs++[st]).length)=True:=eq_true Y107
 have H:=aj g1 (aj g2 (aj g6 (aj g7 (aj g8 H))))
 have g3:decide ((1000:Int)≤0)=false:=Y15
 have H:=aj g3 H
 have n1:(ln=s.nxt)=False:=eq_false Y14
 have H:=aj n1 H
 have H:=aj hl H
 refine rs (k:=rg [0,1,2] (k:=rs (k:=rs (k:=rr (k:=ro (pre:=[_]) (k:=rC (h:=(line_is (t:=(T:Int)))) (k:=rh [0,1,2,27] (k:=rc (ht:=fun hc0=>?_) (hf:=fun hc0=>?_)))))))))
 ·cases hc0
 ·refine rk (k:=rs (k:=rH 15 [10,14] [[false,false],[true,false],[true,true]] [s,(s.new (.tok [F].length)),((s.new (.tok [F].length)).set ln (some (.row 59 [.agg (.ptr d 0 0::(xs.set T (.sl (.tok s.nxt 1) ([F].map (PV.int .i64)))++[st]))])))] Tryz.mixed (k:=?_)))
  refine dP [0,1] (pre:=[_,_,_,_,_,_,_,_,_,_]) (k:=?_)
  refine DetHC.app (kx:=k) (xs:=[]) (ys:=[F].map (PV.int .i64)) (v:=(.sl (.tok s.nxt 1) ([F].map (PV.int .i64)))) [(0,1)] _ Y19 pq au au au Tryz.td22 Y328 Y53 (isEls_map (P:=Tryz.prog) (e:=3) (f:=PV.int .i64) (fun a=>⟨rfl,Y157⟩) _) Y276 Y158 Y278 ?_
  refine dP [0,1] (pre:=[_,_,_]) (k:=?_)
  refine dE [(1,2)] (k:=?_)
  refine DetHC.nil ?_
  refine rl [] (k:=rs (k:=rg [6] (k:=rR (k:=?_))))
  exact Ret.all Y223 ⟨rfl,by unfold lnR;rfl⟩
theorem ref17_HurtGN {ln d T:Nat} {xs:List PV} {st:PV} {L:List Int} {k:SK} {F:Int} (hT:T<4) (hF:0≤F∧F≤4) (hxl:xs.length=4) (hk:k=.nil∨k=.clip) (hx:xs[T]? =some (.sl k [])) {s:St} (hl:s.blk ln=some (lnR 76 d xs st)):ACalls Tryz.prog 32 [.ptr ln 0 0,.int .i64 (T:Int),.int .i64 F] s (fun r s'=>r=.bool true∧s'=((s.new (.tok [F].length)).set ln (some (lnR 76 d (xs.set T (.sl (.tok s.nxt 1) ([F].map (PV.int .i64)))) st)))):=by
 refine go Tryz.func32 (k:=fun hwf H=>?_)
 unfold lnR at hl
 have ht4:((T:Int)<((4:Nat):Int))=True:=eq_true Y14
 have ht0:decide ((0:Int)≤(T:Int))=true:=decide_eq_true Y14
 have ht5:decide ((T:Int)<4)=true:=decide_eq_true Y14
 have hdr:=drop_one (st:=st) (p:=.ptr d 0 0) hx
 have hst:=fun v=>set_one (st:=st) (p:=.ptr d 0 0) (v:=v) (show T<xs.length from Y14)
 have H:=aj ht4 (aj ht0 (aj ht5 (aj hdr (aj hst H))))
 have hlt:=lt_blk hwf hl
 have g1:decide (F<0)=false:=decide_eq_false Y14
 have g2:decide (4<F)=false:=decide_eq_false Y14
 have g6:decide ((T:Int)<0)=false:=decide_eq_false Y14
 have g7:decide (4≤(T:Int))=false:=decide_eq_false Y14
 have g8:(1+T≤(xs++[st]).length)=True:=eq_true Y107
 have H:=aj g1 (aj g2 (aj g6 (aj g7 (aj g8 H))))
 have g3:decide ((1000:Int)≤0)=false:=Y15
 have H:=aj g3 H
 have n1:(ln=s.nxt)=False:=eq_false Y14
 have H:=aj n1 H
 have H:=aj hl H
 refine rs (k:=rg [0,1,2] (k:=rs (k:=rs (k:=rg [0,1,2,30] (k:=rc (ht:=fun hc0=>?_) (hf:=fun hc0=>?_))))))
 ·cases hc0
 ·refine rk (k:=rs (k:=rH 15 [10,14] [[false,false],[true,false],[true,true]] [s,(s.new (.tok [F].length)),((s.new (.tok [F].length)).set ln (some (.row 76 [.agg (.ptr d 0 0::(xs.set T (.sl (.tok s.nxt 1) ([F].map (PV.int .i64)))++[st]))])))] Tryz.mixed (k:=?_)))
  refine dP [0,1] (pre:=[_,_,_,_,_,_,_,_,_,_]) (k:=?_)
  refine DetHC.app (kx:=k) (xs:=[]) (ys:=[F].map (PV.int .i64)) (v:=(.sl (.tok s.nxt 1) ([F].map (PV.int .i64)))) [(0,1)] _ Y19 pq au au au Tryz.td22 Y328 Y53 (isEls_map (P:=Tryz.prog) (e:=3) (f:=PV.int .i64) (fun a=>⟨rfl,Y157⟩) _) Y276 Y158 Y278 ?_
  refine dP [0,1] (pre:=[_,_,_]) (k:=?_)
  refine dE [(1,2)] (k:=?_)
  refine DetHC.nil ?_
  refine rl [] (k:=rs (k:=rg [6] (k:=rR (k:=?_))))
  exact Ret.all (by simp only [Tryz.f32,go_sem,↓reduceIte]<;>rfl) ⟨rfl,by unfold lnR;rfl⟩
theorem line_HurtGT {ln d T t:Nat} {xs:List PV} {st:PV} {L:List Int} {k:SK} {F:Int} (hT:T<4) (hF:0≤F∧F≤4) (hxl:xs.length=4) (hL:L.length<1000) (hx:xs[T]? =some (.sl (.tok t 1) (L.map (PV.int .i64)))) {s:St} (hl:s.blk ln=some (lnR 59 d xs st)) (ht:s.blk t=some (.tok L.length)) (hne:t≠ln):ACalls Tryz.prog 11 [.ptr ln 0 0,.int .i64 (T:Int),.int .i64 F] s (fun r s'=>r=.bool true∧s'=((s.set t (some (.tok (L++[F]).length))).set ln (some (lnR 59 d (xs.set T (.sl (.tok t 1) ((L++[F]).map (PV.int .i64)))) st)))):=by
 refine go Tryz.func11 (k:=fun hwf H=>?_)
 unfold lnR at hl
 have ht4:((T:Int)<((4:Nat):Int))=True:=eq_true Y14
 have ht0:decide ((0:Int)≤(T:Int))=true:=decide_eq_true Y14
 have ht5:decide ((T:Int)<4)=true:=decide_eq_true Y14
 have hdr:=drop_one (st:=st) (p:=.ptr d 0 0) hx
 have hst:=fun v=>set_one (st:=st) (p:=.ptr d 0 0) (v:=v) (show T<xs.length from Y14)
 have H:=aj ht4 (aj ht0 (aj ht5 (aj hdr (aj hst H))))
 have hlt:=lt_blk hwf hl
 have g1:decide (F<0)=false:=decide_eq_false Y14
 have g2:decide (4<F)=false:=decide_eq_false Y14
 have g6:decide ((T:Int)<0)=false:=decide_eq_false Y14
 have g7:decide (4≤(T:Int))=false:=decide_eq_false Y14
 have g8:(1+T≤(xs++[st]).length)=True:=eq_true Y107
 have H:=aj g1 (aj g2 (aj g6 (aj g7 (aj g8 H))))
 have g3:decide ((1000:Int)≤(L.length:Int))=false:=decide_eq_false Y14
 have H:=aj g3 H
 have n1:(ln=s.nxt)=False:=eq_false Y14
 have H:=aj n1 H
 have n2:(ln=t)=False:=eq_false Y14
 have n3:(t=ln)=False:=eq_false hne
 have H:=aj n2 (aj n3 H)
 have H:=aj hl H
 refine rs (k:=rg [0,1,2] (k:=rs (k:=rs (k:=rr (k:=ro (pre:=[_]) (k:=rC (h:=(line_is (t:=(T:Int)))) (k:=rh [0,1,2,27] (k:=rc (ht:=fun hc0=>?_) (hf:=fun hc0=>?_)))))))))
 ·cases hc0
 ·refine rk (k:=rs (k:=rH 15 [10,14] [[false,false],[true,false],[true,true]] [s,(s.set t (some (.tok (L++[F]).length))),((s.set t (some (.tok (L++[F]).length))).set ln (some (.row 59 [.agg (.ptr d 0 0::(xs.set T (.sl (.tok t 1) ((L++[F]).map (PV.int .i64)))++[st]))])))] Tryz.mixed (k:=?_)))
  refine dP [0,1] (pre:=[_,_,_,_,_,_,_,_,_,_]) (k:=?_)
  refine DetHC.app (kx:=.tok t 1) (xs:=L.map (PV.int .i64)) (ys:=[F].map (PV.int .i64)) (v:=(.sl (.tok t 1) ((L++[F]).map (PV.int .i64)))) [(0,1)] _ Y19 pq au au au Tryz.td22 Y328 Y53 (isEls_map (P:=Tryz.prog) (e:=3) (f:=PV.int .i64) (fun a=>⟨rfl,Y157⟩) _) Y276 Y158 Y159 ?_
  refine dP [0,1] (pre:=[_,_,_]) (k:=?_)
  refine dE [(1,2)] (k:=?_)
  refine DetHC.nil ?_
  refine rl [] (k:=rs (k:=rg [6] (k:=rR (k:=?_))))
  exact Ret.all Y223 ⟨rfl,by unfold lnR;rfl⟩
theorem ref17_HurtGT {ln d T t:Nat} {xs:List PV} {st:PV} {L:List Int} {k:SK} {F:Int} (hT:T<4) (hF:0≤F∧F≤4) (hxl:xs.length=4) (hL:L.length<1000) (hx:xs[T]? =some (.sl (.tok t 1) (L.map (PV.int .i64)))) {s:St} (hl:s.blk ln=some (lnR 76 d xs st)) (ht:s.blk t=some (.tok L.length)) (hne:t≠ln):ACalls Tryz.prog 32 [.ptr ln 0 0,.int .i64 (T:Int),.int .i64 F] s (fun r s'=>r=.bool true∧s'=((s.set t (some (.tok (L++[F]).length))).set ln (some (lnR 76 d (xs.set T (.sl (.tok t 1) ((L++[F]).map (PV.int .i64)))) st)))):=by
 refine go Tryz.func32 (k:=fun hwf H=>?_)
 unfold lnR at hl
 have ht4:((T:Int)<((4:Nat):Int))=True:=eq_true Y14
 have ht0:decide ((0:Int)≤(T:Int))=true:=decide_eq_true Y14
 have ht5:decide ((T:Int)<4)=true:=decide_eq_true Y14
 have hdr:=drop_one (st:=st) (p:=.ptr d 0 0) hx
 have hst:=fun v=>set_one (st:=st) (p:=.ptr d 0 0) (v:=v) (show T<xs.length from Y14)
 have H:=aj ht4 (aj ht0 (aj ht5 (aj hdr (aj hst H))))
 have hlt:=lt_blk hwf hl
 have g1:decide (F<0)=false:=decide_eq_false Y14
 have g2:decide (4<F)=false:=decide_eq_false Y14
 have g6:decide ((T:Int)<0)=false:=decide_eq_false Y14
 have g7:decide (4≤(T:Int))=false:=decide_eq_false Y14
 have g8:(1+T≤(xs++[st]).length)=True:=eq_true Y107
 have H:=aj g1 (aj g2 (aj g6 (aj g7 (aj g8 H))))
 have g3:decide ((1000:Int)≤(L.length:Int))=false:=decide_eq_false Y14
 have H:=aj g3 H
 have n1:(ln=s.nxt)=False:=eq_false Y14
 have H:=aj n1 H
 have n2:(ln=t)=False:=eq_false Y14
 have n3:(t=ln)=False:=eq_false hne
 have H:=aj n2 (aj n3 H)
 have H:=aj hl H
 refine rs (k:=rg [0,1,2] (k:=rs (k:=rs (k:=rg [0,1,2,30] (k:=rc (ht:=fun hc0=>?_) (hf:=fun hc0=>?_))))))
 ·cases hc0
 ·refine rk (k:=rs (k:=rH 15 [10,14] [[false,false],[true,false],[true,true]] [s,(s.set t (some (.tok (L++[F]).length))),((s.set t (some (.tok (L++[F]).length))).set ln (some (.row 76 [.agg (.ptr d 0 0::(xs.set T (.sl (.tok t 1) ((L++[F]).map (PV.int .i64)))++[st]))])))] Tryz.mixed (k:=?_)))
  refine dP [0,1] (pre:=[_,_,_,_,_,_,_,_,_,_]) (k:=?_)
  refine DetHC.app (kx:=.tok t 1) (xs:=L.map (PV.int .i64)) (ys:=[F].map (PV.int .i64)) (v:=(.sl (.tok t 1) ((L++[F]).map (PV.int .i64)))) [(0,1)] _ Y19 pq au au au Tryz.td22 Y328 Y53 (isEls_map (P:=Tryz.prog) (e:=3) (f:=PV.int .i64) (fun a=>⟨rfl,Y157⟩) _) Y276 Y158 Y159 ?_
  refine dP [0,1] (pre:=[_,_,_]) (k:=?_)
  refine dE [(1,2)] (k:=?_)
  refine DetHC.nil ?_
  refine rl [] (k:=rs (k:=rg [6] (k:=rR (k:=?_))))
  exact Ret.all (by simp only [Tryz.f32,go_sem,↓reduceIte]<;>rfl) ⟨rfl,by unfold lnR;rfl⟩
theorem Y279 {p:Prop} (h:p:=by
 refine rs (k:=rg [4] (k:=rR (k:=rP (by simp only [Tryz.f44,go_sem];rfl) hwf ⟨?_,rfl⟩)))
 simp [PV.weak,go_sem]):p:=h
theorem Y389 {p:Prop} (h:p:=by rw [Bool.and_eq_false_iff,decide_eq_false_iff_not,decide_eq_false_iff_not];omega):p:=h
theorem line_takeB {ln:Nat} {tn:Int} (hb:¬ (0≤tn∧tn<4)) {s:St}:ACalls Tryz.prog 44 [.ptr ln 0 0,.int .i64 tn] s (fun r s'=>r=.int .i64 0∧s'=s):=by
 refine go Tryz.func44 (k:=fun hwf H=>?_)
 have f3:(decide ((0:Int)≤tn)&&decide (tn<4))=false:=Y389
 have H:=aj f3 H
 refine rs (k:=rg [0,1] (k:=rs (k:=rs (k:=rr (k:=ro (pre:=[_]) (k:=rC (h:=(line_is (t:=tn))) (k:=ro (pre:=[_,_]) (k:=rg0 (k:=rg0 (k:=rg0 (k:=rg0 (k:=rg0 (k:=rg0 (k:=rg0 (k:=rg0 (k:=rh [0,1,18] (k:=rc (ht:=fun hc0=>?_) (hf:=fun hc0=>?_))))))))))))))))))
 ·exact Y279
 ·cases hc0
theorem Y108 {p:Prop} (h:p:=by
 refine rs (k:=rg [6] (k:=rR (k:=rP (by simp only [Tryz.f11,go_sem];rfl) hwf ⟨?_,rfl⟩)))
 simp [PV.weak,go_sem]):p:=h
theorem line_HurtB1 {ln:Nat} {tn F:Int} {s:St} (hb:¬ (0≤tn∧tn<4)):ACalls Tryz.prog 11 [.ptr ln 0 0,.int .i64 tn,.int .i64 F] s (fun r s'=>r=.bool false∧s'=s):=by
 refine go Tryz.func11 (k:=fun hwf H=>?_)
 have f3:(decide ((0:Int)≤tn)&&decide (tn<4))=false:=Y389
 have H:=aj f3 H
 refine rs (k:=rg [0,1,2] (k:=rs (k:=rs (k:=rr (k:=ro (pre:=[_]) (k:=rC (h:=(line_is (t:=tn))) (k:=ro (pre:=[_,_]) (k:=rg0 (k:=rg0 (k:=ro (pre:=[_,_]) (k:=rg0 (k:=rg0 (k:=ro (pre:=[_,_]) (k:=rg0 (k:=rg0 (k:=rg0 (k:=rg0 (k:=rg0 (k:=rg0 (k:=rg0 (k:=rg0 (k:=rh [0,1,2,27] (k:=rc (ht:=fun hc0=>?_) (hf:=fun hc0=>?_))))))))))))))))))))))))
 ·exact Y108
 ·cases hc0
theorem line_HurtB2 {ln:Nat} {tn F:Int} {s:St} (hb:0≤tn∧tn<4) (hF:F<0):ACalls Tryz.prog 11 [.ptr ln 0 0,.int .i64 tn,.int .i64 F] s (fun r s'=>r=.bool false∧s'=s):=by
 refine go Tryz.func11 (k:=fun hwf H=>?_)
 have f3:decide ((0:Int)≤tn)=true:=decide_eq_true Y14
 have f4:decide (tn<4)=true:=decide_eq_true Y14
 have f5:decide (tn<0)=false:=decide_eq_false Y14
 have f6:decide (4≤tn)=false:=decide_eq_false Y14
 have H:=aj f3 (aj f4 (aj f5 (aj f6 H)))
 have f7:decide (F<0)=true:=decide_eq_true Y14
 have H:=aj f7 H
 refine rs (k:=rg [0,1,2] (k:=rs (k:=rs (k:=rr (k:=ro (pre:=[_]) (k:=rC (h:=(line_is (t:=tn))) (k:=ro (pre:=[_,_]) (k:=rg1 (k:=rg1 (k:=ro (pre:=[_,_]) (k:=rg0 (k:=rg0 (k:=ro (pre:=[_,_]) (k:=rg0 (k:=rg0 (k:=rg0 (k:=rg0 (k:=rg0 (k:=rg0 (k:=rg0 (k:=rg0 (k:=rh [0,1,2,27] (k:=rc (ht:=fun hc0=>?_) (hf:=fun hc0=>?_))))))))))))))))))))))))
 ·exact Y108
 ·cases hc0
theorem line_HurtB3 {ln:Nat} {tn F:Int} {s:St} (hb:0≤tn∧tn<4) (hF:4<F):ACalls Tryz.prog 11 [.ptr ln 0 0,.int .i64 tn,.int .i64 F] s (fun r s'=>r=.bool false∧s'=s):=by
 refine go Tryz.func11 (k:=fun hwf H=>?_)
 have f3:decide ((0:Int)≤tn)=true:=decide_eq_true Y14
 have f4:decide (tn<4)=true:=decide_eq_true Y14
 have f5:decide (tn<0)=false:=decide_eq_false Y14
 have f6:decide (4≤tn)=false:=decide_eq_false Y14
 have H:=aj f3 (aj f4 (aj f5 (aj f6 H)))
 have f7:decide (F<0)=false:=decide_eq_false Y14
 have f8:decide (4<F)=true:=decide_eq_true Y14
 have H:=aj f7 (aj f8 H)
 refine rs (k:=rg [0,1,2] (k:=rs (k:=rs (k:=rr (k:=ro (pre:=[_]) (k:=rC (h:=(line_is (t:=tn))) (k:=ro (pre:=[_,_]) (k:=rg1 (k:=rg1 (k:=ro (pre:=[_,_]) (k:=rg1 (k:=rg1 (k:=ro (pre:=[_,_]) (k:=rg0 (k:=rg0 (k:=rg0 (k:=rg0 (k:=rg0 (k:=rg0 (k:=rg0 (k:=rg0 (k:=rh [0,1,2,27] (k:=rc (ht:=fun hc0=>?_) (hf:=fun hc0=>?_))))))))))))))))))))))))
 ·exact Y108
 ·cases hc0
theorem Y109 {p:Prop} (h:p:=by
 refine rs (k:=rg [6] (k:=rR (k:=rP (by simp only [Tryz.f32,go_sem];rfl) hwf ⟨?_,rfl⟩)))
 simp [PV.weak,go_sem]):p:=h
theorem ref17_HurtB1a {ln:Nat} {tn F:Int} {s:St} (hb:tn<0):ACalls Tryz.prog 32 [.ptr ln 0 0,.int .i64 tn,.int .i64 F] s (fun r s'=>r=.bool false∧s'=s):=by
 refine go Tryz.func32 (k:=fun hwf H=>?_)
 have f3:decide (tn<0)=true:=decide_eq_true hb
 have H:=aj f3 H
 refine rs (k:=rg [0,1,2] (k:=rs (k:=rs (k:=rr (k:=ro (pre:=[_,_,_]) (k:=rg0 (k:=rg0 (k:=ro (pre:=[_,_]) (k:=rg0 (k:=rg0 (k:=ro (pre:=[_,_]) (k:=rg0 (k:=rg0 (k:=ro (pre:=[_,_]) (k:=rg0 (k:=rg0 (k:=rg0 (k:=rg0 (k:=rg0 (k:=rg0 (k:=rg0 (k:=rg0 (k:=rh [0,1,2,30] (k:=rc (ht:=fun hc0=>?_) (hf:=fun hc0=>?_)))))))))))))))))))))))))
 ·exact Y109
 ·cases hc0
theorem ref17_HurtB1b {ln:Nat} {tn F:Int} {s:St} (hb:4≤tn):ACalls Tryz.prog 32 [.ptr ln 0 0,.int .i64 tn,.int .i64 F] s (fun r s'=>r=.bool false∧s'=s):=by
 refine go Tryz.func32 (k:=fun hwf H=>?_)
 have f3:decide (tn<0)=false:=decide_eq_false Y14
 have f4:decide (4≤tn)=true:=decide_eq_true hb
 have H:=aj f3 (aj f4 H)
 refine rs (k:=rg [0,1,2] (k:=rs (k:=rs (k:=rr (k:=ro (pre:=[_,_,_]) (k:=rg1 (k:=rg1 (k:=ro (pre:=[_,_]) (k:=rg0 (k:=rg0 (k:=ro (pre:=[_,_]) (k:=rg0 (k:=rg0 (k:=ro (pre:=[_,_]) (k:=rg0 (k:=rg0 (k:=rg0 (k:=rg0 (k:=rg0 (k:=rg0 (k:=rg0 (k:=rg0 (k:=rh [0,1,2,30] (k:=rc (ht:=fun hc0=>?_) (hf:=fun hc0=>?_)))))))))))))))))))))))))
 ·exact Y109
 ·cases hc0
theorem ref17_HurtB2 {ln:Nat} {tn F:Int} {s:St} (hb:0≤tn∧tn<4) (hF:F<0):ACalls Tryz.prog 32 [.ptr ln 0 0,.int .i64 tn,.int .i64 F] s (fun r s'=>r=.bool false∧s'=s):=by
 refine go Tryz.func32 (k:=fun hwf H=>?_)
 have f3:decide ((0:Int)≤tn)=true:=decide_eq_true Y14
 have f4:decide (tn<4)=true:=decide_eq_true Y14
 have f5:decide (tn<0)=false:=decide_eq_false Y14
 have f6:decide (4≤tn)=false:=decide_eq_false Y14
 have H:=aj f3 (aj f4 (aj f5 (aj f6 H)))
 have f7:decide (F<0)=true:=decide_eq_true Y14
 have H:=aj f7 H
 refine rs (k:=rg [0,1,2] (k:=rs (k:=rs (k:=rr (k:=ro (pre:=[_,_,_]) (k:=rg1 (k:=rg1 (k:=ro (pre:=[_,_]) (k:=rg1 (k:=rg1 (k:=ro (pre:=[_,_]) (k:=rg0 (k:=rg0 (k:=ro (pre:=[_,_]) (k:=rg0 (k:=rg0 (k:=rg0 (k:=rg0 (k:=rg0 (k:=rg0 (k:=rg0 (k:=rg0 (k:=rh [0,1,2,30] (k:=rc (ht:=fun hc0=>?_) (hf:=fun hc0=>?_)))))))))))))))))))))))))
 ·exact Y109
 ·cases hc0
theorem ref17_HurtB3 {ln:Nat} {tn F:Int} {s:St} (hb:0≤tn∧tn<4) (hF:4<F):ACalls Tryz.prog 32 [.ptr ln 0 0,.int .i64 tn,.int .i64 F] s (fun r s'=>r=.bool false∧s'=s):=by
 refine go Tryz.func32 (k:=fun hwf H=>?_)
 have f3:decide ((0:Int)≤tn)=true:=decide_eq_true Y14
 have f4:decide (tn<4)=true:=decide_eq_true Y14
 have f5:decide (tn<0)=false:=decide_eq_false Y14
 have f6:decide (4≤tn)=false:=decide_eq_false Y14
 have H:=aj f3 (aj f4 (aj f5 (aj f6 H)))
 have f7:decide (F<0)=false:=decide_eq_false Y14
 have f8:decide (4<F)=true:=decide_eq_true Y14
 have H:=aj f7 (aj f8 H)
 refine rs (k:=rg [0,1,2] (k:=rs (k:=rs (k:=rr (k:=ro (pre:=[_,_,_]) (k:=rg1 (k:=rg1 (k:=ro (pre:=[_,_]) (k:=rg1 (k:=rg1 (k:=ro (pre:=[_,_]) (k:=rg1 (k:=rg1 (k:=ro (pre:=[_,_]) (k:=rg0 (k:=rg0 (k:=rg0 (k:=rg0 (k:=rg0 (k:=rg0 (k:=rg0 (k:=rg0 (k:=rh [0,1,2,30] (k:=rc (ht:=fun hc0=>?_) (hf:=fun hc0=>?_)))))))))))))))))))))))))
 ·exact Y109
 ·cases hc0
theorem line_HurtB4 {ln d T:Nat} {xs:List PV} {st:PV} {L:List Int} {k:SK} {F:Int} (hT:T<4) (hF:0≤F∧F≤4) (hxl:xs.length=4) (hL:1000≤L.length) (hx:xs[T]? =some (.sl k (L.map (PV.int .i64)))) {s:St} (hl:s.blk ln=some (lnR 59 d xs st)):ACalls Tryz.prog 11 [.ptr ln 0 0,.int .i64 (T:Int),.int .i64 F] s (fun r s'=>r=.bool false∧s'=s):=by
 refine go Tryz.func11 (k:=fun hwf H=>?_)
 unfold lnR at hl
 have ht4:((T:Int)<((4:Nat):Int))=True:=eq_true Y14
 have ht0:decide ((0:Int)≤(T:Int))=true:=decide_eq_true Y14
 have ht5:decide ((T:Int)<4)=true:=decide_eq_true Y14
 have hdr:=drop_one (st:=st) (p:=.ptr d 0 0) hx
 have hst:=fun v=>set_one (st:=st) (p:=.ptr d 0 0) (v:=v) (show T<xs.length from Y14)
 have H:=aj ht4 (aj ht0 (aj ht5 (aj hdr (aj hst H))))
 have g1:decide (F<0)=false:=decide_eq_false Y14
 have g2:decide (4<F)=false:=decide_eq_false Y14
 have g6:decide ((T:Int)<0)=false:=decide_eq_false Y14
 have g7:decide (4≤(T:Int))=false:=decide_eq_false Y14
 have g3:decide ((1000:Int)≤(L.length:Int))=true:=decide_eq_true Y14
 have H:=aj g1 (aj g2 (aj g6 (aj g7 (aj g3 H))))
 have H:=aj hl H
 refine rs (k:=rg [0,1,2] (k:=rs (k:=rs (k:=rr (k:=ro (pre:=[_]) (k:=rC (h:=(line_is (t:=(T:Int)))) (k:=ro (pre:=[_,_]) (k:=rg1 (k:=rg1 (k:=ro (pre:=[_,_]) (k:=rg1 (k:=rg1 (k:=ro (pre:=[_,_]) (k:=rg1 (k:=rg1 (k:=rg1 (k:=rg1 (k:=rg1 (k:=rg1 (k:=rg1 (k:=rg1 (k:=rh [0,1,2,27] (k:=?_)))))))))))))))))))))))
 refine rc (ht:=fun hc0=>?_) (hf:=fun hc0=>?_)
 ·exact Y108
 ·cases hc0
theorem ref17_HurtB4 {ln d T:Nat} {xs:List PV} {st:PV} {L:List Int} {k:SK} {F:Int} (hT:T<4) (hF:0≤F∧F≤4) (hxl:xs.length=4) (hL:1000≤L.length) (hx:xs[T]? =some (.sl k (L.map (PV.int .i64)))) {s:St} (hl:s.blk ln=some (lnR 76 d xs st)):ACalls Tryz.prog 32 [.ptr ln 0 0,.int .i64 (T:Int),.int .i64 F] s (fun r s'=>r=.bool false∧s'=s):=by
 refine go Tryz.func32 (k:=fun hwf H=>?_)
 unfold lnR at hl
 have ht4:((T:Int)<((4:Nat):Int))=True:=eq_true Y14
 have ht0:decide ((0:Int)≤(T:Int))=true:=decide_eq_true Y14
 have ht5:decide ((T:Int)<4)=true:=decide_eq_true Y14
 have hdr:=drop_one (st:=st) (p:=.ptr d 0 0) hx
 have hst:=fun v=>set_one (st:=st) (p:=.ptr d 0 0) (v:=v) (show T<xs.length from Y14)
 have H:=aj ht4 (aj ht0 (aj ht5 (aj hdr (aj hst H))))
 have g1:decide (F<0)=false:=decide_eq_false Y14
 have g2:decide (4<F)=false:=decide_eq_false Y14
 have g6:decide ((T:Int)<0)=false:=decide_eq_false Y14
 have g7:decide (4≤(T:Int))=false:=decide_eq_false Y14
 have g3:decide ((1000:Int)≤(L.length:Int))=true:=decide_eq_true Y14
 have H:=aj g1 (aj g2 (aj g6 (aj g7 (aj g3 H))))
 have H:=aj hl H
 refine rs (k:=rg [0,1,2] (k:=rs (k:=rs (k:=rr (k:=ro (pre:=[_,_,_]) (k:=rg1 (k:=rg1 (k:=ro (pre:=[_,_]) (k:=rg1 (k:=rg1 (k:=ro (pre:=[_,_]) (k:=rg1 (k:=rg1 (k:=ro (pre:=[_,_]) (k:=rg1 (k:=rg1 (k:=rg1 (k:=rg1 (k:=rg1 (k:=rg1 (k:=rg1 (k:=rg1 (k:=rh [0,1,2,30] (k:=rc (ht:=fun hc0=>?_) (hf:=fun hc0=>?_)))))))))))))))))))))))))
 ·exact Y109
 ·cases hc0
theorem line_takeG0 {ln d T:Nat} {xs:List PV} {st:PV} {L:List Int} {k:SK} (hT:T<4) (hxl:xs.length=4) (hx:xs[T]? =some (.sl k (L.map (PV.int .i64)))) {s:St} (hl:s.blk ln=some (lnR 59 d xs st)) (hL:L=[]):ACalls Tryz.prog 44 [.ptr ln 0 0,.int .i64 (T:Int)] s (fun r s'=>r=.int .i64 0∧s'=s):=by
 refine go Tryz.func44 (k:=fun hwf H=>?_)
 subst hL
 unfold lnR at hl
 have ht4:((T:Int)<((4:Nat):Int))=True:=eq_true Y14
 have ht0:decide ((0:Int)≤(T:Int))=true:=decide_eq_true Y14
 have ht5:decide ((T:Int)<4)=true:=decide_eq_true Y14
 have hdr:=drop_one (st:=st) (p:=.ptr d 0 0) hx
 have hst:=fun v=>set_one (st:=st) (p:=.ptr d 0 0) (v:=v) (show T<xs.length from Y14)
 have H:=aj ht4 (aj ht0 (aj ht5 (aj hdr (aj hst H))))
 have H:=aj hl H
 refine rs (k:=rg [0,1] (k:=rs (k:=rs (k:=rr (k:=ro (pre:=[_]) (k:=rC (h:=(line_is (t:=(T:Int)))) (k:=ro (pre:=[_,_]) (k:=rg1 (k:=rg1 (k:=rg1 (k:=rg1 (k:=rg1 (k:=rg1 (k:=rg1 (k:=rg1 (k:=rh [0,1,18] (k:=rc (ht:=fun hc0=>?_) (hf:=fun hc0=>?_))))))))))))))))))
 ·exact Y279
 ·cases hc0
theorem line_takeGC {ln d T t:Nat} {xs:List PV} {st:PV} {x:Int} {L:List Int} (hT:T<4) (hxl:xs.length=4) (hx:xs[T]? =some (.sl (.tok t 1) ((x::L).map (PV.int .i64)))) (hL:L.length<1000) {s:St} (hl:s.blk ln=some (lnR 59 d xs st)) (ht:s.blk t=some (.tok (x::L).length)) (hne:t≠ln):ACalls Tryz.prog 44 [.ptr ln 0 0,.int .i64 (T:Int)] s (fun r s'=>r=.int .i64 x∧s'=(((s.set t none).new (.tok L.length)).set ln (some (lnR 59 d (xs.set T (.sl (.tok s.nxt 1) (L.map (PV.int .i64)))) st)))):=by
 refine go Tryz.func44 (k:=fun hwf H=>?_)
 unfold lnR at hl
 have ht4:((T:Int)<((4:Nat):Int))=True:=eq_true Y14
 have ht0:decide ((0:Int)≤(T:Int))=true:=decide_eq_true Y14
 have ht5:decide ((T:Int)<4)=true:=decide_eq_true Y14
 have hdr:=drop_one (st:=st) (p:=.ptr d 0 0) hx
 have hst:=fun v=>set_one (st:=st) (p:=.ptr d 0 0) (v:=v) (show T<xs.length from Y14)
 have H:=aj ht4 (aj ht0 (aj ht5 (aj hdr (aj hst H))))
 have hlt:=lt_blk hwf hl
 have htl:=lt_blk hwf ht
 have g0:decide (((L.length+1:Nat):Int)=0)=false:=decide_eq_false Y14
 have n1:(ln=s.nxt)=False:=eq_false Y14
 have n2:(ln=t)=False:=eq_false (fun e=>hne e.symm)
 have g4:(0<L.length+1)=True:=eq_true Y14
 have h1n:Int.toNat 1=1:=rfl
 have h10:((1:Int)=0)=False:=eq_false Y15
 have g8:(1+T≤(xs++[st]).length)=True:=eq_true Y107
 have H:=aj g0 (aj n1 (aj n2 (aj g4 (aj h1n (aj h10 (aj g8 H))))))
 have H:=aj hl H
 refine rs (k:=rg [0,1] (k:=rs (k:=rs (k:=rr (k:=ro (pre:=[_]) (k:=rC (h:=(line_is (t:=(T:Int)))) (k:=rh [0,1,18] (k:=rc (ht:=fun hc0=>?_) (hf:=fun hc0=>?_)))))))))
 ·cases hc0
 ·refine rk (k:=rs (k:=rg [0,1,5] (k:=rs (k:=rH 13 [8,12] [[false,false],[true,false],[true,true]] [s,((s.set t none).new (.tok L.length)),(((s.set t none).new (.tok L.length)).set ln (some (.row 59 [.agg (.ptr d 0 0::(xs.set T (.sl (.tok s.nxt 1) (L.map (PV.int .i64)))++[st]))])))] Tryz.mixed (k:=?_)))))
  refine dP [0,1] (pre:=[_,_,_,_,_,_,_,_]) (k:=?_)
  refine DetHC.cut (tk:=t) (lo:=1) (el:=3) (xs:=(x::L).map (PV.int .i64)) (v:=(.sl (.tok s.nxt 1) (L.map (PV.int .i64)))) [(0,1)] _ Y19 pq au au au Tryz.td22 Tryz.cz3 Y15 Y15 Y66 Y277 ?_
  refine dP [0,1] (pre:=[_,_,_]) (k:=?_)
  refine dE [(1,2)] (k:=?_)
  refine DetHC.nil ?_
  refine rl [5] (k:=rs (k:=rg [4] (k:=rR (k:=?_))))
  exact Ret.all Y329 ⟨rfl,by unfold lnR;rfl⟩
end Go.Proofs
namespace Go.Proofs
open Go.PM
set_option maxHeartbeats 2000000
def sealS (l:List Int) (s:St):St:=((s.new (.row 5 (l.map (PV.int .u8)))).set s.nxt none).new (.row 5 ((sealB l).map (PV.int .u8)))
theorem ref1_SealO {l:List Int} (hb:OkB l) (hl:l.length+2≤140737488355328) (hne:l≠[]) {s:St}:ACalls Tryz.prog 58 [.sl .unk (l.map (PV.int .u8))] s (fun r s'=>r=.own (s.nxt+1) 0 (l.length+2)∧s'=sealS l s):=by
 refine go Tryz.func58 (k:=fun hwf H=>?_)
 refine rs (k:=rg [0] (k:=rs (k:=rr (k:=ro (pre:=[_]) (k:=?_)))))
 refine RunO.call au au Y19 ((ref1_Sum hb Y14).mono ?_)
 rintro r s1 ⟨rfl,hs⟩
 subst s1
 refine rh [0,3] (k:=rs (k:=rr (k:=rO (k:=ro (pre:=[_]) (k:=?_)))))
 refine RunO.appendFirst au au au Tryz.td39 Y70 (by intro p hp;cases hp) (isEls_map (P:=Tryz.prog) (e:=5) (f:=PV.int .u8) (fun a=>⟨rfl,Y23⟩) l) Y24 Y71 (by unfold aAppendFirst;dsimp only;rw [if_pos (by simpa using hne)]) ?_
 refine ro (pre:=[_,_,_,_,_]) (k:=rO (k:=?_))
 refine RunO.appendOwn (el:=5) au au au Tryz.td39 Y70 (isEls_map (P:=Tryz.prog) (e:=5) (f:=PV.int .u8) (fun a=>⟨rfl,Y23⟩) [_,_]) Y24 Y71 (v:=.own (s.nxt+1) 0 (l.length+2)) (s':=sealS l s) ?_ ?_
 ·unfold aAppendOwn sealS
  simp only [blk_new_eq,List.length_nil,Nat.zero_add,List.nil_append]
  rw [if_pos ⟨Y66,trivial,Y66⟩]
  (simp [sealB,crc_hi,crc_hi',List.take_of_length_le]<;>rfl)
 refine rh [2] (k:=rR (k:=?_))
 exact Ret.all (by simp only [Tryz.f58,go_sem,↓reduceIte]<;>rfl) ⟨rfl,rfl⟩
theorem ref5_FrameO {b:List Int} (hb:OkB b) (h1:b≠[]) (h2:b.length≤253) {s:St}:ACalls Tryz.prog 40 [.int .i64 17,.sl .unk (b.map (PV.int .u8))] s (fun r s'=>r=.tuple [.own (s.nxt+2) 0 (b.length+3),.int .i64 0]∧s'=sealS (17::b) (s.new (.tok (17::b).length))):=by
 refine go Tryz.func40 (k:=fun hwf H=>?_)
 have g0:decide ((17:Int)<1)=false:=Y15
 have g1:decide ((247:Int)<17)=false:=Y15
 have hp:0<b.length:=List.length_pos_iff.2 h1
 have g2:decide ((b.length:Int)=0)=false:=decide_eq_false Y14
 have g3:decide ((253:Int)<(b.length:Int))=false:=decide_eq_false Y14
 have gw:IntKind.u8.wrap 17=17:=Y15
 have hao:OkB (17::b):=OkB.cons Y16 hb
 have H:=aj g0 (aj g1 (aj g2 (aj g3 (aj gw H))))
 refine rs (k:=rg [0,1] (k:=rs (k:=rs (k:=rg [0,1,11] (k:=rc (ht:=fun hc0=>?_) (hf:=fun hc0=>?_))))))
 ·cases hc0
 ·refine rk (k:=rs (k:=rs (k:=rg [0,1,14] (k:=rc (ht:=fun hc1=>?_) (hf:=fun hc1=>?_)))))
  ·cases hc1
  ·refine rk (k:=rs (k:=rs (k:=rg [0,1,17] (k:=rc (ht:=fun hc2=>?_) (hf:=fun hc2=>?_)))))
   ·cases hc2
   ·refine rk (k:=rs (k:=rr (k:=ro (pre:=[_,_]) (k:=rO (k:=ro (pre:=[_]) (k:=?_))))))
    refine RunO.append (v:=.sl (.tok s.nxt 1) ((17::b).map (PV.int .u8))) (s':=s.new (.tok (17::b).length)) au au au Tryz.td39 Y70 (isEls_map (P:=Tryz.prog) (e:=5) (f:=PV.int .u8) (fun a=>⟨rfl,Y23⟩) [_]) (isEls_map (P:=Tryz.prog) (e:=5) (f:=PV.int .u8) (fun a=>⟨rfl,Y23⟩) b) Y24 Y71 Y385 ?_
    refine RunO.callw au au au Y19 ((ref1_SealO (l:=17::b) hao Y131 Y66).mono ?_)
    rintro r s1 ⟨rfl,rfl⟩
    refine rh [4,5] (k:=rR (k:=?_))
    exact Ret.all (by simp only [Tryz.f40,go_sem,↓reduceIte]<;>rfl) ⟨by simp [nxt_new],rfl⟩
attribute [local go_sem] set_set putRef_hi putRef_nxt weaks_bools Rep.pv
theorem Y55 {p:Prop} (h:p:=by
 refine rs (k:=?_)
 obtain ⟨T9,t,L,kw,ew,S2,hT9,_,hx9,hLl,hap2,h2l,hS3⟩:=hcase.resolve_left (by
  rintro ⟨_,_,h | ⟨k9,T9,h1,h2,h3⟩⟩
  ·exact h ⟨Y14,Y14⟩
  ·obtain rfl:T=T9:=Y14
   rw [hx] at h3
   have e9:=congrArg List.length (PV.sl.inj (Option.some.inj h3)).2
   have c9:=of_decide_eq_true hc0
   simp only [List.length_map,List.length_nil,List.length_cons] at e9
   omega)
 obtain rfl:T=T9:=by omega
 have hdr9:=drop_one (st:=.sl kv ev) (p:=.ptr (b+5) 0 0) hx9
 have hst9:=fun v=>set_one (st:=.sl kv ev) (p:=.ptr (b+5) 0 0) (v:=v) (show T<xs.length from Y14)
 have g8:(1+T≤(xs++[PV.sl kv ev]).length)=True:=eq_true Y107
 have g0:(0<L.length+1)=True:=eq_true Y14
 have g1:((1:Int)≤((L.length+1:Nat):Int))=True:=eq_true Y14
 have g2:(((L.length+1:Nat):Int)-1).toNat=L.length:=by omega
 have g3:(L.map (PV.int .i64)).take L.length=L.map (PV.int .i64):=by rw [List.take_of_length_le (by rw [List.length_map];exact Nat.le_refl _)]
 have h1n:Int.toNat 1=1:=rfl
 have h10:((1:Int)=0)=False:=eq_false Y15
 have hok:okEls 1 (PV.int .i64 f::L.map (PV.int .i64))=True:=okEls_intK .i64 (f::L)
 have H:=aj hdr9 (aj hst9 (aj g8 (aj g0 (aj g1 (aj g2 (aj g3 (aj h1n (aj h10 (aj hok (aj h2l H))))))))))
 refine rg [0,1,3,9] (k:=rH 15 [10,14] [[false,false],[true,false],[true,true]] [(S1.set ln (some (.row 76 [.agg (.ptr (b+5) 0 0::(xs++[(.sl kv ev)]))]))),S2,(S2.set ln (some (.row 76 [.agg (.ptr (b+5) 0 0::(xs.set T (.sl kw ew)++[(.sl kv ev)]))])))] Tryz.mixed (k:=?_))
 refine dP [0,1] (pre:=[_,_,_,_,_,_,_,_,_,_]) (k:=?_)
 refine DetHC.app (kx:=.clip) (ky:=.any) (xs:=[]) (ys:=L.map (PV.int .i64)) (v:=.sl kw ew) [(0,1)] _ Y19 pq au au au Tryz.td22 Y328 Y53 Y53 Y276 Y158 (by intro q hq;rw [List.mem_singleton.1 hq];exact hap2) ?_
 refine dP [0,1] (pre:=[_,_,_]) (k:=?_)
 refine dE [(1,2)] (k:=?_)
 refine DetHC.nil ?_
 refine rl [0,3,9] (k:=?_)
 subst hS3
 exact hJs3 _ _ ⟨rfl,rfl⟩):p:=h
theorem Y110 {p:Prop} (h:p:=by
 rintro ⟨T9,t,L,kw,ew,S2,h1,h2,h3,_⟩
 first
  |(have:=of_decide_eq_false hg2;omega)
  |(have:=of_decide_eq_false hg6;omega)
  |(obtain rfl:T=T9:=by omega
    rw [hx] at h3
    have e9:=congrArg List.length (PV.sl.inj (Option.some.inj h3)).2
    have c9:=of_decide_eq_false hc0
    simp only [List.length_map,List.length_nil,List.length_cons] at e9
    omega)):p:=h
theorem Y165 {p:Prop} (h:p:=by rw [List.drop_succ_cons,List.drop_append_of_le_length Y14,List.drop_of_length_le Y14];rfl):p:=h
theorem Y166 {p:Prop} (h:p:=by simp only [Tryz.f48,go_sem,↓reduceIte]<;>rfl):p:=h
theorem Y445 {p:Prop} (h:p:=by rw [List.set_cons_succ,List.set_append_right _ _ Y14];simp [hxl]):p:=h
set_option maxRecDepth 100000 in
theorem ref17_SendW {ln b:Nat} {xs:List PV} {k0:SK} {l:List Snt} {kv:SK} {ev:List PV} {S1 S3:St} {D:Dev} {tn tick f:Int} (hf:0≤f∧f≤4) {fr:List Int} (hfo:OkB fr) (hfl:fr.length≤140737488350000) (hll:l.length≤100000) (hxl:xs.length=4) {s:St} (hl:s.blk ln=some (lnR 76 (b+5) xs (.sl k0 (l.map Snt.pv)))) (hD:D.ok)
  (hap:aAppend Tryz.prog 54 k0 (l.map Snt.pv) [Snt.pv (⟨tick,tn,fr⟩:Snt)] s=some (.sl kv ev,S1)) (h1l:S1.blk ln=some (lnR 76 (b+5) xs (.sl k0 (l.map Snt.pv)))) (hcase:(f=0∧S3=(S1.set ln (some (lnR 76 (b+5) xs (.sl kv ev))))∧(¬ (0≤tn∧tn<4)∨∃ (k:SK) (T:Nat),tn=(T:Int)∧T<4∧xs[T]? =some (.sl k [])) ∨
    ∃ (T t:Nat) (L:List Int) (kw:SK) (ew:List PV) (S2:St),tn=(T:Int)∧T<4∧xs[T]? =some (.sl (.tok t 1) ((f::L).map (PV.int .i64)))∧L.length≤1000∧aAppend Tryz.prog 3 .clip [] (L.map (PV.int .i64)) (S1.set ln (some (lnR 76 (b+5) xs (.sl kv ev))))=some (.sl kw ew,S2)∧S2.blk ln=some (lnR 76 (b+5) xs (.sl kv ev))∧S3=S2.set ln (some (lnR 76 (b+5) (xs.set T (.sl kw ew)) (.sl kv ev)))))
  (hl3:∃ xs3,xs3.length=4∧S3.blk ln=some (lnR 76 (b+5) xs3 (.sl kv ev))) (hA:RefAt b D S3) (hv:f=3→(rtuF fr).2=0→(rtuF fr).1.1=17→frameF (pduF D (rtuF fr).1.2).1=[]) :
  ACalls Tryz.prog 48 [.ptr ln 0 0,.int .i64 tn,.int .i64 tick,.sl .unk (fr.map (PV.int .u8))] s (fun r s'=>r=.sl .unk ((sendF f D fr).1.map (PV.int .u8))∧s'=putRef b (sendF f D fr).2 S3):=by
 refine go Tryz.func48 (k:=fun hwf H=>?_)
 unfold lnR at hl h1l hcase
 have hlt:=lt_blk hwf hl
 have hfl2:fr.length*1≤140737488355328:=Y14
 have n0:(1+4≤(xs++[PV.sl k0 (l.map Snt.pv)]).length)=True:=eq_true Y107
 have n5:∀ v:PV,List.drop 5 (PV.ptr (b+5) 0 0::(xs++[v]))=[v]:=fun v=>Y165
 have n6:∀ v w:PV,(PV.ptr (b+5) 0 0::(xs++[v])).set 5 w=PV.ptr (b+5) 0 0::(xs++[w]):=fun v w=>Y445
 have n7:(5≤(xs++[PV.sl k0 (l.map Snt.pv)]).length)=True:=eq_true Y107
 have hrt:rtuF fr=rtuF fr:=rfl
 have hdn:decide (0≤tn)=decide (0≤tn):=rfl
 have H:=aj n5 (aj n6 (aj n7 H))
 have H:=aj hl (aj h1l H)
 refine rs (k:=rg [0,1,2,3] (k:=rs (k:=rH 16 [12,15] [[false,false],[true,false],[true,true]] [s,S1,(S1.set ln (some (.row 76 [.agg (.ptr (b+5) 0 0::(xs++[(.sl kv ev)]))])))] Tryz.mixed (k:=?_))))
 refine dP [0,1] (pre:=[_,_,_,_,_,_,_,_,_]) (k:=?_)
 refine DetHC.appW (kx:=.clip) (ky:=.unk) (xs:=[]) (ys:=fr.map (PV.int .u8)) (zs:=fr.map (PV.int .u8)) [0] [s] Y19 rfl au au au Tryz.td39 Y70 (by intro p hp;cases hp) (isEls_map (P:=Tryz.prog) (e:=5) (f:=PV.int .u8) (fun a=>⟨rfl,Y23⟩) _) Y24 (by rw [Tryz.by5];simp<;>omega) (.inr rfl) (by rw [List.nil_append,weaks_u8]) (fun n=>blws_u8 _ _) ?_
 refine dP [0] (pre:=[_,_]) (k:=?_)
 refine DetHC.app (kx:=k0) (xs:=l.map Snt.pv) (ys:=[Snt.pv (⟨tick,tn,fr⟩:Snt)]) (v:=.sl kv ev) [(0,1)] _ Y19 pq au au Y164 Tryz.td50 Y386 Y54 (isEls_map (P:=Tryz.prog) (e:=54) (f:=Snt.pv) (fun a=>⟨rfl,Y443⟩) [(⟨tick,tn,fr⟩:Snt)]) Y330 Y333 (by intro q hq;rw [List.mem_singleton.1 hq];exact hap) ?_
 refine dP [1] (pre:=[_,_]) (k:=?_)
 refine dE [(1,2)] (k:=?_)
 refine DetHC.nil ?_
 refine rl [0,1,3] (k:=rs (k:=rg [0,1,3,9] (k:=rs (k:=?_))))
 refine Run.join (fun e s'=>e=[(0,.ptr ln 0 0),(3,.sl .unk (fr.map (PV.int .u8))),(9,.int .i64 f)]∧s'=S3) ?_ ?_
 ·rintro e s9 ⟨rfl,hs⟩
  subst s9
  obtain ⟨xs3,hxl3,hr3⟩:=hl3
  unfold lnR at hr3
  have H:=aj hr3 H
  refine rs (k:=rr (k:=ro (pre:=[_]) (k:=rC (h:=ref5_Read hfo hfl) (k:=rh [0,9,10,11,12] (k:=rs (k:=rs (k:=rg [0,9,11,88] (k:=rc (ht:=fun hc1=>?_) (hf:=fun hc1=>?_)))))))))
  ·refine rs (k:=rg [8] (k:=rR (k:=?_)))
   have hso:sendF f D fr=([],D):=by
    unfold sendF
    split
    ·rename_i h
     have hf1:f=1:=by simpa [h.1,h.2] using hc1
     subst hf1
     rfl
    ·rfl
   refine Ret.allW (r':=.sl .unk []) Y166 Y361 ⟨by rw [hso];rfl,?_⟩
   rw [hso]
   exact (putRef_self hA).symm
  ·refine rk (k:=rs (k:=rs (k:=?_)))
   have hrt:((rtuF fr).2=0∧(rtuF fr).1.1=17)∧¬ f=1:=by simpa [and_assoc] using hc1
   have hpd:=rtu_pdu hrt.1.1
   have hso:sendF f D fr=lineF f D (rtuF fr).1.2:=if_pos hrt.1
   obtain ⟨p,hpe⟩:∃ y,(rtuF fr).1.2=y:=⟨_,rfl⟩
   have hpo:OkB p:=by rw [← hpe];exact rtu_ok hfo
   rw [hpe] at hpd hso
   have H:=aj hpe H
   refine rg [0,9,11,90] (k:=rc (ht:=fun hc2=>?_) (hf:=fun hc2=>?_))
   ·refine rs (k:=?_)
    have hf4:f=4:=of_decide_eq_true hc2
    subst hf4
    have hll9:0<p.length:=List.length_pos_iff.2 hpd.1
    obtain ⟨x,hx⟩:∃ x,p[0]? =some x:=⟨p[0],List.getElem?_eq_getElem hll9⟩
    have hxx:(p.map (PV.int .u8))[0]? =some (.int .u8 x):=Y141
    have hlT:(0<p.length)=True:=eq_true hll9
    have hx8:U8 x:=hpo x (List.mem_of_getElem? hx)
    have hx0:(p[0]?).getD 0=x:=Y253
    have hw:IntKind.i64.wrap x=x:=wrap_i64 Y142
    have hrl:(repF (refuseP x 4)).length≤140737488350000:=by
     unfold repF
     split
     ·exact Nat.le_trans (layF_len ‹_›) Y14
     ·simp
    have H:=aj hxx (aj hlT (aj hw H))
    refine rr (k:=ro (pre:=[_,_,_,_]) (k:=rC (h:=ref3_Refuse) (k:=rC (h:=ref3_Lay (refuseP_ok _ _)) (k:=rh [13] (k:=rs (k:=rr (k:=ro (pre:=[_]) (k:=rC (h:=ref5_Frame (a:=17) (repF_ok (refuseP_ok _ _)) hrl) (k:=rh [15] (k:=rs (k:=rg [8] (k:=rR (k:=?_)))))))))))))
    refine Ret.allW (r':=.sl .unk ((sendF 4 D fr).1.map (PV.int .u8))) Y166 ?_ ⟨rfl,?_⟩
    ·rw [hso];simp only [PV.weak,weaks_u8];show PV.sl .unk ((frameF (repF (refuseP ((p[0]?).getD 0) 4))).map _)=_;rw [hx0];rfl
    ·rw [hso];exact (putRef_self hA).symm
   ·refine rk (k:=rs (k:=?_))
    have hxo:OkB (pduF D p).1:=pduF_okB hD hpo Y14
    have hxl9:(pduF D p).1.length≤140737488350000:=pduF_len hD hpo hpd.2.1
    refine rr (k:=ro (pre:=[_,_,_,_,_]) (k:=?_))
    refine RunO.callw au au au Y19 ((ref8_Pdu hA hD hpo Y14).mono ?_)
    rintro r s9 ⟨rfl,hs⟩
    subst s9
    refine rh [9,17] (k:=rs (k:=rs (k:=rg [9,17,113] (k:=rc (ht:=fun hc3=>?_) (hf:=fun hc3=>?_)))))
    ·refine rs (k:=rg [8] (k:=rR (k:=?_)))
     have hf2:f=2:=of_decide_eq_true hc3
     subst hf2
     refine Ret.allW (r':=.sl .unk []) Y166 Y361 ⟨by rw [hso];rfl,?_⟩
     rw [hso];rfl
    ·refine rk (k:=rs (k:=rr (k:=ro (pre:=[_]) (k:=rC (h:=ref5_Frame (a:=17) hxo hxl9) (k:=rh [9,18] (k:=rs (k:=rs (k:=?_))))))))
     have hq17:(decide (f=3)&&decide (0<(((frameA 17 (pduF D p).1).1.length:Nat):Int)))=false:=by
      rw [Bool.and_eq_false_iff,decide_eq_false_iff_not,decide_eq_false_iff_not]
      by_cases h3:f=3
      case neg=>exact .inl h3
      refine .inr ?_
      have h:=hv h3 hrt.1.1 hrt.1.2
      rw [hpe] at h
      rw [show (frameA 17 (pduF D p).1).1=[] from h]
      decide
     have H:=aj hq17 H
     refine rg [18,125] (k:=rc (ht:=fun hc4=>?_) (hf:=fun hc4=>?_))
     ·cases hc4
     ·refine rk (k:=rs (k:=rg [8] (k:=rR (k:=?_))))
      have hfe:lineF f D p=(frameF (pduF D p).1,(pduF D p).2):=by
       have hf2:¬ f=2:=of_decide_eq_false hc3
       have hf4:¬ f=4:=of_decide_eq_false hc2
       obtain rfl | rfl:f=0∨f=3:=Y14
       ·rfl
       ·have h:=hv rfl hrt.1.1 hrt.1.2
        rw [hpe] at h
        show (flipL (frameF (pduF D p).1),(pduF D p).2)=_
        rw [h]
        rfl
      refine Ret.allW (r':=.sl .unk ((sendF f D fr).1.map (PV.int .u8))) Y166 ?_ ⟨rfl,?_⟩
      ·rw [hso,hfe];simp only [PV.weak,weaks_u8];rfl
      ·rw [hso,hfe]
 intro hJs3
 refine rs (k:=rr (k:=ro (pre:=[_,_,_]) (k:=rQ 37 (ht:=fun hg2=>?_) (hf:=fun hg2=>?_))))
 refine rg1 (k:=rg1 (k:=ro (pre:=[_,_]) (k:=rQ 41 (ht:=fun hg6=>?_) (hf:=fun hg6=>?_))))
 have hg6':tn<4:=of_decide_eq_true hg6
 have hg2':0≤tn:=of_decide_eq_true hg2
 obtain ⟨T,k,L0,rfl,hT,hx⟩:∃ (T:Nat) (k:SK) (L0:List Int),tn=(T:Int)∧T<4∧xs[T]? =some (.sl k (L0.map (PV.int .i64))):=by
  rcases hcase with ⟨_,_,h | ⟨k,T,h1,h2,h3⟩⟩ | ⟨T,t,L,_,_,_,h1,h2,h3,_⟩
  ·exact absurd ⟨hg2',hg6'⟩ h
  ·exact ⟨T,k,[],h1,h2,h3⟩
  ·exact ⟨T,_,_,h1,h2,h3⟩
 have hdr:=drop_one (st:=.sl kv ev) (p:=.ptr (b+5) 0 0) hx
 have ht4:((T:Int)<((4:Nat):Int))=True:=eq_true Y14
 have H:=aj hdr (aj ht4 H)
 refine rg1 (k:=rg1 (k:=rg1 (k:=rg1 (k:=rg1 (k:=rg1 (k:=rg1 (k:=rg1 (k:=rh [0,1,3,9,50] (k:=rc (ht:=fun hc0=>?_) (hf:=fun hc0=>?_))))))))))
 ·exact Y55
 refine jO 1 ?_;rotate_left
 refine jO 2 ?_;rotate_left
 refine rg0 (k:=rg0 (k:=ro (pre:=[_,_]) (k:=rQ 41 (ht:=fun hg6=>?_) (hf:=fun hg6=>?_))))
 ·cases hg6
 refine jO 2 ?_;rotate_left
 any_goals
  refine jI 2 ?_
  refine rg0 (k:=rg0 (k:=rg0 (k:=rg0 (k:=rg0 (k:=rg0 (k:=rg0 (k:=rg0 (k:=rh [0,1,3,9,50] (k:=rc (ht:=fun hc0=>?_) (hf:=fun hc0=>?_))))))))))
  ·cases hc0
  refine jO 1 ?_;rotate_left
 any_goals
  refine jI 1 ?_
  refine rk (k:=?_)
  refine jO 3 ?_;rotate_left
 any_goals
  refine jI 3 ?_
  obtain ⟨h0,hS8,_⟩:=hcase.resolve_right Y110
  subst h0
  subst hS8
  refine Run.prune [0,3,9] rfl ?_
  exact hJs3 _ _ ⟨rfl,rfl⟩
attribute [local go_sem] set_set putRef_hi putRef_nxt weaks_bools Rep.pv
set_option maxRecDepth 100000 in
theorem ref17_SendO {ln b:Nat} {xs:List PV} {k0:SK} {l:List Snt} {kv:SK} {ev:List PV} {S1 S3:St} {D:Dev} {tn tick f:Int} (hf:0≤f∧f≤4) {fr:List Int} (hfo:OkB fr) (hfl:fr.length≤140737488350000) (hll:l.length≤100000) (hxl:xs.length=4) {s:St} (hl:s.blk ln=some (lnR 76 (b+5) xs (.sl k0 (l.map Snt.pv)))) (hD:D.ok)
  (hap:aAppend Tryz.prog 54 k0 (l.map Snt.pv) [Snt.pv (⟨tick,tn,fr⟩:Snt)] s=some (.sl kv ev,S1)) (h1l:S1.blk ln=some (lnR 76 (b+5) xs (.sl k0 (l.map Snt.pv)))) (hcase:(f=0∧S3=(S1.set ln (some (lnR 76 (b+5) xs (.sl kv ev))))∧(¬ (0≤tn∧tn<4)∨∃ (k:SK) (T:Nat),tn=(T:Int)∧T<4∧xs[T]? =some (.sl k [])) ∨
    ∃ (T t:Nat) (L:List Int) (kw:SK) (ew:List PV) (S2:St),tn=(T:Int)∧T<4∧xs[T]? =some (.sl (.tok t 1) ((f::L).map (PV.int .i64)))∧L.length≤1000∧aAppend Tryz.prog 3 .clip [] (L.map (PV.int .i64)) (S1.set ln (some (lnR 76 (b+5) xs (.sl kv ev))))=some (.sl kw ew,S2)∧S2.blk ln=some (lnR 76 (b+5) xs (.sl kv ev))∧S3=S2.set ln (some (lnR 76 (b+5) (xs.set T (.sl kw ew)) (.sl kv ev)))))
  (hl3:∃ xs3,xs3.length=4∧S3.blk ln=some (lnR 76 (b+5) xs3 (.sl kv ev))) (hA:RefAt b D S3) (h3:f=3) (hrd:(rtuF fr).2=0∧(rtuF fr).1.1=17) (h1:(pduF D (rtuF fr).1.2).1≠[]) (h2:(pduF D (rtuF fr).1.2).1.length≤253) :
  ACalls Tryz.prog 48 [.ptr ln 0 0,.int .i64 tn,.int .i64 tick,.sl .unk (fr.map (PV.int .u8))] s (fun r s'=>r=.sl .unk ((sendF f D fr).1.map (PV.int .u8))∧s'=((sealS (17::(pduF D (rtuF fr).1.2).1) ((putRef b (pduF D (rtuF fr).1.2).2 S3).new (.tok (17::(pduF D (rtuF fr).1.2).1).length))).set (S3.nxt+2) none)):=by
 refine go Tryz.func48 (k:=fun hwf H=>?_)
 have y0:decide ((rtuF fr).2=0)=true:=decide_eq_true hrd.1
 have y1:decide ((rtuF fr).1.1=17)=true:=decide_eq_true hrd.2
 have y2:decide (f=1)=false:=decide_eq_false Y14
 have y3:decide (f=4)=false:=decide_eq_false Y14
 have y4:decide (f=2)=false:=decide_eq_false Y14
 have y5:decide (f=3)=true:=decide_eq_true h3
 have H:=aj y0 (aj y1 (aj y2 (aj y3 (aj y4 (aj y5 H)))))
 unfold lnR at hl h1l hcase
 have hlt:=lt_blk hwf hl
 have hfl2:fr.length*1≤140737488355328:=Y14
 have n0:(1+4≤(xs++[PV.sl k0 (l.map Snt.pv)]).length)=True:=eq_true Y107
 have n5:∀ v:PV,List.drop 5 (PV.ptr (b+5) 0 0::(xs++[v]))=[v]:=fun v=>Y165
 have n6:∀ v w:PV,(PV.ptr (b+5) 0 0::(xs++[v])).set 5 w=PV.ptr (b+5) 0 0::(xs++[w]):=fun v w=>Y445
 have n7:(5≤(xs++[PV.sl k0 (l.map Snt.pv)]).length)=True:=eq_true Y107
 have hrt:rtuF fr=rtuF fr:=rfl
 have hdn:decide (0≤tn)=decide (0≤tn):=rfl
 have H:=aj n5 (aj n6 (aj n7 H))
 have H:=aj hl (aj h1l H)
 refine rs (k:=rg [0,1,2,3] (k:=rs (k:=rH 16 [12,15] [[false,false],[true,false],[true,true]] [s,S1,(S1.set ln (some (.row 76 [.agg (.ptr (b+5) 0 0::(xs++[(.sl kv ev)]))])))] Tryz.mixed (k:=?_))))
 refine dP [0,1] (pre:=[_,_,_,_,_,_,_,_,_]) (k:=?_)
 refine DetHC.appW (kx:=.clip) (ky:=.unk) (xs:=[]) (ys:=fr.map (PV.int .u8)) (zs:=fr.map (PV.int .u8)) [0] [s] Y19 rfl au au au Tryz.td39 Y70 (by intro p hp;cases hp) (isEls_map (P:=Tryz.prog) (e:=5) (f:=PV.int .u8) (fun a=>⟨rfl,Y23⟩) _) Y24 (by rw [Tryz.by5];simp<;>omega) (.inr rfl) (by rw [List.nil_append,weaks_u8]) (fun n=>blws_u8 _ _) ?_
 refine dP [0] (pre:=[_,_]) (k:=?_)
 refine DetHC.app (kx:=k0) (xs:=l.map Snt.pv) (ys:=[Snt.pv (⟨tick,tn,fr⟩:Snt)]) (v:=.sl kv ev) [(0,1)] _ Y19 pq au au Y164 Tryz.td50 Y386 Y54 (isEls_map (P:=Tryz.prog) (e:=54) (f:=Snt.pv) (fun a=>⟨rfl,Y443⟩) [(⟨tick,tn,fr⟩:Snt)]) Y330 Y333 (by intro q hq;rw [List.mem_singleton.1 hq];exact hap) ?_
 refine dP [1] (pre:=[_,_]) (k:=?_)
 refine dE [(1,2)] (k:=?_)
 refine DetHC.nil ?_
 refine rl [0,1,3] (k:=rs (k:=rg [0,1,3,9] (k:=rs (k:=?_))))
 refine Run.join (fun e s'=>e=[(0,.ptr ln 0 0),(3,.sl .unk (fr.map (PV.int .u8))),(9,.int .i64 f)]∧s'=S3) ?_ ?_
 ·rintro e s9 ⟨rfl,hs⟩
  subst s9
  obtain ⟨xs3,hxl3,hr3⟩:=hl3
  unfold lnR at hr3
  have H:=aj hr3 H
  refine rs (k:=rr (k:=ro (pre:=[_]) (k:=rC (h:=ref5_Read hfo hfl) (k:=rh [0,9,10,11,12] (k:=rs (k:=rs (k:=rg [0,9,11,88] (k:=rc (ht:=fun hc1=>?_) (hf:=fun hc1=>?_)))))))))
  ·cases hc1
  ·refine rk (k:=rs (k:=rs (k:=?_)))
   have hrt:((rtuF fr).2=0∧(rtuF fr).1.1=17)∧True:=⟨hrd,trivial⟩
   have hpd:=rtu_pdu hrt.1.1
   have hso:sendF f D fr=lineF f D (rtuF fr).1.2:=if_pos hrt.1
   obtain ⟨p,hpe⟩:∃ y,(rtuF fr).1.2=y:=⟨_,rfl⟩
   have hpo:OkB p:=by rw [← hpe];exact rtu_ok hfo
   rw [hpe] at hpd hso
   rw [hpe] at h1 h2
   have H:=aj hpe H
   refine rg [0,9,11,90] (k:=rc (ht:=fun hc2=>?_) (hf:=fun hc2=>?_))
   ·cases hc2
   ·refine rk (k:=rs (k:=?_))
    have hxo:OkB (pduF D p).1:=pduF_okB hD hpo Y14
    have hxl9:(pduF D p).1.length≤140737488350000:=pduF_len hD hpo hpd.2.1
    refine rr (k:=ro (pre:=[_,_,_,_,_]) (k:=?_))
    refine RunO.callw au au au Y19 ((ref8_Pdu hA hD hpo Y14).mono ?_)
    rintro r s9 ⟨rfl,hs⟩
    subst s9
    refine rh [9,17] (k:=rs (k:=rs (k:=rg [9,17,113] (k:=rc (ht:=fun hc3=>?_) (hf:=fun hc3=>?_)))))
    ·cases hc3
    ·refine rk (k:=rs (k:=rr (k:=ro (pre:=[_]) (k:=?_))))
     refine RunO.callw au au au Y19 ((ref5_FrameO (b:=(pduF D p).1) hxo h1 h2).mono ?_)
     rintro r s9 ⟨rfl,hs⟩
     subst s9
     refine rh [9,18] (k:=rs (k:=rs (k:=?_)))
     refine Run.genS fun S9 hS9=>?_
     obtain ⟨Z,hZ⟩:∃ Z,Z=sealB (17::(pduF D p).1):=⟨_,rfl⟩
     have hrow:S9.blk (S3.nxt+2)=some (.row 5 (Z.map (PV.int .u8))):=by rw [hS9,hZ];exact blk_new_eq
     have hZl:Z.length=(pduF D p).1.length+3:=by rw [hZ,sealB_len,List.length_cons]
     obtain ⟨m,hm⟩:∃ m,m+1=Z.length:=⟨(pduF D p).1.length+2,Y14⟩
     have hml:m<Z.length:=Y14
     obtain ⟨z,hz⟩:∃ z,Z[m]'hml=z:=⟨_,rfl⟩
     have hzz:(Z.map (PV.int .u8))[m]? =some (.int .u8 z):=by rw [map_get hml,hz]
     have hT1:((0:Int)<(((pduF D p).1.length+3:Nat):Int))=True:=eq_true Y14
     have hw:IntKind.i64.wrap ((((pduF D p).1.length+3:Nat):Int)-1)=(m:Int):=Y21
     have hmT:(m<(pduF D p).1.length+3)=True:=eq_true Y14
     have hmT2:((m:Int)<(((pduF D p).1.length+3:Nat):Int))=True:=eq_true Y14
     have hset:(Z.map (PV.int .u8)).set m (.int .u8 (ibits .xor .u8 z 1))=(Z.set m (ibits .xor .u8 z 1)).map (PV.int .u8):=by rw [List.map_set]
     have hfl9:Z.set m (ibits .xor .u8 z 1)=flipL (frameF (pduF D p).1):=by
      rw [frameF_eq h1 h2,← hZ]
      unfold flipL
      rw [show Z.length-1=m from Y14,List.getElem?_eq_getElem hml,hz];rfl
     have H:=aj hrow (aj hzz (aj hT1 (aj hw (aj hmT (aj hmT2 (aj hset H))))))
     refine rg [18,125] (k:=rc (ht:=fun hc4=>?_) (hf:=fun hc4=>?_))
     ·refine rg [18] (k:=rs (k:=rr (k:=?_)))
      refine RunO.thaw 18 (S3.nxt+2) 2 (v:=.sl .unk ((flipL (frameF (pduF D p).1)).map (PV.int .u8))) (by simp (disch:=omega) only [go_sem,↓reduceIte];rw [← hfl9];exact frz_own_ints (t:=5) (by rw [List.length_set];omega) Y66 (by simp (disch:=first | omega |(simp only [nxt_set,nxt_new,putRef_nxt]<;>omega) | fail) only [go_sem,putRef_nxt,↓reduceIte,H]<;>rfl)) Y442 ?_
      refine ro (pre:=[_]) (k:=rh [8] (k:=rR (k:=?_)))
      refine Ret.allW (r':=.sl .unk ((sendF f D fr).1.map (PV.int .u8))) Y166 ?_ ⟨rfl,?_⟩
      ·rw [hso,h3];simp only [PV.weak,weaks_u8];rfl
      ·rw [hS9,hpe];rfl
     ·cases hc4
 intro hJs3
 refine rs (k:=rr (k:=ro (pre:=[_,_,_]) (k:=rQ 37 (ht:=fun hg2=>?_) (hf:=fun hg2=>?_))))
 refine rg1 (k:=rg1 (k:=ro (pre:=[_,_]) (k:=rQ 41 (ht:=fun hg6=>?_) (hf:=fun hg6=>?_))))
 have hg6':tn<4:=of_decide_eq_true hg6
 have hg2':0≤tn:=of_decide_eq_true hg2
 obtain ⟨T,k,L0,rfl,hT,hx⟩:∃ (T:Nat) (k:SK) (L0:List Int),tn=(T:Int)∧T<4∧xs[T]? =some (.sl k (L0.map (PV.int .i64))):=by
  rcases hcase with ⟨_,_,h | ⟨k,T,h1,h2,h3⟩⟩ | ⟨T,t,L,_,_,_,h1,h2,h3,_⟩
  ·exact absurd ⟨hg2',hg6'⟩ h
  ·exact ⟨T,k,[],h1,h2,h3⟩
  ·exact ⟨T,_,_,h1,h2,h3⟩
 have hdr:=drop_one (st:=.sl kv ev) (p:=.ptr (b+5) 0 0) hx
 have ht4:((T:Int)<((4:Nat):Int))=True:=eq_true Y14
 have H:=aj hdr (aj ht4 H)
 refine rg1 (k:=rg1 (k:=rg1 (k:=rg1 (k:=rg1 (k:=rg1 (k:=rg1 (k:=rg1 (k:=rh [0,1,3,9,50] (k:=rc (ht:=fun hc0=>?_) (hf:=fun hc0=>?_))))))))))
 ·exact Y55
 refine jO 1 ?_;rotate_left
 refine jO 2 ?_;rotate_left
 refine rg0 (k:=rg0 (k:=ro (pre:=[_,_]) (k:=rQ 41 (ht:=fun hg6=>?_) (hf:=fun hg6=>?_))))
 ·cases hg6
 refine jO 2 ?_;rotate_left
 any_goals
  refine jI 2 ?_
  refine rg0 (k:=rg0 (k:=rg0 (k:=rg0 (k:=rg0 (k:=rg0 (k:=rg0 (k:=rg0 (k:=rh [0,1,3,9,50] (k:=rc (ht:=fun hc0=>?_) (hf:=fun hc0=>?_))))))))))
  ·cases hc0
  refine jO 1 ?_;rotate_left
 any_goals
  refine jI 1 ?_
  refine rk (k:=?_)
  refine jO 3 ?_;rotate_left
 any_goals
  refine jI 3 ?_
  obtain ⟨h0,hS8,_⟩:=hcase.resolve_right Y110
  exact absurd (h3.symm.trans h0) Y15
end Go.Proofs

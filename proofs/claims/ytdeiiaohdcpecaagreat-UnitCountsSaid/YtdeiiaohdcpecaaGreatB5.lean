import Derived.Test.YtdeiiaohdcpecaaGreatB4
import Derived.Test.YtdeiiaohdcpecaaGreatB3
import Derived.Test.YtdeiiaohdcpecaaGreatB2
import Derived.Test.YtdeiiaohdcpecaaGreatB1
set_option linter.unusedVariables false
set_option linter.unusedSimpArgs false
namespace Go.Proofs
open Go.PM
set_option maxHeartbeats 2000000
attribute [local go_sem] weaks_bools Rep.pv
theorem join_Reply1 {r:Rep} {s:St}:ACalls Tryz.prog 96 [r.pv] s (fun v s'=>v=.bool (decide (¬ r.code=0))∧s'=s):=by
 refine go Tryz.func96 (k:=fun hwf H=>?_)
 refine rs (k:=rg [1] (k:=rs (k:=rg [2] (k:=rR (k:=rP (by simp only [Tryz.f96,go_sem];rfl) hwf ⟨?_,rfl⟩)))))
 simp [PV.weak]
attribute [local go_sem] weaks_bools set_set Rep.pv Req.pv List.map_nil
theorem Y55 {p:Prop} (h:p:=by exact (fun i hi=>by first | exact hlo i hi |(rw [blk_set_ne Y21];exact hlo i hi) |(rw [blk_set_ne Y21,blk_set_ne Y21];exact hlo i hi))):p:=h
theorem Y110 {p:Prop} (h:p:=by simp only [Tryz.f97,go_sem,↓reduceIte]<;>rfl):p:=h
set_option maxRecDepth 100000 in
theorem join_whole {q:Req} (hq:q.ok) {bits:List Bool} {vals:List Int} (h1:bits.length≤100000) (h2:vals.length≤100000) {s:St}:ACalls Tryz.prog 97 [q.pv,(⟨q.fn,0,0,0,0,bits,vals,0,0,[]⟩:Rep).pv] s (fun v s'=>v=(wholeF q bits vals).pv∧s'=s):=by
 refine go Tryz.func97 (k:=fun hwf H=>?_)
 have hnb:=hq.nb
 have hnv:=hq.nv
 have hws:IntKind.i64.wrap ((bits.length:Int)+(vals.length:Int))=(bits.length:Int)+(vals.length:Int):=wrap_i64 Y21
 have H:=aj hws H
 refine rs (k:=rg [2,3,4] (k:=rs (k:=rs (k:=?_))))
 refine Run.genS fun S1 hS=>?_
 obtain ⟨p2,h2'⟩:∃ p,p=s.nxt:=⟨_,rfl⟩
 obtain ⟨p3,h3'⟩:∃ p,p=s.nxt+1:=⟨_,rfl⟩
 obtain ⟨p4,h4'⟩:∃ p,p=s.nxt+2:=⟨_,rfl⟩
 rw [← h4',← h3',← h2']
 have hx2:S1.blk p2=some (.row 47 [.agg [.int .i64 q.fn,.int .i64 q.at_,.int .i64 q.count,.int .i64 q.wat,.int .i64 q.sub,.sl .unk (q.bits.map PV.bool),.sl .unk (q.vals.map (PV.int .u16)),.int .u16 q.and_,.int .u16 q.or_]]):=by rw [hS];simp (disch:=first | omega |(simp only [nxt_set,nxt_new]<;>omega) | fail) only [go_sem,h2']<;>rfl
 have hx3:S1.blk p3=some (.row 52 [.agg [.int .i64 q.fn,.int .i64 0,.int .i64 0,.int .i64 0,.int .i64 0,.sl .unk (bits.map PV.bool),.sl .unk (vals.map (PV.int .u16)),.int .u16 0,.int .u16 0,.sl .unk []]]):=by rw [hS];simp (disch:=first | omega |(simp only [nxt_set,nxt_new]<;>omega) | fail) only [go_sem,h3']<;>rfl
 have hx4:S1.blk p4=some (.row 52 [.agg [.int .i64 0,.int .i64 0,.int .i64 0,.int .i64 0,.int .i64 0,.sl .nil [],.sl .nil [],.int .u16 0,.int .u16 0,.sl .nil []]]):=by rw [hS];simp (disch:=first | omega |(simp only [nxt_set,nxt_new]<;>omega) | fail) only [go_sem,h4']<;>rfl
 have hlo:∀ j,j<s.nxt→S1.blk j=s.blk j:=fun j hj=>Y46
 clear hS
 have n1:(p2=p3)=False:=eq_false Y21
 have n2:(p2=p4)=False:=eq_false Y21
 have n3:(p3=p4)=False:=eq_false Y21
 have n4:(p3=p2)=False:=eq_false Y21
 have n5:(p4=p2)=False:=eq_false Y21
 have n6:(p4=p3)=False:=eq_false Y21
 have H:=aj hx2 (aj hx3 (aj hx4 (aj n1 (aj n2 (aj n3 (aj n4 (aj n5 (aj n6 H))))))))
 refine rg [2,3,4,6] (k:=rb (k:=rs (k:=rg [2,3,4,6,7] (k:=rc (ht:=fun hc0=>?_) (hf:=fun hc0=>?_)))))
 ·refine rs (k:=rH 10 [9] [[false],[true]] [S1,(S1.set p4 (some (.row 52 [.agg [.int .i64 q.fn,.int .i64 0,.int .i64 q.at_,.int .i64 0,.int .i64 0,.sl .unc (q.bits.map PV.bool),.sl .nil [],.int .u16 0,.int .u16 0,.sl .nil []]])))] Tryz.mixed (k:=?_))
  refine dP [0] (pre:=[_,_,_,_,_,_]) (k:=?_)
  refine dC [0] (h:=fun s _=>clone_bool (xs:=q.bits) Y21) (k:=?_)
  refine dC [0] (h:=fun s _=>clip_bool (xs:=q.bits)) (k:=?_)
  refine dP [0] (pre:=[_]) (k:=?_)
  refine dE [(0,1)] (k:=?_)
  refine DetHC.nil ?_
  refine rl [4] (k:=rR (k:=?_))
  simp only [Bool.not_eq_true',Bool.not_eq_false',decide_eq_true_eq,decide_eq_false_iff_not] at *
  refine Ret.pure (r':=(wholeF q bits vals).pv) Y110 ?_ (blw_rep _ _) hwf Y55 ⟨rfl,rfl⟩
  unfold wholeF
  rw [if_pos hc0,hc0]
  simp only [PV.weak,PV.weaks,Rep.pv,weaks_bools,weaks_u16]<;>rfl
 refine rs (k:=rg [2,3,4,6,18] (k:=rc (ht:=fun hc1=>?_) (hf:=fun hc1=>?_)))
 ·refine rs (k:=rH 10 [9] [[false],[true]] [S1,(S1.set p4 (some (.row 52 [.agg [.int .i64 q.fn,.int .i64 0,.int .i64 q.at_,.int .i64 0,.int .i64 0,.sl .nil [],.sl .unc (q.vals.map (PV.int .u16)),.int .u16 0,.int .u16 0,.sl .nil []]])))] Tryz.mixed (k:=?_))
  refine dP [0] (pre:=[_,_,_,_,_,_]) (k:=?_)
  refine dC [0] (h:=fun s _=>clone_u16 (xs:=q.vals) Y21) (k:=?_)
  refine dC [0] (h:=fun s _=>clip_u16 (xs:=q.vals)) (k:=?_)
  refine dP [0] (pre:=[_]) (k:=?_)
  refine dE [(0,1)] (k:=?_)
  refine DetHC.nil ?_
  refine rl [4] (k:=rR (k:=?_))
  simp only [Bool.not_eq_true',Bool.not_eq_false',decide_eq_true_eq,decide_eq_false_iff_not] at *
  refine Ret.pure (r':=(wholeF q bits vals).pv) Y110 ?_ (blw_rep _ _) hwf Y55 ⟨rfl,rfl⟩
  unfold wholeF
  rw [if_neg Y21,if_pos hc1,hc1]
  simp only [PV.weak,PV.weaks,Rep.pv,weaks_bools,weaks_u16]<;>rfl
 refine rs (k:=rs (k:=rg [2,3,4,6,29] (k:=rc (ht:=fun hc2=>?_) (hf:=fun hc2=>?_))))
 refine rk (k:=rc (ht:=fun hc3=>?_) (hf:=fun hc3=>?_))
 refine jO 1 ?_;rotate_left
 ·exact Y146
 refine rg [2,3,4,6,29] (k:=rc (ht:=fun hc3=>?_) (hf:=fun hc3=>?_))
 refine jO 1 ?_;rotate_left
 ·refine rs (k:=rg [2,3,4,39] (k:=rc (ht:=fun hc4=>?_) (hf:=fun hc4=>?_)))
  ·refine rs (k:=rg [4] (k:=rR (k:=?_)))
   simp only [Bool.not_eq_true',Bool.not_eq_false',decide_eq_true_eq,decide_eq_false_iff_not] at *
   refine Ret.pure (r':=(wholeF q bits vals).pv) Y110 ?_ (blw_rep _ _) hwf Y55 ⟨rfl,rfl⟩
   unfold wholeF
   rw [if_neg Y21,if_neg Y21,if_neg Y21,if_pos Y21,show q.fn=22 from Y21]
   simp only [PV.weak,PV.weaks,Rep.pv,weaks_bools,weaks_u16]<;>rfl
  ·refine rk (k:=rB (k:=rs (k:=rs (k:=rg [2,3,4,59] (k:=rc (ht:=fun hc5=>?_) (hf:=fun hc5=>?_))))))
   ·refine rs (k:=rr (k:=ro (pre:=[_,_]) (k:=rC (h:=reply_Refuse hq.fn Y24) (k:=rh [4] (k:=rR (k:=?_))))))
    simp only [Bool.not_eq_true',Bool.not_eq_false',decide_eq_true_eq,decide_eq_false_iff_not] at *
    refine Ret.pure (r':=(wholeF q bits vals).pv) Y110 ?_ (blw_rep _ _) hwf Y55 ⟨rfl,rfl⟩
    unfold wholeF
    rw [if_neg Y21,if_neg Y21,if_neg Y21,if_neg Y21,if_neg Y21]
    simp only [PV.weak,PV.weaks,Rep.pv,weaks_bools,weaks_u16]<;>rfl
   ·refine rk (k:=rs (k:=rH 10 [7,9] [[false,false],[true,false],[true,true]] [S1,(S1.set p3 (some (.row 52 [.agg [.int .i64 q.fn,.int .i64 0,.int .i64 0,.int .i64 0,.int .i64 0,.sl .unc (bits.map PV.bool),.sl .unk (vals.map (PV.int .u16)),.int .u16 0,.int .u16 0,.sl .unk []]]))),(S1.set p3 (some (.row 52 [.agg [.int .i64 q.fn,.int .i64 0,.int .i64 0,.int .i64 0,.int .i64 0,.sl .unc (bits.map PV.bool),.sl .unc (vals.map (PV.int .u16)),.int .u16 0,.int .u16 0,.sl .unk []]])))] Tryz.mixed (k:=?_)))
    refine dP [0] (pre:=[_,_]) (k:=?_)
    refine dC [0] (h:=fun s _=>clip_bool (xs:=bits)) (k:=?_)
    refine dP [0] (pre:=[_,_]) (k:=?_)
    refine dC [0] (h:=fun s _=>clip_u16 (xs:=vals)) (k:=?_)
    refine dP [0] (pre:=[_]) (k:=?_)
    refine dE [(0,1)] (k:=?_)
    refine dP [1] (pre:=[_]) (k:=?_)
    refine dE [(1,2)] (k:=?_)
    refine DetHC.nil ?_
    refine rl [3,4] (k:=rs (k:=rg [4] (k:=rR (k:=?_))))
    simp only [Bool.not_eq_true',Bool.not_eq_false',decide_eq_true_eq,decide_eq_false_iff_not] at *
    refine Ret.pure (r':=(wholeF q bits vals).pv) Y110 ?_ (blw_rep _ _) hwf Y55 ⟨rfl,rfl⟩
    unfold wholeF
    rw [if_neg Y21,if_neg Y21,if_neg Y21,if_neg Y21,if_pos Y21]
    simp only [PV.weak,PV.weaks,Rep.pv,weaks_bools,weaks_u16]<;>rfl
 any_goals
  refine jI 1 ?_
  refine rs (k:=rg [4] (k:=rR (k:=?_)))
  refine jO 2 ?_;rotate_left
 any_goals
  refine jI 2 ?_
  simp only [Bool.not_eq_true',Bool.not_eq_false',decide_eq_true_eq,decide_eq_false_iff_not] at *
  refine jO 3 ?_;rotate_left
 any_goals
  refine jI 3 ?_
  refine Ret.pure (r':=(wholeF q bits vals).pv) Y110 ?_ (blw_rep _ _) hwf Y55 ⟨rfl,rfl⟩
  refine jO 4 ?_;rotate_left
 any_goals
  refine jI 4 ?_
  unfold wholeF
  refine jO 5 ?_;rotate_left
 any_goals
  refine jI 5 ?_
  rw [if_neg Y21,if_neg Y21,if_pos Y21]
  simp only [PV.weak,PV.weaks,Rep.pv,weaks_bools,weaks_u16]<;>rfl
end Go.Proofs
namespace Go.Proofs
open Go.PM
set_option maxHeartbeats 2000000
theorem Cn.msg_pv (c:Cn):c.msg.pv=.agg [.int .i64 (min (c.m+1) 1073741824),.int .i64 c.e,.int .i64 c.b]:=rfl
theorem Cn.exc_pv (c:Cn):c.exc.pv=.agg [.int .i64 c.m,.int .i64 (min (c.e+1) 1073741824),.int .i64 c.b]:=rfl
theorem Cn.bad_pv (c:Cn) (n:Int):(c.bad n).pv=.agg [.int .i64 c.m,.int .i64 c.e,.int .i64 (c.b+max 0 (min n (1073741824-c.b)))]:=rfl
attribute [local go_sem] Cn.pv
theorem count_New {s:St}:ACalls Tryz.prog 27 [] s (fun r s'=>r=.ptr s.nxt 0 0∧s'=s.new (.row 112 [(⟨0,0,0⟩:Cn).pv])):=by
 refine go Tryz.func27 (k:=fun hwf H=>?_)
 refine rs (k:=rg [] (k:=rs (k:=rg [0] (k:=rR (k:=?_)))))
 exact Ret.all (by simp only [Tryz.f27,go_sem,↓reduceIte]<;>rfl) ⟨rfl,rfl⟩
attribute [local go_sem] Cn.pv
theorem count_Message {cc:Nat} {c:Cn} (hc:c.ok) {s:St} (hb:s.blk cc=some (.row 112 [c.pv])):ACalls Tryz.prog 30 [.ptr cc 0 0] s (fun r s'=>r=.tuple []∧s'=s.set cc (some (.row 112 [c.msg.pv]))):=by
 refine go Tryz.func30 (k:=fun hwf H=>?_)
 have hlt:=lt_blk hwf hb
 rw [Cn.pv] at hb
 have hm:=hc.m
 have he:=hc.e
 have hbd:=hc.b
 have H:=aj hb H
 have hw:IntKind.i64.wrap (c.m+1)=c.m+1:=wrap_i64 Y21
 have hmn:(if (1073741824:Int)<c.m+1 then 1073741824 else c.m+1)=min (c.m+1) 1073741824:=Y21
 have H:=aj hw (aj hmn H)
 refine rg [] (k:=rN (k:=?_))
 refine Ret.all (by simp only [Tryz.f30,go_sem,↓reduceIte]<;>rfl) ⟨rfl,?_⟩
 rw [Cn.msg_pv]
attribute [local go_sem] Cn.pv
theorem count_Exception {cc:Nat} {c:Cn} (hc:c.ok) {s:St} (hb:s.blk cc=some (.row 112 [c.pv])):ACalls Tryz.prog 32 [.ptr cc 0 0] s (fun r s'=>r=.tuple []∧s'=s.set cc (some (.row 112 [c.exc.pv]))):=by
 refine go Tryz.func32 (k:=fun hwf H=>?_)
 have hlt:=lt_blk hwf hb
 rw [Cn.pv] at hb
 have hm:=hc.m
 have he:=hc.e
 have hbd:=hc.b
 have H:=aj hb H
 have hw:IntKind.i64.wrap (c.e+1)=c.e+1:=wrap_i64 Y21
 have hmn:(if (1073741824:Int)<c.e+1 then 1073741824 else c.e+1)=min (c.e+1) 1073741824:=Y21
 have H:=aj hw (aj hmn H)
 refine rg [] (k:=rN (k:=?_))
 refine Ret.all (by simp only [Tryz.f32,go_sem,↓reduceIte]<;>rfl) ⟨rfl,?_⟩
 rw [Cn.exc_pv]
attribute [local go_sem] Cn.pv
theorem count_Bad {cc:Nat} {c:Cn} (hc:c.ok) {s:St} (hb:s.blk cc=some (.row 112 [c.pv])) {n:Int}:ACalls Tryz.prog 99 [.ptr cc 0 0,.int .i64 n] s (fun r s'=>r=.tuple []∧s'=s.set cc (some (.row 112 [(c.bad n).pv]))):=by
 refine go Tryz.func99 (k:=fun hwf H=>?_)
 have hlt:=lt_blk hwf hb
 rw [Cn.pv] at hb
 have hm:=hc.m
 have he:=hc.e
 have hbd:=hc.b
 have H:=aj hb H
 have hw1:IntKind.i64.wrap (1073741824-c.b)=1073741824-c.b:=wrap_i64 Y21
 have hmn:(if (1073741824-c.b:Int)<n then 1073741824-c.b else n)=min n (1073741824-c.b):=Y21
 have hmx:(if (0:Int)<min n (1073741824-c.b) then min n (1073741824-c.b) else 0)=max 0 (min n (1073741824-c.b)):=Y21
 have hw2:IntKind.i64.wrap (c.b+max 0 (min n (1073741824-c.b)))=c.b+max 0 (min n (1073741824-c.b)):=wrap_i64 Y21
 have H:=aj hw1 (aj hmn (aj hmx (aj hw2 H)))
 refine rH 16 [15] [[false],[true]] [s,(s.set cc (some (.row 112 [.agg [.int .i64 c.m,.int .i64 c.e,.int .i64 (c.b+max 0 (min n (1073741824-c.b)))]])))] Tryz.mixed (k:=?_)
 refine dP [0] (pre:=[_,_,_,_,_,_,_,_,_,_,_,_,_,_,_]) (k:=?_)
 refine dE [(0,1)] (k:=?_)
 refine DetHC.nil ?_
 refine rl [] (k:=rN (k:=?_))
 refine Ret.all (by simp only [Tryz.f99,go_sem,↓reduceIte]<;>rfl) ⟨rfl,?_⟩
 rw [Cn.bad_pv]
attribute [local go_sem] Cn.pv
theorem count_Clear {cc:Nat} {c:Cn} {s:St} (hb:s.blk cc=some (.row 112 [c.pv])):ACalls Tryz.prog 94 [.ptr cc 0 0] s (fun r s'=>r=.tuple []∧s'=s.set cc (some (.row 112 [(⟨0,0,0⟩:Cn).pv]))):=by
 refine go Tryz.func94 (k:=fun hwf H=>?_)
 have hlt:=lt_blk hwf hb
 rw [Cn.pv] at hb
 have H:=aj hb H
 refine rg [] (k:=rN (k:=?_))
 exact Ret.all (by simp only [Tryz.f94,go_sem,↓reduceIte]<;>rfl) ⟨rfl,rfl⟩
attribute [local go_sem] Cn.pv
theorem count_Get {cc:Nat} {c:Cn} (hc:c.ok) {s:St} (hb:s.blk cc=some (.row 112 [c.pv])) {sub:Int}:ACalls Tryz.prog 22 [.ptr cc 0 0,.int .i64 sub] s (fun r s'=>r=.tuple [.int .u16 ((c.get sub).getD 0),.bool (c.get sub).isSome]∧s'=s):=by
 refine go Tryz.func22 (k:=fun hwf H=>?_)
 have hlt:=lt_blk hwf hb
 rw [Cn.pv] at hb
 have hm:=hc.m
 have he:=hc.e
 have hbd:=hc.b
 have H:=aj hb H
 have hw1:IntKind.u16.wrap c.m=c.m%65536:=Y73
 have hw2:IntKind.u16.wrap c.b=c.b%65536:=Y73
 have hw3:IntKind.u16.wrap c.e=c.e%65536:=Y73
 have H:=aj hw1 (aj hw2 (aj hw3 H))
 refine rs (k:=rg [0,1] (k:=rs (k:=rs (k:=rg [0,6] (k:=rb (k:=rs (k:=rs (k:=rg [0,6,7] (k:=rc (ht:=fun hc0=>?_) (hf:=fun hc0=>?_))))))))))
 have hc:=hc0
 refine rk (k:=rc (ht:=fun hc1=>?_) (hf:=fun hc1=>?_))
 refine jO 1 ?_;rotate_left
 ·exact Y315
 have hc:=hc0
 refine rg [0,6,7] (k:=rc (ht:=fun hc1=>?_) (hf:=fun hc1=>?_))
 refine jO 1 ?_;rotate_left
 have hc:=hc1
 refine rs (k:=rg [0,6,15] (k:=rc (ht:=fun hc2=>?_) (hf:=fun hc2=>?_)))
 have hc:=hc2
 refine rs (k:=rg [4,5] (k:=rR (k:=?_)))
 simp only [decide_eq_true_eq,decide_eq_false_iff_not] at *
 have hg:c.get sub=some (c.b%65536):=by
  unfold Cn.get
  rw [if_neg Y21,if_pos Y21]
 refine jO 2 ?_;rotate_left
 have hc:=hc2
 refine rs (k:=rg [0,22] (k:=rc (ht:=fun hc3=>?_) (hf:=fun hc3=>?_)))
 have hc:=hc3
 refine rs (k:=rg [4,5] (k:=rR (k:=?_)))
 simp only [decide_eq_true_eq,decide_eq_false_iff_not] at *
 have hg:c.get sub=some (c.e%65536):=by
  unfold Cn.get
  rw [if_neg Y21,if_neg Y21,if_pos Y21]
 refine jO 2 ?_;rotate_left
 have hc:=hc3
 refine rk (k:=rB (k:=rs (k:=rg [4,5] (k:=rR (k:=?_)))))
 simp only [decide_eq_true_eq,decide_eq_false_iff_not] at *
 have hg:c.get sub=none:=by
  unfold Cn.get
  rw [if_neg Y21,if_neg Y21,if_neg Y21]
 refine jO 2 ?_;rotate_left
 any_goals
  refine jI 1 ?_
  have hc:=hc1
  refine jO 3 ?_;rotate_left
 any_goals
  refine jI 3 ?_
  refine rs (k:=rg [4,5] (k:=rR (k:=?_)))
  refine jO 4 ?_;rotate_left
 any_goals
  refine jI 4 ?_
  simp only [decide_eq_true_eq,decide_eq_false_iff_not] at *
  refine jO 5 ?_;rotate_left
 any_goals
  refine jI 5 ?_
  have hg:c.get sub=some (c.m%65536):=by
   unfold Cn.get
   rw [if_pos Y21]
  refine jO 2 ?_;rotate_left
 any_goals
  refine jI 2 ?_
  refine Ret.all (by simp only [Tryz.f22,go_sem,↓reduceIte]<;>rfl) ⟨by rw [hg];rfl,rfl⟩
end Go.Proofs
namespace Go.Proofs
open Go.PM
set_option maxHeartbeats 2000000
theorem weaks_reps (l:List Rep):PV.weaks (l.map Rep.pv)=l.map Rep.pv:=weaks_map_id Rep.pv weak_rep l
theorem joinA_step {q:Req} {ps:List (Req × Bool)} {l:List Rep} {i:Nat} {bits:List Bool} {vals:List Int} (h1:i<ps.length) (h2:i<l.length):joinA q (ps.drop i) (l.drop i) bits vals=if ¬ (l[i]).fn=(ps[i]).1.fn∨¬ goodF l[i]=0 then refuseP q.fn 4 else joinA q (ps.drop (i+1)) (l.drop (i+1)) (if (ps[i]).2 then bits else bits++(l[i]).bits) (if (ps[i]).2 then vals else vals++(l[i]).vals):=by
 rw [drop_get h1,drop_get h2]
 rfl
theorem joinA_end {q:Req} {ps:List (Req × Bool)} {bits:List Bool} {vals:List Int}:joinA q ps [] bits vals=if ps=[] then wholeF q bits vals else refuseP q.fn 4:=by
 cases ps<;>rfl
attribute [local go_sem] weaks_reps weaks_bools
theorem index_Rep {xs:List Rep} {k:FuncId} {cap:List PV} {p:Rep→Bool} {s:St} (hsz:xs.length<140737488355328) (hcal:callable Tryz.prog k=true) (hcap:PV.weaks cap=cap) (hf:∀ x∈xs,ACalls Tryz.prog k (x.pv::cap) s (fun r s'=>r=.bool (p x)∧s'=s)) :
  ACalls Tryz.prog 95 [.sl .unk (xs.map Rep.pv),.fn (.func k) [] cap] s (fun r s'=>r=.int .i64 (idxF p xs 0)∧s'=s):=by
 refine go Tryz.func95 (k:=fun hwf H=>?_)
 have H:=aj hcap H
 refine rs (k:=rg [0,1] (k:=rs (k:=rs (k:=rg [0,1,7,8] (k:=rb (k:=?_))))))
 refine Run.loop (fun e s'=>s'=s∧∃ i:Nat,e=[(0,.sl .unk (xs.map Rep.pv)),(1,.fn (.func k) [] cap),(7,.int .i64 xs.length),(8,.int .i64 i)]∧i≤xs.length∧idxF p xs 0=idxF p (xs.drop i) i) (fun e s'=>xs.length-ivar e 8) ?_ ?_
 ·exact Y247
 rintro e s' ⟨hs,i,rfl,hi,hidx⟩
 subst s'
 refine rs (k:=rg [0,1,7,8,9] (k:=rs (k:=rc (ht:=fun hc0=>?_) (hf:=fun hc0=>?_))))
 refine rk (k:=rs (k:=rb (k:=rs (k:=?_))))
 have hil:i<xs.length:=Y83
 obtain ⟨x,hxe⟩:∃ z_,xs[i]'hil=z_:=⟨_,rfl⟩
 have hxx:(xs.map Rep.pv)[i]? =some (.agg [.int .i64 (x).fn,.int .i64 (x).code,.int .i64 (x).at_,.int .i64 (x).count,.int .i64 (x).sub,.sl .unk ((x).bits.map PV.bool),.sl .unk ((x).vals.map (PV.int .u16)),.int .u16 (x).and_,.int .u16 (x).or_,.sl .unk ((x).data.map (PV.int .u8))]):=Y163
 have hw:IntKind.i64.wrap ((i:Int)+1)=((i+1:Nat):Int):=Y28
 have H:=aj hxx (aj hw H)
 refine rg [0,1,5,7,8] (k:=rs (k:=rr (k:=ro (pre:=[_,_,_,_,_]) (k:=?_))))
 refine RunO.callw au au au hcal ((hf x Y84).mono ?_)
 rintro r1 s1 ⟨rfl,hs⟩
 subst s1
 refine rl [0,1,5,7,8,16] (k:=rc (ht:=fun hc1=>?_) (hf:=fun hc1=>?_))
 refine rs (k:=rg [4] (k:=rR (k:=rP (by simp only [Tryz.f95,go_sem];rfl) hwf ⟨?_,rfl⟩)))
 refine jO 1 ?_;rotate_left
 ·exact Y109
 refine rX (k:=rs (k:=rg [4] (k:=rR (k:=rP (by simp only [Tryz.f95,go_sem];rfl) hwf ⟨?_,rfl⟩))))
 refine jO 1 ?_;rotate_left
 any_goals
  refine jI 1 ?_
  first
   |(rw [idxF_step p hil,hxe,if_pos hc1] at hidx
     rw [hidx];rfl)
   |(have:i=xs.length:=by have:=of_decide_eq_false hc0;omega
     rw [this,List.drop_length] at hidx
     rw [hidx];rfl)
attribute [local go_sem] weaks_reps weaks_pts weaks_bools set_set Req.pv
theorem Y277 {p:Prop} (h:p:=by rw [hJ];first | exact weak_rep _ | exact (weak_rep (wholeF q bits vals)).symm | rfl):p:=h
set_option maxRecDepth 100000 in
theorem join_Reply {t:Ten} (ht:t.ok) {q:Req} (hq:q.ok) {l:List Rep} (hl:∀ r∈l,r.ok) (hn:l.length≤100000) {s:St}:ACalls Tryz.prog 66 [t.pv,q.pv,.sl .unk (l.map Rep.pv)] s (fun r s'=>r=(joinF t q l).pv∧s'=s):=by
 refine go Tryz.func66 (k:=fun hwf H=>?_)
 obtain ⟨ps,hps⟩:∃ ps,ps=(splitF t q).1:=⟨_,rfl⟩
 obtain ⟨cd,hcd⟩:∃ c,c=(splitF t q).2:=⟨_,rfl⟩
 have hpl:ps.length≤6:=by rw [hps];exact split_len t q
 have hcv:=code_vals t q
 rw [← split_code,← hcd] at hcv
 obtain ⟨L,hL⟩:∃ L,L=l.take ps.length:=⟨_,rfl⟩
 have hLl:L.length=min ps.length l.length:=by rw [hL,List.length_take]
 have hLo:∀ r∈L,r.ok:=fun r h=>hl r (by rw [hL] at h;exact List.mem_of_mem_take h)
 have hmn:(if ps.length<l.length then (ps.length:Int) else (l.length:Int))=(L.length:Int):=by split<;>omega
 have hmn2:(if (ps.length:Int)<(l.length:Int) then (ps.length:Int) else (l.length:Int))=(L.length:Int):=by split<;>omega
 have hsl:(l.map Rep.pv).take L.length=L.map Rep.pv:=by
  rw [← List.map_take,hL,List.length_take]
  congr 1
  rcases Nat.le_total ps.length l.length with h | h
  ·rw [Nat.min_eq_left h]
  ·rw [Nat.min_eq_right h,List.take_of_length_le h,List.take_of_length_le (Nat.le_refl _)]
 have hle:((L.length:Int)≤(l.length:Int))=True:=eq_true Y21
 have hle2:(L.length≤l.length)=True:=eq_true Y21
 have H:=aj hmn (aj hmn2 (aj hsl (aj hle (aj hle2 H))))
 refine rs (k:=rg [2,3,4,6] (k:=rs (k:=rr (k:=ro (pre:=[_,_]) (k:=?_)))))
 refine RunO.callw au au au Y26 ((part_Split ht hq).mono ?_)
 rintro r s9 ⟨rfl,hs⟩
 subst s9
 rw [← hps,← hcd]
 refine rh [2,4,6,7,8] (k:=rs (k:=rb (k:=rs (k:=?_))))
 refine Run.genS fun S0 hS=>?_
 have hx4:S0.blk (s.nxt+1)=some (.row 47 [.agg [.int .i64 q.fn,.int .i64 q.at_,.int .i64 q.count,.int .i64 q.wat,.int .i64 q.sub,.sl .unk (q.bits.map PV.bool),.sl .unk (q.vals.map (PV.int .u16)),.int .u16 q.and_,.int .u16 q.or_]]):=Y45
 have hx6:S0.blk (s.nxt+2)=some (.row 52 [.agg [.int .i64 0,.int .i64 0,.int .i64 0,.int .i64 0,.int .i64 0,.sl .nil [],.sl .nil [],.int .u16 0,.int .u16 0,.sl .nil []]]):=Y45
 have hn0:S0.nxt=s.nxt+3:=Y155
 have hlo1:∀ j,j<s.nxt→S0.blk j=s.blk j:=fun j hj=>Y46
 clear hS
 have H:=aj hx4 (aj hx6 H)
 refine rg [2,4,6,7,8,19] (k:=rc (ht:=fun hc0=>?_) (hf:=fun hc0=>?_))
 refine rs (k:=rr (k:=ro (pre:=[_,_,_]) (k:=rC (h:=reply_Refuse hq.fn Y77) (k:=rh [6] (k:=rR (k:=?_))))))
 have hcd':¬ (splitF t q).2=0:=by rw [← hcd];simpa using hc0
 have hJ:joinF t q l=refuseP q.fn cd:=by unfold joinF;rw [if_pos hcd',← hcd]
 refine jO 1 ?_;rotate_left
 refine rs (k:=rr (k:=ro (pre:=[_]) (k:=rC (h:=part_Local (q:=q)) (k:=rh [2,4,6,7,26] (k:=rc (ht:=fun hc1=>?_) (hf:=fun hc1=>?_))))))
 refine rs (k:=rr (k:=ro (pre:=[_,_]) (k:=rC (h:=reply_Refuse hq.fn Y24) (k:=rh [6] (k:=rR (k:=?_))))))
 have hcd':¬ ¬ (splitF t q).2=0:=by rw [← hcd];simpa using hc0
 have hJ:joinF t q l=refuseP q.fn 4:=by unfold joinF;rw [if_neg hcd',if_pos hc1]
 refine jO 1 ?_;rotate_left
 refine rk (k:=rB (k:=rs (k:=?_)))
 have hcd':¬ ¬ (splitF t q).2=0:=by rw [← hcd];simpa using hc0
 have hlc':¬ localF q=true:=by rw [show localF q=false from hc1];decide
 have hJF:joinF t q l=match L.find? (fun r=>decide (¬ r.code=0)) with
   | some r=>refuseP q.fn r.code
   | none=>joinA q ps L [] []:=by
  unfold joinF
  rw [if_neg hcd',if_neg hlc',hL,hps]
  rfl
 refine rg [2,4,6,7] (k:=rs (k:=rs (k:=rr (k:=ro (pre:=[_]) (k:=rC (h:=index_Rep (p:=fun r=>decide (¬ r.code=0)) Y21 Y26 rfl (fun y hy=>join_Reply1)) (k:=rh [2,4,6,7,9] (k:=rs (k:=rg [2,4,6,7,9,42] (k:=rc (ht:=fun hc2=>?_) (hf:=fun hc2=>?_))))))))))
 refine rs (k:=?_)
 obtain ⟨j,hj,hj1,hj2⟩:∃ (j:Nat) (h:j<L.length),idxF (fun r:Rep=>decide (¬ r.code=0)) L 0=(j:Int)∧L.find? (fun r=>decide (¬ r.code=0))=some L[j]:=by
  rcases idxF_find (p:=fun r:Rep=>decide (¬ r.code=0)) (l:=L) (n:=0) with ⟨h,_⟩ | ⟨j,hj,h1,h2⟩
  ·have:=of_decide_eq_true hc2;omega
  ·exact ⟨j,hj,by rw [h1,Nat.zero_add],h2⟩
 obtain ⟨y,hye⟩:∃ z_,L[j]'hj=z_:=⟨_,rfl⟩
 have hxy:(L.map Rep.pv)[j]? =some (.agg [.int .i64 (y).fn,.int .i64 (y).code,.int .i64 (y).at_,.int .i64 (y).count,.int .i64 (y).sub,.sl .unk ((y).bits.map PV.bool),.sl .unk ((y).vals.map (PV.int .u16)),.int .u16 (y).and_,.int .u16 (y).or_,.sl .unk ((y).data.map (PV.int .u8))]):=by rw [map_get hj,hye];rfl
 rw [hye] at hj2
 have hjT:(j<L.length)=True:=eq_true hj
 have H:=aj hj1 (aj hxy (aj hjT H))
 refine rH 9 [8] [[false],[true]] [S0,(S0.set (s.nxt+2) (some (.row 52 [(refuseP q.fn y.code).pv])))] Tryz.mixed (k:=?_)
 refine dP [0] (pre:=[_,_,_,_,_,_,_]) (k:=?_)
 refine dC [0] (h:=fun s _=>reply_Refuse hq.fn (hLo y (by rw [← hye];exact List.getElem_mem _)).code) (k:=?_)
 refine dE [(0,1)] (k:=?_)
 refine DetHC.nil ?_
 refine rl [6] (k:=rR (k:=?_))
 have hJ:joinF t q l=refuseP q.fn y.code:=by rw [hJF,hj2]
 refine jO 1 ?_;rotate_left
 refine rk (k:=rs (k:=?_))
 have hnone:L.find? (fun r=>decide (¬ r.code=0))=none:=by
  rcases idxF_find (p:=fun r:Rep=>decide (¬ r.code=0)) (l:=L) (n:=0) with ⟨_,h⟩ | ⟨j,hj,h1,h2⟩
  ·exact h
  ·have:=of_decide_eq_false hc2;omega
 have hne:∀ r∈L,r.code=0:=fun r hr=>by
  have:=List.find?_eq_none.1 hnone r hr
  simpa using this
 refine rg [2,4,6,7,10] (k:=rs (k:=rs (k:=rg [2,4,6,7,10,54,55,56] (k:=rb (k:=?_)))))
 refine Run.loop (fun e s'=>∃ (i:Nat) (bits:List Bool) (vals:List Int) (kb kv:SK),e=[(2,.sl .unk (L.map Rep.pv)),(4,.ptr (s.nxt+1) 0 0),(6,.ptr (s.nxt+2) 0 0),(7,.sl .unk (ps.map ptV)),(10,.ptr (s.nxt+3) 0 0),(54,.sl .unk (L.map Rep.pv)),(55,.int .i64 (L.length:Int)),(56,.int .i64 (i:Int))]∧i≤L.length∧bits.length≤2040*i∧vals.length≤127*i∧joinA q ps L [] []=joinA q (ps.drop i) (L.drop i) bits vals∧(∀ j,j<s.nxt→s'.blk j=s.blk j)∧s.nxt+4≤s'.nxt∧s'.blk (s.nxt+1)=some (.row 47 [.agg [.int .i64 q.fn,.int .i64 q.at_,.int .i64 q.count,.int .i64 q.wat,.int .i64 q.sub,.sl .unk (q.bits.map PV.bool),.sl .unk (q.vals.map (PV.int .u16)),.int .u16 q.and_,.int .u16 q.or_]])∧s'.blk (s.nxt+2)=some (.row 52 [.agg [.int .i64 0,.int .i64 0,.int .i64 0,.int .i64 0,.int .i64 0,.sl .nil [],.sl .nil [],.int .u16 0,.int .u16 0,.sl .nil []]])∧s'.blk (s.nxt+3)=some (.row 52 [.agg [.int .i64 q.fn,.int .i64 0,.int .i64 0,.int .i64 0,.int .i64 0,.sl kb (bits.map PV.bool),.sl kv (vals.map (PV.int .u16)),.int .u16 0,.int .u16 0,.sl .nil []]])∧Grows s' kb bits.length 1∧Grows s' kv vals.length 1∧(∀ t z,kb=.tok t z→s.nxt≤t∧t<s'.nxt)∧(∀ t z,kv=.tok t z→s.nxt≤t∧t<s'.nxt)∧(∀ t z z',kb=.tok t z→kv≠.tok t z')) (fun e s'=>L.length-ivar e 56) ?_ ?_
 ·refine ⟨0,[],[],.nil,.nil,by rw [hn0];rfl,Nat.zero_le _,Nat.zero_le _,Nat.zero_le _,rfl,fun j hj=>?_,?_,?_,?_,?_,.inl ⟨rfl,rfl⟩,.inl ⟨rfl,rfl⟩,fun t z e=>Y20,fun t z e=>Y20,fun t z z' e=>Y20⟩
  ·first |(rw [blk_new_ne Y21];exact hlo1 j hj) |(rw [blk_set_ne Y21,blk_new_ne Y21];exact hlo1 j hj)
  ·show s.nxt+4≤S0.nxt+1;omega
  ·first |(rw [blk_new_ne Y21];exact hx4) |(rw [blk_set_ne Y21,blk_new_ne Y21];exact hx4)
  ·first |(rw [blk_new_ne Y21];exact hx6) |(rw [blk_set_ne Y21,blk_new_ne Y21];exact hx6)
  ·rw [show s.nxt+3=S0.nxt from Y21]
   first | exact blk_new_eq | exact blk_set_self _ _ _
 rintro e s1 ⟨i,bits,vals,kb,kv,rfl,hi,hbl,hvl,hja,hlo,hnx,hq4,hq6,hq10,hgb,hgv,htb,htv,hdj⟩
 have H:=aj hq4 (aj hq6 (aj hq10 H))
 refine rs (k:=rg [2,4,6,7,10,54,55,56,57] (k:=rs (k:=rc (ht:=fun hc3=>?_) (hf:=fun hc3=>?_))))
 refine rk (k:=rs (k:=rb (k:=rs (k:=?_))))
 have hil:i<L.length:=by have:=of_decide_eq_true hc3;omega
 have hip:i<ps.length:=Y21
 obtain ⟨r,hxe⟩:∃ z_,L[i]'hil=z_:=⟨_,rfl⟩
 have hxr:(L.map Rep.pv)[i]? =some (.agg [.int .i64 (r).fn,.int .i64 (r).code,.int .i64 (r).at_,.int .i64 (r).count,.int .i64 (r).sub,.sl .unk ((r).bits.map PV.bool),.sl .unk ((r).vals.map (PV.int .u16)),.int .u16 (r).and_,.int .u16 (r).or_,.sl .unk ((r).data.map (PV.int .u8))]):=Y163
 obtain ⟨y,hye⟩:∃ z_,ps[i]'hip=z_:=⟨_,rfl⟩
 have hxy:(ps.map ptV)[i]? =some (.agg [.int .i64 y.1.fn,.int .i64 y.1.at_,.int .i64 y.1.count,.int .i64 y.1.wat,.int .i64 y.1.sub,.sl .unk (y.1.bits.map PV.bool),.sl .unk (y.1.vals.map (PV.int .u16)),.int .u16 y.1.and_,.int .u16 y.1.or_,.bool y.2]):=by rw [map_get hip,hye];rfl
 have hilT:(i<L.length)=True:=eq_true hil
 have hipT:(i<ps.length)=True:=eq_true hip
 have hw:IntKind.i64.wrap ((i:Int)+1)=((i+1:Nat):Int):=Y28
 have hrm:r∈L:=Y84
 have hro:=hLo r hrm
 have H:=aj hxr (aj hxy (aj hilT (aj hipT (aj hw H))))
 refine rg [2,4,6,7,10,11,12,54,55,56] (k:=rs (k:=rs (k:=?_)))
 refine Run.drawC [] [2,4,6,7,10,11,12,54,55,56,74] Tryz.mixed Y26 ?_
 refine DetC.pre (pre:=[_,_,_,_,_,_,_,_,_,_]) au ?_
 rcases hd9:(!decide (r.fn=y.1.fn)) with _ | _
 have H:=aj hd9 H
 refine DetC.gdo au au ?_
 refine DetC.call au au au Y26 (reply_Right (r:=r) hro) ?_
 refine DetC.gdo au au ?_
 refine DetC.all au ?_
 refine re (k:=rc (ht:=fun hc4=>?_) (hf:=fun hc4=>?_))
 refine jO 2 ?_;rotate_left
 ·refine rk (k:=rs (k:=rg [2,4,6,7,10,12,54,55,56,83] (k:=rc (ht:=fun hc5=>?_) (hf:=fun hc5=>?_))))
  ·have hrg:goodF r=0:=by simpa using hc4
   have hgl:=good_lens hrg
   refine Run.genS fun S1 hS=>?_
   obtain ⟨p12,hp12⟩:∃ p,p=s1.nxt:=⟨_,rfl⟩
   rw [← hp12]
   have hn1:S1.nxt=p12+1:=by rw [hS,hp12];rfl
   have b12:S1.blk p12=some (.row 52 [.agg [.int .i64 (r).fn,.int .i64 (r).code,.int .i64 (r).at_,.int .i64 (r).count,.int .i64 (r).sub,.sl .unk ((r).bits.map PV.bool),.sl .unk ((r).vals.map (PV.int .u16)),.int .u16 (r).and_,.int .u16 (r).or_,.sl .unk ((r).data.map (PV.int .u8))]]):=by rw [hS,hp12];exact blk_new_eq
   have b4:S1.blk (s.nxt+1)=some (.row 47 [.agg [.int .i64 q.fn,.int .i64 q.at_,.int .i64 q.count,.int .i64 q.wat,.int .i64 q.sub,.sl .unk (q.bits.map PV.bool),.sl .unk (q.vals.map (PV.int .u16)),.int .u16 q.and_,.int .u16 q.or_]]):=by rw [hS,blk_new_ne Y21];exact hq4
   have b6:S1.blk (s.nxt+2)=some (.row 52 [.agg [.int .i64 0,.int .i64 0,.int .i64 0,.int .i64 0,.int .i64 0,.sl .nil [],.sl .nil [],.int .u16 0,.int .u16 0,.sl .nil []]]):=by rw [hS,blk_new_ne Y21];exact hq6
   have b10:S1.blk (s.nxt+3)=some (.row 52 [.agg [.int .i64 q.fn,.int .i64 0,.int .i64 0,.int .i64 0,.int .i64 0,.sl kb (bits.map PV.bool),.sl kv (vals.map (PV.int .u16)),.int .u16 0,.int .u16 0,.sl .nil []]]):=by rw [hS,blk_new_ne Y21];exact hq10
   have lo1:∀ j,j<s.nxt→S1.blk j=s.blk j:=fun j hj=>by rw [hS,blk_new_ne Y21];exact hlo j hj
   have hgb1:Grows S1 kb (bits.map PV.bool).length (Tryz.prog.cellsOf 4):=by
    rw [List.length_map,Tryz.cz4,hS]
    exact hgb.mono fun t e=>blk_new_ne (by have:=(htb _ _ e).2;omega)
   have hgv1:Grows S1 kv (vals.map (PV.int .u16)).length (Tryz.prog.cellsOf 39):=by
    rw [List.length_map,Tryz.cz39,hS]
    exact hgv.mono fun t e=>blk_new_ne (by have:=(htv _ _ e).2;omega)
   clear hS
   obtain ⟨kb1,S2,ha1,hgb2,tm1⟩:=hgb1.append' (P:=Tryz.prog) (ys:=r.bits.map PV.bool)
   have hn2:=tm1.nxt
   have c12:S2.blk p12=some (.row 52 [.agg [.int .i64 (r).fn,.int .i64 (r).code,.int .i64 (r).at_,.int .i64 (r).count,.int .i64 (r).sub,.sl .unk ((r).bits.map PV.bool),.sl .unk ((r).vals.map (PV.int .u16)),.int .u16 (r).and_,.int .u16 (r).or_,.sl .unk ((r).data.map (PV.int .u8))]]):=by rw [tm1.rest _ Y21 (fun z e=>hgb1.ne e _ b12 Y108 rfl)];exact b12
   have c10:S2.blk (s.nxt+3)=some (.row 52 [.agg [.int .i64 q.fn,.int .i64 0,.int .i64 0,.int .i64 0,.int .i64 0,.sl kb (bits.map PV.bool),.sl kv (vals.map (PV.int .u16)),.int .u16 0,.int .u16 0,.sl .nil []]]):=by rw [tm1.rest _ Y21 (fun z e=>hgb1.ne e _ b10 Y108 rfl)];exact b10
   have c4:S2.blk (s.nxt+1)=some (.row 47 [.agg [.int .i64 q.fn,.int .i64 q.at_,.int .i64 q.count,.int .i64 q.wat,.int .i64 q.sub,.sl .unk (q.bits.map PV.bool),.sl .unk (q.vals.map (PV.int .u16)),.int .u16 q.and_,.int .u16 q.or_]]):=by rw [tm1.rest _ Y21 (fun z e=>hgb1.ne e _ b4 Y108 rfl)];exact b4
   have c6:S2.blk (s.nxt+2)=some (.row 52 [.agg [.int .i64 0,.int .i64 0,.int .i64 0,.int .i64 0,.int .i64 0,.sl .nil [],.sl .nil [],.int .u16 0,.int .u16 0,.sl .nil []]]):=by rw [tm1.rest _ Y21 (fun z e=>hgb1.ne e _ b6 Y108 rfl)];exact b6
   have hgv2:Grows S2 kv (vals.map (PV.int .u16)).length (Tryz.prog.cellsOf 39):=hgv1.mono fun t e=>tm1.rest t (by have:=(htv _ _ e).2;omega) fun z e'=>hdj _ _ _ e' e
   obtain ⟨kv1,S3,ha2,hgv3,tm2⟩:=hgv2.append' (P:=Tryz.prog) (ys:=r.vals.map (PV.int .u16))
   have hn3:=tm2.nxt
   have d10:S3.blk (s.nxt+3)=some (.row 52 [.agg [.int .i64 q.fn,.int .i64 0,.int .i64 0,.int .i64 0,.int .i64 0,.sl kb (bits.map PV.bool),.sl kv (vals.map (PV.int .u16)),.int .u16 0,.int .u16 0,.sl .nil []]]):=by rw [tm2.rest _ Y21 (fun z e=>hgv2.ne e _ c10 Y108 rfl)];exact c10
   have d4:S3.blk (s.nxt+1)=some (.row 47 [.agg [.int .i64 q.fn,.int .i64 q.at_,.int .i64 q.count,.int .i64 q.wat,.int .i64 q.sub,.sl .unk (q.bits.map PV.bool),.sl .unk (q.vals.map (PV.int .u16)),.int .u16 q.and_,.int .u16 q.or_]]):=by rw [tm2.rest _ Y21 (fun z e=>hgv2.ne e _ c4 Y108 rfl)];exact c4
   have d6:S3.blk (s.nxt+2)=some (.row 52 [.agg [.int .i64 0,.int .i64 0,.int .i64 0,.int .i64 0,.int .i64 0,.sl .nil [],.sl .nil [],.int .u16 0,.int .u16 0,.sl .nil []]]):=by rw [tm2.rest _ Y21 (fun z e=>hgv2.ne e _ c6 Y108 rfl)];exact c6
   have kb1n:∀ t z,kb1=.tok t z→s.nxt≤t∧t<S2.nxt∧∀ z',kv≠.tok t z':=fun t z e=>by
    rcases tm1.fresh t z e with ⟨z',h⟩ | ⟨h1,h2⟩
    ·have h9:=htb t z' h
     exact ⟨h9.1,Y21,fun z'' e'=>hdj t z' z'' h e'⟩
    ·exact ⟨Y21,h2,fun z' e'=>by have:=(htv _ _ e').2;omega⟩
   have lo3:∀ j,j<s.nxt→S3.blk j=s.blk j:=fun j hj=>by
    rw [tm2.rest j Y21 (fun z e=>by have:=(htv _ _ e).1;omega),tm1.rest j Y21 (fun z e=>by have:=(htb _ _ e).1;omega)];exact lo1 j hj
   have n1:(p12=(s.nxt+3))=False:=eq_false Y21
   have H:=aj b12 (aj b4 (aj b6 (aj b10 (aj c12 (aj c10 (aj d10 (aj n1 H)))))))
   refine rH 14 [4,9,11,13] [[false,false,false,false],[true,false,false,false],[true,true,false,false],[true,true,true,false],[true,true,true,true]] [S1,S2,S3,(S3.set (s.nxt+3) (some (.row 52 [.agg [.int .i64 q.fn,.int .i64 0,.int .i64 0,.int .i64 0,.int .i64 0,.sl kb1 (bits.map PV.bool++r.bits.map PV.bool),.sl kv (vals.map (PV.int .u16)),.int .u16 0,.int .u16 0,.sl .nil []]]))),(S3.set (s.nxt+3) (some (.row 52 [.agg [.int .i64 q.fn,.int .i64 0,.int .i64 0,.int .i64 0,.int .i64 0,.sl kb1 (bits.map PV.bool++r.bits.map PV.bool),.sl kv1 (vals.map (PV.int .u16)++r.vals.map (PV.int .u16)),.int .u16 0,.int .u16 0,.sl .nil []]])))] Tryz.mixed (k:=?_)
   refine dP [0] (pre:=[_,_,_,_]) (k:=?_)
   refine DetHC.app (xs:=bits.map PV.bool) (ys:=r.bits.map PV.bool) (v:=.sl kb1 (bits.map PV.bool++r.bits.map PV.bool)) [(0,1)] _ Y26 pq au au au Tryz.td45 Y256 (isEls_map (P:=Tryz.prog) (e:=4) (f:=PV.bool) (fun a=>⟨rfl,Y160⟩) _) (isEls_map (P:=Tryz.prog) (e:=4) (f:=PV.bool) (fun a=>⟨rfl,Y160⟩) _) Y257 (by rw [Tryz.by4];simp<;>omega) (by intro q hq;rw [List.mem_singleton.1 hq];exact ha1) ?_
   refine dP [0,1] (pre:=[_,_,_,_]) (k:=?_)
   refine DetHC.app (xs:=vals.map (PV.int .u16)) (ys:=r.vals.map (PV.int .u16)) (v:=.sl kv1 (vals.map (PV.int .u16)++r.vals.map (PV.int .u16))) [(1,2)] _ Y26 pq au au au Tryz.td23 Y143 (isEls_map (P:=Tryz.prog) (e:=39) (f:=PV.int .u16) (fun a=>⟨rfl,Y158⟩) _) (isEls_map (P:=Tryz.prog) (e:=39) (f:=PV.int .u16) (fun a=>⟨rfl,Y158⟩) _) Y144 Y213 (by intro q hq;rw [List.mem_singleton.1 hq];exact ha2) ?_
   refine dP [1,2] (pre:=[_]) (k:=?_)
   refine dE [(2,3)] (k:=?_)
   refine dP [3] (pre:=[_]) (k:=?_)
   refine dE [(3,4)] (k:=?_)
   refine DetHC.nil ?_
   refine rl [2,4,6,7,10,54,55,56] (k:=rB (k:=rg [2,4,6,7,10,54,55,56] (k:=?_)))
   have hfe:r.fn=y.1.fn:=by simpa using hd9
   have hstep:=joinA_step (q:=q) (bits:=bits) (vals:=vals) hip hil
   rw [hxe,hye,if_neg (by rintro (h | h);exact h hfe;exact h hrg)] at hstep
   have hy2:y.2=false:=by simpa using hc5
   rw [hy2,if_neg Y22,if_neg Y22] at hstep
   refine Run.lp ⟨⟨i+1,bits++r.bits,vals++r.vals,kb1,kv1,rfl,Y21,by rw [List.length_append];omega,by rw [List.length_append];omega,by rw [hja,hstep],?_,?_,?_,?_,?_,?_,?_,?_,?_,?_⟩,?_⟩
   ·intro j hj;rw [blk_set_ne Y21];exact lo3 j hj
   ·show s.nxt+4≤S3.nxt;omega
   ·rw [blk_set_ne Y21];exact d4
   ·rw [blk_set_ne Y21];exact d6
   ·rw [List.map_append,List.map_append];exact blk_set_self _ _ _
   ·have h9:=hgb2
    rw [Tryz.cz4,List.length_map,List.length_map] at h9
    rw [List.length_append]
    exact h9.mono fun t e=>by
     rw [blk_set_ne (h9.ne e _ (by rw [c10]) Y108),tm2.rest t (kb1n _ _ e).2.1 (kb1n _ _ e).2.2]
   ·have h9:=hgv3
    rw [Tryz.cz39,List.length_map,List.length_map] at h9
    rw [List.length_append]
    exact h9.mono fun t e=>by rw [blk_set_ne (h9.ne e _ (by rw [d10]) Y108)]
   ·intro t z e
    have h9:=kb1n t z e
    exact ⟨h9.1,Nat.lt_of_lt_of_le h9.2.1 hn3⟩
   ·intro t z e
    show s.nxt≤t∧t<S3.nxt
    rcases tm2.fresh t z e with ⟨z',h⟩ | ⟨h1,h2⟩
    ·have:=htv t z' h;omega
    ·omega
   ·intro t z z' e e'
    have h9:=kb1n t z e
    rcases tm2.fresh t z' e' with ⟨z'',h⟩ | ⟨h1,h2⟩
    ·exact h9.2.2 z'' h
    ·omega
   ·exact Y32
  ·refine rk (k:=rB (k:=rg [2,4,6,7,10,54,55,56] (k:=?_)))
   have hrg:goodF r=0:=by simpa using hc4
   have hfe:r.fn=y.1.fn:=by simpa using hd9
   have hstep:=joinA_step (q:=q) (bits:=bits) (vals:=vals) hip hil
   rw [hxe,hye,if_neg (by rintro (h | h);exact h hfe;exact h hrg)] at hstep
   have hy2:y.2=true:=by simpa using hc5
   rw [hy2,if_pos rfl,if_pos rfl] at hstep
   refine Run.lp ⟨⟨i+1,bits,vals,kb,kv,rfl,Y21,Y21,Y21,by rw [hja,hstep],fun j hj=>by rw [blk_new_ne Y21];exact hlo j hj,by show s.nxt+4≤s1.nxt+1;omega,by rw [blk_new_ne Y21];exact hq4,by rw [blk_new_ne Y21];exact hq6,by rw [blk_new_ne Y21];exact hq10,
    hgb.mono fun t e=>blk_new_ne (by have:=(htb _ _ e).2;omega),hgv.mono fun t e=>blk_new_ne (by have:=(htv _ _ e).2;omega),fun t z e=>⟨(htb t z e).1,Nat.lt_succ_of_lt (htb t z e).2⟩,fun t z e=>⟨(htv t z e).1,Nat.lt_succ_of_lt (htv t z e).2⟩,hdj⟩,?_⟩
   simp only [ivar,go_sem,↓reduceIte,Nat.reduceEqDiff]
   omega
 have H:=aj hd9 H
 refine DetC.gskip' au ?_
 refine DetC.gskip' au ?_
 refine DetC.gskip' au ?_
 refine DetC.all au ?_
 refine re (k:=rc (ht:=fun hc4=>?_) (hf:=fun hc4=>?_))
 refine jO 2 ?_;rotate_left
 ·cases hc4
 refine rX (k:=rs (k:=rs (k:=?_)))
 have hie:i=L.length:=by have:=of_decide_eq_false hc3;omega
 refine rg [4,6,10,101] (k:=rc (ht:=fun hc6=>?_) (hf:=fun hc6=>?_))
 refine rs (k:=rr (k:=ro (pre:=[_,_]) (k:=rC (h:=reply_Refuse hq.fn Y24) (k:=rh [6] (k:=rR (k:=?_))))))
 have hJ:joinF t q l=refuseP q.fn 4:=by
  have h9:L.length<ps.length:=by have:=of_decide_eq_true hc6;omega
  rw [hJF,hnone]
  show joinA q ps L [] []=_
  rw [hja,hie,List.drop_length,joinA_end,if_neg]
  intro h
  have:=List.drop_eq_nil_iff.1 h
  omega
 refine jO 3 ?_;rotate_left
 refine rk (k:=rs (k:=?_))
 have hwp:(wholeF q bits vals).pv=.agg [.int .i64 (wholeF q bits vals).fn,.int .i64 (wholeF q bits vals).code,.int .i64 (wholeF q bits vals).at_,.int .i64 (wholeF q bits vals).count,.int .i64 (wholeF q bits vals).sub,.sl .unk ((wholeF q bits vals).bits.map PV.bool),.sl .unk ((wholeF q bits vals).vals.map (PV.int .u16)),.int .u16 (wholeF q bits vals).and_,.int .u16 (wholeF q bits vals).or_,.sl .unk ((wholeF q bits vals).data.map (PV.int .u8))]:=rfl
 have H:=aj hwp H
 refine rr (k:=ro (pre:=[_,_]) (k:=rC (h:=join_whole hq (bits:=bits) (vals:=vals) Y21 Y21) (k:=rh [6] (k:=rR (k:=?_)))))
 have hJ:joinF t q l=wholeF q bits vals:=by
  have h9:¬ L.length<ps.length:=by have:=of_decide_eq_false hc6;omega
  rw [hJF,hnone]
  show joinA q ps L [] []=_
  rw [hja,hie,List.drop_length,joinA_end,if_pos]
  exact List.drop_eq_nil_iff.2 Y21
 refine jO 3 ?_;rotate_left
 any_goals
  refine jI 2 ?_
  refine rs (k:=rr (k:=ro (pre:=[_,_]) (k:=rC (h:=reply_Refuse hq.fn Y24) (k:=rh [6] (k:=rR (k:=?_))))))
  refine jO 4 ?_;rotate_left
 any_goals
  refine jI 4 ?_
  have hJ:joinF t q l=refuseP q.fn 4:=by
   rw [hJF,hnone]
   show joinA q ps L [] []=_
   rw [hja,joinA_step hip hil,hxe,hye,if_pos]
   simp only [Bool.or_eq_true,Bool.not_eq_true',decide_eq_false_iff_not] at *
   first | exact .inl hd9 | exact .inr hc4 | assumption
  refine jO 3 ?_;rotate_left
 any_goals
  refine jI 1 ?_
  refine Ret.pure (r':=(joinF t q l).pv) (by simp only [Tryz.f66,go_sem,↓reduceIte]<;>rfl) Y277 (blw_rep _ _) hwf (fun i hi=>by first | exact hlo1 i hi |(rw [blk_set_ne Y21];exact hlo1 i hi) |(rw [blk_set_ne Y21,blk_new_ne Y21];exact hlo1 i hi)) ⟨rfl,rfl⟩
 any_goals
  refine jI 3 ?_
  refine Ret.pure (r':=(joinF t q l).pv) (by simp only [Tryz.f66,go_sem,↓reduceIte]<;>rfl) Y277 (blw_rep _ _) hwf (fun i hi=>by first | exact hlo i hi |(rw [blk_set_ne Y21];exact hlo i hi) |(rw [blk_set_ne Y21,blk_new_ne Y21];exact hlo i hi)) ⟨rfl,rfl⟩
end Go.Proofs
namespace Go.Proofs
open Go.PM
set_option maxHeartbeats 2000000
theorem triesF_sub (q:Req):∀ (k:Nat) (F:List Int) (D:Dev),(∀ f∈(triesF q k F D).2.2.2,f∈F)∧(triesF q k F D).2.2.2.length≤F.length
 | 0,F,D=>⟨fun f h=>h,Nat.le_refl _⟩
 | k+1,F,D=>by
   have ht:F.tail.length≤F.length:=by rw [List.length_tail];omega
   unfold triesF
   split
   ·exact ⟨fun f h=>List.mem_of_mem_tail h,ht⟩
   split
   ·exact ⟨fun f h=>List.mem_of_mem_tail h,ht⟩
   ·obtain ⟨h1,h2⟩:=triesF_sub q k F.tail (if F.headD 0=1 then D else (doF D q).2)
    exact ⟨fun f h=>List.mem_of_mem_tail (h1 f h),Nat.le_trans h2 ht⟩
theorem askX_ok {q:Req} (hq:q.ok) {FS:Nat→List Int} (hF:FOk FS) (T:Nat) {l:List Snt} (hl:∀ x∈l,x.data.length≤1000) (tick:Int) {D:Dev} (hD:D.ok) :
  (askX q FS T l tick D).1.ok∧(askX q FS T l tick D).2.2.1.ok∧FOk (askX q FS T l tick D).2.2.2.1∧(askX q FS T l tick D).2.2.2.2.length≤l.length+3∧∀ x∈(askX q FS T l tick D).2.2.2.2,x.data.length≤1000:=by
 unfold askX
 split
 ·rename_i hr
  obtain ⟨h1,h2,h3⟩:=triesF_ok hq hr 3 (FS T) D hD
  obtain ⟨h4,h5⟩:=triesF_sub q 3 (FS T) D
  refine ⟨h3,h1,hF.up T (Nat.le_trans h5 (hF T).1) (fun f hf=>(hF T).2 f (h4 f hf)),?_,fun x hx=>?_⟩
  ·show (l++sentG _ _ _ 0 _).length≤_
   rw [List.length_append,sentG_len]
   omega
  ·rcases List.mem_append.1 hx with hx | hx
   ·exact hl x hx
   ·rw [sentG_data hx];have:=frameF_len (bytesF q);omega
 ·exact ⟨refP_ok _ _,hD,hF,by show l.length≤_;omega,hl⟩
structure Us where
 D:Dev
 FS:Nat→List Int
 l:List Snt
 c:Cn
structure Us.ok (u:Us):Prop where
 D:u.D.ok
 FS:FOk u.FS
 c:u.c.ok
 l:∀ x∈u.l,x.data.length≤1000
def partX (q:Req) (x:Req × Bool) (out:List Rep):Req:=if q.fn=22∧x.2=true∧(out.headD zeroP).vals.length=1 then { x.1 with vals:=[maskF ((out.headD zeroP).vals.headD 0) q] } else x.1
def askS (q:Req) (T:Nat) (tick:Int) (i:Nat) (x:Req × Bool) (out:List Rep) (u:Us):Rep × Us :=
 ((askX (partX q x out) u.FS T u.l (tick+12*(i:Int)) u.D).1,⟨(askX (partX q x out) u.FS T u.l (tick+12*(i:Int)) u.D).2.2.1,(askX (partX q x out) u.FS T u.l (tick+12*(i:Int)) u.D).2.2.2.1,(askX (partX q x out) u.FS T u.l (tick+12*(i:Int)) u.D).2.2.2.2,u.c.bad (askX (partX q x out) u.FS T u.l (tick+12*(i:Int)) u.D).2.1⟩)
def askU (q:Req) (T:Nat) (tick:Int):Nat→List (Req × Bool)→List Rep→Us→List Rep × Us
 | _,[],out,u=>(out,u)
 | i,x::ps,out,u=>if (askS q T tick i x out u).1.code=0 then askU q T tick (i+1) ps (out++[(askS q T tick i x out u).1]) (askS q T tick i x out u).2 else (out++[(askS q T tick i x out u).1],(askS q T tick i x out u).2)
structure AskOk (q:Req) (ps:List (Req × Bool)):Prop where
 all:∀ x∈ps,PtOk x.1
 mask:q.fn=22→∃ z a,0≤a∧a≤511∧ps=[(z,false),(⟨6,a,0,0,0,[],[0],0,0⟩,true)]
 len:ps.length≤6
theorem ask_split {t:Ten} {q:Req} (hq:q.ok) (h:codeP t q=0):AskOk q (splitF t q).1:=by
 refine ⟨split_ok hq,fun e=>?_,split_len t q⟩
 obtain ⟨p,_,hp,e2⟩:=split_mask h e
 have:=hp.b
 exact ⟨_,p.phys,Y21,Y21,by rw [e2];rfl⟩
theorem askU_step {q:Req} {T:Nat} {tick:Int} {ps:List (Req × Bool)} {i:Nat} {out:List Rep} {u:Us} (h:i<ps.length):askU q T tick i (ps.drop i) out u=if (askS q T tick i ps[i] out u).1.code=0 then askU q T tick (i+1) (ps.drop (i+1)) (out++[(askS q T tick i ps[i] out u).1]) (askS q T tick i ps[i] out u).2 else (out++[(askS q T tick i ps[i] out u).1],(askS q T tick i ps[i] out u).2):=by
 rw [drop_get h]
 rfl
theorem partX_ok {q:Req} {ps:List (Req × Bool)} (h:AskOk q ps) {i:Nat} (hi:i<ps.length) (out:List Rep):PtOk (partX q ps[i] out):=by
 unfold partX
 split
 ·rename_i hc
  obtain ⟨z,a,h1,h2,h3⟩:=h.mask hc.1
  have:ps[i]=(⟨6,a,0,0,0,[],[0],0,0⟩,true):=by
   subst h3
   have hx:=hc.2.1
   simp only [List.length_cons,List.length_nil] at hi
   rcases i with _ | _ | i
   ·cases hx
   ·rfl
   ·omega
  rw [this]
  exact mask_part ⟨h1,h2⟩ (mask_ok _ _)
 ·exact h.all _ (List.getElem_mem hi)
theorem mask_one {q:Req} {ps:List (Req × Bool)} (h:AskOk q ps) (h22:q.fn=22) {i:Nat} (hi:i<ps.length) (hw:(ps[i]).2=true):i=1:=by
 obtain ⟨z,a,h1,h2,h3⟩:=h.mask h22
 subst h3
 simp only [List.length_cons,List.length_nil] at hi
 rcases i with _ | _ | i
 ·cases hw
 ·rfl
 ·omega
theorem askS_ok {q:Req} {T:Nat} {tick:Int} {i:Nat} {x:Req × Bool} {out:List Rep} {u:Us} (hu:u.ok) (hx:PtOk (partX q x out)):(askS q T tick i x out u).2.ok∧(askS q T tick i x out u).1.ok∧(askS q T tick i x out u).2.l.length≤u.l.length+3:=by
 obtain ⟨h1,h2,h3,h4,h5⟩:=askX_ok hx.ok hu.FS T hu.l (tick+12*(i:Int)) hu.D
 exact ⟨⟨h2,h3,hu.c.bad _,h5⟩,h1,h4⟩
structure UnAt (b ln c cc un T:Nat) (t:Ten) (u:Us) (ns:Nat→Option Nat) (s:St):Prop where
 lin:Ln4 86 (b+5) ln c u.FS u.l ns s
 dv:DevAt b u.D s
 cn:s.blk cc=some (.row 112 [u.c.pv])
 unb:s.blk un=some (.row 92 [.agg [.int .i64 t.unit,.int .u32 t.fns,.int .i64 t.queue,.sl .unk (t.wins.map Win.pv),.sl .unk (t.slts.map Slt.pv),.int .i64 (T:Int),.ptr ln 0 0,.ptr cc 0 0]])
 uok:u.ok
 tok:t.ok
 T4:T<4
 bl:b+5<ln
 c1:cc≠ln∧¬ (b≤cc∧cc<b+6)
 n1:un≠ln∧¬ (b≤un∧un<b+6)∧un≠cc
 lt:cc<s.nxt∧un<s.nxt
structure Fr5 (b n ln cc:Nat) (ns ns':Nat→Option Nat) (s s':St):Prop where
 nx:s.nxt≤s'.nxt
 same:∀ j,j<s.nxt→j≠ln→j≠cc→¬ (b≤j∧j<n)→(∀ i,ns i≠some j)→s'.blk j=s.blk j
 new:∀ i t,ns' i=some t→(∃ i',ns i'=some t)∨s.nxt≤t
theorem Fr5.refl (b n ln cc:Nat) (ns:Nat→Option Nat) (s:St):Fr5 b n ln cc ns ns s s:=⟨Nat.le_refl _,fun _ _ _ _ _ _=>rfl,fun i t h=>.inl ⟨i,h⟩⟩
theorem Fr5.trans {b n ln cc:Nat} {ns n1 n2:Nat→Option Nat} {s s1 s2:St} (h:Fr5 b n ln cc ns n1 s s1) (k:Fr5 b n ln cc n1 n2 s1 s2):Fr5 b n ln cc ns n2 s s2:=by
 refine ⟨Nat.le_trans h.nx k.nx,fun j h1 h2 hc h3 h4=>?_,fun i t ht=>?_⟩
 ·rw [k.same j (Nat.lt_of_lt_of_le h1 h.nx) h2 hc h3 fun i hi=>?_]
  ·exact h.same j h1 h2 hc h3 h4
  ·exact Y331
 ·exact Y270
theorem Fr5.nw {b n ln cc:Nat} {ns ns':Nat→Option Nat} {s s':St} (h:Fr5 b n ln cc ns ns' s s') (x:Blk):Fr5 b n ln cc ns ns' s (s'.new x):=by
 have:=h.nx
 exact ⟨Nat.le_succ_of_le h.nx,fun j q1 q2 q3 q4 q5=>by rw [blk_new_ne Y21];exact h.same j q1 q2 q3 q4 q5,h.new⟩
theorem Fr5.hi {b n ln cc r:Nat} {ns ns':Nat→Option Nat} {s s':St} (h:Fr5 b n ln cc ns ns' s s') (hr:s.nxt≤r∨r=cc) (x:Option Blk):Fr5 b n ln cc ns ns' s (s'.set r x) :=
 ⟨h.nx,fun j q1 q2 q3 q4 q5=>by rw [blk_set_ne Y21];exact h.same j q1 q2 q3 q4 q5,h.new⟩
theorem UnAt.keep {b ln c cc un T:Nat} {t:Ten} {u:Us} {ns:Nat→Option Nat} {s s':St} (h:UnAt b ln c cc un T t u ns s) (hn:s.nxt≤s'.nxt) (he:∀ j,j<s.nxt→(j=ln∨(b≤j∧j≤b+5)∨j=cc∨j=un∨∃ i,ns i=some j)→s'.blk j=s.blk j):UnAt b ln c cc un T t u ns s':=by
 have hc:=h.lin.hc
 have hx:=h.lin.nx
 have hb:=h.bl
 have e:∀ j,j≤5→s'.blk (b+j)=s.blk (b+j):=fun j hj=>he (b+j) Y21 (.inr (.inl ⟨Y21,Y21⟩))
 refine ⟨h.lin.keep hn fun j hj hj'=>he j hj (hj'.elim .inl fun h=>.inr (.inr (.inr (.inr h)))),?_,by rw [he cc h.lt.1 (.inr (.inr (.inl rfl)))];exact h.cn,by rw [he un h.lt.2 (.inr (.inr (.inr (.inl rfl))))];exact h.unb,h.uok,h.tok,h.T4,h.bl,h.c1,h.n1,⟨Nat.lt_of_lt_of_le h.lt.1 hn,Nat.lt_of_lt_of_le h.lt.2 hn⟩⟩
 have d:=h.dv
 exact ⟨by rw [show b=b+0 from rfl,e 0 Y21];exact d.st,by rw [e 1 Y21];exact d.c0,by rw [e 3 Y21];exact d.c1,by rw [e 2 Y21];exact d.v0,by rw [e 4 Y21];exact d.v1,by rw [e 5 Y21];exact d.dv⟩
theorem UnAt.nw {b ln c cc un T:Nat} {t:Ten} {u:Us} {ns:Nat→Option Nat} {s:St} (h:UnAt b ln c cc un T t u ns s) (x:Blk):UnAt b ln c cc un T t u ns (s.new x):=h.keep (Nat.le_succ _) fun j hj _=>blk_new_ne Y21
structure UnAt.free (b ln cc un:Nat) (ns:Nat→Option Nat) (r:Nat):Prop where
 hl:r≠ln
 hb:¬ (b≤r∧r≤b+5)
 hc:r≠cc
 hu:r≠un
 hn:∀ i,ns i≠some r
theorem UnAt.hi {b ln c cc un T r:Nat} {t:Ten} {u:Us} {ns:Nat→Option Nat} {s:St} (h:UnAt b ln c cc un T t u ns s) (hr:UnAt.free b ln cc un ns r) (x:Option Blk):UnAt b ln c cc un T t u ns (s.set r x) :=
 h.keep (Nat.le_refl _) fun j hj hj'=>blk_set_ne (by
  rcases hj' with rfl | hj' | rfl | rfl | ⟨i,hi⟩
  ·exact hr.hl.symm
  ·rintro rfl;exact hr.hb hj'
  ·exact hr.hc.symm
  ·exact hr.hu.symm
  ·rintro rfl;exact hr.hn i hi)
theorem UnAt.fresh {b ln c cc un T r:Nat} {t:Ten} {u:Us} {ns:Nat→Option Nat} {s:St} (h:UnAt b ln c cc un T t u ns s) (hr:s.nxt≤r):UnAt.free b ln cc un ns r:=by
 have h1:=h.lin.hc
 have h2:=h.lin.nx
 have h3:=h.bl
 have h4:=h.lt
 exact ⟨Y21,Y21,Y21,Y21,fun i hi=>by have:=(h.lin.own i r hi).2;omega⟩
theorem UnAt.cnt {b ln c cc un T:Nat} {t:Ten} {u:Us} {ns:Nat→Option Nat} {s:St} (h:UnAt b ln c cc un T t u ns s) {c':Cn} (hc:c'.ok):UnAt b ln c cc un T t { u with c:=c' } ns (s.set cc (some (.row 112 [c'.pv]))):=by
 have hk:∀ j,j≠cc→(s.set cc (some (.row 112 [c'.pv]))).blk j=s.blk j:=fun j hj=>blk_set_ne hj
 have h1:=h.lin.hc
 have h2:=h.lin.nx
 have h3:=h.bl
 have h4:=h.c1
 have d:=h.dv
 refine ⟨h.lin.keep (Nat.le_refl _) fun j hj hj'=>hk j ?_,?_,blk_set_self _ _ _,by rw [hk _ h.n1.2.2];exact h.unb,⟨h.uok.D,h.uok.FS,hc,h.uok.l⟩,h.tok,h.T4,h.bl,h.c1,h.n1,h.lt⟩
 ·rcases hj' with rfl | ⟨i,hi⟩
  ·omega
  ·rintro rfl;exact h.lin.notrow hi h.cn
 ·exact ⟨by rw [hk _ Y21];exact d.st,by rw [hk _ Y21];exact d.c0,by rw [hk _ Y21];exact d.c1,by rw [hk _ Y21];exact d.v0,by rw [hk _ Y21];exact d.v1,by rw [hk _ Y21];exact d.dv⟩
theorem tab_field:∃ (fs:Array Field) (fd:Field),Tryz.prog.underlying 82=some (.struct fs)∧fs[1]? =some fd∧aggO Tryz.prog fd.type=some false∧fd.offset=1:=by
 obtain ⟨fs,h1,h2⟩:=td_struct Tryz.td82
 have hl:fs.toList.length=2:=by have:=congrArg List.length h2;simpa using this.symm
 obtain ⟨x,y,hxy⟩:∃ x y,fs.toList=[x,y]:=by
  cases hf:fs.toList with
  | nil=>rw [hf] at hl;cases hl
  | cons x l =>
    cases l with
    | nil=>rw [hf] at hl;cases hl
    | cons y l =>
      cases l with
      | nil=>exact ⟨x,y,rfl⟩
      | cons z l=>rw [hf] at hl;simp at hl
 rw [hxy] at h2
 simp only [List.map_cons,List.map_nil,List.cons.injEq,Prod.mk.injEq] at h2
 refine ⟨fs,y,h1,?_,h2.2.1.2.2.symm,h2.2.1.1.symm⟩
 rw [← Array.getElem?_toList,hxy]
 rfl
set_option maxRecDepth 100000 in
theorem unit_own {t:Ten} (ht:t.ok) {s:St}:ACalls Tryz.prog 26 [t.pv] s (fun r s'=>r=t.pv∧s'=s):=by
 refine go Tryz.func26 (k:=fun hwf H=>?_)
 have hk:(⟨0,[t]⟩:Tab).ok:=⟨i64_0,fun x hx=>by rw [List.mem_singleton.1 hx];exact ht,by show 1*72≤_;decide⟩
 obtain ⟨E,hE⟩:∃ E,E=[(.agg [.int .i64 (t).unit,.int .u32 (t).fns,.int .i64 (t).queue,.sl .unk ((t).wins.map Win.pv),.sl .unk ((t).slts.map Slt.pv)]:PV)]:=⟨_,rfl⟩
 have hcp:∀ s,ACalls Tryz.prog 51 [.agg [.int .i64 0,.sl .unk [.agg [.int .i64 (t).unit,.int .u32 (t).fns,.int .i64 (t).queue,.sl .unk ((t).wins.map Win.pv),.sl .unk ((t).slts.map Slt.pv)]]]] s (fun r s'=>r=.agg [.int .i64 0,.sl .unk E]∧s'=s):=fun s=>by rw [hE];exact table_Copy hk
 have hE0:E[0]? =some (.agg [.int .i64 (t).unit,.int .u32 (t).fns,.int .i64 (t).queue,.sl .unk ((t).wins.map Win.pv),.sl .unk ((t).slts.map Slt.pv)]):=by rw [hE];rfl
 have hEl:(0<E.length)=True:=eq_true (by rw [hE];exact Nat.succ_pos _)
 obtain ⟨fs9,fd9,hf1,hf2,hf3,hf4⟩:=tab_field
 have hf5:∀ a b:PV,[a,b][1]? =some b:=fun a b=>rfl
 have H:=aj hE0 (aj hEl (aj hf1 (aj hf2 (aj hf3 (aj hf4 (aj hf5 H))))))
 refine rs (k:=rg [1,2] (k:=rs (k:=rr (k:=ro (pre:=[_]) (k:=rO (k:=ro (pre:=[_]) (k:=rC (h:=hcp _) (k:=rh [2] (k:=rR (k:=rP (by simp only [Tryz.f26,go_sem];rfl) hwf ⟨?_,rfl⟩))))))))))
 exact weak_ten t
set_option maxRecDepth 100000 in
theorem unit_New {t:Ten} (ht:t.ok) {T:Int} {ln:Nat} {s:St}:ACalls Tryz.prog 9 [t.pv,.int .i64 T,.ptr ln 0 0] s (fun r s'=>∃ z,r=.ptr (s.nxt+2) 0 0∧s'=((s.new z).new (.row 112 [(⟨0,0,0⟩:Cn).pv])).new (.row 92 [.agg [.int .i64 t.unit,.int .u32 t.fns,.int .i64 t.queue,.sl .unk (t.wins.map Win.pv),.sl .unk (t.slts.map Slt.pv),.int .i64 T,.ptr ln 0 0,.ptr (s.nxt+1) 0 0]])):=by
 refine go Tryz.func9 (k:=fun hwf H=>?_)
 refine rs (k:=rg [1,2,3] (k:=rs (k:=rs (k:=rg [1,2,3,8] (k:=rc (ht:=fun hc0=>?_) (hf:=fun hc0=>?_))))))
 ·cases hc0
 ·refine rk (k:=rs (k:=rr (k:=ro (pre:=[_]) (k:=rC (h:=unit_own ht) (k:=ro (pre:=[_,_]) (k:=?_))))))
  refine RunO.callw au au au Y26 ((count_New).mono ?_)
  rintro r s9 ⟨rfl,hs⟩
  subst s9
  refine rh [6] (k:=rR (k:=?_))
  exact Ret.all (by simp only [Tryz.f9,go_sem,↓reduceIte]<;>rfl) ⟨_,rfl,rfl⟩
theorem unit_NewN {t:Ten} {T:Int} {s:St}:ACalls Tryz.prog 9 [t.pv,.int .i64 T,.nilp] s (fun r s'=>r=.nilp∧s'=s):=by
 refine go Tryz.func9 (k:=fun hwf H=>?_)
 refine rs (k:=rg [1,2,3] (k:=rs (k:=rs (k:=rg [1,2,3,8] (k:=rc (ht:=fun hc0=>?_) (hf:=fun hc0=>?_))))))
 ·refine rs (k:=rg [6] (k:=rR (k:=rP (by simp only [Tryz.f9,go_sem];rfl) hwf ⟨?_,rfl⟩)))
  rfl
 ·cases hc0
def fnF (b:List Int):Int:=if b=[] then 0 else (b[0]?).getD 0%128
theorem unit_function {b:List Int} (hb:OkB b) {s:St}:ACalls Tryz.prog 60 [.sl .unk (b.map (PV.int .u8))] s (fun r s'=>r=.int .i64 (fnF b)∧s'=s):=by
 refine go Tryz.func60 (k:=fun hwf H=>?_)
 refine rs (k:=rg [0] (k:=rs (k:=rs (k:=rg [0,5] (k:=rc (ht:=fun hc0=>?_) (hf:=fun hc0=>?_))))))
 refine rs (k:=rg [2] (k:=rR (k:=rP (by simp only [Tryz.f60,go_sem];rfl) hwf ⟨?_,rfl⟩)))
 refine jO 1 ?_;rotate_left
 refine rk (k:=rs (k:=?_))
 have hne:b≠[]:=by rintro rfl;simp at hc0
 obtain ⟨x,l,hbl⟩:=List.exists_cons_of_ne_nil hne
 have hx0:(b.map (PV.int .u8))[0]? =some (.int .u8 x):=by rw [hbl];rfl
 have hbp:(0<b.length)=True:=eq_true (by rw [hbl];simp)
 have hx8:=hb x (by rw [hbl];simp)
 have hand:=u8_and127 hx8
 have hfn:fnF b=x%128:=by unfold fnF;rw [if_neg hne,hbl];rfl
 have hw:IntKind.i64.wrap (x%128)=x%128:=wrap_i64 Y21
 have H:=aj hx0 (aj hbp (aj hand (aj hw H)))
 refine rg [2] (k:=rR (k:=rP (by simp only [Tryz.f60,go_sem];rfl) hwf ⟨?_,rfl⟩))
 refine jO 1 ?_;rotate_left
 any_goals
  refine jI 1 ?_
  first
   |(have hbe:b=[]:=by
      cases b with
      | nil=>rfl
      | cons a l=>simp at hc0<;>omega
     rw [hbe];rfl)
   |(rw [hfn];rfl)
theorem unit_Count {un:Nat} {t:Ten} {T ln cc:Nat} {s:St} (hb:s.blk un=some (.row 92 [.agg [.int .i64 t.unit,.int .u32 t.fns,.int .i64 t.queue,.sl .unk (t.wins.map Win.pv),.sl .unk (t.slts.map Slt.pv),.int .i64 (T:Int),.ptr ln 0 0,.ptr cc 0 0]])):ACalls Tryz.prog 19 [.ptr un 0 0] s (fun r s'=>r=.ptr cc 0 0∧s'=s):=by
 refine go Tryz.func19 (k:=fun hwf H=>?_)
 have H:=aj hb H
 refine rs (k:=rg [0] (k:=rs (k:=rg [2] (k:=rR (k:=?_)))))
 exact Ret.all (by simp only [Tryz.f19,go_sem,↓reduceIte]<;>rfl) ⟨rfl,rfl⟩
end Go.Proofs
namespace Go.Proofs
open Go.PM
set_option maxHeartbeats 2000000
attribute [local go_sem] weaks_bools set_set Req.pv
theorem Y278 {p:Prop} (h:p:=by
 rcases List.mem_append.1 hr with hr | hr
 ·exact hoo r hr
 ·rw [List.mem_singleton.1 hr];exact hRo):p:=h
set_option maxRecDepth 100000 in
theorem unit_ask {b ln c cc un T:Nat} {t:Ten} {u:Us} {ns:Nat→Option Nat} {s:St} (h:UnAt b ln c cc un T t u ns s) (hll:u.l.length≤80000) {q:Req} (hq:q.ok) {ps:List (Req × Bool)} (hps:AskOk q ps) {tick:Int} (ht:0≤tick∧tick≤1000000000) :
  ACalls Tryz.prog 67 [.ptr un 0 0,q.pv,.sl .unk (ps.map ptV),.int .i64 tick] s (fun r s'=>r=.sl .unk ((askU q T tick 0 ps [] u).1.map Rep.pv)∧∃ ns',UnAt b ln c cc un T t (askU q T tick 0 ps [] u).2 ns' s'∧Fr5 b (b+6) ln cc ns ns' s s'∧(∀ r∈(askU q T tick 0 ps [] u).1,r.ok)∧(askU q T tick 0 ps [] u).1.length≤6∧(askU q T tick 0 ps [] u).2.l.length≤u.l.length+18):=by
 refine go Tryz.func67 (k:=fun hwf H=>?_)
 have hpl:=hps.len
 refine rs (k:=rg [0,2,3,5] (k:=rs (k:=rg [0,2,3,5,9] (k:=rs (k:=rs (k:=rg [0,3,5,9,15,16,17] (k:=rb (k:=?_))))))))
 refine Run.loop (fun e s'=>∃ (i:Nat) (out:List Rep) (v:Us) (kk:SK) (n1:Nat→Option Nat),e=[(0,.ptr un 0 0),(3,.int .i64 tick),(5,.ptr s.nxt 0 0),(9,.sl kk (out.map Rep.pv)),(15,.sl .unk (ps.map ptV)),(16,.int .i64 (ps.length:Int)),(17,.int .i64 (i:Int))]∧i≤ps.length∧out.length=i∧(∀ r∈out,r.ok)∧v.l.length≤u.l.length+3*i∧askU q T tick 0 ps [] u=askU q T tick i (ps.drop i) out v∧UnAt b ln c cc un T t v n1 s'∧Fr5 b (b+6) ln cc ns n1 s s'∧s'.blk s.nxt=some (.row 47 [.agg [.int .i64 (q).fn,.int .i64 (q).at_,.int .i64 (q).count,.int .i64 (q).wat,.int .i64 (q).sub,.sl .unk ((q).bits.map PV.bool),.sl .unk ((q).vals.map (PV.int .u16)),.int .u16 (q).and_,.int .u16 (q).or_]])∧s.nxt<s'.nxt∧Grows s' kk out.length 10∧(∀ t z,kk=.tok t z→s.nxt≤t∧t<s'.nxt)∧(∀ t z,kk=.tok t z→∀ j,n1 j≠some t)) (fun e s'=>ps.length-ivar e 17) ?_ ?_
 ·exact ⟨0,[],u,.nil,ns,rfl,Nat.zero_le _,rfl,(fun r hr=>by cases hr),Nat.le_refl _,rfl,h.nw _,(Fr5.refl _ _ _ _ _ _).nw _,blk_new_eq,Nat.lt_succ_self _,.inl ⟨rfl,rfl⟩,(fun t z e=>Y20),(fun t z e=>Y20)⟩
 rintro e s1 ⟨i,out,v,kk,n1,rfl,hi,hol,hoo,hvl,hau,hU,hFr,hqb,hnx,hgr,htk,htn⟩
 have H:=aj hqb H
 refine rs (k:=rg [0,3,5,9,15,16,17,18] (k:=rs (k:=rc (ht:=fun hc0=>?_) (hf:=fun hc0=>?_))))
 have hc:=hc0
 refine rk (k:=rs (k:=rb (k:=rs (k:=?_))))
 have hip:i<ps.length:=Y83
 obtain ⟨x,hxe⟩:∃ z_,ps[i]'hip=z_:=⟨_,rfl⟩
 have hxx:(ps.map ptV)[i]? =some (.agg [.int .i64 x.1.fn,.int .i64 x.1.at_,.int .i64 x.1.count,.int .i64 x.1.wat,.int .i64 x.1.sub,.sl .unk (x.1.bits.map PV.bool),.sl .unk (x.1.vals.map (PV.int .u16)),.int .u16 x.1.and_,.int .u16 x.1.or_,.bool x.2]):=by rw [map_get hip,hxe];rfl
 have hipT:(i<ps.length)=True:=eq_true hip
 have hw:IntKind.i64.wrap ((i:Int)+1)=((i+1:Nat):Int):=Y28
 have H:=aj hxx (aj hipT (aj hw H))
 refine rg [0,3,5,9,10,11,15,16,17] (k:=rs (k:=rg [0,3,5,9,10,11,12,15,16,17] (k:=rs (k:=?_))))
 refine Run.genS fun S1 hS=>?_
 obtain ⟨p11,h11⟩:∃ p,p=s1.nxt:=⟨_,rfl⟩
 obtain ⟨p12,h12⟩:∃ p,p=s1.nxt+1:=⟨_,rfl⟩
 rw [← h12,← h11]
 have hx11:S1.blk p11=some (.row 157 [.agg [.int .i64 x.1.fn,.int .i64 x.1.at_,.int .i64 x.1.count,.int .i64 x.1.wat,.int .i64 x.1.sub,.sl .unk (x.1.bits.map PV.bool),.sl .unk (x.1.vals.map (PV.int .u16)),.int .u16 x.1.and_,.int .u16 x.1.or_,.bool x.2]]):=by rw [hS];simp (disch:=first | omega |(simp only [nxt_set,nxt_new]<;>omega) | fail) only [go_sem,h11]<;>rfl
 have hx12:S1.blk p12=some (.row 47 [.agg [.int .i64 x.1.fn,.int .i64 x.1.at_,.int .i64 x.1.count,.int .i64 x.1.wat,.int .i64 x.1.sub,.sl .unk (x.1.bits.map PV.bool),.sl .unk (x.1.vals.map (PV.int .u16)),.int .u16 x.1.and_,.int .u16 x.1.or_]]):=by rw [hS];simp (disch:=first | omega |(simp only [nxt_set,nxt_new]<;>omega) | fail) only [go_sem,h12]<;>rfl
 have hn1:S1.nxt=p12+1:=by rw [hS,h12];rfl
 have hk1:∀ j,j<s1.nxt→S1.blk j=s1.blk j:=fun j hj=>Y46
 clear hS
 have hq1:S1.blk s.nxt=some (.row 47 [.agg [.int .i64 (q).fn,.int .i64 (q).at_,.int .i64 (q).count,.int .i64 (q).wat,.int .i64 (q).sub,.sl .unk ((q).bits.map PV.bool),.sl .unk ((q).vals.map (PV.int .u16)),.int .u16 (q).and_,.int .u16 (q).or_]]):=by rw [hk1 _ hnx];exact hqb
 have hU1:=hU.keep (s':=S1) Y21 fun j hj _=>hk1 j hj
 have hn12:(s.nxt=p12)=False:=eq_false Y21
 have hn13:(p12=s.nxt)=False:=eq_false Y21
 have hn14:(p11=p12)=False:=eq_false Y21
 obtain ⟨y,hy⟩:∃ y,y=partX q x out:=⟨_,rfl⟩
 have hpt:PtOk y:=by rw [hy,← hxe];exact partX_ok hps hip out
 have hgr1:Grows S1 kk out.length 10:=hgr.mono fun t e=>hk1 t (htk _ _ e).2
 have H:=aj hx11 (aj hx12 (aj hq1 (aj hn12 (aj hn13 (aj hn14 H)))))
 refine Run.join (fun e s'=>∃ kv:SK,e=[(0,.ptr un 0 0),(3,.int .i64 tick),(5,.ptr s.nxt 0 0),(9,.sl kk (out.map Rep.pv)),(10,.int .i64 (i:Int)),(12,.ptr p12 0 0),(15,.sl .unk (ps.map ptV)),(16,.int .i64 (ps.length:Int)),(17,.int .i64 (i:Int))]∧(∃ Z,s'=S1.set p12 Z)∧s'.blk p12=some (.row 47 [.agg [.int .i64 x.1.fn,.int .i64 x.1.at_,.int .i64 x.1.count,.int .i64 x.1.wat,.int .i64 x.1.sub,.sl .unk (x.1.bits.map PV.bool),.sl kv (y.vals.map (PV.int .u16)),.int .u16 x.1.and_,.int .u16 x.1.or_]])∧y={ x.1 with vals:=y.vals }) ?_ ?_
 ·rintro e S2 ⟨kv,rfl,⟨Z2,hS2⟩,h2y,hyx⟩
  have hn2:S2.nxt=p12+1:=by rw [hS2];exact hn1
  have h2q:S2.blk s.nxt=some (.row 47 [.agg [.int .i64 (q).fn,.int .i64 (q).at_,.int .i64 (q).count,.int .i64 (q).wat,.int .i64 (q).sub,.sl .unk ((q).bits.map PV.bool),.sl .unk ((q).vals.map (PV.int .u16)),.int .u16 (q).and_,.int .u16 (q).or_]]):=by rw [hS2,blk_set_ne Y21];exact hq1
  have hU2:UnAt b ln c cc un T t v n1 S2:=by rw [hS2];exact hU1.hi (by have h9:=hU.fresh (r:=p12) Y21;exact h9) _
  have hFr2:Fr5 b (b+6) ln cc ns n1 s S2:=by
   have:=hFr.nx
   exact ⟨Y21,fun j a1 a2 a3 a4 a5=>by rw [hS2,blk_set_ne Y21,hk1 j Y21];exact hFr.same j a1 a2 a3 a4 a5,hFr.new⟩
  have hgr2:Grows S2 kk out.length 10:=by rw [hS2];exact hgr1.mono fun t e=>blk_set_ne (by have:=(htk _ _ e).2;omega)
  have hk2:S2.nxt=s1.nxt+2:=Y21
  clear hS2
  have H:=aj hw trivial
  refine rs (k:=?_)
  have hw3:IntKind.i64.wrap ((i:Int)*3)=(i:Int)*3:=wrap_i64 Y21
  have hw4:IntKind.i64.wrap ((i:Int)*3*4)=(i:Int)*3*4:=wrap_i64 Y21
  have hwt:IntKind.i64.wrap (tick+(i:Int)*3*4)=tick+12*(i:Int):=Y28
  have hun:S2.blk un=some (.row 92 [.agg [.int .i64 t.unit,.int .u32 t.fns,.int .i64 t.queue,.sl .unk (t.wins.map Win.pv),.sl .unk (t.slts.map Slt.pv),.int .i64 (T:Int),.ptr ln 0 0,.ptr cc 0 0]]):=hU2.unb
  refine Run.reserve ?_
  obtain ⟨r9,hr9⟩:∃ r,r=S2.nxt:=⟨_,rfl⟩
  obtain ⟨S,hS⟩:∃ S,S=S2.new .res:=⟨_,rfl⟩
  have hSr:S.blk r9=some .res:=by rw [hS,hr9];exact blk_new_eq
  have hSx:S.nxt=r9+1:=by rw [hS,hr9];rfl
  have hUS:UnAt b ln c cc un T t v n1 S:=by rw [hS];exact hU2.nw _
  have hSu:S.blk un=some (.row 92 [.agg [.int .i64 t.unit,.int .u32 t.fns,.int .i64 t.queue,.sl .unk (t.wins.map Win.pv),.sl .unk (t.slts.map Slt.pv),.int .i64 (T:Int),.ptr ln 0 0,.ptr cc 0 0]]):=hUS.unb
  have hSy:S.blk p12=some (.row 47 [.agg [.int .i64 x.1.fn,.int .i64 x.1.at_,.int .i64 x.1.count,.int .i64 x.1.wat,.int .i64 x.1.sub,.sl .unk (x.1.bits.map PV.bool),.sl kv (y.vals.map (PV.int .u16)),.int .u16 x.1.and_,.int .u16 x.1.or_]]):=by rw [hS,blk_new_ne Y21];exact h2y
  have hSk:∀ j,j<S2.nxt→S.blk j=S2.blk j:=fun j hj=>by rw [hS];exact blk_new_ne Y21
  rw [← hS]
  clear hS
  obtain ⟨⟨R,n9,D',FS',l'⟩,hAX⟩:∃ Z,askX y v.FS T v.l (tick+12*(i:Int)) v.D=Z:=⟨_,rfl⟩
  have hao:=askX_ok hpt.ok hUS.uok.FS T hUS.uok.l (tick+12*(i:Int)) hUS.uok.D
  rw [hAX] at hao
  obtain ⟨hRo,hDo,hFo,hlo,hld⟩:=hao
  have hlo:l'.length≤v.l.length+3:=hlo
  have hb9:=hUS.bl
  have hi0:=h.lin.hc
  have hi00:=h.lin.nx
  have hi01:=h.lt
  have hyp:y.pv=.agg [.int .i64 x.1.fn,.int .i64 x.1.at_,.int .i64 x.1.count,.int .i64 x.1.wat,.int .i64 x.1.sub,.sl .unk (x.1.bits.map PV.bool),.sl .unk (y.vals.map (PV.int .u16)),.int .u16 x.1.and_,.int .u16 x.1.or_]:=by rw [hyx];rfl
  have hl9:=hUS.lt
  have hc9:=hUS.lin.hc
  have hx9:=hUS.lin.nx
  have hf9:UnAt.free b ln cc un n1 r9:=hU2.fresh Y21
  have hcall:∀ v9,(∀ L,v9≠some (.tok L))→ACalls Tryz.prog 98 [.ptr ln 0 0,.int .i64 (T:Int),.int .i64 (tick+12*(i:Int)),.agg [.int .i64 x.1.fn,.int .i64 x.1.at_,.int .i64 x.1.count,.int .i64 x.1.wat,.int .i64 x.1.sub,.sl .unk (x.1.bits.map PV.bool),.sl .unk (y.vals.map (PV.int .u16)),.int .u16 x.1.and_,.int .u16 x.1.or_]] (S.set r9 v9) (fun r s2=>r=.tuple [R.pv,.int .i64 (n9:Int)]∧∃ Y,(∃ n2,UnAt b ln c cc un T t ⟨D',FS',l',v.c⟩ n2 Y∧Fr5 b (b+6) ln cc n1 n2 S Y∧Y.blk r9=some .res∧Y.blk p12=some (.row 47 [.agg [.int .i64 x.1.fn,.int .i64 x.1.at_,.int .i64 x.1.count,.int .i64 x.1.wat,.int .i64 x.1.sub,.sl .unk (x.1.bits.map PV.bool),.sl kv (y.vals.map (PV.int .u16)),.int .u16 x.1.and_,.int .u16 x.1.or_]]))∧s2=Y.set r9 v9):=fun v9 hv9=>by
   have hUv:=hUS.hi hf9 v9
   have h8:=master_AskM hUv.lin hUv.dv hUv.uok.D hUv.bl hUv.uok.FS hUv.T4 Y21 hpt.ok hpt.r hpt.len (tick:=tick+12*(i:Int)) Y21
   rw [hAX,hyp] at h8
   refine h8.mono ?_
   rintro r s2 ⟨rfl,n2,hL2,hD2,hF2⟩
   have hfr:∀ j,j<S.nxt→j≠ln→¬ (b≤j∧j<b+6)→(∀ i,n1 i≠some j)→s2.blk j=(S.set r9 v9).blk j:=fun j a1 a2 a3 a4=>hF2.same j a1 a2 a3 a4
   have hr2:s2.blk r9=v9:=by rw [hfr r9 Y21 hf9.hl (fun h=>hf9.hb ⟨h.1,Y21⟩) hf9.hn];exact blk_set_self _ _ _
   have hnr:∀ j,n1 j≠some p12:=fun j hj=>hUS.lin.notrow hj hSy
   have hn2:S.nxt≤s2.nxt:=hF2.nx
   have hnu:∀ j,n1 j≠some un:=fun j hj=>hUS.lin.notrow hj hSu
   have hnc:∀ j,n1 j≠some cc:=fun j hj=>hUS.lin.notrow hj hUS.cn
   have hn29:∀ j,n2 j≠some r9:=fun j hj=>by
    rcases hF2.new j r9 hj with ⟨i',h'⟩ | h'
    ·exact hf9.hn i' h'
    ·have h':S.nxt≤r9:=h';omega
   refine ⟨rfl,s2.set r9 (some .res),⟨n2,⟨?_,?_,?_,?_,⟨hDo,hFo,hUS.uok.c,hld⟩,hUS.tok,hUS.T4,hUS.bl,hUS.c1,hUS.n1,⟨Nat.lt_of_lt_of_le hl9.1 hn2,Nat.lt_of_lt_of_le hl9.2 hn2⟩⟩,⟨hn2,fun j a1 a2 a3 a4 a5=>?_,hF2.new⟩,blk_set_self _ _ _,?_⟩,by rw [set_set];exact (set_same hr2).symm⟩
   ·exact hL2.keep (Nat.le_refl _) fun j hj hj'=>blk_set_ne (by
     rcases hj' with rfl | ⟨i',hi'⟩
     ·exact hf9.hl.symm
     ·rintro rfl;exact hn29 i' hi')
   ·exact hD2.sv Y21 _
   ·rw [blk_set_ne hf9.hc.symm,hfr cc hl9.1 hUS.c1.1 hUS.c1.2 hnc,blk_set_ne hf9.hc.symm];exact hUS.cn
   ·rw [blk_set_ne hf9.hu.symm,hfr un hl9.2 hUS.n1.1 hUS.n1.2.1 hnu,blk_set_ne hf9.hu.symm];exact hUS.unb
   ·by_cases e:j=r9
    ·rw [e,blk_set_self,hSr]
    ·rw [blk_set_ne e,hfr j a1 a2 a4 a5,blk_set_ne e]
   ·rw [blk_set_ne Y21,hfr p12 Y21 Y21 Y21 hnr,blk_set_ne Y21];exact hSy
  have hRv:R.pv=.agg [.int .i64 (R).fn,.int .i64 (R).code,.int .i64 (R).at_,.int .i64 (R).count,.int .i64 (R).sub,.sl .unk ((R).bits.map PV.bool),.sl .unk ((R).vals.map (PV.int .u16)),.int .u16 (R).and_,.int .u16 (R).or_,.sl .unk ((R).data.map (PV.int .u8))]:=rfl
  have n91:(un=r9)=False:=eq_false hf9.hu.symm
  have n92:(p12=r9)=False:=eq_false Y21
  have H:=aj hw3 (aj hw4 (aj hwt (aj hSu (aj hSy (aj hRv (aj n91 (aj n92 H)))))))
  have hgood:S.blk un=some (.row 92 [.agg [.int .i64 t.unit,.int .u32 t.fns,.int .i64 t.queue,.sl .unk (t.wins.map Win.pv),.sl .unk (t.slts.map Slt.pv),.int .i64 (T:Int),.ptr ln 0 0,.ptr cc 0 0]])∧S.blk p12=some (.row 47 [.agg [.int .i64 x.1.fn,.int .i64 x.1.at_,.int .i64 x.1.count,.int .i64 x.1.wat,.int .i64 x.1.sub,.sl .unk (x.1.bits.map PV.bool),.sl kv (y.vals.map (PV.int .u16)),.int .u16 x.1.and_,.int .u16 x.1.or_]])∧S.blk r9=some .res:=⟨hSu,hSy,hSr⟩
  refine Run.drawW 20 [14,18,19] [[false,false,false],[true,false,false],[false,true,false],[true,true,false],[true,true,true]] (fun X=>[S,X,(S.set r9 (some (.row 52 [.agg [.int .i64 0,.int .i64 0,.int .i64 0,.int .i64 0,.int .i64 0,.sl .nil [],.sl .nil [],.int .u16 0,.int .u16 0,.sl .nil []]]))),(X.set r9 (some (.row 52 [.agg [.int .i64 0,.int .i64 0,.int .i64 0,.int .i64 0,.int .i64 0,.sl .nil [],.sl .nil [],.int .u16 0,.int .u16 0,.sl .nil []]]))),(X.set r9 (some (.row 52 [.agg [.int .i64 (R).fn,.int .i64 (R).code,.int .i64 (R).at_,.int .i64 (R).count,.int .i64 (R).sub,.sl .unk ((R).bits.map PV.bool),.sl .unk ((R).vals.map (PV.int .u16)),.int .u16 (R).and_,.int .u16 (R).or_,.sl .unk ((R).data.map (PV.int .u8))]])))]) (fun X=>X.blk un=some (.row 92 [.agg [.int .i64 t.unit,.int .u32 t.fns,.int .i64 t.queue,.sl .unk (t.wins.map Win.pv),.sl .unk (t.slts.map Slt.pv),.int .i64 (T:Int),.ptr ln 0 0,.ptr cc 0 0]])∧X.blk p12=some (.row 47 [.agg [.int .i64 x.1.fn,.int .i64 x.1.at_,.int .i64 x.1.count,.int .i64 x.1.wat,.int .i64 x.1.sub,.sl .unk (x.1.bits.map PV.bool),.sl kv (y.vals.map (PV.int .u16)),.int .u16 x.1.and_,.int .u16 x.1.or_]])∧X.blk r9=some .res) (fun X=>∃ n2,UnAt b ln c cc un T t ⟨D',FS',l',v.c⟩ n2 X∧Fr5 b (b+6) ln cc n1 n2 S X∧X.blk r9=some .res∧X.blk p12=some (.row 47 [.agg [.int .i64 x.1.fn,.int .i64 x.1.at_,.int .i64 x.1.count,.int .i64 x.1.wat,.int .i64 x.1.sub,.sl .unk (x.1.bits.map PV.bool),.sl kv (y.vals.map (PV.int .u16)),.int .u16 x.1.and_,.int .u16 x.1.or_]])) 14 Tryz.mixed Y26 Y26 Y26 Y26 (fun _=>rfl) Y26 rfl hgood (fun X ⟨n2,a1,_,a3,a4⟩=>⟨a1.unb,a4,a3⟩) Y26 ?_
  refine DetWC.pre (pre:=[_,_,_,_,_,_,_,_,_,_,_,_,_,_]) [0,2] hgood Y26 Y26 (fun X hX=>by
    obtain ⟨gu,gy,gr⟩:=hX
    have H:=aj gu (aj gy H)
    simp only [prsOf,List.filterMap_cons,List.filterMap_nil,List.getElem?_cons_zero,List.getElem?_cons_succ]
    exact au) ?_
  refine DetWC.callX (v:=.tuple [R.pv,.int .i64 (n9:Int)]) [(0,1),(2,3)] Y26 Y26 au au au Y26 (fun X hX q hq s9 hs9=>by
    simp only [List.mem_cons,List.not_mem_nil,or_false] at hq
    have hS0:=hcall (some .res) (fun L e=>Y20)
    rw [set_same hSr] at hS0
    rcases hq with rfl | rfl
    ·obtain rfl:=Option.some.inj hs9
     refine hS0.mono ?_
     rintro r s2 ⟨rfl,Y,hY,rfl⟩
     refine ⟨rfl,Y,hY,?_⟩
     obtain ⟨_,_,_,a3,_⟩:=hY
     rw [set_same a3];rfl
    ·obtain rfl:=Option.some.inj hs9
     refine (hcall (some (.row 52 [.agg [.int .i64 0,.int .i64 0,.int .i64 0,.int .i64 0,.int .i64 0,.sl .nil [],.sl .nil [],.int .u16 0,.int .u16 0,.sl .nil []]])) (fun L e=>Y20)).mono ?_
     rintro r s2 ⟨rfl,Y,hY,rfl⟩
     exact ⟨rfl,Y,hY,rfl⟩) ?_
  refine DetWC.pre (pre:=[_,_,_]) [1,3,4] hgood Y26 Y26 (fun X hX=>by
    obtain ⟨gu,gy,gr⟩:=hX
    have H:=aj gu (aj gy H)
    simp only [prsOf,List.filterMap_cons,List.filterMap_nil,List.getElem?_cons_zero,List.getElem?_cons_succ]
    exact au) ?_
  refine DetWC.resAlloc (id:=r9) [(0,2),(1,3)] Y26 Y26 au rfl (by rw [Tryz.zp52]<;>rfl) (fun X hX q hq=>by
    obtain ⟨gu,gy,gr⟩:=hX
    simp only [prsOf,List.filterMap_cons,List.filterMap_nil,List.getElem?_cons_zero,List.getElem?_cons_succ] at hq
    simp only [List.mem_cons,List.not_mem_nil,or_false] at hq
    rcases hq with rfl | rfl
    ·exact ⟨hSr,rfl⟩
    ·exact ⟨gr,rfl⟩) ?_
  refine DetWC.eff (v:=.junk) [(3,4)] Y26 Y26 au (fun X hX q hq=>by
    obtain ⟨gu,gy,gr⟩:=hX
    have H:=aj gu (aj gy H)
    simp only [prsOf,List.filterMap_cons,List.filterMap_nil,List.getElem?_cons_zero,List.getElem?_cons_succ] at hq
    simp only [List.mem_cons,List.not_mem_nil,or_false] at hq
    rcases hq with rfl
    all_goals exact au) ?_
  refine DetWC.nil ?_
  intro X sN hX hN
  obtain rfl:=Option.some.inj hN
  obtain ⟨n2,hUX,hFX,hXr,hXy⟩:=hX
  have hnx9:=hFX.nx
  have hcX:UnAt b ln c cc un T t ⟨D',FS',l',v.c⟩ n2 (X.set r9 (some (.row 52 [.agg [.int .i64 (R).fn,.int .i64 (R).code,.int .i64 (R).at_,.int .i64 (R).count,.int .i64 (R).sub,.sl .unk ((R).bits.map PV.bool),.sl .unk ((R).vals.map (PV.int .u16)),.int .u16 (R).and_,.int .u16 (R).or_,.sl .unk ((R).data.map (PV.int .u8))]]))):=hUX.hi ⟨hf9.hl,hf9.hb,hf9.hc,hf9.hu,fun j hj=>by
   rcases hFX.new j r9 hj with ⟨i',h'⟩ | h'
   ·exact hf9.hn i' h'
   ·omega⟩ _
  have hun9:(X.set r9 (some (.row 52 [.agg [.int .i64 (R).fn,.int .i64 (R).code,.int .i64 (R).at_,.int .i64 (R).count,.int .i64 (R).sub,.sl .unk ((R).bits.map PV.bool),.sl .unk ((R).vals.map (PV.int .u16)),.int .u16 (R).and_,.int .u16 (R).or_,.sl .unk ((R).data.map (PV.int .u8))]]))).blk un=some (.row 92 [.agg [.int .i64 t.unit,.int .u32 t.fns,.int .i64 t.queue,.sl .unk (t.wins.map Win.pv),.sl .unk (t.slts.map Slt.pv),.int .i64 (T:Int),.ptr ln 0 0,.ptr cc 0 0]]):=hcX.unb
  have hcb:=count_Bad hcX.uok.c hcX.cn (n:=(n9:Int))
  obtain ⟨S5,hS5⟩:∃ S5,(X.set r9 (some (.row 52 [.agg [.int .i64 (R).fn,.int .i64 (R).code,.int .i64 (R).at_,.int .i64 (R).count,.int .i64 (R).sub,.sl .unk ((R).bits.map PV.bool),.sl .unk ((R).vals.map (PV.int .u16)),.int .u16 (R).and_,.int .u16 (R).or_,.sl .unk ((R).data.map (PV.int .u8))]]))).set cc (some (.row 112 [(v.c.bad (n9:Int)).pv]))=S5:=⟨_,rfl⟩
  have hU5:UnAt b ln c cc un T t (askS q T tick i x out v).2 n2 S5:=by
   have h9:=hcX.cnt (hcX.uok.c.bad (n9:Int))
   unfold askS
   rw [← hy,hAX,← hS5]
   exact h9
  have hx5:S5.nxt=X.nxt:=by rw [← hS5];rfl
  have h59:S5.blk r9=some (.row 52 [.agg [.int .i64 (R).fn,.int .i64 (R).code,.int .i64 (R).at_,.int .i64 (R).count,.int .i64 (R).sub,.sl .unk ((R).bits.map PV.bool),.sl .unk ((R).vals.map (PV.int .u16)),.int .u16 (R).and_,.int .u16 (R).or_,.sl .unk ((R).data.map (PV.int .u8))]]):=by rw [← hS5,blk_set_ne hf9.hc];exact blk_set_self _ _ _
  have hk5:∀ j,j<S2.nxt→j≠ln→j≠cc→¬ (b≤j∧j<b+6)→(∀ i,n1 i≠some j)→S5.blk j=S2.blk j:=fun j a1 a2 a3 a4 a5=>by
   rw [← hS5,blk_set_ne a3,blk_set_ne Y21,hFX.same j Y21 a2 a3 a4 a5];exact hSk j a1
  have hF5:Fr5 b (b+6) ln cc ns n2 s S5:=by
   refine hFr2.trans ⟨Y21,hk5,fun i' t' e=>?_⟩
   rcases hFX.new i' t' e with h' | h'
   ·exact .inl h'
   ·exact .inr Y21
  have hq5:S5.blk s.nxt=some (.row 47 [.agg [.int .i64 (q).fn,.int .i64 (q).at_,.int .i64 (q).count,.int .i64 (q).wat,.int .i64 (q).sub,.sl .unk ((q).bits.map PV.bool),.sl .unk ((q).vals.map (PV.int .u16)),.int .u16 (q).and_,.int .u16 (q).or_]]):=by
   have:=h.lin.hc;have:=h.lin.nx;have:=h.bl;have:=h.lt
   rw [hk5 s.nxt Y21 Y21 Y21 Y21 (fun j hj=>hU2.lin.notrow hj h2q)];exact h2q
  have hlt5:∀ t z,kk=.tok t z→t<S5.nxt:=fun t z e=>by have:=(htk t z e).2;omega
  have htn2:∀ t z,kk=.tok t z→∀ j,n2 j≠some t:=fun t z e j hj=>by
   rcases hFX.new j t hj with ⟨i',h'⟩ | h'
   ·exact htn t z e i' h'
   ·have:=(htk t z e).2;omega
  have hG5:Grows S5 kk out.length 10:=hgr2.mono fun t e=>by
   have:=h.lin.hc;have:=h.lin.nx;have:=h.bl;have:=h.lt;have:=htk _ _ e
   exact hk5 t Y21 Y21 Y21 Y21 (htn _ _ e)
  have H:=aj hun9 (aj h59 H)
  refine rh [0,3,5,9,13,14,15,16,17] (k:=rs (k:=rr (k:=ro (pre:=[_,_,_,_,_]) (k:=?_))))
  refine RunO.callw au au au Y26 ((hcb).mono ?_)
  rintro r s9 ⟨rfl,hs⟩
  subst s9
  rw [hS5]
  refine rl [0,3,5,9,13,15,16,17] (k:=rs (k:=rr (k:=ro (pre:=[_,_]) (k:=rO (k:=?_)))))
  refine RunO.grow (xs:=out.map Rep.pv) (ys:=[R].map Rep.pv) au au (by simp only [go_sem,List.map_cons,List.map_nil,Rep.pv,↓reduceIte,Nat.reduceEqDiff,H]<;>rfl) Tryz.td137 (by rw [Tryz.zp52];rfl) (isEls_map (P:=Tryz.prog) (e:=52) (f:=Rep.pv) (fun a=>⟨rfl,by rw [Tryz.cz52];rfl⟩) _) (isEls_map (P:=Tryz.prog) (e:=52) (f:=Rep.pv) (fun a=>⟨rfl,by rw [Tryz.cz52];rfl⟩) _) (by rw [Tryz.by52];decide) (by rw [Tryz.by52];simp;omega) (by rw [Tryz.cz52,List.length_map];exact hG5) Y23 ?_
  intro k' s3 hgr' htm
  rw [Tryz.cz52,List.length_map,List.length_map] at hgr'
  rw [← List.map_append]
  have hn3:=htm.nxt
  have h3k:∀ j,j<S5.nxt→(∀ t z,kk=.tok t z→t≠j)→s3.blk j=S5.blk j:=fun j hj hk=>htm.rest j hj fun z e=>hk _ _ e rfl
  have hU3:UnAt b ln c cc un T t (askS q T tick i x out v).2 n2 s3:=hU5.keep hn3 fun j hj hj'=>h3k j hj fun t z e=>by
   have h9:=(htk t z e).1
   rcases hj' with rfl | hj' | rfl | rfl | ⟨i9,hi9⟩
   ·have:=h.lin.hc;have:=h.lin.nx;omega
   ·have:=h.lin.hc;have:=h.lin.nx;have:=h.bl;omega
   ·have:=h.lt;omega
   ·have:=h.lt;omega
   ·rintro rfl
    exact htn2 _ _ e _ hi9
  have hF3:Fr5 b (b+6) ln cc ns n2 s s3:=⟨by have:=hF5.nx;omega,fun j q1 q2 q3 q4 q5=>by rw [h3k j (by have:=hF5.nx;omega) fun t z e=>by have:=(htk t z e).1;omega];exact hF5.same j q1 q2 q3 q4 q5,hF5.new⟩
  have hq3:s3.blk s.nxt=some (.row 47 [.agg [.int .i64 (q).fn,.int .i64 (q).at_,.int .i64 (q).count,.int .i64 (q).wat,.int .i64 (q).sub,.sl .unk ((q).bits.map PV.bool),.sl .unk ((q).vals.map (PV.int .u16)),.int .u16 (q).and_,.int .u16 (q).or_]]):=by rw [h3k s.nxt (by have:=hF5.nx;omega) fun t z e=>(hG5.ne e s.nxt hq5 Y108)];exact hq5
  have h39:s3.blk r9=some (.row 52 [.agg [.int .i64 (R).fn,.int .i64 (R).code,.int .i64 (R).at_,.int .i64 (R).count,.int .i64 (R).sub,.sl .unk ((R).bits.map PV.bool),.sl .unk ((R).vals.map (PV.int .u16)),.int .u16 (R).and_,.int .u16 (R).or_,.sl .unk ((R).data.map (PV.int .u8))]]):=by rw [h3k r9 Y21 fun t z e=>(hG5.ne e r9 h59 Y108)];exact h59
  have htk3:∀ t z,k'=.tok t z→s.nxt≤t∧t<s3.nxt:=fun t z e=>by
   rcases htm.fresh t z e with ⟨z',h'⟩ | ⟨h1,h2⟩
   ·have h8:=htk t z' h';have:=hU5.lin.nx;exact ⟨h8.1,by have:=hlt5 t z' h';omega⟩
   ·have:=hF5.nx;exact ⟨Y21,h2⟩
  have htn3:∀ t z,k'=.tok t z→∀ j,n2 j≠some t:=fun t z e j hj=>by
   rcases htm.fresh t z e with ⟨z',h'⟩ | ⟨h1,h2⟩
   ·exact htn2 t z' h' j hj
   ·have:=(hU5.lin.own j t hj).2;omega
  have H:=aj h39 (aj hq3 H)
  refine rh [0,3,5,9,13,15,16,17] (k:=rs (k:=rg [0,3,5,9,15,16,17,86] (k:=rc (ht:=fun hc2=>?_) (hf:=fun hc2=>?_))))
  ·have hc:=hc2
   refine rX (k:=rs (k:=rg [8] (k:=rR (k:=?_))))
   have hstep:=askU_step (q:=q) (T:=T) (tick:=tick) (out:=out) (u:=v) hip
   rw [hxe,show (askS q T tick i x out v).1=R by unfold askS;rw [← hy,hAX]] at hstep
   have hc9:¬ R.code=0:=by simpa using hc2
   rw [if_neg hc9] at hstep
   refine Ret.allW (r':=.sl .unk ((out++[R]).map Rep.pv)) (by simp only [Tryz.f67,go_sem,↓reduceIte]<;>rfl) (by simp only [PV.weak,weaks_reps]) ?_
   rw [hau,hstep]
   refine ⟨rfl,n2,hU3,hF3,fun r hr=>?_,by rw [List.length_append,hol];simp only [List.length_singleton];omega,?_⟩
   ·exact Y278
   ·unfold askS
    rw [← hy,hAX]
    show l'.length≤_
    omega
  ·have hc:=hc2
   refine rk (k:=rB (k:=rg [0,3,5,9,15,16,17] (k:=?_)))
   have hstep:=askU_step (q:=q) (T:=T) (tick:=tick) (out:=out) (u:=v) hip
   rw [hxe,show (askS q T tick i x out v).1=R by unfold askS;rw [← hy,hAX]] at hstep
   have hc9:R.code=0:=by simpa using hc2
   rw [if_pos hc9] at hstep
   refine Run.lp ⟨⟨i+1,out++[R],(askS q T tick i x out v).2,k',n2,rfl,Y21,by rw [List.length_append,hol];rfl,fun r hr=>?_,?_,by rw [hau,hstep],hU3,hF3,hq3,by have:=hF3.nx;have:=htm.nxt;omega,by rw [List.length_append];exact hgr',htk3,htn3⟩,?_⟩
   ·exact Y278
   ·unfold askS
    rw [← hy,hAX]
    show l'.length≤_
    omega
   ·exact Y32
 intro hJs6
 refine rs (k:=rr (k:=ro (pre:=[_,_,_,_]) (k:=rQ 27 (ht:=fun hg3=>?_) (hf:=fun hg3=>?_))))
 refine rg1 (k:=rg1 (k:=ro (pre:=[_,_]) (k:=rQ 31 (ht:=fun hg7=>?_) (hf:=fun hg7=>?_))))
 have hm1:q.fn=22:=of_decide_eq_true hg3
 have hm2:x.2=true:=by simpa [hm1] using hg7
 have hi1:i=1:=mask_one hps hm1 hip (by rw [hxe];exact hm2)
 obtain ⟨R0,out2,ho⟩:∃ R0 l,out=R0::l:=by
  cases out with
  | nil=>simp at hol;omega
  | cons a l=>exact ⟨a,l,rfl⟩
 have hR0:(out.map Rep.pv)[0]? =some (.agg [.int .i64 (R0).fn,.int .i64 (R0).code,.int .i64 (R0).at_,.int .i64 (R0).count,.int .i64 (R0).sub,.sl .unk ((R0).bits.map PV.bool),.sl .unk ((R0).vals.map (PV.int .u16)),.int .u16 (R0).and_,.int .u16 (R0).or_,.sl .unk ((R0).data.map (PV.int .u8))]):=by rw [ho];rfl
 have hol0:(0<out.length)=True:=eq_true (by rw [ho];exact Nat.succ_pos _)
 have H:=aj hR0 (aj hol0 H)
 refine rg1 (k:=rg1 (k:=rg1 (k:=rg1 (k:=rg1 (k:=rg1 (k:=rh [0,3,5,9,10,12,15,16,17,38] (k:=rc (ht:=fun hc1=>?_) (hf:=fun hc1=>?_))))))))
 ·have hc:=hc1
  have hm3:R0.vals.length=1:=Y79
  have hm:q.fn=22∧x.2=true∧(out.headD zeroP).vals.length=1:=⟨hm1,hm2,by rw [ho];exact hm3⟩
  obtain ⟨m0,hm0⟩:∃ v,R0.vals=[v]:=List.length_eq_one_iff.1 hm3
  have hy2:y={ x.1 with vals:=[maskF m0 q] }:=by
   rw [hy]
   unfold partX
   rw [if_pos hm,ho]
   show _=_
   simp only [List.headD_cons,hm0]
  have hv0:(R0.vals.map (PV.int .u16))[0]? =some (.int .u16 m0):=by rw [hm0];rfl
  have hvl0:(0<R0.vals.length)=True:=eq_true (by rw [hm0];exact Nat.succ_pos _)
  have hmk:ibits .or .u16 (ibits .and .u16 m0 q.and_) (ibits .andNot .u16 q.or_ q.and_)=maskF m0 q:=rfl
  have H:=aj hv0 (aj hvl0 (aj hmk H))
  refine rH 18 [17] [[false],[true]] [S1,(S1.set p12 (some (.row 47 [.agg [.int .i64 x.1.fn,.int .i64 x.1.at_,.int .i64 x.1.count,.int .i64 x.1.wat,.int .i64 x.1.sub,.sl .unk (x.1.bits.map PV.bool),.sl .clip [.int .u16 (maskF m0 q)],.int .u16 x.1.and_,.int .u16 x.1.or_]])))] Tryz.mixed (k:=?_)
  refine dP [0] (pre:=[_,_,_,_,_,_,_,_,_,_,_,_,_,_,_,_,_]) (k:=?_)
  refine dE [(0,1)] (k:=?_)
  refine DetHC.nil ?_
  refine rl [0,3,5,9,10,12,15,16,17] (k:=?_)
  exact hJs6 _ _ ⟨.clip,rfl,⟨_,rfl⟩,by rw [blk_set_self,hy2];rfl,by rw [hy2]⟩
 refine jO 1 ?_;rotate_left
 refine jO 2 ?_;rotate_left
 refine rg0 (k:=rg0 (k:=ro (pre:=[_,_]) (k:=rQ 31 (ht:=fun hg7=>?_) (hf:=fun hg7=>?_))))
 ·cases hg7
 refine jO 2 ?_;rotate_left
 ·have hc:=hc0
  refine rX (k:=rs (k:=rg [8] (k:=rR (k:=?_))))
  have hie:i=ps.length:=Y33
  rw [hie,List.drop_length] at hau
  refine Ret.allW (r':=.sl .unk (out.map Rep.pv)) (by simp only [Tryz.f67,go_sem,↓reduceIte]<;>rfl) (by simp only [PV.weak,weaks_reps]) ?_
  rw [hau]
  exact ⟨rfl,n1,hU,hFr,hoo,by show out.length≤6;omega,by show v.l.length≤_;omega⟩
 any_goals
  refine jI 2 ?_
  refine rg0 (k:=rg0 (k:=rg0 (k:=rg0 (k:=rg0 (k:=rg0 (k:=rh [0,3,5,9,10,12,15,16,17,38] (k:=rc (ht:=fun hc1=>?_) (hf:=fun hc1=>?_))))))))
  ·cases hc1
  refine jO 1 ?_;rotate_left
 any_goals
  refine jI 1 ?_
  have hc:=hc1
  refine jO 3 ?_;rotate_left
 any_goals
  refine jI 3 ?_
  refine rk (k:=?_)
  refine jO 4 ?_;rotate_left
 any_goals
  refine jI 4 ?_
  have hy2:y=x.1:=by
   rw [hy]
   unfold partX
   rw [if_neg]
   rintro ⟨e1,e2,e3⟩
   first
    | exact absurd e1 (by simpa using hg3)
    |(rw [e2] at hg7;simp [e1] at hg7;done)
    |(rw [ho] at e3;have e3:R0.vals.length=1:=e3;have h9:=of_decide_eq_false hc1;omega)
  refine jO 5 ?_;rotate_left
 any_goals
  refine jI 5 ?_
  refine Run.prune [0,3,5,9,10,12,15,16,17] rfl ?_
  refine jO 6 ?_;rotate_left
 any_goals
  refine jI 6 ?_
  exact hJs6 _ _ ⟨.unk,rfl,⟨_,(set_same hx12).symm⟩,by rw [hy2];exact hx12,by rw [hy2]<;>rfl⟩
end Go.Proofs
namespace Go.Proofs
open Go.PM
set_option maxHeartbeats 2000000
theorem clone_u16O_any {xs:List Int} (hne:xs≠[]) (hb:xs.length*2≤140737488355328) {s:St}:ACalls Tryz.prog 44 [.sl .any (xs.map (PV.int .u16))] s (fun r s'=>r=.own s.nxt 0 xs.length∧s'=s.new (.row 39 (xs.map (PV.int .u16)))):=by
 refine go Tryz.func44 (k:=fun hwf H=>?_)
 refine rs (k:=rg [0] (k:=rs (k:=rs (k:=rg [0,4] (k:=rc (ht:=fun hc0=>?_) (hf:=fun hc0=>?_))))))
 ·cases hc0
 ·refine rk (k:=rs (k:=rr (k:=rO (k:=ro (pre:=[_]) (k:=?_)))))
  refine RunO.appendFirst au au au Tryz.td23 Y143 Y141 (isEls_map (P:=Tryz.prog) (e:=39) (f:=PV.int .u16) (fun a=>⟨rfl,Y248⟩) _) Y144 (by rw [Tryz.by39];simp;omega) (v:=.own s.nxt 0 xs.length) (s':=s.new (.row 39 (xs.map (PV.int .u16)))) (by unfold aAppendFirst;dsimp only;rw [if_pos (by simpa using hne)];simp) ?_
  refine rh [2] (k:=rR (k:=?_))
  exact Ret.all (by simp only [Tryz.f44,go_sem,↓reduceIte]<;>rfl) ⟨rfl,rfl⟩
theorem clone_u16O {xs:List Int} (hne:xs≠[]) (hb:xs.length*2≤140737488355328) {s:St}:ACalls Tryz.prog 44 [.sl .unk (xs.map (PV.int .u16))] s (fun r s'=>r=.own s.nxt 0 xs.length∧s'=s.new (.row 39 (xs.map (PV.int .u16)))) :=
 ACalls.unk1 (fun h=>absurd (by simpa using h) hne) (clone_u16O_any hne hb)
theorem clip_u16O {id n:Nat} {els:List PV} {s:St} (hb:s.blk id=some (.row 39 els)):ACalls Tryz.prog 91 [.own id 0 n] s (fun r s'=>r=.own id 0 n∧s'=s):=by
 refine go Tryz.func91 (k:=fun hwf H=>?_)
 refine rs (k:=rg [0] (k:=rs (k:=rr (k:=ro (pre:=[_,_,_,_,_]) (k:=?_)))))
 refine RunO.clipOwn (el:=39) au au au au Tryz.td23 (by rw [Tryz.cz39];decide) hb rfl ?_
 refine rh [2] (k:=rR (k:=?_))
 exact Ret.all (by simp only [Tryz.f91,go_sem,↓reduceIte]<;>rfl) ⟨rfl,rfl⟩
theorem frz_rep {s:St} {fn sub:Int} {id t:Nat} {l:List Int} (hl:1=l.length) (hb:s.blk id=some (.row t (l.map (PV.int .u16)))):[PV.agg [.int .i64 fn,.int .i64 0,.int .i64 0,.int .i64 0,.int .i64 sub,.sl .nil [],.own id 0 1,.int .u16 0,.int .u16 0,.sl .nil []]].map (PV.frz false s (fun j=>j != id) 3)=[PV.agg [.int .i64 fn,.int .i64 0,.int .i64 0,.int .i64 0,.int .i64 sub,.sl .nil [],.sl .unk (l.map (PV.int .u16)),.int .u16 0,.int .u16 0,.sl .nil []]]:=by
 have h:=frz_own_ints (s:=s) (q:=fun j=>j != id) (id:=id) (n:=1) (l:=l) hl Y23 hb
 show [PV.agg [PV.int .i64 fn,PV.int .i64 0,PV.int .i64 0,PV.int .i64 0,PV.int .i64 sub,PV.sl .nil [],PV.frz false s (fun j=>j != id) 2 (.own id 0 1),PV.int .u16 0,PV.int .u16 0,PV.sl .nil []]]=_
 rw [h]
attribute [local go_sem] weaks_bools set_set Req.pv Cn.pv
theorem Y111 {p:Prop} (h:p:=by simp only [Tryz.f65,go_sem,↓reduceIte]<;>rfl):p:=h
theorem Y112 {p:Prop} (h:p:=by simp only [PV.blw,PV.blws,blws_u16T,and_true,true_and];exact ⟨fun t z e=>Y20,fun t z e=>Y20,fun t z e=>Y20⟩):p:=h
theorem Y169 {p:Prop} (h:p:=by rw [hd];simp only [PV.weak,PV.weaks,Rep.pv,weaks_bools,weaks_u16,weaks_u8,h8]<;>rfl):p:=h
theorem Y227 {p:Prop} (h:p:=by rw [hS];exact blk_new_eq):p:=h
theorem Y279 {p:Prop} (h:p:=by rw [hd];simp only [PV.weak,PV.weaks,Rep.pv,weaks_bools,weaks_u16,weaks_u8]<;>rfl):p:=h
set_option maxRecDepth 100000 in
theorem count_Do {cc:Nat} {c:Cn} (hc:c.ok) {s:St} (hb:s.blk cc=some (.row 112 [c.pv])) {q:Req} (hq:q.ok) {unit:Int}:ACalls Tryz.prog 65 [.ptr cc 0 0,q.pv,.int .i64 unit] s (fun r s'=>r=(c.doC q unit).1.pv∧s'.blk cc=some (.row 112 [(c.doC q unit).2.pv])∧s.nxt≤s'.nxt∧∀ j,j<s.nxt→j≠cc→s'.blk j=s.blk j):=by
 refine go Tryz.func65 (k:=fun hwf H=>?_)
 have hcO:=hc
 have hlt:=lt_blk hwf hb
 rw [Cn.pv] at hb
 have hnv:=hq.nv
 have and255:ibits .and .i64 unit 255=unit%256:=ibits_and255 unit
 have hwu:IntKind.u8.wrap (unit%256)=unit%256:=Y147
 have H:=aj and255 (aj hwu (aj hb H))
 refine rs (k:=rg [0,2,4,6] (k:=rs (k:=rb (k:=rs (k:=rg [0,2,4,6,10] (k:=rc (ht:=fun hc0=>?_) (hf:=fun hc0=>?_)))))))
 have hc:=hc0
 refine rs (k:=rr (k:=ro (pre:=[_,_]) (k:=rC (h:=reply_Refuse hq.fn Y24) (k:=rh [6] (k:=rR (k:=?_))))))
 simp only [Bool.and_eq_true,Bool.and_eq_false_iff,Bool.or_eq_true,Bool.or_eq_false_iff,Bool.not_eq_true',Bool.not_eq_false',decide_eq_true_eq,decide_eq_false_iff_not] at *
 have hd:c.doC q unit=(refuseP q.fn 1,c):=by
  unfold Cn.doC
  rw [if_pos hc0]
 refine jO 1 ?_;rotate_left
 have hc:=hc0
 refine rs (k:=rr (k:=ro (pre:=[_]) (k:=rC (h:=pdu_Right (q:=q)) (k:=rh [0,2,4,6,22] (k:=rc (ht:=fun hc1=>?_) (hf:=fun hc1=>?_))))))
 have hc:=hc1
 refine rs (k:=rr (k:=ro (pre:=[_,_]) (k:=rC (h:=reply_Refuse hq.fn Y24) (k:=rh [6] (k:=rR (k:=?_))))))
 simp only [Bool.and_eq_true,Bool.and_eq_false_iff,Bool.or_eq_true,Bool.or_eq_false_iff,Bool.not_eq_true',Bool.not_eq_false',decide_eq_true_eq,decide_eq_false_iff_not] at *
 have hd:c.doC q unit=(refuseP q.fn 3,c):=by
  unfold Cn.doC
  rw [if_neg Y21,if_pos hc1]
 refine jO 1 ?_;rotate_left
 have hc:=hc1
 refine rs (k:=rg [0,2,4,6,29] (k:=rc (ht:=fun hc2=>?_) (hf:=fun hc2=>?_)))
 have hc:=hc2
 refine rs (k:=rr (k:=ro (pre:=[_,_,_,_,_]) (k:=rO (k:=rh [6] (k:=rR (k:=?_))))))
 simp only [Bool.and_eq_true,Bool.and_eq_false_iff,Bool.or_eq_true,Bool.or_eq_false_iff,Bool.not_eq_true',Bool.not_eq_false',decide_eq_true_eq,decide_eq_false_iff_not] at *
 have hd:c.doC q unit=((⟨17,0,0,0,0,[],[],0,0,[unit%256,255]⟩:Rep),c):=by
  unfold Cn.doC
  rw [if_neg Y21,if_neg Y21,if_pos hc2]
 refine Ret.allW (r':=(c.doC q unit).1.pv) Y111 (by rw [hd];simp only [PV.weak,PV.weaks,Rep.pv,weaks_bools,weaks_u16,weaks_u8,hc2]<;>rfl) ?_
 refine jO 2 ?_;rotate_left
 have hc:=hc2
 refine rk (k:=rB (k:=rs (k:=?_)))
 have hr0:rightF q=0:=by simpa using hc1
 have h8:q.fn=8:=by
  simp only [Bool.and_eq_false_iff,Bool.not_eq_false',decide_eq_true_eq,decide_eq_false_iff_not] at hc0 hc2
  omega
 have hlen:q.vals.length=1:=by
  have h9:=(right0 hr0).nv
  unfold valsF at h9
  rw [if_pos (.inr h8)] at h9
  omega
 obtain ⟨v,hv⟩:=List.length_eq_one_iff.1 hlen
 have hne:q.vals≠[]:=by rw [hv];exact List.cons_ne_nil _ _
 have hv0:(q.vals.map (PV.int .u16))[0]? =some (.int .u16 v):=by rw [hv];rfl
 have hvl:(0<q.vals.length)=True:=eq_true Y21
 refine Run.reserve ?_
 refine Run.genS fun S0 hS=>?_
 have hn0:S0.nxt=s.nxt+3:=Y155
 have r70:S0.blk (s.nxt+2)=some .res:=Y227
 have r40:S0.blk s.nxt=some (.row 47 [.agg [.int .i64 q.fn,.int .i64 q.at_,.int .i64 q.count,.int .i64 q.wat,.int .i64 q.sub,.sl .unk (q.bits.map PV.bool),.sl .unk (q.vals.map (PV.int .u16)),.int .u16 q.and_,.int .u16 q.or_]]):=Y45
 have r60:S0.blk (s.nxt+1)=some (.row 52 [.agg [.int .i64 0,.int .i64 0,.int .i64 0,.int .i64 0,.int .i64 0,.sl .nil [],.sl .nil [],.int .u16 0,.int .u16 0,.sl .nil []]]):=Y45
 have rc0:S0.blk cc=some (.row 112 [.agg [.int .i64 c.m,.int .i64 c.e,.int .i64 c.b]]):=by rw [hS];simp (disch:=first | omega |(simp only [nxt_set,nxt_new]<;>omega) | fail) only [go_sem];exact hb
 have lo0:∀ j,j<s.nxt→S0.blk j=s.blk j:=fun j hj=>Y46
 clear hS
 obtain ⟨W0,hW0⟩:∃ z,S0.new (.row 39 (q.vals.map (PV.int .u16)))=z:=⟨_,rfl⟩
 have hcl:∀ S:St,S.nxt=s.nxt+3→ACalls Tryz.prog 44 [.sl .unk (q.vals.map (PV.int .u16))] S (fun r s'=>r=.own (s.nxt+3) 0 1∧s'=S.new (.row 39 (q.vals.map (PV.int .u16)))):=fun S h=>by
  have h9:=clone_u16O hne Y21 (s:=S)
  rw [h,hlen] at h9
  exact h9
 have k0:=hcl S0 hn0
 rw [hW0] at k0
 have k7:∀ z,ACalls Tryz.prog 44 [.sl .unk (q.vals.map (PV.int .u16))] (S0.set (s.nxt+2) z) (fun r s'=>r=.own (s.nxt+3) 0 1∧s'=W0.set (s.nxt+2) z):=fun z=>by
  have h9:=hcl (S0.set (s.nxt+2) z) hn0
  rw [← set_new_ne _ _ _ _ Y21,hW0] at h9
  exact h9
 have hwn:W0.nxt=s.nxt+4:=by rw [← hW0];simp only [nxt_new,hn0]
 have w7:W0.blk (s.nxt+2)=some .res:=by rw [← hW0,blk_new_ne Y21];exact r70
 have w4:W0.blk s.nxt=some (.row 47 [.agg [.int .i64 q.fn,.int .i64 q.at_,.int .i64 q.count,.int .i64 q.wat,.int .i64 q.sub,.sl .unk (q.bits.map PV.bool),.sl .unk (q.vals.map (PV.int .u16)),.int .u16 q.and_,.int .u16 q.or_]]):=by rw [← hW0,blk_new_ne Y21];exact r40
 have w6:W0.blk (s.nxt+1)=some (.row 52 [.agg [.int .i64 0,.int .i64 0,.int .i64 0,.int .i64 0,.int .i64 0,.sl .nil [],.sl .nil [],.int .u16 0,.int .u16 0,.sl .nil []]]):=by rw [← hW0,blk_new_ne Y21];exact r60
 have wc:W0.blk cc=some (.row 112 [.agg [.int .i64 c.m,.int .i64 c.e,.int .i64 c.b]]):=by rw [← hW0,blk_new_ne Y21];exact rc0
 have wl:∀ j,j<s.nxt→W0.blk j=s.blk j:=fun j hj=>by rw [← hW0,blk_new_ne Y21];exact lo0 j hj
 have ww:W0.blk (s.nxt+3)=some (.row 39 (q.vals.map (PV.int .u16))):=by rw [← hW0,← hn0];exact blk_new_eq
 have hcp:∀ z,(W0.set (s.nxt+2) z).blk (s.nxt+3)=some (.row 39 (q.vals.map (PV.int .u16))):=fun z=>by rw [blk_set_ne Y21];exact ww
 have H:=aj r40 (aj r60 (aj w4 (aj w6 (aj hwn H))))
 refine rH 11 [6,9,10] [[false,false,false],[true,false,false],[false,true,false],[true,true,false],[true,true,true]] [S0,W0,(S0.set (s.nxt+2) (some (.row 52 [.agg [.int .i64 0,.int .i64 0,.int .i64 0,.int .i64 0,.int .i64 0,.sl .nil [],.sl .nil [],.int .u16 0,.int .u16 0,.sl .nil []]]))),(W0.set (s.nxt+2) (some (.row 52 [.agg [.int .i64 0,.int .i64 0,.int .i64 0,.int .i64 0,.int .i64 0,.sl .nil [],.sl .nil [],.int .u16 0,.int .u16 0,.sl .nil []]]))),(W0.set (s.nxt+2) (some (.row 52 [.agg [.int .i64 q.fn,.int .i64 0,.int .i64 0,.int .i64 0,.int .i64 q.sub,.sl .nil [],.own (s.nxt+3) 0 1,.int .u16 0,.int .u16 0,.sl .nil []]])))] Tryz.mixed (k:=?_)
 refine dP [0,1,2,3] (pre:=[_,_,_,_,_,_]) (k:=?_)
 refine dX (v:=.own (s.nxt+3) 0 1) [(0,1),(2,3)] (h:=by intro q hq;simp only [List.mem_cons,List.not_mem_nil,or_false] at hq;rcases hq with rfl | rfl<;>first | exact k0 | exact k7 _) (k:=?_)
 refine dC [1,3] (h:=fun s9 hs9=>by simp only [List.mem_cons,List.not_mem_nil,or_false] at hs9;rcases hs9 with rfl | rfl<;>first | exact clip_u16O ww | exact clip_u16O (hcp _)) (k:=?_)
 refine dP [1,3] (pre:=[_]) (k:=?_)
 refine DetHC.resAlloc (id:=(s.nxt+2)) [(0,2),(1,3)] _ Y26 pq au rfl (by rw [Tryz.zp52]<;>rfl) (by intro q hq;simp only [List.mem_cons,List.not_mem_nil,or_false] at hq;rcases hq with rfl | rfl<;>refine ⟨by simp (disch:=first | omega |(simp only [nxt_set,nxt_new]<;>omega) | fail) only [go_sem]<;>assumption,rfl⟩) ?_
 refine dE [(3,4)] (k:=?_)
 refine DetHC.nil ?_
 refine rl [0,4,6,7] (k:=rs (k:=rs (k:=?_)))
 refine Run.genS fun S7 hS=>?_
 have hn7:S7.nxt=s.nxt+4:=by rw [hS];exact hwn
 have y4:S7.blk s.nxt=some (.row 47 [.agg [.int .i64 q.fn,.int .i64 q.at_,.int .i64 q.count,.int .i64 q.wat,.int .i64 q.sub,.sl .unk (q.bits.map PV.bool),.sl .unk (q.vals.map (PV.int .u16)),.int .u16 q.and_,.int .u16 q.or_]]):=by rw [hS,blk_set_ne Y21];exact w4
 have y6:S7.blk (s.nxt+1)=some (.row 52 [.agg [.int .i64 0,.int .i64 0,.int .i64 0,.int .i64 0,.int .i64 0,.sl .nil [],.sl .nil [],.int .u16 0,.int .u16 0,.sl .nil []]]):=by rw [hS,blk_set_ne Y21];exact w6
 have y7:S7.blk (s.nxt+2)=some (.row 52 [.agg [.int .i64 q.fn,.int .i64 0,.int .i64 0,.int .i64 0,.int .i64 q.sub,.sl .nil [],.own (s.nxt+3) 0 1,.int .u16 0,.int .u16 0,.sl .nil []]]):=by rw [hS];exact blk_set_self _ _ _
 have yc:S7.blk cc=some (.row 112 [.agg [.int .i64 c.m,.int .i64 c.e,.int .i64 c.b]]):=by rw [hS,blk_set_ne Y21];exact wc
 have yw:S7.blk (s.nxt+3)=some (.row 39 (q.vals.map (PV.int .u16))):=by rw [hS];exact hcp _
 have yl:∀ j,j<s.nxt→S7.blk j=s.blk j:=fun j hj=>by rw [hS,blk_set_ne Y21];exact wl j hj
 clear hS
 have H:=aj y4 (aj y6 (aj y7 (aj yc (aj hv0 (aj hvl trivial)))))
 refine rg [0,4,6,7,50] (k:=rb (k:=rs (k:=rg [0,4,6,7,50,51] (k:=rc (ht:=fun hc3=>?_) (hf:=fun hc3=>?_)))))
 ·have hc:=hc3
  refine rs (k:=?_)
  refine Run.thawB (s.nxt+2) (s.nxt+3) 3 (els':=[.agg [.int .i64 q.fn,.int .i64 0,.int .i64 0,.int .i64 0,.int .i64 q.sub,.sl .nil [],.sl .unk (q.vals.map (PV.int .u16)),.int .u16 0,.int .u16 0,.sl .nil []]]) y7 Y21 (frz_rep (l:=q.vals) hlen.symm yw) Y112 ?_
  refine rg [6] (k:=rR (k:=?_))
  simp only [Bool.and_eq_true,Bool.and_eq_false_iff,Bool.or_eq_true,Bool.or_eq_false_iff,Bool.not_eq_true',Bool.not_eq_false',decide_eq_true_eq,decide_eq_false_iff_not] at *
  have hd:c.doC q unit=((⟨8,0,0,0,q.sub,[],q.vals,0,0,[]⟩:Rep),c):=by
   unfold Cn.doC
   rw [if_neg Y21,if_neg Y21,if_neg Y21,if_pos hc3]
  refine Ret.allW (r':=(c.doC q unit).1.pv) Y111 Y169 ?_
  rw [hd]
  exact ⟨rfl,by rw [blk_set_ne Y21,blk_set_ne Y21,blk_set_ne Y21];exact yc,by show s.nxt≤S7.nxt;omega,fun j hj hjc=>by rw [blk_set_ne Y21,blk_set_ne Y21,blk_set_ne Y21];exact yl j hj⟩
 have hc:=hc3
 refine rs (k:=rg [0,4,6,7,54] (k:=rc (ht:=fun hc4=>?_) (hf:=fun hc4=>?_)))
 ·have hc:=hc4
  refine rs (k:=rr (k:=ro (pre:=[_]) (k:=?_)))
  refine RunO.callw au au au Y26 ((count_Clear (c:=c) yc).mono ?_)
  rintro r s9 ⟨rfl,hs⟩
  subst s9
  refine rl [6,7] (k:=rs (k:=?_))
  have yc2:=yc
  refine Run.thawB (s.nxt+2) (s.nxt+3) 3 (els':=[.agg [.int .i64 q.fn,.int .i64 0,.int .i64 0,.int .i64 0,.int .i64 q.sub,.sl .nil [],.sl .unk (q.vals.map (PV.int .u16)),.int .u16 0,.int .u16 0,.sl .nil []]]) (by rw [blk_set_ne Y21];exact y7) Y21 (frz_rep (l:=q.vals) hlen.symm (by rw [blk_set_ne Y21];exact yw)) Y112 ?_
  refine rg [6] (k:=rR (k:=?_))
  simp only [Bool.and_eq_true,Bool.and_eq_false_iff,Bool.or_eq_true,Bool.or_eq_false_iff,Bool.not_eq_true',Bool.not_eq_false',decide_eq_true_eq,decide_eq_false_iff_not] at *
  have hd:c.doC q unit=((⟨8,0,0,0,q.sub,[],q.vals,0,0,[]⟩:Rep),(⟨0,0,0⟩:Cn)):=by
   unfold Cn.doC
   rw [if_neg Y21,if_neg Y21,if_neg Y21,if_neg Y21,if_pos hc4]
  refine Ret.allW (r':=(c.doC q unit).1.pv) Y111 Y169 ?_
  rw [hd]
  exact ⟨rfl,by rw [blk_set_ne Y21,blk_set_ne Y21,blk_set_ne Y21];exact blk_set_self _ _ _,by show s.nxt≤S7.nxt;omega,fun j hj hjc=>by rw [blk_set_ne Y21,blk_set_ne Y21,blk_set_ne Y21,blk_set_ne hjc];exact yl j hj⟩
 have hc:=hc4
 refine rk (k:=rB (k:=rs (k:=rr (k:=ro (pre:=[_,_,_]) (k:=rC (h:=count_Get (c:=c) hcO yc) (k:=rh [4,6,7,8,9] (k:=rs (k:=rs (k:=rr (k:=ro (pre:=[_,_,_]) (k:=rQ 68 (ht:=fun hg2=>?_) (hf:=fun hg2=>?_))))))))))))
 refine rg0 (k:=rg0 (k:=rg0 (k:=rg0 (k:=rg0 (k:=rh [4,6,7,8,74] (k:=rc (ht:=fun hc5=>?_) (hf:=fun hc5=>?_)))))))
 refine jO 3 ?_;rotate_left
 ·cases hc5
 refine rg1 (k:=rg1 (k:=rg1 (k:=rg1 (k:=rg1 (k:=rh [4,6,7,8,74] (k:=rc (ht:=fun hc5=>?_) (hf:=fun hc5=>?_)))))))
 refine jO 3 ?_;rotate_left
 ·have hc:=hc5
  refine rk (k:=rs (k:=?_))
  have hone:((0:Int)<((1:Nat):Int))=True:=eq_true Y22
  have H:=aj yw (aj hone H)
  refine rg [6,7] (k:=rs (k:=?_))
  refine Run.genS fun S8 hS8=>?_
  have hn8:S8.nxt=s.nxt+4:=by rw [hS8];exact hn7
  have y7w:S8.blk (s.nxt+2)=some (.row 52 [.agg [.int .i64 q.fn,.int .i64 0,.int .i64 0,.int .i64 0,.int .i64 q.sub,.sl .nil [],.own (s.nxt+3) 0 1,.int .u16 0,.int .u16 0,.sl .nil []]]):=by rw [hS8,blk_set_ne Y21];exact y7
  have y7v:S8.blk (s.nxt+3)=some (.row 39 ([(c.get q.sub).getD 0].map (PV.int .u16))):=by rw [hS8,blk_set_self,hv];rfl
  have z6:S8.blk (s.nxt+1)=some (.row 52 [.agg [.int .i64 0,.int .i64 0,.int .i64 0,.int .i64 0,.int .i64 0,.sl .nil [],.sl .nil [],.int .u16 0,.int .u16 0,.sl .nil []]]):=by rw [hS8,blk_set_ne Y21];exact y6
  have zc:S8.blk cc=some (.row 112 [.agg [.int .i64 c.m,.int .i64 c.e,.int .i64 c.b]]):=by rw [hS8,blk_set_ne Y21];exact yc
  have zl:∀ j,j<s.nxt→S8.blk j=s.blk j:=fun j hj=>by rw [hS8,blk_set_ne Y21];exact yl j hj
  clear hS8
  have H:=aj z6 trivial
  refine Run.thawB (s.nxt+2) (s.nxt+3) 3 (els':=[.agg [.int .i64 q.fn,.int .i64 0,.int .i64 0,.int .i64 0,.int .i64 q.sub,.sl .nil [],.sl .unk ([(c.get q.sub).getD 0].map (PV.int .u16)),.int .u16 0,.int .u16 0,.sl .nil []]]) y7w Y21 (frz_rep (l:=[(c.get q.sub).getD 0]) rfl y7v) Y112 ?_
  refine rg [6] (k:=rR (k:=?_))
  simp only [Bool.and_eq_true,Bool.and_eq_false_iff,Bool.or_eq_true,Bool.or_eq_false_iff,Bool.not_eq_true',Bool.not_eq_false',decide_eq_true_eq,decide_eq_false_iff_not] at *
  have hd:c.doC q unit=((⟨8,0,0,0,q.sub,[],[(c.get q.sub).getD 0],0,0,[]⟩:Rep),c):=by
   unfold Cn.doC
   rw [if_neg Y21,if_neg Y21,if_neg Y21,if_neg Y21,if_neg Y21]
   cases hg:c.get q.sub with
   | none=>rw [hg] at hg2;cases hg2
   | some n =>
     simp only [hv,List.headD_cons,Option.getD_some]
     rw [if_pos hc5]
  refine Ret.allW (r':=(c.doC q unit).1.pv) Y111 Y169 ?_
  rw [hd]
  exact ⟨rfl,by rw [blk_set_ne Y21,blk_set_ne Y21,blk_set_ne Y21];exact zc,by show s.nxt≤S8.nxt;omega,fun j hj hjc=>by rw [blk_set_ne Y21,blk_set_ne Y21,blk_set_ne Y21];exact zl j hj⟩
 any_goals
  refine jI 3 ?_
  have hc:=hc5
  refine jO 4 ?_;rotate_left
 any_goals
  refine jI 4 ?_
  refine rs (k:=rr (k:=ro (pre:=[_,_]) (k:=rC (h:=reply_Refuse hq.fn Y24) (k:=rh [6] (k:=rR (k:=?_))))))
  refine jO 5 ?_;rotate_left
 any_goals
  refine jI 5 ?_
  simp only [Bool.and_eq_true,Bool.and_eq_false_iff,Bool.or_eq_true,Bool.or_eq_false_iff,Bool.not_eq_true',Bool.not_eq_false',decide_eq_true_eq,decide_eq_false_iff_not] at *
  refine jO 6 ?_;rotate_left
 any_goals
  refine jI 6 ?_
  have hd:c.doC q unit=(refuseP q.fn 3,c):=by
   unfold Cn.doC
   rw [if_neg Y21,if_neg Y21,if_neg Y21,if_neg Y21,if_neg Y21]
   cases hg:c.get q.sub with
   | none=>rfl
   | some n =>
     simp only [hv,List.headD_cons]
     rw [if_neg (by first | exact hc5 |(rw [hg] at hg2;cases hg2))]
  refine jO 7 ?_;rotate_left
 any_goals
  refine jI 1 ?_
  refine Ret.allW (r':=(c.doC q unit).1.pv) Y111 Y279 ?_
  refine jO 2 ?_;rotate_left
 any_goals
  refine jI 7 ?_
  refine Ret.allW (r':=(c.doC q unit).1.pv) Y111 Y279 ?_
  refine jO 8 ?_;rotate_left
 any_goals
  refine jI 2 ?_
  rw [hd]
  refine jO 9 ?_;rotate_left
 any_goals
  refine jI 9 ?_
  exact ⟨rfl,by simp (disch:=first | omega |(simp only [nxt_set,nxt_new]<;>omega) | fail) only [go_sem];exact hb,by simp only [nxt_set,nxt_new];omega,fun j hj hjc=>Y113⟩
 any_goals
  refine jI 8 ?_
  rw [hd]
  refine jO 10 ?_;rotate_left
 any_goals
  refine jI 10 ?_
  exact ⟨rfl,by rw [blk_set_ne Y21];exact yc,by show s.nxt≤S7.nxt;omega,fun j hj hjc=>by rw [blk_set_ne Y21];exact yl j hj⟩
end Go.Proofs
namespace Go.Proofs
open Go.PM
set_option maxHeartbeats 2000000
theorem fnF_b {b:List Int} (h:OkB b):0≤fnF b∧fnF b≤127:=by
 unfold fnF
 split<;>omega
def answerU (t:Ten) (T:Nat) (mun:Int) (b:List Int) (tick:Int) (u:Us):Rep × Us :=
 if ¬ mun=t.unit then (refuseP (fnF b) 10,u) else if (readF b).2=12 then (refuseP (fnF b) 3,u) else if ¬ (readF b).2=0 then (refuseP (fnF b) 1,u)
 else if ¬ codeP t (readF b).1=0 then (refuseP (fnF b) (codeP t (readF b).1),u) else if localF (readF b).1=true then ((u.c.doC (readF b).1 t.unit).1,{ u with c:=(u.c.doC (readF b).1 t.unit).2 })
 else (joinF t (readF b).1 (askU (readF b).1 T tick 0 (splitF t (readF b).1).1 [] u).1,(askU (readF b).1 T tick 0 (splitF t (readF b).1).1 [] u).2)
def serveU (t:Ten) (T:Nat) (mun:Int) (b:List Int) (tick:Int) (u:Us):List Int × Us :=
 (repF (answerU t T mun b tick { u with c:=u.c.msg }).1,if ¬ (answerU t T mun b tick { u with c:=u.c.msg }).1.code=0 then { (answerU t T mun b tick { u with c:=u.c.msg }).2 with c:=(answerU t T mun b tick { u with c:=u.c.msg }).2.c.exc } else (answerU t T mun b tick { u with c:=u.c.msg }).2)
attribute [local go_sem] weaks_reps weaks_pts weaks_bools set_set Req.pv
theorem Y228 {p:Prop} (h:p:=by rw [hA];first | exact weak_rep _ | exact (weak_rep _).symm | rfl):p:=h
theorem Y280 {p:Prop} (h:p:=by simp only [Tryz.f31,go_sem,↓reduceIte]<;>rfl):p:=h
set_option maxRecDepth 100000 in
theorem unit_answer {b ln c cc un T:Nat} {t:Ten} {u:Us} {ns:Nat→Option Nat} {s:St} (h:UnAt b ln c cc un T t u ns s) (hll:u.l.length≤70000) {pdu:List Int} (hb:OkB pdu) (hpl:pdu.length≤100000) {mid mun tick:Int} (ht:0≤tick∧tick≤1000000000) :
  ACalls Tryz.prog 31 [.ptr un 0 0,.agg [.int .i64 mid,.int .i64 mun,.sl .unk (pdu.map (PV.int .u8))],.int .i64 tick] s (fun r s'=>r=(answerU t T mun pdu tick u).1.pv∧∃ ns',UnAt b ln c cc un T t (answerU t T mun pdu tick u).2 ns' s'∧Fr5 b (b+6) ln cc ns ns' s s'∧(answerU t T mun pdu tick u).1.ok∧(answerU t T mun pdu tick u).2.l.length≤u.l.length+18):=by
 refine go Tryz.func31 (k:=fun hwf H=>?_)
 obtain ⟨q,hqe⟩:∃ q,q=(readF pdu).1:=⟨_,rfl⟩
 obtain ⟨wy,hw⟩:∃ w,w=(readF pdu).2:=⟨_,rfl⟩
 have hqo:q.ok:=by rw [hqe];exact readF_ok hb Y21
 obtain ⟨ps,hps⟩:∃ p,p=(splitF t q).1:=⟨_,rfl⟩
 obtain ⟨cd,hcd⟩:∃ p,p=codeP t q:=⟨_,rfl⟩
 have hcb:=code_vals t q
 rw [← hcd] at hcb
 have hfb:=fnF_b hb
 have hfi:I64 (fnF pdu):=Y77
 refine rs (k:=rg [0,2,4,6] (k:=rs (k:=rr (k:=ro (pre:=[_,_]) (k:=rC (h:=unit_function hb) (k:=rh [0,2,4,6,7] (k:=rs (k:=rr (k:=ro (pre:=[_,_]) (k:=?_))))))))))
 refine RunO.callw au au au Y26 ((pdu_Read hb Y21).mono ?_)
 rintro r s9 ⟨rfl,hs⟩
 subst s9
 rw [← hqe,← hw]
 refine rh [0,2,4,6,7,8,9] (k:=rs (k:=rb (k:=rs (k:=?_))))
 refine Run.genS fun S1 hS=>?_
 have hx4:S1.blk s.nxt=some (.row 49 [.agg [.int .i64 mid,.int .i64 mun,.sl .unk (pdu.map (PV.int .u8))]]):=Y45
 have hx6:S1.blk (s.nxt+1)=some (.row 52 [.agg [.int .i64 0,.int .i64 0,.int .i64 0,.int .i64 0,.int .i64 0,.sl .nil [],.sl .nil [],.int .u16 0,.int .u16 0,.sl .nil []]]):=Y45
 have hx8:S1.blk (s.nxt+2)=some (.row 47 [.agg [.int .i64 q.fn,.int .i64 q.at_,.int .i64 q.count,.int .i64 q.wat,.int .i64 q.sub,.sl .unk (q.bits.map PV.bool),.sl .unk (q.vals.map (PV.int .u16)),.int .u16 q.and_,.int .u16 q.or_]]):=Y45
 have hn1:S1.nxt=s.nxt+3:=Y155
 have hlo:∀ j,j<s.nxt→S1.blk j=s.blk j:=fun j hj=>Y46
 clear hS
 have hU1:UnAt b ln c cc un T t u ns S1:=h.keep Y21 fun j hj _=>hlo j hj
 have hx9:S1.blk un=some (.row 92 [.agg [.int .i64 t.unit,.int .u32 t.fns,.int .i64 t.queue,.sl .unk (t.wins.map Win.pv),.sl .unk (t.slts.map Slt.pv),.int .i64 (T:Int),.ptr ln 0 0,.ptr cc 0 0]]):=hU1.unb
 have hF1:Fr5 b (b+6) ln cc ns ns s S1:=⟨Y21,fun j a1 _ _ _ _=>hlo j a1,fun i t' e=>.inl ⟨i,e⟩⟩
 have hi0:=h.lin.hc
 have hi1:=h.lin.nx
 have hi2:=h.bl
 have hi3:=h.lt
 have n1:(un=s.nxt+1)=False:=eq_false Y21
 have n2:(s.nxt+2=s.nxt+1)=False:=eq_false Y21
 have hsp:∀ S,ACalls Tryz.prog 63 [.agg [.int .i64 (t).unit,.int .u32 (t).fns,.int .i64 (t).queue,.sl .unk ((t).wins.map Win.pv),.sl .unk ((t).slts.map Slt.pv)],.agg [.int .i64 q.fn,.int .i64 q.at_,.int .i64 q.count,.int .i64 q.wat,.int .i64 q.sub,.sl .unk (q.bits.map PV.bool),.sl .unk (q.vals.map (PV.int .u16)),.int .u16 q.and_,.int .u16 q.or_]] S (fun r s'=>r=.tuple [.sl .unk (ps.map ptV),.int .i64 cd]∧s'=S):=fun S=>by
  have h9:=part_Split h.tok hqo (s:=S)
  rw [← hps,split_code,← hcd] at h9
  exact h9
 have H:=aj hx4 (aj hx6 (aj hx8 (aj hx9 (aj n1 (aj n2 H)))))
 refine Run.drawC [] [0,2,6,7,8,9,21] Tryz.mixed Y26 ?_
 refine DetC.all au ?_
 refine re (k:=rc (ht:=fun hc0=>?_) (hf:=fun hc0=>?_))
 have hc:=hc0
 refine rs (k:=rr (k:=ro (pre:=[_]) (k:=rC (h:=reply_Refuse hfi Y24) (k:=rh [6] (k:=rR (k:=?_))))))
 simp only [Bool.not_eq_true',Bool.not_eq_false',decide_eq_true_eq,decide_eq_false_iff_not] at hc0
 have hA:answerU t T mun pdu tick u=(refuseP (fnF pdu) 10,u):=by
  unfold answerU
  rw [if_pos hc0]
 refine jO 1 ?_;rotate_left
 have hc:=hc0
 refine rs (k:=rg [0,2,6,7,8,9,32] (k:=rc (ht:=fun hc1=>?_) (hf:=fun hc1=>?_)))
 have hc:=hc1
 refine rs (k:=rr (k:=ro (pre:=[_]) (k:=rC (h:=reply_Refuse hfi Y24) (k:=rh [6] (k:=rR (k:=?_))))))
 simp only [Bool.not_eq_true',Bool.not_eq_false',decide_eq_true_eq,decide_eq_false_iff_not] at hc0 hc1
 have hc0:¬ ¬ mun=t.unit:=fun h=>h hc0
 have hA:answerU t T mun pdu tick u=(refuseP (fnF pdu) 3,u):=by
  unfold answerU
  rw [if_neg hc0,← hw,if_pos hc1]
 refine jO 1 ?_;rotate_left
 have hc:=hc1
 refine rs (k:=rg [0,2,6,7,8,37] (k:=rc (ht:=fun hc2=>?_) (hf:=fun hc2=>?_)))
 have hc:=hc2
 refine rs (k:=rr (k:=ro (pre:=[_]) (k:=rC (h:=reply_Refuse hfi Y24) (k:=rh [6] (k:=rR (k:=?_))))))
 simp only [Bool.not_eq_true',Bool.not_eq_false',decide_eq_true_eq,decide_eq_false_iff_not] at hc0 hc1 hc2
 have hc0:¬ ¬ mun=t.unit:=fun h=>h hc0
 have hA:answerU t T mun pdu tick u=(refuseP (fnF pdu) 1,u):=by
  unfold answerU
  rw [if_neg hc0,← hw,if_neg hc1,if_pos hc2]
 refine jO 1 ?_;rotate_left
 have hc:=hc2
 refine rk (k:=rB (k:=rs (k:=?_)))
 refine Run.drawC [] [0,2,6,7,8,10,11] Tryz.mixed Y26 ?_
 refine DetC.pre (pre:=[_,_,_,_,_]) au ?_
 refine DetC.call au au au Y26 (hsp _) ?_
 refine DetC.all au ?_
 refine re (k:=rs (k:=rb (k:=rs (k:=rg [0,2,6,7,8,10,11,51] (k:=rc (ht:=fun hc3=>?_) (hf:=fun hc3=>?_))))))
 have hc:=hc3
 refine rs (k:=rr (k:=ro (pre:=[_,_]) (k:=rC (h:=reply_Refuse hfi Y77) (k:=rh [6] (k:=rR (k:=?_))))))
 simp only [Bool.not_eq_true',Bool.not_eq_false',decide_eq_true_eq,decide_eq_false_iff_not] at hc0 hc1 hc2 hc3
 have hc0:¬ ¬ mun=t.unit:=fun h=>h hc0
 have hc2:¬ ¬ wy=0:=fun h=>h hc2
 have hA:answerU t T mun pdu tick u=(refuseP (fnF pdu) cd,u):=by
  unfold answerU
  rw [if_neg hc0,← hw,if_neg hc1,if_neg hc2,← hqe,← hcd,if_pos hc3]
 refine jO 1 ?_;rotate_left
 ·have hc:=hc3
  refine rs (k:=rr (k:=ro (pre:=[_]) (k:=rC (h:=part_Local (q:=q)) (k:=rh [0,2,6,8,10,57] (k:=rc (ht:=fun hc4=>?_) (hf:=fun hc4=>?_))))))
  ·have hc:=hc4
   refine rs (k:=?_)
   refine Run.drawCut 10 [] Tryz.mixed Y26 Y26 ?_
   refine DetC.all au ?_
   refine RunO.callw au au au Y26 ((count_Do hU1.uok.c hU1.cn hqo (unit:=t.unit)).mono ?_)
   rintro r s9 ⟨rfl,d1,d2,d3⟩
   have d6:s9.blk (s.nxt+1)=some (.row 52 [.agg [.int .i64 0,.int .i64 0,.int .i64 0,.int .i64 0,.int .i64 0,.sl .nil [],.sl .nil [],.int .u16 0,.int .u16 0,.sl .nil []]]):=by rw [d3 _ Y21 Y21];exact hx6
   have d8:s9.blk un=some (.row 92 [.agg [.int .i64 t.unit,.int .u32 t.fns,.int .i64 t.queue,.sl .unk (t.wins.map Win.pv),.sl .unk (t.slts.map Slt.pv),.int .i64 (T:Int),.ptr ln 0 0,.ptr cc 0 0]]):=by rw [d3 _ Y21 h.n1.2.2];exact hx9
   have hdv:(u.c.doC q t.unit).1.pv=.agg [.int .i64 ((u.c.doC q t.unit).1).fn,.int .i64 ((u.c.doC q t.unit).1).code,.int .i64 ((u.c.doC q t.unit).1).at_,.int .i64 ((u.c.doC q t.unit).1).count,.int .i64 ((u.c.doC q t.unit).1).sub,.sl .unk (((u.c.doC q t.unit).1).bits.map PV.bool),.sl .unk (((u.c.doC q t.unit).1).vals.map (PV.int .u16)),.int .u16 ((u.c.doC q t.unit).1).and_,.int .u16 ((u.c.doC q t.unit).1).or_,.sl .unk (((u.c.doC q t.unit).1).data.map (PV.int .u8))]:=rfl
   have H:=aj d6 (aj d8 (aj hdv H))
   have hU9:UnAt b ln c cc un T t { u with c:=(u.c.doC q t.unit).2 } ns s9:=(hU1.cnt (hU1.uok.c.doC q t.unit)).keep d2 fun j hj hj'=>by
    by_cases e:j=cc
    ·rw [e,d1,blk_set_self]
    ·rw [d3 j hj e,blk_set_ne e]
   have hF9:Fr5 b (b+6) ln cc ns ns s s9:=hF1.trans ⟨d2,fun j a1 a2 a3 a4 a5=>d3 j a1 a3,fun i t' e=>.inl ⟨i,e⟩⟩
   refine rh [6] (k:=rR (k:=?_))
   simp only [Bool.not_eq_true',Bool.not_eq_false',decide_eq_true_eq,decide_eq_false_iff_not] at hc0 hc1 hc2 hc3
   have hc3:¬ ¬ cd=0:=fun h=>h hc3
   have hc0:¬ ¬ mun=t.unit:=fun h=>h hc0
   have hc2:¬ ¬ wy=0:=fun h=>h hc2
   have hA:answerU t T mun pdu tick u=((u.c.doC q t.unit).1,{ u with c:=(u.c.doC q t.unit).2 }):=by
    unfold answerU
    rw [if_neg hc0,← hw,if_neg hc1,if_neg hc2,← hqe,← hcd,if_neg hc3,if_pos hc4]
   refine Ret.allW (r':=(answerU t T mun pdu tick u).1.pv) Y280 Y228 ?_
   rw [hA]
   exact ⟨rfl,ns,hU9.hi (h.fresh Y21) _,hF9.hi (.inl Y21) _,doC_rep hqo _,Nat.le_add_right _ _⟩
  ·have hc:=hc4
   refine rk (k:=rB (k:=rs (k:=?_)))
   have hc9:codeP t q=0:=by rw [← hcd];simpa using hc3
   have hps9:AskOk q ps:=by rw [hps];exact ask_split hqo hc9
   have hcall:=unit_ask hU1 Y21 hqo hps9 ht
   have hup:.ptr un 0 0=PV.ptr un 0 0:=rfl
   have hgood:S1.blk un=some (.row 92 [.agg [.int .i64 t.unit,.int .u32 t.fns,.int .i64 t.queue,.sl .unk (t.wins.map Win.pv),.sl .unk (t.slts.map Slt.pv),.int .i64 (T:Int),.ptr ln 0 0,.ptr cc 0 0]])∧S1.blk (s.nxt+2)=some (.row 47 [.agg [.int .i64 q.fn,.int .i64 q.at_,.int .i64 q.count,.int .i64 q.wat,.int .i64 q.sub,.sl .unk (q.bits.map PV.bool),.sl .unk (q.vals.map (PV.int .u16)),.int .u16 q.and_,.int .u16 q.or_]]):=⟨hx9,hx8⟩
   refine Run.drawW 10 [9] [[false],[true]] (fun X=>[S1,X]) (fun X=>X.blk un=some (.row 92 [.agg [.int .i64 t.unit,.int .u32 t.fns,.int .i64 t.queue,.sl .unk (t.wins.map Win.pv),.sl .unk (t.slts.map Slt.pv),.int .i64 (T:Int),.ptr ln 0 0,.ptr cc 0 0]])∧X.blk (s.nxt+2)=some (.row 47 [.agg [.int .i64 q.fn,.int .i64 q.at_,.int .i64 q.count,.int .i64 q.wat,.int .i64 q.sub,.sl .unk (q.bits.map PV.bool),.sl .unk (q.vals.map (PV.int .u16)),.int .u16 q.and_,.int .u16 q.or_]])) (fun X=>∃ n2,UnAt b ln c cc un T t (askU q T tick 0 ps [] u).2 n2 X∧Fr5 b (b+6) ln cc ns n2 S1 X∧(∀ r∈(askU q T tick 0 ps [] u).1,r.ok)∧(askU q T tick 0 ps [] u).1.length≤6∧(askU q T tick 0 ps [] u).2.l.length≤u.l.length+18∧X.blk (s.nxt+2)=some (.row 47 [.agg [.int .i64 q.fn,.int .i64 q.at_,.int .i64 q.count,.int .i64 q.wat,.int .i64 q.sub,.sl .unk (q.bits.map PV.bool),.sl .unk (q.vals.map (PV.int .u16)),.int .u16 q.and_,.int .u16 q.or_]])∧X.blk (s.nxt+1)=some (.row 52 [.agg [.int .i64 0,.int .i64 0,.int .i64 0,.int .i64 0,.int .i64 0,.sl .nil [],.sl .nil [],.int .u16 0,.int .u16 0,.sl .nil []]])) 9 Tryz.mixed Y26 Y26 Y26 Y26 (fun _=>rfl) Y26 rfl hgood (fun X ⟨n2,a1,_,_,_,_,a3,_⟩=>⟨a1.unb,a3⟩) Y26 ?_
   refine DetWC.pre (pre:=[_,_,_,_,_,_,_,_,_]) [0,1] hgood Y26 Y26 (fun X hX=>by
     obtain ⟨gu,gy⟩:=hX
     have H:=aj gu (aj gy H)
     simp only [prsOf,List.filterMap_cons,List.filterMap_nil,List.getElem?_cons_zero,List.getElem?_cons_succ]
     exact au) ?_
   refine DetWC.callX (v:=.sl .unk ((askU q T tick 0 ps [] u).1.map Rep.pv)) [(0,1)] Y26 Y26 au au au Y26 (fun X hX q hq s9 hs9=>by
     simp only [List.mem_cons,List.not_mem_nil,or_false] at hq
     subst hq
     obtain rfl:=Option.some.inj hs9
     refine hcall.mono ?_
     rintro r s2 ⟨rfl,n2,a1,a2,a3,a4,a5⟩
     have k8:∀ p,s.nxt≤p→p<S1.nxt→(∃ ty vs,S1.blk p=some (.row ty vs))→s2.blk p=S1.blk p:=fun p p1 p2 ⟨ty,vs,p3⟩=>a2.same p p2 Y21 Y21 Y21 fun i hi=>hU1.lin.notrow hi p3
     exact ⟨rfl,s2,⟨n2,a1,a2,a3,a4,a5,by rw [k8 _ Y21 Y21 ⟨_,_,hx8⟩];exact hx8,by rw [k8 _ Y21 Y21 ⟨_,_,hx6⟩];exact hx6⟩,rfl⟩) ?_
   refine DetWC.nil ?_
   intro X sN hX hN
   obtain rfl:=Option.some.inj hN
   obtain ⟨n2,hUX,hFX,hRo,hRl,hlX,hX8,hX6⟩:=hX
   have hun9:X.blk un=some (.row 92 [.agg [.int .i64 t.unit,.int .u32 t.fns,.int .i64 t.queue,.sl .unk (t.wins.map Win.pv),.sl .unk (t.slts.map Slt.pv),.int .i64 (T:Int),.ptr ln 0 0,.ptr cc 0 0]]):=hUX.unb
   have hJv:(joinF t q (askU q T tick 0 ps [] u).1).pv=.agg [.int .i64 ((joinF t q (askU q T tick 0 ps [] u).1)).fn,.int .i64 ((joinF t q (askU q T tick 0 ps [] u).1)).code,.int .i64 ((joinF t q (askU q T tick 0 ps [] u).1)).at_,.int .i64 ((joinF t q (askU q T tick 0 ps [] u).1)).count,.int .i64 ((joinF t q (askU q T tick 0 ps [] u).1)).sub,.sl .unk (((joinF t q (askU q T tick 0 ps [] u).1)).bits.map PV.bool),.sl .unk (((joinF t q (askU q T tick 0 ps [] u).1)).vals.map (PV.int .u16)),.int .u16 ((joinF t q (askU q T tick 0 ps [] u).1)).and_,.int .u16 ((joinF t q (askU q T tick 0 ps [] u).1)).or_,.sl .unk (((joinF t q (askU q T tick 0 ps [] u).1)).data.map (PV.int .u8))]:=rfl
   have hnX:=hFX.nx
   have hfr6:UnAt.free b ln cc un n2 (s.nxt+1):=⟨Y21,Y21,Y21,Y21,fun j hj=>hUX.lin.notrow hj hX6⟩
   have H:=aj hun9 (aj hX8 (aj hX6 (aj hJv H)))
   refine rC (h:=join_Reply hU1.tok hqo hRo Y21) (k:=rh [6] (k:=rR (k:=?_)))
   simp only [Bool.not_eq_true',Bool.not_eq_false',decide_eq_true_eq,decide_eq_false_iff_not] at hc0 hc1 hc2 hc3
   have hc3:¬ ¬ cd=0:=fun h=>h hc3
   have hc4:¬ localF q=true:=by rw [show localF q=false from hc4];decide
   have hc0:¬ ¬ mun=t.unit:=fun h=>h hc0
   have hc2:¬ ¬ wy=0:=fun h=>h hc2
   have hA:answerU t T mun pdu tick u=(joinF t q (askU q T tick 0 ps [] u).1,(askU q T tick 0 ps [] u).2):=by
    unfold answerU
    rw [if_neg hc0,← hw,if_neg hc1,if_neg hc2,← hqe,← hcd,if_neg hc3,if_neg hc4,← hps]
   refine Ret.allW (r':=(answerU t T mun pdu tick u).1.pv) Y280 Y228 ?_
   rw [hA]
   exact ⟨rfl,n2,hUX.hi hfr6 _,(hF1.trans hFX).hi (.inl Y21) _,joinF_ok hqo hRo,hlX⟩
 any_goals
  refine jI 1 ?_
  refine Ret.allW (r':=(answerU t T mun pdu tick u).1.pv) Y280 Y228 ?_
  refine jO 2 ?_;rotate_left
 any_goals
  refine jI 2 ?_
  rw [hA]
  refine jO 3 ?_;rotate_left
 any_goals
  refine jI 3 ?_
  exact ⟨rfl,ns,hU1.hi (h.fresh Y21) _,hF1.hi (.inl Y21) _,refP_ok _ _,Nat.le_add_right _ _⟩
attribute [local go_sem] weaks_bools set_set
set_option maxRecDepth 100000 in
theorem unit_Serve {b ln c cc un T:Nat} {t:Ten} {u:Us} {ns:Nat→Option Nat} {s:St} (h:UnAt b ln c cc un T t u ns s) (hll:u.l.length≤70000) {pdu:List Int} (hb:OkB pdu) (hpl:pdu.length≤100000) {mid mun tick:Int} (ht:0≤tick∧tick≤1000000000) :
  ACalls Tryz.prog 14 [.ptr un 0 0,.agg [.int .i64 mid,.int .i64 mun,.sl .unk (pdu.map (PV.int .u8))],.int .i64 tick] s (fun r s'=>r=.agg [.int .i64 mid,.int .i64 mun,.sl .unk ((serveU t T mun pdu tick u).1.map (PV.int .u8))]∧∃ ns',UnAt b ln c cc un T t (serveU t T mun pdu tick u).2 ns' s'∧Fr5 b (b+6) ln cc ns ns' s s'∧(serveU t T mun pdu tick u).2.l.length≤u.l.length+18):=by
 refine go Tryz.func14 (k:=fun hwf H=>?_)
 obtain ⟨ra,hra⟩:∃ r,r=(answerU t T mun pdu tick { u with c:=u.c.msg }).1:=⟨_,rfl⟩
 obtain ⟨ua,hua⟩:∃ r,r=(answerU t T mun pdu tick { u with c:=u.c.msg }).2:=⟨_,rfl⟩
 refine rs (k:=rg [0,2,4,6] (k:=rs (k:=?_)))
 refine Run.genS fun S1 hS=>?_
 have hx4:S1.blk s.nxt=some (.row 49 [.agg [.int .i64 mid,.int .i64 mun,.sl .unk (pdu.map (PV.int .u8))]]):=Y45
 have hx6:S1.blk (s.nxt+1)=some (.row 49 [.agg [.int .i64 0,.int .i64 0,.sl .nil []]]):=Y45
 have hn1:S1.nxt=s.nxt+2:=Y155
 have hlo:∀ j,j<s.nxt→S1.blk j=s.blk j:=fun j hj=>Y46
 clear hS
 have hU1:UnAt b ln c cc un T t u ns S1:=h.keep Y21 fun j hj _=>hlo j hj
 have hx9:S1.blk un=some (.row 92 [.agg [.int .i64 t.unit,.int .u32 t.fns,.int .i64 t.queue,.sl .unk (t.wins.map Win.pv),.sl .unk (t.slts.map Slt.pv),.int .i64 (T:Int),.ptr ln 0 0,.ptr cc 0 0]]):=hU1.unb
 have hF1:Fr5 b (b+6) ln cc ns ns s S1:=⟨Y21,fun j a1 _ _ _ _=>hlo j a1,fun i t' e=>.inl ⟨i,e⟩⟩
 have hi0:=h.lin.hc
 have hi1:=h.lin.nx
 have hi2:=h.bl
 have hi3:=h.lt
 have hi4:=h.n1
 have H:=aj hx4 (aj hx6 (aj hx9 H))
 refine rr (k:=ro (pre:=[_,_,_,_]) (k:=?_))
 refine RunO.callw au au au Y26 ((count_Message hU1.uok.c hU1.cn).mono ?_)
 rintro r s9 ⟨rfl,hs⟩
 refine rl [0,2,4,6] (k:=rs (k:=?_))
 have hU2:UnAt b ln c cc un T t { u with c:=u.c.msg } ns s9:=by rw [hs];exact hU1.cnt hU1.uok.c.msg
 have hF2:Fr5 b (b+6) ln cc ns ns s s9:=by rw [hs];exact hF1.hi (.inr rfl) _
 have hx4b:s9.blk s.nxt=some (.row 49 [.agg [.int .i64 mid,.int .i64 mun,.sl .unk (pdu.map (PV.int .u8))]]):=by rw [hs,blk_set_ne Y21];exact hx4
 have hx6b:s9.blk (s.nxt+1)=some (.row 49 [.agg [.int .i64 0,.int .i64 0,.sl .nil []]]):=by rw [hs,blk_set_ne Y21];exact hx6
 have hx9b:s9.blk un=some (.row 92 [.agg [.int .i64 t.unit,.int .u32 t.fns,.int .i64 t.queue,.sl .unk (t.wins.map Win.pv),.sl .unk (t.slts.map Slt.pv),.int .i64 (T:Int),.ptr ln 0 0,.ptr cc 0 0]]):=hU2.unb
 have hn2:s9.nxt=s.nxt+2:=by rw [hs];exact hn1
 have H:=aj hx4b (aj hx6b (aj hx9b trivial))
 clear hs
 refine rr (k:=ro (pre:=[_,_,_]) (k:=?_))
 refine RunO.callw au au au Y26 ((unit_answer hU2 hll hb hpl ht (mid:=mid) (mun:=mun)).mono ?_)
 rintro r s9 ⟨rfl,n2,hU3,hF3,hRo,hl3⟩
 rw [← hra] at hRo ⊢
 rw [← hua] at hU3 hl3
 have hrv:ra.pv=.agg [.int .i64 (ra).fn,.int .i64 (ra).code,.int .i64 (ra).at_,.int .i64 (ra).count,.int .i64 (ra).sub,.sl .unk ((ra).bits.map PV.bool),.sl .unk ((ra).vals.map (PV.int .u16)),.int .u16 (ra).and_,.int .u16 (ra).or_,.sl .unk ((ra).data.map (PV.int .u8))]:=rfl
 have hF4:=hF2.trans hF3
 have hfr6:∀ n3:Nat→Option Nat,(∀ j,n3 j≠some (s.nxt+1))→UnAt.free b ln cc un n3 (s.nxt+1):=fun n3 h3=>⟨Y21,Y21,Y21,Y21,h3⟩
 have hi5:=hF3.nx
 have hx4':s9.blk s.nxt=some (.row 49 [.agg [.int .i64 mid,.int .i64 mun,.sl .unk (pdu.map (PV.int .u8))]]):=by rw [hF3.same _ Y21 Y21 Y21 Y21 (fun j hj=>hU2.lin.notrow hj hx4b)];exact hx4b
 have hx6':s9.blk (s.nxt+1)=some (.row 49 [.agg [.int .i64 0,.int .i64 0,.sl .nil []]]):=by rw [hF3.same _ Y21 Y21 Y21 Y21 (fun j hj=>hU2.lin.notrow hj hx6b)];exact hx6b
 have hx9':s9.blk un=some (.row 92 [.agg [.int .i64 t.unit,.int .u32 t.fns,.int .i64 t.queue,.sl .unk (t.wins.map Win.pv),.sl .unk (t.slts.map Slt.pv),.int .i64 (T:Int),.ptr ln 0 0,.ptr cc 0 0]]):=hU3.unb
 have hm1:(s.nxt=s9.nxt)=False:=eq_false Y21
 have hm2:(s.nxt+1=s9.nxt)=False:=eq_false Y21
 have hm3:(un=s9.nxt)=False:=eq_false Y21
 have H:=aj hrv (aj hx4' (aj hx6' (aj hx9' (aj hm1 (aj hm2 (aj hm3 H))))))
 refine rh [0,4,6,7] (k:=rs (k:=rs (k:=rg [0,4,6,7,21] (k:=rc (ht:=fun hc0=>?_) (hf:=fun hc0=>?_)))))
 ·have hc:=hc0
  refine rr (k:=ro (pre:=[_,_,_,_]) (k:=?_))
  refine RunO.callw au au au Y26 ((count_Exception hU3.uok.c (hU3.nw _).cn).mono ?_)
  rintro r s8 ⟨rfl,hs⟩
  have y4:s8.blk s.nxt=some (.row 49 [.agg [.int .i64 mid,.int .i64 mun,.sl .unk (pdu.map (PV.int .u8))]]):=by rw [hs,blk_set_ne Y21,blk_new_ne Y21];exact hx4'
  have y6:s8.blk (s.nxt+1)=some (.row 49 [.agg [.int .i64 0,.int .i64 0,.sl .nil []]]):=by rw [hs,blk_set_ne Y21,blk_new_ne Y21];exact hx6'
  have y7:s8.blk s9.nxt=some (.row 52 [.agg [.int .i64 (ra).fn,.int .i64 (ra).code,.int .i64 (ra).at_,.int .i64 (ra).count,.int .i64 (ra).sub,.sl .unk ((ra).bits.map PV.bool),.sl .unk ((ra).vals.map (PV.int .u16)),.int .u16 (ra).and_,.int .u16 (ra).or_,.sl .unk ((ra).data.map (PV.int .u8))]]):=by rw [hs,blk_set_ne (by have:=hU3.lt;omega)];exact blk_new_eq
  have hU8:UnAt b ln c cc un T t { ua with c:=ua.c.exc } n2 s8:=by rw [hs];exact (hU3.nw _).cnt hU3.uok.c.exc
  have hF8:Fr5 b (b+6) ln cc ns n2 s s8:=by rw [hs];exact (hF4.nw _).hi (.inr rfl) _
  have H:=aj y4 (aj y6 (aj y7 H))
  refine rl [4,6,7] (k:=rs (k:=rr (k:=ro (pre:=[_]) (k:=rC (h:=reply_Bytes (r:=ra) hRo) (k:=rh [4,6,8] (k:=rs (k:=rg [6] (k:=rR (k:=?_)))))))))
  have hs1:(serveU t T mun pdu tick u).1=repF ra:=by unfold serveU;rw [← hra]
  have hs2:(serveU t T mun pdu tick u).2={ ua with c:=ua.c.exc }:=by
   unfold serveU
   rw [← hra,← hua]
   exact if_pos Y86
  refine Ret.allW (r':=.agg [.int .i64 mid,.int .i64 mun,.sl .unk ((serveU t T mun pdu tick u).1.map (PV.int .u8))]) (by simp only [Tryz.f14,go_sem,↓reduceIte]<;>rfl) (by rw [hs1];simp only [PV.weak,PV.weaks,weaks_u8]) ?_
  rw [hs2]
  exact ⟨rfl,n2,hU8.hi (hfr6 n2 fun j hj=>hU8.lin.notrow hj y6) _,hF8.hi (.inl Y21) _,hl3⟩
 ·have hc:=hc0
  refine rk (k:=rs (k:=rr (k:=ro (pre:=[_]) (k:=rC (h:=reply_Bytes (r:=ra) hRo) (k:=rh [4,6,8] (k:=rs (k:=rg [6] (k:=rR (k:=?_)))))))))
  have hs1:(serveU t T mun pdu tick u).1=repF ra:=by unfold serveU;rw [← hra]
  have hs2:(serveU t T mun pdu tick u).2=ua:=by
   unfold serveU
   rw [← hra,← hua]
   exact if_neg Y86
  refine Ret.allW (r':=.agg [.int .i64 mid,.int .i64 mun,.sl .unk ((serveU t T mun pdu tick u).1.map (PV.int .u8))]) (by simp only [Tryz.f14,go_sem,↓reduceIte]<;>rfl) (by rw [hs1];simp only [PV.weak,PV.weaks,weaks_u8]) ?_
  rw [hs2]
  exact ⟨rfl,n2,(hU3.nw _).hi (hfr6 n2 fun j hj=>hU3.lin.notrow hj hx6') _,(hF4.nw _).hi (.inl Y21) _,hl3⟩
end Go.Proofs
namespace Go.Proofs
open Go.PM
set_option maxHeartbeats 2000000
def t21:Ten:=⟨5,4260104,0,[⟨3,0,100,4⟩,⟨3,4,50,4⟩],[]⟩
def u21:Us:=⟨Dev.zero 512,fun _=>[],[],⟨0,0,0⟩⟩
def a21:List Int × Us:=serveU t21 1 5 (bytesF ⟨16,3,2,0,0,[],[7,8],0,0⟩) 200 u21
def b21:List Int × Us:=serveU t21 1 5 (bytesF ⟨22,4,0,0,0,[],[],65280,18⟩) 400 a21.2
def c21:List Int × Us:=serveU t21 1 5 (bytesF ⟨3,3,2,0,0,[],[],0,0⟩) 600 b21.2
def d21:List Int × Us:=serveU t21 1 6 (bytesF ⟨3,3,2,0,0,[],[],0,0⟩) 800 c21.2
def e21:List Int × Us:=serveU t21 1 5 [7] 900 d21.2
set_option maxRecDepth 100000 in
theorem k21:(a21.1=[16,0,3,0,2]∧b21.1=[22,0,4,255,0,0,18]∧c21.1=[3,4,0,7,0,18]∧d21.1=[131,10]∧e21.1=[135,1])∧e21.2.l.map Snt.tick=[200,212,400,412,600,612]∧e21.2.c.get 11=some 5∧e21.2.c.get 13=some 2:=by decide +kernel
theorem UnAt.line {b n ln c cc un T:Nat} {t:Ten} {u:Us} {ns ns':Nat→Option Nat} {FS':Nat→List Int} {s s':St} (h:UnAt b ln c cc un T t u ns s) (hL:Ln4 86 (b+5) ln c FS' u.l ns' s') (hF:Fr4 0 0 ln ns ns' s s') (hFS:FOk FS'):UnAt b ln c cc un T t { u with FS:=FS' } ns' s'∧Fr5 b n ln cc ns ns' s s':=by
 have h1:=h.lin.hc
 have h2:=h.lin.nx
 have h3:=h.bl
 have h4:=h.lt
 have h5:=hF.nx
 have e:∀ j,j<s.nxt→j≠ln→(∀ i,ns i≠some j)→s'.blk j=s.blk j:=fun j a1 a2 a3=>hF.same j a1 a2 Y21 a3
 have lo:∀ j,j<ln→∀ i,ns i≠some j:=fun j hj i hi=>by have:=(h.lin.own i j hi).1;omega
 have d:=h.dv
 refine ⟨⟨hL,?_,by rw [e cc h4.1 h.c1.1 (fun i hi=>h.lin.notrow hi h.cn)];exact h.cn,by rw [e un h4.2 h.n1.1 (fun i hi=>h.lin.notrow hi h.unb)];exact h.unb,⟨h.uok.D,hFS,h.uok.c,h.uok.l⟩,h.tok,h.T4,h.bl,h.c1,h.n1,⟨Y21,Y21⟩⟩,⟨hF.nx,fun j a1 a2 _ _ a5=>e j a1 a2 a5,hF.new⟩⟩
 have e2:∀ j,j≤b+5→s'.blk j=s.blk j:=fun j hj=>e j Y21 Y21 (lo j Y21)
 exact ⟨by rw [e2 _ Y21];exact d.st,by rw [e2 _ Y21];exact d.c0,by rw [e2 _ Y21];exact d.c1,by rw [e2 _ Y21];exact d.v0,by rw [e2 _ Y21];exact d.v1,by rw [e2 _ Y21];exact d.dv⟩
structure K21 (b cc un T:Nat) (t:Ten) (u:Us) (s0 S:St):Prop where
 at':∃ ns,UnAt b (b+6) (b+7) cc un T t u ns S
 low:∀ j,j<b→S.blk j=s0.blk j
 pos:b+6<cc∧cc<un∧un<S.nxt
theorem K21.op {b cc un T:Nat} {t:Ten} {u u':Us} {s0 S S':St} {ns ns':Nat→Option Nat} (h:K21 b cc un T t u s0 S) (h1:UnAt b (b+6) (b+7) cc un T t u ns S) (h2:UnAt b (b+6) (b+7) cc un T t u' ns' S') (h3:Fr5 b (b+6) (b+6) cc ns ns' S S') :
  K21 b cc un T t u' s0 S'∧S.nxt≤S'.nxt∧∀ j ty vs,b+6<j→j<S.nxt→j≠cc→S.blk j=some (.row ty vs)→S'.blk j=some (.row ty vs):=by
 have hp:=h.pos
 have hn:=h3.nx
 refine ⟨⟨⟨_,h2⟩,fun j hj=>?_,Y21⟩,hn,fun j ty vs a1 a2 a3 a4=>?_⟩
 ·rw [h3.same j Y21 Y21 Y21 Y21 (fun i hi=>by have:=(h1.lin.own i j hi).1;omega)];exact h.low j hj
 ·rw [h3.same j a2 Y21 a3 Y21 (fun i hi=>h1.lin.notrow hi a4)];exact a4
theorem K21.nw {b cc un T:Nat} {t:Ten} {u:Us} {s0 S:St} (h:K21 b cc un T t u s0 S) (x:Blk):K21 b cc un T t u s0 (S.new x):=by
 obtain ⟨ns,h1⟩:=h.at'
 have hp:=h.pos
 exact ⟨⟨ns,h1.nw x⟩,fun j hj=>by rw [blk_new_ne Y21];exact h.low j hj,by show b+6<cc∧cc<un∧un<S.nxt+1;omega⟩
theorem k21_new {s0 S:St} {b T:Nat} {t:Ten} {z:Blk} {n:Nat} (hn:1≤n∧n≤65536) (hT:T<4) (ht:t.ok) (hA:DevAt b (Dev.zero n) S) (hl:S.blk (b+6)=some (lnRow (b+5) (.sl .nil []) (.sl .nil []) (.sl .nil []) (.sl .nil []) (.sl .nil []))) (hx:b+7≤S.nxt) (hlo:∀ j,j<b→S.blk j=s0.blk j) :
  K21 b (S.nxt+1) (S.nxt+2) T t ⟨Dev.zero n,fun _=>[],[],⟨0,0,0⟩⟩ s0 (((S.new z).new (.row 112 [(⟨0,0,0⟩:Cn).pv])).new (.row 92 [.agg [.int .i64 t.unit,.int .u32 t.fns,.int .i64 t.queue,.sl .unk (t.wins.map Win.pv),.sl .unk (t.slts.map Slt.pv),.int .i64 (T:Int),.ptr (b+6) 0 0,.ptr (S.nxt+1) 0 0]])):=by
 have z0:(⟨0,0,0⟩:Cn).ok:=⟨Y24,Y24,Y24⟩
 have hk:∀ j,j<S.nxt→(((S.new z).new (.row 112 [(⟨0,0,0⟩:Cn).pv])).new (.row 92 [.agg [.int .i64 t.unit,.int .u32 t.fns,.int .i64 t.queue,.sl .unk (t.wins.map Win.pv),.sl .unk (t.slts.map Slt.pv),.int .i64 (T:Int),.ptr (b+6) 0 0,.ptr (S.nxt+1) 0 0]])).blk j=S.blk j:=fun j hj=>by
  rw [blk_new_ne (by show j≠S.nxt+1+1;omega),blk_new_ne (by show j≠S.nxt+1;omega),blk_new_ne Y21]
 refine ⟨⟨fun _=>none,⟨⟨⟨[_,_,_,_],.sl .nil [],by rw [hk _ Y21];exact hl,rfl,fun T hT=>?_,rfl,rfl⟩,fun i j t h=>(by cases h),fun i t h=>(by cases h),Y21,by show b+7≤S.nxt+1+1+1;omega,fun _ _=>rfl⟩,?_,by rw [blk_new_ne (by show S.nxt+1≠S.nxt+1+1;omega)];exact blk_new_eq,blk_new_eq,⟨Dev.zero_ok hn.1 hn.2,fun T=>⟨Nat.zero_le _,fun f hf=>by cases hf⟩,z0,fun x hx=>by cases hx⟩,ht,hT,Y21,Y21,Y21,by show S.nxt+1<S.nxt+1+1+1∧S.nxt+2<S.nxt+1+1+1;omega⟩⟩,fun j hj=>by rw [hk j Y21];exact hlo j hj,by show b+6<S.nxt+1∧S.nxt+1<S.nxt+2∧S.nxt+2<S.nxt+1+1+1;omega⟩
 ·obtain rfl | rfl | rfl | rfl:T=0∨T=1∨T=2∨T=3:=Y21
  all_goals exact ⟨_,rfl,.inl rfl,rfl⟩
 ·exact ((hA.nw Y21 _).nw (by show b+5<S.nxt+1;omega) _).nw (by show b+5<S.nxt+1+1;omega) _
theorem K21.serve {b cc un T:Nat} {t:Ten} {u:Us} {s0 S:St} (h:K21 b cc un T t u s0 S) (hll:u.l.length≤70000) {pdu:List Int} (hb:OkB pdu) (hpl:pdu.length≤100000) {mid mun tick:Int} (ht:0≤tick∧tick≤1000000000) :
  ACalls Tryz.prog 14 [.ptr un 0 0,.agg [.int .i64 mid,.int .i64 mun,.sl .unk (pdu.map (PV.int .u8))],.int .i64 tick] S (fun r s'=>r=.agg [.int .i64 mid,.int .i64 mun,.sl .unk ((serveU t T mun pdu tick u).1.map (PV.int .u8))]∧K21 b cc un T t (serveU t T mun pdu tick u).2 s0 s'∧S.nxt≤s'.nxt∧(∀ j ty vs,b+6<j→j<S.nxt→j≠cc→S.blk j=some (.row ty vs)→s'.blk j=some (.row ty vs))∧(serveU t T mun pdu tick u).2.l.length≤u.l.length+18):=by
 obtain ⟨ns,hU⟩:=h.at'
 refine (unit_Serve hU hll hb hpl ht (mid:=mid) (mun:=mun)).mono ?_
 rintro r s' ⟨rfl,ns',h1,h2,h3⟩
 obtain ⟨k1,k2,k3⟩:=h.op hU h1 h2
 exact ⟨rfl,k1,k2,k3,h3⟩
theorem K21.hurt {b cc un T:Nat} {t:Ten} {u:Us} {s0 S:St} (h:K21 b cc un T t u s0 S) (tn F:Int) :
  ACalls Tryz.prog 20 [.ptr (b+6) 0 0,.int .i64 tn,.int .i64 F] S (fun r s'=>r=.bool (hurtB u.FS tn F)∧K21 b cc un T t { u with FS:=hurtFS u.FS tn F } s0 s'∧S.nxt≤s'.nxt∧∀ j ty vs,b+6<j→j<S.nxt→j≠cc→S.blk j=some (.row ty vs)→s'.blk j=some (.row ty vs)):=by
 obtain ⟨ns,hU⟩:=h.at'
 obtain ⟨S9,ns',hc,hL,hF⟩:=line_HurtM hU.lin tn F
 refine hc.mono ?_
 rintro r s' ⟨rfl,rfl⟩
 obtain ⟨a1,a2⟩:=hU.line (n:=b+6) hL hF (hU.uok.FS.hurt tn F)
 obtain ⟨k1,k2,k3⟩:=h.op hU a1 a2
 exact ⟨rfl,k1,k2,k3⟩
theorem K21.sent {b cc un T:Nat} {t:Ten} {u:Us} {s0 S:St} (h:K21 b cc un T t u s0 S) (hll:u.l.length≤100000):ACalls Tryz.prog 23 [.ptr (b+6) 0 0] S (fun r s'=>r=.sl .unk (u.l.map Snt.pv)∧s'=S):=by
 obtain ⟨ns,hU⟩:=h.at'
 exact line_SentM hU.lin hll (fun x hx=>by have:=hU.uok.l x hx;omega)
theorem K21.count {b cc un T:Nat} {t:Ten} {u:Us} {s0 S:St} (h:K21 b cc un T t u s0 S):ACalls Tryz.prog 19 [.ptr un 0 0] S (fun r s'=>r=.ptr cc 0 0∧s'=S):=by
 obtain ⟨ns,hU⟩:=h.at'
 exact unit_Count hU.unb
theorem K21.get {b cc un T:Nat} {t:Ten} {u:Us} {s0 S:St} (h:K21 b cc un T t u s0 S) {sub:Int}:ACalls Tryz.prog 22 [.ptr cc 0 0,.int .i64 sub] S (fun r s'=>r=.tuple [.int .u16 ((u.c.get sub).getD 0),.bool (u.c.get sub).isSome]∧s'=S):=by
 obtain ⟨ns,hU⟩:=h.at'
 exact count_Get hU.uok.c hU.cn
attribute [local go_sem] Tp.pv set_set
set_option maxRecDepth 100000 in
theorem law21_tenant {tl:List Int} (htl:tl.length*8≤140737488351232) {i:Nat} {s:St}:ACalls Tryz.prog 6 [.sl .unk (tl.map (PV.int .i64)),.int .i64 (i:Int)] s (fun r s'=>∃ (t:Tab) (x:Ten),r=x.pv∧x∈t.tens∧tabRight t=true∧t.few 6∧x.ok∧s'=s):=by
 refine go Tryz.func6 (k:=fun hwf H=>?_)
 have hT:(⟨tl,0⟩:Tp).ok:=⟨htl,Nat.zero_le _⟩
 have hTv:(⟨tl,0⟩:Tp).pv=.agg [.sl .unk (tl.map (PV.int .i64)),.int .i64 0]:=rfl
 refine rs (k:=rg [0,1,4] (k:=rs (k:=rr (k:=ro (pre:=[_,_,_]) (k:=?_)))))
 refine RunO.callw au au au Y26 ((tape_Table hT (tp:=s.nxt+1) (by rw [hTv];exact blk_new_eq)).mono ?_)
 rintro r s9 ⟨t,T',rfl,hs,_,hR,hfw⟩
 refine rh [1,4,5] (k:=rs (k:=?_))
 refine Run.genS fun S1 hS=>?_
 have hn9:s9.nxt=s.nxt+2:=by rw [hs];rfl
 have hlo9:∀ j,j<s.nxt+1→s9.blk j=(s.new (.row 28 [.agg [.int .i64 0,.int .u32 0,.int .i64 0,.sl .nil [],.sl .nil []]])).blk j:=fun j hj=>by rw [hs,blk_set_ne Y21,blk_new_ne (by show j≠s.nxt+1;omega)]
 have x4:S1.blk s.nxt=some (.row 28 [.agg [.int .i64 0,.int .u32 0,.int .i64 0,.sl .nil [],.sl .nil []]]):=by rw [hS];simp (disch:=first | omega |(simp only [nxt_set,nxt_new]<;>omega) | fail) only [go_sem];rw [hlo9 _ Y21];exact blk_new_eq
 have x5:S1.blk s9.nxt=some (.row 82 [.agg [.int .i64 (t).frame,.sl .unk ((t).tens.map Ten.pv)]]):=Y45
 have lo1:∀ j,j<s.nxt→S1.blk j=s.blk j:=fun j hj=>by rw [hS];simp (disch:=first | omega |(simp only [nxt_set,nxt_new]<;>omega) | fail) only [go_sem];rw [hlo9 _ Y21,blk_new_ne Y21]
 clear hS
 have hrt:=right_rt (t:=t) (by simpa [tabRight] using hR)
 have hnt:=hrt.n
 have htm:Int.tmod (i:Int) (t.tens.length:Int)=((i%t.tens.length:Nat):Int):=by rw [Int.tmod_eq_emod_of_nonneg Y21];simp
 have hmt:=Nat.mod_lt i (show 0<t.tens.length from Y21)
 obtain ⟨j,hj⟩:∃ j,j=i%t.tens.length:=⟨_,rfl⟩
 rw [← hj] at hmt htm
 obtain ⟨x,hxe⟩:∃ z_,t.tens[j]'hmt=z_:=⟨_,rfl⟩
 have hxx:(t.tens.map Ten.pv)[j]? =some (.agg [.int .i64 (x).unit,.int .u32 (x).fns,.int .i64 (x).queue,.sl .unk ((x).wins.map Win.pv),.sl .unk ((x).slts.map Slt.pv)]):=by rw [map_get hmt,hxe];rfl
 have hjT:(j<t.tens.length)=True:=eq_true hmt
 have hz:((t.tens.length:Int)=0)=False:=eq_false Y21
 have n1:(s9.nxt=s.nxt)=False:=eq_false Y21
 have H:=aj x4 (aj x5 (aj htm (aj hxx (aj hjT (aj hz (aj n1 H))))))
 refine rH 10 [9] [[false],[true]] [S1,(S1.set s.nxt (some (.row 28 [.agg [.int .i64 (x).unit,.int .u32 (x).fns,.int .i64 (x).queue,.sl .unk ((x).wins.map Win.pv),.sl .unk ((x).slts.map Slt.pv)]])))] Tryz.mixed (k:=?_)
 refine dP [0] (pre:=[_,_,_,_,_,_,_,_,_]) (k:=?_)
 refine dE [(0,1)] (k:=?_)
 refine DetHC.nil ?_
 refine rl [4] (k:=rR (k:=?_))
 exact Ret.pure (r':=x.pv) (by simp only [Tryz.f6,go_sem,↓reduceIte]<;>rfl) (weak_ten x).symm (blw_ten _ _) hwf (fun i hi=>by rw [blk_set_ne Y21];exact lo1 i hi) ⟨t,x,rfl,Y84,hR,hfw,hfw.ok.tens x Y84,rfl⟩
end Go.Proofs
namespace Go.Proofs
open Go.PM
set_option maxHeartbeats 2000000
attribute [local go_sem] set_set weaks_bools
theorem Y281 {p:Prop} (h:p:=by rw [hS];exact kk.nw _):p:=h
theorem Y282 {p:Prop} (h:p:=by have h9:(b21.2).l.length≤(a21.2).l.length+18:=zl;have:=u1;omega):p:=h
theorem Y283 {p:Prop} (h:p:=by have h9:(c21.2).l.length≤(b21.2).l.length+18:=zl;have:=u2;omega):p:=h
theorem Y284 {p:Prop} (h:p:=by have h9:(d21.2).l.length≤(c21.2).l.length+18:=zl;have:=u3;omega):p:=h
theorem Y285 {p:Prop} (h:p:=by have h9:(e21.2).l.length≤(d21.2).l.length+18:=zl;have:=u4;omega):p:=h
theorem Y338 {p:Prop} (h:p:=by have h9:(a21.2).l.length≤(u21).l.length+18:=zl;have:=u0;omega):p:=h
set_option maxRecDepth 100000 in
theorem law21_known {s:St}:ACalls Tryz.prog 18 [] s (fun r s'=>r=.bool true∧s'=s):=by
 refine go Tryz.func18 (k:=fun hwf H=>?_)
 have o3:OkB [7]:=fun x hx=>by rw [List.mem_singleton.1 hx];constructor<;>decide
 have z16:U16 0:=u16_0
 have hq1:(⟨16,3,2,0,0,[],[7,8],0,0⟩:Req).ok:=⟨Y24,Y24,Y24,Y24,Y24,(fun x hx=>by simp only [List.mem_cons,List.not_mem_nil,or_false] at hx;rcases hx with rfl | rfl<;>(constructor<;>decide)),z16,z16,Y22,Y22⟩
 have hq2:(⟨22,4,0,0,0,[],[],65280,18⟩:Req).ok:=⟨Y24,Y24,Y24,Y24,Y24,okW_nil,Y24,Y24,Y22,Y22⟩
 have hq3:(⟨3,3,2,0,0,[],[],0,0⟩:Req).ok:=⟨Y24,Y24,Y24,Y24,Y24,okW_nil,z16,z16,Y22,Y22⟩
 have p0:OkB (bytesF ⟨16,3,2,0,0,[],[7,8],0,0⟩):=by rw [right_bytes Y22];exact writeF_ok hq1 Y22
 have p1:OkB (bytesF ⟨22,4,0,0,0,[],[],65280,18⟩):=by rw [right_bytes Y22];exact writeF_ok hq2 Y22
 have p2:OkB (bytesF ⟨3,3,2,0,0,[],[],0,0⟩):=by rw [right_bytes Y22];exact writeF_ok hq3 Y22
 have p3:=p2
 have p4:=o3
 have ht21:t21.ok:=⟨Y24,Y24,Y24,(fun w hw=>by simp only [t21,List.mem_cons,List.not_mem_nil,or_false] at hw;rcases hw with rfl | rfl<;>exact ⟨Y24,Y24,Y24,Y24⟩),(fun w hw=>by cases hw),Y22,Y22⟩
 refine rs (k:=rg [] (k:=rs (k:=rr (k:=?_))))
 refine RunO.callw au au au Y26 ((device_New (n:=512) Y22 Y22).mono ?_)
 rintro r s1 ⟨rfl,hA0,hlo0,hnx0⟩
 have H:=aj hnx0 H
 refine RunO.callw au au au Y26 ((line_New).mono ?_)
 rintro r s2 ⟨rfl,hs⟩
 have hr2:s2.blk (s.nxt+6)=some (lnRow (s.nxt+5) (.sl .nil []) (.sl .nil []) (.sl .nil []) (.sl .nil []) (.sl .nil [])):=by rw [hs,← hnx0];exact blk_new_eq
 have hx2:s2.nxt=s.nxt+7:=by rw [hs];simp only [nxt_new,hnx0]
 have hA2:DevAt s.nxt (Dev.zero 512) s2:=by rw [hs];exact hA0.nw Y21 _
 have hlo2:∀ j,j<s.nxt→s2.blk j=s.blk j:=fun j hj=>by rw [hs,blk_new_ne Y21];exact hlo0 j hj
 clear hs
 have H:=aj hx2 H
 refine rh [1] (k:=rs (k:=rr (k:=ro (pre:=[_,_]) (k:=rO (k:=rh [1,2] (k:=rs (k:=?_)))))))
 refine Run.genS fun S0 hS=>?_
 have hx0:S0.nxt=s.nxt+8:=by rw [hS];show s2.nxt+1=_;omega
 have ht0:S0.blk (s.nxt+7)=some (.row 28 [.agg [.int .i64 5,.int .u32 4260104,.int .i64 0,.sl .clip [.agg [.int .i64 3,.int .i64 0,.int .i64 100,.int .i64 4],.agg [.int .i64 3,.int .i64 4,.int .i64 50,.int .i64 4]],.sl .nil []]]):=by rw [hS,← hx2];first | exact blk_new_eq | exact blk_set_self _ _ _
 have hr0:S0.blk (s.nxt+6)=some (lnRow (s.nxt+5) (.sl .nil []) (.sl .nil []) (.sl .nil []) (.sl .nil []) (.sl .nil [])):=by rw [hS];first |(rw [blk_new_ne Y21];exact hr2) |(rw [blk_set_ne Y21,blk_new_ne Y21];exact hr2)
 have hA0':DevAt s.nxt (Dev.zero 512) S0:=by rw [hS];first | exact hA2.nw Y21 _ | exact (hA2.nw Y21 _).sv Y21 _
 have hlo0':∀ j,j<s.nxt→S0.blk j=s.blk j:=fun j hj=>by rw [hS];first |(rw [blk_new_ne Y21];exact hlo2 j hj) |(rw [blk_set_ne Y21,blk_new_ne Y21];exact hlo2 j hj)
 clear hS
 have H:=aj ht0 H
 refine rr (k:=ro (pre:=[_,_]) (k:=?_))
 refine RunO.callw au au au Y26 ((unit_New (t:=t21) ht21 (T:=1) (ln:=s.nxt+6)).mono ?_)
 rintro r S9 ⟨z9,rfl,hs9⟩
 have H:=aj hx0 H
 refine rh [1,2,3] (k:=rs (k:=rs (k:=?_)))
 have K0:K21 s.nxt (s.nxt+9) (s.nxt+10) 1 t21 u21 s S9:=by
  rw [hs9,hx0]
  have h9:=k21_new (s0:=s) (z:=z9) (n:=512) Y22 (show 1<4 from Y22) ht21 hA0' hr0 Y21 hlo0'
  rw [hx0] at h9
  exact h9
 have hx9:S9.nxt=s.nxt+11:=by rw [hs9];show S0.nxt+1+1+1=_;omega
 have ht9:S9.blk (s.nxt+7)=some (.row 28 [.agg [.int .i64 5,.int .u32 4260104,.int .i64 0,.sl .clip [.agg [.int .i64 3,.int .i64 0,.int .i64 100,.int .i64 4],.agg [.int .i64 3,.int .i64 4,.int .i64 50,.int .i64 4]],.sl .nil []]]):=by rw [hs9,blk_new_ne (by show s.nxt+7≠S0.nxt+1+1;omega),blk_new_ne (by show s.nxt+7≠S0.nxt+1;omega),blk_new_ne Y21];exact ht0
 have l0:u21.l.length≤70000:=Y22
 have u0:u21.l.length≤0:=Y22
 have H:=aj ht9 trivial
 clear hs9
 refine rr (k:=ro (pre:=[_,_,_,_,_,_,_]) (k:=rg1 (k:=rC (h:=unit_NewN (t:=t21)) (k:=rg1 (k:=ro (pre:=[_,_]) (k:=rg1 (k:=rC (h:=K0.count) (k:=rg1 (k:=rh [1,3,40] (k:=rc (ht:=fun hc0=>?_) (hf:=fun hc0=>?_)))))))))))
 ·cases hc0
 ·refine rk (k:=rs (k:=rr (k:=rO (k:=ro (pre:=[_]) (k:=rC (h:=ref3_Bytes hq1) (k:=rh [1,3,4] (k:=rs (k:=rr (k:=ro (pre:=[_,_,_]) (k:=?_))))))))))
  refine RunO.callw au au au Y26 ((K0.serve l0 (pdu:=(bytesF ⟨16,3,2,0,0,[],[7,8],0,0⟩)) p0 Y22 (mid:=9) (mun:=5) (tick:=200) Y24).mono ?_)
  rintro r z0 ⟨rfl,kk,zn,zr,zl⟩
  have kk:K21 s.nxt (s.nxt+9) (s.nxt+10) 1 t21 a21.2 s z0:=kk
  rw [show (serveU t21 1 5 (bytesF ⟨16,3,2,0,0,[],[7,8],0,0⟩) 200 u21).1=a21.1 from rfl]
  refine rh [1,3,6] (k:=rs (k:=?_))
  refine Run.genS fun S1 hS=>?_
  have K1:K21 s.nxt (s.nxt+9) (s.nxt+10) 1 t21 a21.2 s S1:=Y281
  have l1:a21.2.l.length≤70000:=Y338
  have u1:(a21.2).l.length≤18*1:=Y338
  have m0q1:S1.blk z0.nxt=some (.row 49 [.agg [.int .i64 9,.int .i64 5,.sl .unk (a21.1.map (PV.int .u8))]]):=Y227
  have hx1:S1.nxt=z0.nxt+1:=Y155
  clear hS
  have H:=aj m0q1 H
  refine rr (k:=ro (pre:=[_]) (k:=rC (h:=ref3_Bytes hq2) (k:=rh [1,3,4,6] (k:=rs (k:=rr (k:=ro (pre:=[_,_,_]) (k:=?_)))))))
  refine RunO.callw au au au Y26 ((K1.serve l1 (pdu:=(bytesF ⟨22,4,0,0,0,[],[],65280,18⟩)) p1 Y22 (mid:=10) (mun:=5) (tick:=400) Y24).mono ?_)
  rintro r z1 ⟨rfl,kk,zn,zr,zl⟩
  have kk:K21 s.nxt (s.nxt+9) (s.nxt+10) 1 t21 b21.2 s z1:=kk
  rw [show (serveU t21 1 5 (bytesF ⟨22,4,0,0,0,[],[],65280,18⟩) 400 a21.2).1=b21.1 from rfl]
  refine rh [1,3,6,7] (k:=rs (k:=?_))
  refine Run.genS fun S2 hS=>?_
  have K2:K21 s.nxt (s.nxt+9) (s.nxt+10) 1 t21 b21.2 s S2:=Y281
  have l2:b21.2.l.length≤70000:=Y282
  have u2:(b21.2).l.length≤18*2:=Y282
  have m0q2:S2.blk z0.nxt=some (.row 49 [.agg [.int .i64 9,.int .i64 5,.sl .unk (a21.1.map (PV.int .u8))]]):=by rw [hS,blk_new_ne Y21];exact zr _ _ _ Y21 Y21 Y21 m0q1
  have m1q2:S2.blk z1.nxt=some (.row 49 [.agg [.int .i64 10,.int .i64 5,.sl .unk (b21.1.map (PV.int .u8))]]):=Y227
  have hx2:S2.nxt=z1.nxt+1:=Y155
  clear hS
  have H:=aj m0q2 (aj m1q2 H)
  refine rr (k:=ro (pre:=[_]) (k:=rC (h:=ref3_Bytes hq3) (k:=rh [1,3,4,6,7] (k:=rs (k:=rr (k:=ro (pre:=[_,_,_]) (k:=?_)))))))
  refine RunO.callw au au au Y26 ((K2.serve l2 (pdu:=(bytesF ⟨3,3,2,0,0,[],[],0,0⟩)) p2 Y22 (mid:=11) (mun:=5) (tick:=600) Y24).mono ?_)
  rintro r z2 ⟨rfl,kk,zn,zr,zl⟩
  have kk:K21 s.nxt (s.nxt+9) (s.nxt+10) 1 t21 c21.2 s z2:=kk
  rw [show (serveU t21 1 5 (bytesF ⟨3,3,2,0,0,[],[],0,0⟩) 600 b21.2).1=c21.1 from rfl]
  refine rh [1,3,4,6,7,8] (k:=rs (k:=?_))
  refine Run.genS fun S3 hS=>?_
  have K3:K21 s.nxt (s.nxt+9) (s.nxt+10) 1 t21 c21.2 s S3:=Y281
  have l3:c21.2.l.length≤70000:=Y283
  have u3:(c21.2).l.length≤18*3:=Y283
  have m0q3:S3.blk z0.nxt=some (.row 49 [.agg [.int .i64 9,.int .i64 5,.sl .unk (a21.1.map (PV.int .u8))]]):=by rw [hS,blk_new_ne Y21];exact zr _ _ _ Y21 Y21 Y21 m0q2
  have m1q3:S3.blk z1.nxt=some (.row 49 [.agg [.int .i64 10,.int .i64 5,.sl .unk (b21.1.map (PV.int .u8))]]):=by rw [hS,blk_new_ne Y21];exact zr _ _ _ Y21 Y21 Y21 m1q2
  have m2q3:S3.blk z2.nxt=some (.row 49 [.agg [.int .i64 11,.int .i64 5,.sl .unk (c21.1.map (PV.int .u8))]]):=Y227
  have hx3:S3.nxt=z2.nxt+1:=Y155
  clear hS
  have H:=aj m0q3 (aj m1q3 (aj m2q3 H))
  refine rr (k:=ro (pre:=[_,_,_]) (k:=?_))
  refine RunO.callw au au au Y26 ((K3.serve l3 (pdu:=(bytesF ⟨3,3,2,0,0,[],[],0,0⟩)) p3 Y22 (mid:=12) (mun:=6) (tick:=800) Y24).mono ?_)
  rintro r z3 ⟨rfl,kk,zn,zr,zl⟩
  have kk:K21 s.nxt (s.nxt+9) (s.nxt+10) 1 t21 d21.2 s z3:=kk
  rw [show (serveU t21 1 6 (bytesF ⟨3,3,2,0,0,[],[],0,0⟩) 800 c21.2).1=d21.1 from rfl]
  refine rh [1,3,6,7,8,9] (k:=rs (k:=?_))
  refine Run.genS fun S4 hS=>?_
  have K4:K21 s.nxt (s.nxt+9) (s.nxt+10) 1 t21 d21.2 s S4:=Y281
  have l4:d21.2.l.length≤70000:=Y284
  have u4:(d21.2).l.length≤18*4:=Y284
  have m0q4:S4.blk z0.nxt=some (.row 49 [.agg [.int .i64 9,.int .i64 5,.sl .unk (a21.1.map (PV.int .u8))]]):=by rw [hS,blk_new_ne Y21];exact zr _ _ _ Y21 Y21 Y21 m0q3
  have m1q4:S4.blk z1.nxt=some (.row 49 [.agg [.int .i64 10,.int .i64 5,.sl .unk (b21.1.map (PV.int .u8))]]):=by rw [hS,blk_new_ne Y21];exact zr _ _ _ Y21 Y21 Y21 m1q3
  have m2q4:S4.blk z2.nxt=some (.row 49 [.agg [.int .i64 11,.int .i64 5,.sl .unk (c21.1.map (PV.int .u8))]]):=by rw [hS,blk_new_ne Y21];exact zr _ _ _ Y21 Y21 Y21 m2q3
  have m3q4:S4.blk z3.nxt=some (.row 49 [.agg [.int .i64 12,.int .i64 6,.sl .unk (d21.1.map (PV.int .u8))]]):=Y227
  have hx4:S4.nxt=z3.nxt+1:=Y155
  clear hS
  have H:=aj m0q4 (aj m1q4 (aj m2q4 (aj m3q4 H)))
  refine rr (k:=ro (pre:=[_]) (k:=rO (k:=ro (pre:=[_]) (k:=?_))))
  refine RunO.callw au au au Y26 ((K4.serve l4 (pdu:=[7]) p4 Y22 (mid:=13) (mun:=5) (tick:=900) Y24).mono ?_)
  rintro r z4 ⟨rfl,kk,zn,zr,zl⟩
  have kk:K21 s.nxt (s.nxt+9) (s.nxt+10) 1 t21 e21.2 s z4:=kk
  rw [show (serveU t21 1 5 [7] 900 d21.2).1=e21.1 from rfl]
  refine rh [1,3,6,7,8,9,10] (k:=rs (k:=?_))
  refine Run.genS fun S5 hS=>?_
  have K5:K21 s.nxt (s.nxt+9) (s.nxt+10) 1 t21 e21.2 s S5:=Y281
  have l5:e21.2.l.length≤70000:=Y285
  have u5:(e21.2).l.length≤18*5:=Y285
  have m0q5:S5.blk z0.nxt=some (.row 49 [.agg [.int .i64 9,.int .i64 5,.sl .unk (a21.1.map (PV.int .u8))]]):=by rw [hS,blk_new_ne Y21];exact zr _ _ _ Y21 Y21 Y21 m0q4
  have m1q5:S5.blk z1.nxt=some (.row 49 [.agg [.int .i64 10,.int .i64 5,.sl .unk (b21.1.map (PV.int .u8))]]):=by rw [hS,blk_new_ne Y21];exact zr _ _ _ Y21 Y21 Y21 m1q4
  have m2q5:S5.blk z2.nxt=some (.row 49 [.agg [.int .i64 11,.int .i64 5,.sl .unk (c21.1.map (PV.int .u8))]]):=by rw [hS,blk_new_ne Y21];exact zr _ _ _ Y21 Y21 Y21 m2q4
  have m3q5:S5.blk z3.nxt=some (.row 49 [.agg [.int .i64 12,.int .i64 6,.sl .unk (d21.1.map (PV.int .u8))]]):=by rw [hS,blk_new_ne Y21];exact zr _ _ _ Y21 Y21 Y21 m3q4
  have m4q5:S5.blk z4.nxt=some (.row 49 [.agg [.int .i64 13,.int .i64 5,.sl .unk (e21.1.map (PV.int .u8))]]):=Y227
  have hx5:S5.nxt=z4.nxt+1:=Y155
  clear hS
  have H:=aj m0q5 (aj m1q5 (aj m2q5 (aj m3q5 (aj m4q5 H))))
  refine rr (k:=ro (pre:=[_]) (k:=rC (h:=K5.sent Y21) (k:=rh [3,6,7,8,9,10,11] (k:=rs (k:=rr (k:=ro (pre:=[_]) (k:=rC (h:=K5.count) (k:=rC (h:=K5.get (sub:=11)) (k:=rh [3,6,7,8,9,10,11,12] (k:=rs (k:=rr (k:=ro (pre:=[_]) (k:=rC (h:=K5.count) (k:=rC (h:=K5.get (sub:=13)) (k:=rh [6,7,8,9,10,11,12,14] (k:=?_))))))))))))))))
  refine rs (k:=?_)
  obtain ⟨x0,x1,x2,x3,x4,x5,hL⟩:∃ x0 x1 x2 x3 x4 x5,e21.2.l=[x0,x1,x2,x3,x4,x5]:=by
   have h9:=congrArg List.length k21.2.1
   rw [List.length_map] at h9
   match h:e21.2.l,h9 with
   | [a,b,c,d,e,f],_=>exact ⟨a,b,c,d,e,f,rfl⟩
  have hT:=k21.2.1
  rw [hL] at hT
  simp only [List.map_cons,List.map_nil,List.cons.injEq,and_true] at hT
  have hL1:(e21.2.l.map Snt.pv)[1]? =some (.agg [.int .i64 212,.int .i64 x1.tenant,.sl .unk (x1.data.map (PV.int .u8))]):=by rw [hL,← hT.2.1];rfl
  have hL3:(e21.2.l.map Snt.pv)[3]? =some (.agg [.int .i64 412,.int .i64 x3.tenant,.sl .unk (x3.data.map (PV.int .u8))]):=by rw [hL,← hT.2.2.2.1];rfl
  have hL6:e21.2.l.length=6:=by rw [hL];rfl
  have hs0:((strB a21.1).toList==({ data:= #[16,0,3,0,2] }:ByteArray).toList)=true:=by rw [k21.1.1,show strB [16,0,3,0,2]=({ data:= #[16,0,3,0,2] }:ByteArray) from Y22];exact beq_self_eq_true _
  have hs1:((strB b21.1).toList==({ data:= #[22,0,4,255,0,0,18] }:ByteArray).toList)=true:=by rw [k21.1.2.1,show strB [22,0,4,255,0,0,18]=({ data:= #[22,0,4,255,0,0,18] }:ByteArray) from Y22];exact beq_self_eq_true _
  have hs2:((strB c21.1).toList==({ data:= #[3,4,0,7,0,18] }:ByteArray).toList)=true:=by rw [k21.1.2.2.1,show strB [3,4,0,7,0,18]=({ data:= #[3,4,0,7,0,18] }:ByteArray) from Y22];exact beq_self_eq_true _
  have hs3:((strB d21.1).toList==({ data:= #[131,10] }:ByteArray).toList)=true:=by rw [k21.1.2.2.2.1,show strB [131,10]=({ data:= #[131,10] }:ByteArray) from Y22];exact beq_self_eq_true _
  have hs4:((strB e21.1).toList==({ data:= #[135,1] }:ByteArray).toList)=true:=by rw [k21.1.2.2.2.2,show strB [135,1]=({ data:= #[135,1] }:ByteArray) from Y22];exact beq_self_eq_true _
  have hg1:=k21.2.2.1
  have hg2:=k21.2.2.2
  have H:=aj hL1 (aj hL3 (aj hL6 (aj hg1 (aj hg2 (aj hs0 (aj hs1 (aj hs2 (aj hs3 (aj hs4 H)))))))))
  refine rrA [some 91,some 92,some 93,some 94,some 95,some 96,some 97,some 98,some 99,some 100,some 101,some 102,some 103,some 104,some 105,some 106,some 107,some 108,some 109,some 110,some 111,some 112,some 113,some 114,some 115,some 116,some 117,some 118,some 119,some 120,some 121,some 122,some 123,some 124,some 125,some 126,some 127,some 128,some 129,some 130,some 131,some 132,some 133,some 134,some 135,some 136,some 137,some 138,some 139,some 140,some 141,some 142,some 143,some 144,some 145,some 146,some 147,some 148,some 149,some 150,some 151,some 152,some 153,some 154,some 155,some 0] (k:=fun ops hops=>?_)
  have H:=aj hops H
  refine ro (pre:=[_,_,_,_]) (k:=rg1 (k:=rg1 (k:=rg1 (k:=ro (pre:=[_,_]) (k:=rg1 (k:=rg1 (k:=rg1 (k:=rg1 (k:=ro (pre:=[_,_]) (k:=rg1 (k:=rg1 (k:=rg1 (k:=rg1 (k:=ro (pre:=[_,_]) (k:=rg1 (k:=rg1 (k:=rg1 (k:=rg1 (k:=ro (pre:=[_,_]) (k:=rg1 (k:=rg1 (k:=rg1 (k:=rg1 (k:=ro (pre:=[_,_]) (k:=rg1 (k:=rg1 (k:=?_)))))))))))))))))))))))))))
  refine rg1 (k:=rg1 (k:=ro (pre:=[_,_]) (k:=rg1 (k:=rg1 (k:=rg1 (k:=ro (pre:=[_,_]) (k:=rg1 (k:=rg1 (k:=rg1 (k:=rg1 (k:=rg1 (k:=ro (pre:=[_,_]) (k:=rg1 (k:=rg1 (k:=rg1 (k:=rg1 (k:=rg1 (k:=ro (pre:=[_,_]) (k:=rg1 (k:=rg1 (k:=ro (pre:=[_,_]) (k:=rg1 (k:=rg1 (k:=rh [0] (k:=rR (k:=?_))))))))))))))))))))))))))
  exact Ret.pure (r':=.bool true) (by simp only [Tryz.f18,go_sem,↓reduceIte]<;>rfl) rfl (by simp only [PV.blw]) hwf (fun i hi=>K5.low i hi) ⟨rfl,rfl⟩
end Go.Proofs
namespace Go.Proofs
open Go.PM
set_option maxHeartbeats 2000000
structure Ans (q:Req) (r:Rep):Prop where
 fn:r.fn=q.fn
 good:goodF r=0
theorem Fits.ans {r:Rep} {q:Req} (h:Fits r q):Ans q r:=⟨h.fn,h.good⟩
theorem fn_has {q:Req} (h:rightF q=0):1≤q.fn∧q.fn≤127:=by
 have:=has_cases (right0 h).has
 omega
theorem triesF_ans {q:Req} (hq:q.ok) (hr:rightF q=0):∀ (k:Nat) (F:List Int) (D:Dev),D.ok→Ans q (triesF q k F D).1
 | 0,F,D,h=>(fits_refuse (fn_has hr) Y22).ans
 | k+1,F,D,h=>by
   have hd:=doF_ok h hq
   unfold triesF
   split
   ·exact (do_fits h hq hr).ans
   ·split
    ·exact (fits_refuse (fn_has hr) Y22).ans
    ·split
     ·exact triesF_ans hq hr k F.tail D h
     ·exact triesF_ans hq hr k F.tail (doF D q).2 hd.1
theorem askX_ans {q:Req} (h:PtOk q) (FS:Nat→List Int) (T:Nat) (l:List Snt) (tick:Int) {D:Dev} (hD:D.ok):Ans q (askX q FS T l tick D).1:=by
 unfold askX
 rw [if_pos h.r]
 exact triesF_ans h.ok h.r 3 (FS T) D hD
theorem ask_all {q:Req} {ps:List (Req × Bool)} (h:AskOk q ps):∀ x∈ps,∀ out,PtOk (partX q x out):=fun x hx out=>by
 obtain ⟨i,hi,rfl⟩:=List.getElem_of_mem hx
 exact partX_ok h hi out
theorem askU_good {q:Req} {T:Nat} {tick:Int}:∀ (ps:List (Req × Bool)) (i:Nat) (out:List Rep) (u:Us),(∀ x∈ps,∀ out,PtOk (partX q x out))→u.ok→(∀ r∈out,goodF r=0) →
  (∀ r∈(askU q T tick i ps out u).1,goodF r=0)∧(askU q T tick i ps out u).2.c.m=u.c.m∧(askU q T tick i ps out u).2.c.e=u.c.e
 | [],i,out,u,_,_,ho=>⟨ho,rfl,rfl⟩
 | x::ps,i,out,u,hp,hu,ho=>by
   have hx:=hp x Y23 out
   have h1:∀ r∈out++[(askS q T tick i x out u).1],goodF r=0:=fun r hr=>by
    rcases List.mem_append.1 hr with hr | hr
    ·exact ho r hr
    ·rw [List.mem_singleton.1 hr]
     exact (askX_ans hx u.FS T u.l (tick+12*(i:Int)) hu.D).good
   unfold askU
   split
   ·obtain ⟨a1,a2,a3⟩:=askU_good ps (i+1) _ _ (fun y hy=>hp y Y310) (askS_ok hu hx).1 h1
    exact ⟨a1,a2,a3⟩
   ·exact ⟨h1,rfl,rfl⟩
def rdF (q:Req):Int:=if q.fn=23∨q.fn=22 then 3 else q.fn
theorem split_rd {t:Ten} {q:Req} (h:codeP t q=0):∀ x∈(splitF t q).1,x.2=false→x.1.fn=rdF q:=by
 intro x hx hw
 unfold rdF
 by_cases e:q.fn=22
 ·obtain ⟨p,_,hp,e2⟩:=split_mask h e
  rw [e2] at hx
  rw [if_pos (.inr e)]
  simp only [List.mem_cons,List.not_mem_nil,or_false] at hx
  rcases hx with rfl | rfl
  ·rfl
  ·cases hw
 ·rw [split_else h e] at hx
  simp only [List.mem_append,List.mem_map] at hx
  rcases hx with ⟨p,hp,rfl⟩ | ⟨p,hp,rfl⟩
  ·cases hw
  ·show (if q.fn=23 then 3 else q.fn)=_
   by_cases e3:q.fn=23
   ·rw [if_pos e3,if_pos (.inl e3)]
   ·rw [if_neg e3,if_neg Y21]
theorem good_kind {r:Rep} (h:goodF r=0) (hc:r.code=0):(r.fn=1∨r.fn=2→r.vals=[])∧(r.fn=3∨r.fn=4→r.bits=[]):=by
 have e:=(good0 h hc).eq
 refine ⟨fun hf=>?_,fun hf=>?_⟩
 ·rw [e];unfold hasP;rw [if_pos hf]
 ·rw [e];unfold hasP;rw [if_neg Y21,if_pos Y21]
theorem u16_of {n:Int} (h:wordF n=true):U16 n:=of_decide_eq_true h
theorem Y339 {p:Prop} (h:p:=by exact (fits_refuse (fn_has h.r) Y22).ans):p:=h
theorem whole_ans {t:Ten} {q:Req} (hq:q.ok) (h:CodeOk t q) (hl:localF q=false) {bits:List Bool} {vals:List Int} (hv:OkW vals) (h1:rdF q=1∨rdF q=2→vals=[]) (h2:rdF q=3∨rdF q=4→bits=[]):Ans q (wholeF q bits vals):=by
 have hR:=right0 h.r
 have hc:=cnt_le h
 have hs:=has_cases hR.has
 have hcf:=(of_decide_eq_true (show decide (rightF q=0∧_)=true from h.c)).2
 have ha:=u16_of hR.wa
 have hcc:=u16_of hR.wc
 have hl2:¬ (q.fn=8∨q.fn=17):=of_decide_eq_false hl
 unfold wholeF
 by_cases e5:q.fn=5
 ·rw [if_pos e5]
  obtain ⟨b,hb⟩:=List.length_eq_one_iff.1 (hc.2.2.2.1 e5)
  have:=(fits_5 e5 ha b).ans
  rw [hb,← e5];exact this
 rw [if_neg e5]
 by_cases e6:q.fn=6
 ·rw [if_pos e6]
  obtain ⟨v,hb⟩:=List.length_eq_one_iff.1 (hc.2.2.2.2.1 e6)
  have:=(fits_6 e6 ha (hq.vals v (by rw [hb];simp))).ans
  rw [hb,← e6];exact this
 rw [if_neg e6]
 by_cases e15:q.fn=15∨q.fn=16
 ·rw [if_pos e15];exact (fits_15 e15 ha hcc).ans
 rw [if_neg e15]
 by_cases e22:q.fn=22
 ·rw [if_pos e22]
  have:=(fits_22 e22 ha hq.and_ hq.or_).ans
  rw [← e22];exact this
 rw [if_neg e22]
 split
 ·rename_i hsum
  by_cases e1:q.fn=1∨q.fn=2
  ·have hv0:=h1 (by unfold rdF;rw [if_neg Y21];exact e1)
   subst hv0
   rw [if_pos e1] at hcf
   rw [List.length_nil] at hsum
   exact (fits_bits e1 Y21 Y21).ans
  ·have e3:q.fn=3∨q.fn=4∨q.fn=23:=Y21
   have hb0:=h2 (by unfold rdF;split<;>omega)
   subst hb0
   rw [List.length_nil] at hsum
   have hcnt:q.count≤125:=by
    rw [if_neg e1] at hcf
    by_cases e34:q.fn=3∨q.fn=4
    ·rw [if_pos e34] at hcf;omega
    ·rw [if_neg e34,if_neg Y21,if_neg Y21,if_pos Y21] at hcf;omega
   exact (fits_vals e3 hv Y21 Y21).ans
 ·exact Y339
theorem joinA_ans {t:Ten} {q:Req} (hq:q.ok) (h:CodeOk t q) (hl:localF q=false):∀ (ps:List (Req × Bool)) (l:List Rep) (bits:List Bool) (vals:List Int),(∀ x∈ps,x.2=false→x.1.fn=rdF q)→(∀ r∈l,r.ok∧r.code=0)→OkW vals→(rdF q=1∨rdF q=2→vals=[])→(rdF q=3∨rdF q=4→bits=[])→Ans q (joinA q ps l bits vals)
 | ps,[],bits,vals,hp,hr,hv,h1,h2=>by
   rw [joinA_end]
   split
   ·exact whole_ans hq h hl hv h1 h2
   ·exact Y339
 | [],_::_,bits,vals,hp,hr,hv,h1,h2=>whole_ans hq h hl hv h1 h2
 |(x,w)::ps,r::l,bits,vals,hp,hr,hv,h1,h2=>by
  have hro:=hr r Y23
  unfold joinA
  split
  ·exact Y339
  ·rename_i hg
   simp only [not_or,Classical.not_not] at hg
   have hk:=good_kind hg.2 hro.2
   refine joinA_ans hq h hl ps l _ _ (fun y hy=>hp y Y310) (fun y hy=>hr y Y310) ?_ ?_ ?_
   ·split
    ·exact hv
    ·exact fun y hy=>(List.mem_append.1 hy).elim (hv y) (hro.1.vals y)
   ·intro e
    split
    ·exact h1 e
    ·rename_i hw
     have hxf:=hp (x,w) Y23 (by simpa using hw)
     have hxf:x.fn=rdF q:=hxf
     rw [h1 e,hk.1 (by rw [hg.1,hxf];exact e)];rfl
   ·intro e
    split
    ·exact h2 e
    ·rename_i hw
     have hxf:=hp (x,w) Y23 (by simpa using hw)
     have hxf:x.fn=rdF q:=hxf
     rw [h2 e,hk.2 (by rw [hg.1,hxf];exact e)];rfl
theorem joinF_ans {t:Ten} {q:Req} (hq:q.ok) (h0:codeP t q=0) (hl:localF q=false) {l:List Rep} (ho:∀ r∈l,r.ok) (hg:∀ r∈l,goodF r=0):Ans q (joinF t q l):=by
 have h:=code_0 h0
 unfold joinF
 rw [if_neg (by rw [split_code,h0];decide),if_neg (by rw [hl];decide)]
 split
 ·rename_i r hf
  have hm:=List.mem_of_mem_take (List.mem_of_find?_eq_some hf)
  have hc:=goodC (hg r hm) (of_decide_eq_true (List.find?_some (p:=fun r:Rep=>decide (¬ r.code=0)) hf))
  exact (fits_refuse (fn_has h.r) ⟨hc.1,hc.2.1⟩).ans
 ·rename_i hf
  refine joinA_ans hq h hl _ _ _ _ (split_rd h0) (fun r hr=>⟨ho r (List.mem_of_mem_take hr),?_⟩) okW_nil (fun _=>rfl) (fun _=>rfl)
  have:=List.find?_eq_none.1 hf r hr
  simpa using this
theorem askU_rep {q:Req} {T:Nat} {tick:Int}:∀ (ps:List (Req × Bool)) (i:Nat) (out:List Rep) (u:Us),(∀ x∈ps,∀ out,PtOk (partX q x out))→u.ok→(∀ r∈out,r.ok)→∀ r∈(askU q T tick i ps out u).1,r.ok
 | [],i,out,u,_,_,ho=>ho
 | x::ps,i,out,u,hp,hu,ho=>by
   have hx:=hp x Y23 out
   have h1:∀ r∈out++[(askS q T tick i x out u).1],r.ok:=fun r hr=>by
    rcases List.mem_append.1 hr with hr | hr
    ·exact ho r hr
    ·rw [List.mem_singleton.1 hr];exact (askS_ok hu hx).2.1
   unfold askU
   split
   ·exact askU_rep ps (i+1) _ _ (fun y hy=>hp y Y310) (askS_ok hu hx).1 h1
   ·exact h1
theorem answer_law {t:Ten} {T:Nat} {tick:Int} {u:Us} (hu:u.ok) {q:Req} (hq:q.ok) (hr:rightF q=0) (h8:¬ q.fn=8):Ans q (answerU t T t.unit (bytesF q) tick u).1∧(answerU t T t.unit (bytesF q) tick u).2.c.m=u.c.m∧(answerU t T t.unit (bytesF q) tick u).2.c.e=u.c.e:=by
 have hb:readF (bytesF q)=(q,0):=by rw [right_bytes hr];exact read_write hq hr
 have hf:=fn_has hr
 have hfn:fnF (bytesF q)=q.fn:=by
  unfold fnF
  rw [right_bytes hr,if_neg (show ¬ writeF q=[] from List.cons_ne_nil _ _)]
  show q.fn%128=q.fn
  omega
 have hcv:=code_vals t q
 unfold answerU
 rw [if_neg (fun n=>n rfl),hb,hfn]
 dsimp only
 rw [if_neg Y22,if_neg Y22]
 split
 ·rename_i hc
  exact ⟨(fits_refuse hf ⟨Y21,Y21⟩).ans,rfl,rfl⟩
 ·rename_i hc
  have hc:codeP t q=0:=Y21
  split
  ·rename_i hl
   have h17:q.fn=17:=by
    have:=of_decide_eq_true hl
    omega
   have hd:u.c.doC q t.unit=(⟨17,0,0,0,0,[],[],0,0,[t.unit%256,255]⟩,u.c):=by
    unfold Cn.doC
    rw [if_neg Y21,if_neg Y21,if_pos h17]
   rw [hd]
   have:=(fits_17 h17 (t.unit%256) 255).ans
   rw [h17] at this
   exact ⟨this,rfl,rfl⟩
  ·rename_i hl
   have ha:=ask_all (ask_split hq hc)
   obtain ⟨a1,a2,a3⟩:=askU_good (T:=T) (tick:=tick) _ 0 [] u ha hu (fun r hr=>absurd hr List.not_mem_nil)
   exact ⟨joinF_ans hq hc (by simpa using hl) (askU_rep _ 0 [] u ha hu (fun r hr=>absurd hr List.not_mem_nil)) a1,a2,a3⟩
theorem serve_law {t:Ten} {T:Nat} {tick:Int} {u:Us} (hu:u.ok) (hm:u.c.m≤1000000∧u.c.e≤1000000) {q:Req} (hq:q.ok) (hr:rightF q=0) (h8:¬ q.fn=8) :
  ∃ x l,(serveU t T t.unit (bytesF q) tick u).1=x::l∧0≤x∧x≤255∧x%128=q.fn∧(serveU t T t.unit (bytesF q) tick u).2.c.m=u.c.m+1∧(serveU t T t.unit (bytesF q) tick u).2.c.e=if 127<x then u.c.e+1 else u.c.e:=by
 have hv:({ u with c:=u.c.msg }:Us).ok:=⟨hu.D,hu.FS,hu.c.msg,hu.l⟩
 obtain ⟨h1,h2,h3⟩:=answer_law (T:=T) (tick:=tick) hv hq hr h8 (t:=t)
 obtain ⟨r,hre⟩:∃ r,r=(answerU t T t.unit (bytesF q) tick { u with c:=u.c.msg }).1:=⟨_,rfl⟩
 rw [← hre] at h1
 have hf:=fn_has hr
 have hmm:u.c.msg.m=u.c.m+1:=by show min (u.c.m+1) 1073741824=_;omega
 have hee:u.c.msg.e=u.c.e:=rfl
 have hb0:=hu.c
 have e1:(serveU t T t.unit (bytesF q) tick u).1=layF r:=by
  unfold serveU
  dsimp only
  rw [← hre]
  unfold repF
  rw [if_pos h1.good]
 have e2:(serveU t T t.unit (bytesF q) tick u).2=if ¬ r.code=0 then { (answerU t T t.unit (bytesF q) tick { u with c:=u.c.msg }).2 with c:=(answerU t T t.unit (bytesF q) tick { u with c:=u.c.msg }).2.c.exc } else (answerU t T t.unit (bytesF q) tick { u with c:=u.c.msg }).2:=by
  unfold serveU
  dsimp only
  rw [← hre]
 rw [e1,e2]
 have h2:(answerU t T t.unit (bytesF q) tick { u with c:=u.c.msg }).2.c.m=u.c.m+1:=by rw [h2];exact hmm
 have h3:(answerU t T t.unit (bytesF q) tick { u with c:=u.c.msg }).2.c.e=u.c.e:=h3.trans hee
 by_cases hc:r.code=0
 ·rw [if_neg (fun n=>n hc)]
  unfold layF
  rw [if_neg (fun n=>n hc)]
  refine ⟨_,_,rfl,?_,?_,?_,h2,?_⟩
  ·rw [h1.fn];omega
  ·rw [h1.fn];omega
  ·rw [h1.fn];omega
  ·rw [if_neg (by rw [h1.fn];omega)];exact h3
 ·rw [if_pos hc]
  unfold layF
  rw [if_pos hc]
  refine ⟨_,_,rfl,?_,?_,?_,h2,?_⟩
  ·rw [h1.fn];omega
  ·rw [h1.fn];omega
  ·rw [h1.fn];omega
  ·rw [if_pos (by rw [h1.fn];omega)]
   show min ((answerU t T t.unit (bytesF q) tick { u with c:=u.c.msg }).2.c.e+1) 1073741824=_
   rw [h3];omega
end Go.Proofs
namespace Go.Proofs
open Go.PM
set_option maxHeartbeats 2000000
structure Au where
 fault:Int
 unit:Int
 hurt:Bool
 raw:List Int
def Au.pv (a:Au):PV:=.agg [.int .i64 a.fault,.int .i64 a.unit,.bool a.hurt,.sl .unk (a.raw.map (PV.int .u8))]
theorem K21.st {b cc un T r ty:Nat} {t:Ten} {u:Us} {s0 S:St} {vs:List PV} (h:K21 b cc un T t u s0 S) (hr:un<r) (hb:S.blk r=some (.row ty vs)) (y:Option Blk):K21 b cc un T t u s0 (S.set r y):=by
 obtain ⟨ns,h1⟩:=h.at'
 have hp:=h.pos
 exact ⟨⟨ns,h1.hi ⟨Y21,Y21,Y21,Y21,fun j hj=>h1.lin.notrow hj hb⟩ y⟩,fun j hj=>by rw [blk_set_ne Y21];exact h.low j hj,h.pos⟩
theorem K21.ok {b cc un T:Nat} {t:Ten} {u:Us} {s0 S:St} (h:K21 b cc un T t u s0 S):u.ok:=by
 obtain ⟨ns,h1⟩:=h.at'
 exact h1.uok
attribute [local go_sem] set_set weaks_bools
theorem Y340 {p:Prop} (h:p:=by rw [hS];first | exact blk_new_eq | exact blk_set_self _ _ _):p:=h
set_option maxRecDepth 100000 in
theorem law21_Counts {tl ul:List Int} {al:List Au} (htl:tl.length*8≤140737488351232) (hul:ul.length*8≤140737488351232) (hal:al.length*16≤140737488351232) {i9:Int} {s:St}:ACalls Tryz.prog 4 [.sl .unk (tl.map (PV.int .i64)),.sl .unk (ul.map (PV.int .i64)),.int .i64 i9,.sl .unk (al.map Au.pv)] s (fun r s'=>r=.bool true∧s'=s):=by
 refine go Tryz.func4 (k:=fun hwf H=>?_)
 obtain ⟨n9,hn9⟩:∃ n:Nat,i9%4=n:=⟨(i9%4).toNat,Y21⟩
 have hand:ibits .and .i64 i9 3=(n9:Int):=by rw [← hn9];exact ibits_and_mask i9 2 Y22
 have hT0:(⟨ul,0⟩:Tp).ok:=⟨hul,Nat.zero_le _⟩
 have hTv:(⟨ul,0⟩:Tp).pv=.agg [.sl .unk (ul.map (PV.int .i64)),.int .i64 0]:=rfl
 obtain ⟨b,hb⟩:∃ b,b=s.nxt+1:=⟨_,rfl⟩
 have H:=aj hand H
 refine rs (k:=rg [0,1,2,3] (k:=rs (k:=rr (k:=ro (pre:=[_,_,_]) (k:=?_)))))
 refine RunO.callw au au au Y26 ((law21_tenant htl (i:=n9)).mono ?_)
 rintro r s9 ⟨t,x,rfl,hxm,hR,hfw,hxo,hs⟩
 subst s9
 have hxv:x.pv=.agg [.int .i64 (x).unit,.int .u32 (x).fns,.int .i64 (x).queue,.sl .unk ((x).wins.map Win.pv),.sl .unk ((x).slts.map Slt.pv)]:=rfl
 have H:=aj hxv H
 refine rh [1,3,9] (k:=rs (k:=?_))
 refine Run.genS fun S0 hS=>?_
 have hx0:S0.nxt=b:=by rw [hS,hb];rfl
 have ht0:S0.blk s.nxt=some (.row 28 [.agg [.int .i64 (x).unit,.int .u32 (x).fns,.int .i64 (x).queue,.sl .unk ((x).wins.map Win.pv),.sl .unk ((x).slts.map Slt.pv)]]):=Y340
 have hl0:∀ j,j<s.nxt→S0.blk j=s.blk j:=fun j hj=>by rw [hS];first | exact blk_new_ne Y21 |(rw [blk_set_ne Y21];exact blk_new_ne Y21)
 clear hS
 have H:=aj ht0 H
 refine rr (k:=?_)
 refine RunO.callw au au au Y26 ((device_New (n:=512) Y22 Y22).mono ?_)
 rintro r s1 ⟨rfl,hA0,hlo0,hnx0⟩
 rw [hx0] at hA0 hlo0 hnx0 ⊢
 have H:=aj hnx0 H
 refine RunO.callw au au au Y26 ((line_New).mono ?_)
 rintro r s2 ⟨rfl,hs⟩
 have hr2:s2.blk (b+6)=some (lnRow (b+5) (.sl .nil []) (.sl .nil []) (.sl .nil []) (.sl .nil []) (.sl .nil [])):=by rw [hs,← hnx0];exact blk_new_eq
 have hx2:s2.nxt=b+7:=by rw [hs];simp only [nxt_new,hnx0]
 have hA2:DevAt b (Dev.zero 512) s2:=by rw [hs];exact hA0.nw Y21 _
 have hlo2:∀ j,j<b→s2.blk j=S0.blk j:=fun j hj=>by rw [hs,blk_new_ne Y21];exact hlo0 j hj
 have hT2:s2.blk s.nxt=some (.row 28 [.agg [.int .i64 (x).unit,.int .u32 (x).fns,.int .i64 (x).queue,.sl .unk ((x).wins.map Win.pv),.sl .unk ((x).slts.map Slt.pv)]]):=by rw [hlo2 _ Y21];exact ht0
 clear hs
 rw [hnx0]
 have H:=aj hx2 (aj hT2 H)
 refine rh [1,3,9,10] (k:=rs (k:=rr (k:=ro (pre:=[_,_]) (k:=?_))))
 refine RunO.callw au au au Y26 ((unit_New (t:=x) hxo (T:=0) (ln:=b+6)).mono ?_)
 rintro r S9 ⟨z9,rfl,hs9⟩
 rw [hx2] at hs9 ⊢
 refine rh [1,3,9,10,11] (k:=rs (k:=rs (k:=?_)))
 have K0:K21 b (b+8) (b+9) 0 x ⟨Dev.zero 512,fun _=>[],[],⟨0,0,0⟩⟩ S0 S9:=by
  rw [hs9]
  have h9:=k21_new (s0:=S0) (z:=z9) (n:=512) Y22 (show 0<4 from Y22) hxo hA2 hr2 Y21 hlo2
  rw [hx2] at h9
  exact h9
 clear hs9
 refine rr (k:=ro (pre:=[_,_,_]) (k:=rg1 (k:=rg1 (k:=ro (pre:=[_,_]) (k:=rg1 (k:=rC (h:=K0.count) (k:=rg1 (k:=rh [1,3,9,10,11,43] (k:=rc (ht:=fun hc0=>?_) (hf:=fun hc0=>?_))))))))))
 ·cases hc0
 ·refine rk (k:=rs (k:=rg [3,9,10,11,12] (k:=rs (k:=?_))))
  obtain ⟨p12,hp12⟩:∃ p,p=S9.nxt:=⟨_,rfl⟩
  rw [← hp12]
  refine rg [3,9,10,11,12,13,14] (k:=rs (k:=rs (k:=rg [3,9,10,11,12,13,14,15] (k:=rb (k:=?_)))))
  refine Run.loop (fun e s'=>∃ (k m e9:Nat) (v:Us) (T:Tp),e=[(3,.sl .unk (al.map Au.pv)),(9,.ptr s.nxt 0 0),(10,.ptr (b+6) 0 0),(11,.ptr (b+9) 0 0),(12,.ptr p12 0 0),(13,.int .i64 (m:Int)),(14,.int .i64 (e9:Int)),(15,.int .i64 (k:Int))]∧k≤20∧m≤k∧e9≤m∧v.c.m=(m:Int)∧v.c.e=(e9:Int)∧v.l.length≤18*k∧K21 b (b+8) (b+9) 0 x v S0 s'∧T.ok∧s'.blk p12=some (.row 67 [(T).pv])∧b+9<p12∧p12<s'.nxt) (fun e s'=>20-ivar e 15) ?_ ?_
  ·exact ⟨0,0,0,_,⟨ul,0⟩,rfl,Nat.zero_le _,Nat.zero_le _,Nat.zero_le _,rfl,rfl,Nat.le_refl _,K0.nw _,hT0,by rw [hTv,hp12];exact blk_new_eq,by have:=K0.pos;omega,by rw [hp12];exact Nat.lt_succ_self _⟩
  rintro e S1 ⟨k,m,e9,v,T,rfl,hk,hmk,hem,hvm,hve,hvl,hK,hT,hpr,hp1,hp2⟩
  have hKp:=hK.pos
  refine rs (k:=rs (k:=?_))
  have hkw:k<20→IntKind.i64.wrap ((k:Int)+1)=((k+1:Nat):Int):=fun h=>Y28
  refine rg [3,9,10,11,12,13,14,15,48] (k:=rc (ht:=fun hc1=>?_) (hf:=fun hc1=>?_))
  ·refine rk (k:=rs (k:=rb (k:=rs (k:=?_))))
   have hk20':k<20:=Y79
   have hw:IntKind.i64.wrap ((k:Int)+1)=((k+1:Nat):Int):=hkw hk20'
   have H:=aj hw H
   refine Run.join (fun e s'=>∃ v9:Us,e=[(3,.sl .unk (al.map Au.pv)),(9,.ptr s.nxt 0 0),(10,.ptr (b+6) 0 0),(11,.ptr (b+9) 0 0),(12,.ptr p12 0 0),(13,.int .i64 (m:Int)),(14,.int .i64 (e9:Int)),(15,.int .i64 (k:Int))]∧v9.c=v.c∧v9.l=v.l∧K21 b (b+8) (b+9) 0 x v9 S0 s'∧T.ok∧s'.blk p12=some (.row 67 [(T).pv])∧b+9<p12∧p12<s'.nxt) ?_ ?_
   ·rintro e S3 ⟨v,rfl,hvc,hvl9,hK3,hT3,h3p,hp1',hp3⟩
    rw [← hvc] at hvm hve
    rw [← hvl9] at hvl
    refine rs (k:=rr (k:=ro (pre:=[_]) (k:=?_)))
    refine RunO.callw au au au Y26 ((tape_Request hT3 (tp:=p12) h3p).mono ?_)
    rintro r S4 ⟨q,T',rfl,hs4,hT4,hqo,hqr⟩
    have hqv:q.pv=.agg [.int .i64 q.fn,.int .i64 q.at_,.int .i64 q.count,.int .i64 q.wat,.int .i64 q.sub,.sl .unk (q.bits.map PV.bool),.sl .unk (q.vals.map (PV.int .u16)),.int .u16 q.and_,.int .u16 q.or_]:=rfl
    have hn4:S4.nxt=S3.nxt:=by rw [hs4];rfl
    have hK4:K21 b (b+8) (b+9) 0 x v S0 S4:=by rw [hs4];exact hK3.st Y21 h3p _
    have h4p:S4.blk p12=some (.row 67 [(T').pv]):=by rw [hs4];exact blk_set_self _ _ _
    clear hs4
    have H:=aj hqv H
    refine rh [3,9,10,11,12,13,14,15,16] (k:=rs (k:=rs (k:=?_)))
    refine Run.genS fun S5 hS=>?_
    have h5q:S5.blk S4.nxt=some (.row 47 [.agg [.int .i64 q.fn,.int .i64 q.at_,.int .i64 q.count,.int .i64 q.wat,.int .i64 q.sub,.sl .unk (q.bits.map PV.bool),.sl .unk (q.vals.map (PV.int .u16)),.int .u16 q.and_,.int .u16 q.or_]]):=Y340
    have hK5:K21 b (b+8) (b+9) 0 x v S0 S5:=by rw [hS];first | exact hK4.nw _ | exact (hK4.nw _).st (by show b+9<S4.nxt;omega) blk_new_eq _
    have h5p:S5.blk p12=some (.row 67 [(T').pv]):=by rw [hS];first |(rw [blk_new_ne Y21];exact h4p) |(rw [blk_set_ne Y21,blk_new_ne Y21];exact h4p)
    have h5x:S5.blk s.nxt=some (.row 28 [.agg [.int .i64 (x).unit,.int .u32 (x).fns,.int .i64 (x).queue,.sl .unk ((x).wins.map Win.pv),.sl .unk ((x).slts.map Slt.pv)]]):=by rw [hK5.low _ Y21];exact ht0
    have hn5:S5.nxt=S4.nxt+1:=Y155
    clear hS
    have hpo:OkB (bytesF q):=by rw [right_bytes hqr];exact writeF_ok hqo hqr
    have hpl:(bytesF q).length≤100000:=by rw [right_bytes hqr];have:=writeF_len hqr;omega
    have hwk:IntKind.i64.wrap ((k:Int)*90)=(k:Int)*90:=wrap_i64 Y21
    have H:=aj h5q (aj h5x (aj hwk (aj hw trivial)))
    refine rg [3,9,10,11,12,13,14,15,16,67] (k:=rc (ht:=fun hc3=>?_) (hf:=fun hc3=>?_))
    ·refine rX (k:=rg [3,9,10,11,12,13,14,15] (k:=?_))
     refine Run.lp ⟨⟨k+1,m,e9,v,T',rfl,Y21,Y21,Y21,hvm,hve,Y21,hK5,hT4,h5p,hp1,Y21⟩,?_⟩
     simp only [ivar,go_sem,↓reduceIte,Nat.reduceEqDiff]
     omega
    ·refine rk (k:=rs (k:=?_))
     have h8:¬ q.fn=8:=of_decide_eq_false hc3
     refine rr (k:=ro (pre:=[_]) (k:=rC (h:=ref3_Bytes hqo) (k:=rh [3,9,10,11,12,13,14,15,16,17] (k:=rs (k:=rr (k:=ro (pre:=[_,_,_,_,_,_,_,_]) (k:=?_)))))))
     refine RunO.callw au au au Y26 ((hK5.serve Y21 (pdu:=bytesF q) hpo hpl (mid:=(k:Int)) (mun:=x.unit) (tick:=(k:Int)*90) Y21).mono ?_)
     rintro r S6 ⟨rfl,hK6,hn6,hr6,hl6⟩
     obtain ⟨w,lw,hwl,hw0,hw1,hw2,hw3,hw4⟩:=serve_law (T:=0) (tick:=(k:Int)*90) hK5.ok Y21 hqo hqr h8 (t:=x)
     obtain ⟨P,hP⟩:∃ P,P=(serveU x 0 x.unit (bytesF q) ((k:Int)*90) v).1:=⟨_,rfl⟩
     obtain ⟨v2,hv2⟩:∃ P,P=(serveU x 0 x.unit (bytesF q) ((k:Int)*90) v).2:=⟨_,rfl⟩
     rw [← hP] at hwl ⊢
     rw [← hv2] at hK6 hl6 hw3 hw4
     refine rh [3,9,10,11,12,13,14,15,16,19] (k:=rs (k:=rs (k:=?_)))
     have h6q:S6.blk S4.nxt=some (.row 47 [.agg [.int .i64 q.fn,.int .i64 q.at_,.int .i64 q.count,.int .i64 q.wat,.int .i64 q.sub,.sl .unk (q.bits.map PV.bool),.sl .unk (q.vals.map (PV.int .u16)),.int .u16 q.and_,.int .u16 q.or_]]):=hr6 _ _ _ Y21 Y21 Y21 h5q
     have h6p:S6.blk p12=some (.row 67 [(T').pv]):=hr6 _ _ _ Y21 Y21 Y21 h5p
     have h7p:∀ z,(S6.new z).blk p12=some (.row 67 [(T').pv]):=fun z=>by rw [blk_new_ne Y21];exact h6p
     have hP0:(P.map (PV.int .u8))[0]? =some (.int .u8 w):=by rw [hwl];rfl
     have hPl:(0<P.length)=True:=eq_true (by rw [hwl];exact Nat.succ_pos _)
     have hPz:decide ((P.length:Int)=0)=false:=by rw [hwl];exact decide_eq_false (by rw [List.length_cons];omega)
     have hwc:IntKind.i64.wrap w=w:=wrap_i64 Y21
     have hwa:ibits .and .i64 w 127=q.fn:=by rw [ibits_and127,hw2]
     have hb8:∀ n:Int,decide (n=n)=true:=fun n=>decide_eq_true rfl
     have hwm:IntKind.i64.wrap ((m:Int)+1)=((m+1:Nat):Int):=Y28
     have hwe:IntKind.i64.wrap ((e9:Int)+1)=((e9+1:Nat):Int):=Y28
     have m1:(S4.nxt=S6.nxt)=False:=eq_false Y21
     have H:=aj h6q (aj hP0 (aj hPl (aj hPz (aj hwc (aj hwa (aj hb8 (aj hwm (aj hwe (aj m1 H)))))))))
     refine Run.drawC [] [3,9,10,11,12,13,14,15,19,102] Tryz.mixed Y26 ?_
     refine DetC.pre (pre:=[_,_,_,_,_]) au ?_
     refine DetC.gdo au au ?_
     refine DetC.gdo au au ?_
     refine DetC.gdo au au ?_
     refine DetC.gdo au au ?_
     refine DetC.pre (pre:=[_,_]) au ?_
     refine DetC.gdo au au ?_
     refine DetC.gdo au au ?_
     refine DetC.gdo au au ?_
     refine DetC.gdo au au ?_
     refine DetC.gdo au au ?_
     refine DetC.gdo au au ?_
     refine DetC.gdo au au ?_
     refine DetC.gdo au au ?_
     refine DetC.gdo au au ?_
     refine DetC.all au ?_
     refine re (k:=rc (ht:=fun hc4=>?_) (hf:=fun hc4=>?_))
     ·cases hc4
     ·refine rk (k:=rs (k:=rg [3,9,10,11,12,13,14,15,19] (k:=rs (k:=rg [3,9,10,11,12,13,14,15,109] (k:=rc (ht:=fun hc5=>?_) (hf:=fun hc5=>?_))))))
      ·refine rg [3,9,10,11,12,13,14,15] (k:=rB (k:=rg [3,9,10,11,12,13,14,15] (k:=?_)))
       have h127:127<w:=of_decide_eq_true hc5
       rw [if_pos h127] at hw4
       refine Run.lp ⟨⟨k+1,m+1,e9+1,v2,T',rfl,Y21,Y21,Y21,Y21,Y21,Y21,hK6.nw _,hT4,h7p _,hp1,by show p12<S6.nxt+1;omega⟩,?_⟩
       simp only [ivar,go_sem,↓reduceIte,Nat.reduceEqDiff]
       omega
      ·refine rk (k:=rB (k:=rg [3,9,10,11,12,13,14,15] (k:=?_)))
       have h127:¬ 127<w:=of_decide_eq_false hc5
       rw [if_neg h127] at hw4
       refine Run.lp ⟨⟨k+1,m+1,e9,v2,T',rfl,Y21,Y21,Y21,Y21,Y21,Y21,hK6.nw _,hT4,h7p _,hp1,by show p12<S6.nxt+1;omega⟩,?_⟩
       simp only [ivar,go_sem,↓reduceIte,Nat.reduceEqDiff]
       omega
   intro hJs11
   refine rs (k:=rg [3,9,10,11,12,13,14,15,54] (k:=rc (ht:=fun hc2=>?_) (hf:=fun hc2=>?_)))
   ·have hkl:k<al.length:=by have:=of_decide_eq_true hc2;omega
    obtain ⟨y,hye⟩:∃ z_,al[k]'hkl=z_:=⟨_,rfl⟩
    have hyy:(al.map Au.pv)[k]? =some (.agg [.int .i64 y.fault,.int .i64 y.unit,.bool y.hurt,.sl .unk (y.raw.map (PV.int .u8))]):=by rw [map_get hkl,hye];rfl
    have hklT:(k<al.length)=True:=eq_true hkl
    have H:=aj hyy (aj hklT H)
    refine rr (k:=ro (pre:=[_,_,_,_,_,_]) (k:=rC (h:=within_ (lo:=0) (hi:=4) Y22 Y22 Y22) (k:=?_)))
    refine RunO.callw au au au Y26 ((hK.hurt 0 (withinI y.fault 0 4)).mono ?_)
    rintro r S2 ⟨rfl,hK2,hn2,hr2⟩
    refine rl [3,9,10,11,12,13,14,15] (k:=?_)
    exact hJs11 _ _ ⟨{ v with FS:=hurtFS v.FS 0 (withinI y.fault 0 4) },rfl,rfl,rfl,hK2,hT,hr2 _ _ _ Y21 hp2 Y21 hpr,hp1,Y21⟩
   ·refine rk (k:=?_)
    refine Run.prune [3,9,10,11,12,13,14,15] rfl ?_
    exact hJs11 _ _ ⟨v,rfl,rfl,rfl,hK,hT,hpr,hp1,hp2⟩
  ·refine rX (k:=rs (k:=rr (k:=ro (pre:=[_]) (k:=rC (h:=hK.count) (k:=rC (h:=hK.get (sub:=11)) (k:=rh [11,13,14,20] (k:=rs (k:=rr (k:=ro (pre:=[_]) (k:=rC (h:=hK.count) (k:=rC (h:=hK.get (sub:=13)) (k:=rh [13,14,20,22] (k:=rs (k:=?_))))))))))))))
   have hg1:v.c.get 11=some (m:Int):=by
    show some (v.c.m%65536)=_
    rw [hvm];congr 1;omega
   have hg2:v.c.get 13=some (e9:Int):=by
    show some (v.c.e%65536)=_
    rw [hve];congr 1;omega
   have hb8:∀ n:Int,decide (n=n)=true:=fun n=>decide_eq_true rfl
   have w1:IntKind.i64.wrap (m:Int)=(m:Int):=wrap_i64 Y21
   have w2:IntKind.i64.wrap (e9:Int)=(e9:Int):=wrap_i64 Y21
   have H:=aj hg1 (aj hg2 (aj hb8 (aj w1 (aj w2 H))))
   refine rr (k:=ro (pre:=[_,_,_,_,_]) (k:=rg1 (k:=rg1 (k:=rg1 (k:=rg1 (k:=ro (pre:=[_,_]) (k:=rC (h:=law21_known) (k:=rh [8] (k:=rR (k:=?_))))))))))
   exact Ret.pure (r':=.bool true) (by simp only [Tryz.f4,go_sem,↓reduceIte]<;>rfl) rfl (by simp only [PV.blw]) hwf (fun i hi=>by rw [hK.low i Y21];exact hl0 i hi) ⟨rfl,rfl⟩
end Go.Proofs
namespace Go.Proofs
open Go.PM
set_option maxHeartbeats 2000000
theorem rd_ask21:Rd Tryz.prog 70 true fun p=>∃ q:Au,p=q.pv :=
 Rd.mono (rd_struct (fs:=[(0,3,1),(1,3,1),(2,4,1),(3,41,1)]) Y26 (.cons (rd_int (k:=.i64) Y26) (.cons (rd_int (k:=.i64) Y26) (.cons (rd_bool Y26)
  (.cons (rd_slice (e:=5) Y26 (by rw [Tryz.cz5];decide) (rd_int (k:=.u8) Y26)) (.nil _)))))) (by
  rintro p ⟨ps,rfl,_,_,rfl,⟨a,rfl,ha⟩,_,_,rfl,⟨b,rfl,hb⟩,_,_,rfl,⟨d,rfl⟩,_,_,rfl,⟨bs,rfl,hbs,bb⟩,rfl⟩
  obtain ⟨lb,rfl,kb⟩:=choose_list (f:=PV.int .u8) (q:=fun n=>U8 n) (l:=bs) fun x hx=>by
   obtain ⟨y,rfl,hy⟩:=hbs x hx
   exact ⟨y,rfl,wf_u8 hy⟩
  exact ⟨⟨a,b,d,lb⟩,rfl⟩)
theorem rd_asks21:Rd Tryz.prog 62 false fun p=>∃ qs:List Au,p=.sl .unk (qs.map Au.pv)∧qs.length*16≤140737488351232 :=
 Rd.mono (rd_slice (e:=70) Y26 (by rw [Tryz.cz70];decide) rd_ask21) (by
  rintro p ⟨els,rfl,h,hb⟩
  obtain ⟨qs,rfl,k⟩:=choose_list (f:=Au.pv) (q:=fun _=>True) fun x hx=>by
   obtain ⟨y,rfl⟩:=h x hx
   exact ⟨y,rfl,trivial⟩
  rw [List.length_map,Tryz.by70] at hb
  have hr:reachBytes=140737488351232:=rfl
  exact ⟨qs,rfl,Y21⟩)
end Go.Proofs

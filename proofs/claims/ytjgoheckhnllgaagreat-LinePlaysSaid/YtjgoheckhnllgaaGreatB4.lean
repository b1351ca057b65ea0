import Derived.Test.YtjgoheckhnllgaaGreatB3
import Derived.Test.YtjgoheckhnllgaaGreatB2
set_option linter.unusedVariables false
set_option linter.unusedSimpArgs false
namespace Go.Proofs
open Go.PM
set_option maxHeartbeats 2000000
def refRow (b:Nat) (D:Dev):Blk:=.row 70 [.agg [.ptr b 0 0,.int .i64 D.msgs,.int .i64 D.exc,.int .i64 D.unit]]
def rstRow (b n:Nat):Blk:=.row 104 [.agg [.int .i64 n,.own (b+1) 0 n,.own (b+3) 0 n,.own (b+2) 0 n,.own (b+4) 0 n]]
structure RefAt (b:Nat) (D:Dev) (s:St):Prop where
 st:s.blk b=some (rstRow b D.c0.length)
 c0:s.blk (b+1)=some (.row 4 (D.c0.map PV.bool))
 c1:s.blk (b+3)=some (.row 4 (D.c1.map PV.bool))
 v0:s.blk (b+2)=some (.row 42 (D.v0.map (PV.int .u16)))
 v1:s.blk (b+4)=some (.row 42 (D.v1.map (PV.int .u16)))
 dv:s.blk (b+5)=some (refRow b D)
def putRef (b:Nat) (D:Dev) (s:St):St:=((((s.set (b+1) (some (.row 4 (D.c0.map PV.bool)))).set (b+3) (some (.row 4 (D.c1.map PV.bool)))).set (b+2) (some (.row 42 (D.v0.map (PV.int .u16))))).set (b+4) (some (.row 42 (D.v1.map (PV.int .u16))))).set (b+5) (some (refRow b D))
theorem putRef_blk (b:Nat) (D:Dev) (s:St) (i:Nat):(putRef b D s).blk i=if i=b+5 then some (refRow b D) else if i=b+4 then some (.row 42 (D.v1.map (PV.int .u16))) else if i=b+2 then some (.row 42 (D.v0.map (PV.int .u16))) else if i=b+3 then some (.row 4 (D.c1.map PV.bool)) else if i=b+1 then some (.row 4 (D.c0.map PV.bool)) else s.blk i:=rfl
theorem putRef_nxt (b:Nat) (D:Dev) (s:St):(putRef b D s).nxt=s.nxt:=rfl
theorem RefAt.of {b:Nat} {D:Dev} {s:St} (h:RefAt b D s) {D':Dev} {s':St} (h0:s'.blk b=s.blk b) (hl:D'.c0.length=D.c0.length) (h1:s'.blk (b+1)=some (.row 4 (D'.c0.map PV.bool))) (h3:s'.blk (b+3)=some (.row 4 (D'.c1.map PV.bool)))
  (h2:s'.blk (b+2)=some (.row 42 (D'.v0.map (PV.int .u16)))) (h4:s'.blk (b+4)=some (.row 42 (D'.v1.map (PV.int .u16)))) (h5:s'.blk (b+5)=some (refRow b D')):RefAt b D' s':=⟨by rw [h0,hl];exact h.st,h1,h3,h2,h4,h5⟩
theorem RefAt.put {b:Nat} {D:Dev} {s:St} (h:RefAt b D s) {D':Dev} (hl:D'.c0.length=D.c0.length):RefAt b D' (putRef b D' s):=by
 refine ⟨?_,?_,?_,?_,?_,?_⟩<;>rw [putRef_blk]
 ·exact Y385
 ·rw [if_neg Y14,if_neg Y14,if_neg Y14,if_neg Y14,if_pos rfl]
 ·rw [if_neg Y14,if_neg Y14,if_neg Y14,if_pos rfl]
 ·rw [if_neg Y14,if_neg Y14,if_pos rfl]
 ·rw [if_neg Y14,if_pos rfl]
 ·rw [if_pos rfl]
theorem eq_putRef {b:Nat} {D:Dev} {s s':St} (hn:s'.nxt=s.nxt) (h:RefAt b D s') (hk:∀ i,i<b+1∨b+5<i→s'.blk i=s.blk i):s'=putRef b D s:=by
 refine St.eq_of hn fun i=>?_
 rw [putRef_blk]
 by_cases e5:i=b+5
 ·rw [if_pos e5,e5];exact h.dv
 rw [if_neg e5]
 by_cases e4:i=b+4
 ·rw [if_pos e4,e4];exact h.v1
 rw [if_neg e4]
 by_cases e2:i=b+2
 ·rw [if_pos e2,e2];exact h.v0
 rw [if_neg e2]
 by_cases e3:i=b+3
 ·rw [if_pos e3,e3];exact h.c1
 rw [if_neg e3]
 by_cases e1:i=b+1
 ·rw [if_pos e1,e1];exact h.c0
 rw [if_neg e1]
 exact hk i Y14
theorem putRef_self {b:Nat} {D:Dev} {s:St} (h:RefAt b D s):putRef b D s=s:=(eq_putRef rfl h fun _ _=>rfl).symm
theorem putRef_put {b:Nat} {D D':Dev} {s:St}:putRef b D' (putRef b D s)=putRef b D' s:=by
 refine St.eq_of rfl fun i=>?_
 simp only [putRef_blk]
 (repeat' split)<;>first | rfl |(exfalso;omega)
theorem putRef_wf {b:Nat} {D D':Dev} {s:St} (hA:RefAt b D s) (hwf:s.wf):(putRef b D' s).wf:=by
 intro i hi
 rw [putRef_nxt] at hi
 have h5:=lt_blk hwf hA.dv
 rw [putRef_blk,if_neg Y14,if_neg Y14,if_neg Y14,if_neg Y14,if_neg Y14]
 exact hwf i hi
theorem putRef_blw {b:Nat} {D D':Dev} {s:St} (hA:RefAt b D s) (hwf:s.wf) (i:Nat) (bl:Blk) (h:(putRef b D' s).blk i=some bl):s.blk i=some bl∨bl.blw s.nxt:=by
 have h0:=lt_blk hwf hA.st
 rw [putRef_blk] at h
 repeat' split at h
 ·cases h;right;simp only [refRow,Blk.blw,PV.blw,PV.blws,and_true];exact h0
 ·exact Y386
 ·exact Y386
 ·exact Y152
 ·exact Y152
 ·exact .inl h
theorem Ret.refd {fn:Func} {args:List PV} {s0 s:St} {Q:PV→St→Prop} {e:Env} {r r':PV} {b:Nat} {D:Dev} (D':Dev) (hA:RefAt b D s0) (hr:retv Tryz.prog fn.results.toList e s=some r) (hr':r'=r.weak) (hb:r'.blw s0.nxt) (hwf:s0.wf)
  (hk:∀ i,i<s0.nxt→s.blk i=(putRef b D' s0).blk i) (h:Q r' (putRef b D' s0)):Ret Tryz.prog fn args s0 Q e s :=
 Ret.put (putRef b D' s0) hr hr' hb (putRef_wf hA hwf) rfl hk (putRef_blw hA hwf) h
theorem RefAt.lt {b:Nat} {D:Dev} {s:St} (h:RefAt b D s) (hwf:s.wf):b+5<s.nxt:=lt_blk hwf h.dv
theorem RefAt.nw {b:Nat} {D:Dev} {s:St} (h:RefAt b D s) (hl:b+5<s.nxt) (x:Blk):RefAt b D (s.new x):=by
 have e:∀ i,i≤b+5→(s.new x).blk i=s.blk i:=fun i hi=>blk_new_ne Y14
 exact ⟨Y259,Y260,Y261,Y262,Y263,Y264⟩
theorem RefAt.same {b:Nat} {D:Dev} {s s':St} (h:RefAt b D s) (e:∀ j,j≤b+5→s'.blk j=s.blk j):RefAt b D s' :=
 ⟨Y259,Y260,Y261,Y262,Y263,Y264⟩
theorem ref3_Refuse {fn code:Int} {s:St}:ACalls Tryz.prog 46 [.int .i64 fn,.int .i64 code] s (fun r s'=>r=(refuseP fn code).pv∧s'=s):=by
 refine go Tryz.func46 (k:=fun hwf H=>?_)
 have and127:ibits .and .i64 fn 127=fn%128:=ibits_and127 fn
 have and255:ibits .and .i64 code 255=code%256:=ibits_and255 code
 have H:=aj and127 (aj and255 H)
 have H:=aj and127 (aj and255 H)
 refine rs (k:=rg [0,1,4] (k:=rs (k:=rg [4] (k:=rR (k:=rP (by simp only [Tryz.f46,go_sem];rfl) hwf ⟨?_,rfl⟩)))))
 rfl
attribute [local go_sem] set_set
set_option maxRecDepth 100000 in
theorem ref8_New {n:Nat} {s:St} (h1:1≤n) (h2:n≤65536):ACalls Tryz.prog 44 [.int .i64 (n:Int)] s (fun r s'=>r=.ptr s.nxt 0 0∧s'=(((((((((((s.new (.row 104 [.agg [.int .i64 (n:Int),.sl .nil [],.sl .nil [],.sl .nil [],.sl .nil []]])).new .res).new .res).set (s.nxt+1) (some (.row 4 (List.replicate n (.bool false))))).set (s.nxt+2) (some (.row 42 (List.replicate n (.int .u16 0))))).set s.nxt (some (.row 104 [.agg [.int .i64 (n:Int),.own (s.nxt+1) 0 n,.sl .nil [],.own (s.nxt+2) 0 n,.sl .nil []]]))).new .res).new .res).set (s.nxt+3) (some (.row 4 (List.replicate n (.bool false))))).set (s.nxt+4) (some (.row 42 (List.replicate n (.int .u16 0))))).set s.nxt (some (.row 104 [.agg [.int .i64 (n:Int),.own (s.nxt+1) 0 n,.own (s.nxt+3) 0 n,.own (s.nxt+2) 0 n,.own (s.nxt+4) 0 n]])))):=by
 refine go Tryz.func44 (k:=fun hwf H=>?_)
 refine rs (k:=rg [0] (k:=rs (k:=rg [0,3] (k:=rs (k:=rs (k:=rg [0,3,8] (k:=rb (k:=?_))))))))
 refine Run.loop (fun e s'=>∃ i:Nat,i≤2∧e=[(0,.int .i64 (n:Int)),(3,.ptr s.nxt 0 0),(8,.int .i64 (i:Int))]∧s'=(if i=0 then (s.new (.row 104 [.agg [.int .i64 (n:Int),.sl .nil [],.sl .nil [],.sl .nil [],.sl .nil []]])) else if i=1 then ((((((s.new (.row 104 [.agg [.int .i64 (n:Int),.sl .nil [],.sl .nil [],.sl .nil [],.sl .nil []]])).new .res).new .res).set (s.nxt+1) (some (.row 4 (List.replicate n (.bool false))))).set (s.nxt+2) (some (.row 42 (List.replicate n (.int .u16 0))))).set s.nxt (some (.row 104 [.agg [.int .i64 (n:Int),.own (s.nxt+1) 0 n,.sl .nil [],.own (s.nxt+2) 0 n,.sl .nil []]]))) else (((((((((((s.new (.row 104 [.agg [.int .i64 (n:Int),.sl .nil [],.sl .nil [],.sl .nil [],.sl .nil []]])).new .res).new .res).set (s.nxt+1) (some (.row 4 (List.replicate n (.bool false))))).set (s.nxt+2) (some (.row 42 (List.replicate n (.int .u16 0))))).set s.nxt (some (.row 104 [.agg [.int .i64 (n:Int),.own (s.nxt+1) 0 n,.sl .nil [],.own (s.nxt+2) 0 n,.sl .nil []]]))).new .res).new .res).set (s.nxt+3) (some (.row 4 (List.replicate n (.bool false))))).set (s.nxt+4) (some (.row 42 (List.replicate n (.int .u16 0))))).set s.nxt (some (.row 104 [.agg [.int .i64 (n:Int),.own (s.nxt+1) 0 n,.own (s.nxt+3) 0 n,.own (s.nxt+2) 0 n,.own (s.nxt+4) 0 n]]))))) (fun e s'=>2-ivar e 8) ?_ ?_
 ·exact ⟨0,Y15,rfl,rfl⟩
 rintro e s' ⟨i,hi,rfl,hs⟩
 subst hs
 obtain rfl | rfl | rfl:i=0∨i=1∨i=2:=Y14
 ·refine rs (k:=rg [0,3,8,9] (k:=rs (k:=rc (ht:=fun hc0=>?_) (hf:=fun hc0=>?_))))
  ·refine rk (k:=rs (k:=rb (k:=rs (k:=rg [0,3,4,8] (k:=?_)))))
   refine Run.reserve (Run.reserve ?_)
   refine rH 16 [5,7,11,15] [[false,false,false,false],[true,false,false,false],[false,true,false,false],[true,true,false,false],[true,false,true,false],[true,true,true,false],[true,true,true,true]] [(((s.new (.row 104 [.agg [.int .i64 (n:Int),.sl .nil [],.sl .nil [],.sl .nil [],.sl .nil []]])).new .res).new .res),((((s.new (.row 104 [.agg [.int .i64 (n:Int),.sl .nil [],.sl .nil [],.sl .nil [],.sl .nil []]])).new .res).new .res).set (s.nxt+1) (some (.row 4 (List.replicate n (.bool false))))),((((s.new (.row 104 [.agg [.int .i64 (n:Int),.sl .nil [],.sl .nil [],.sl .nil [],.sl .nil []]])).new .res).new .res).set (s.nxt+2) (some (.row 42 (List.replicate n (.int .u16 0))))),(((((s.new (.row 104 [.agg [.int .i64 (n:Int),.sl .nil [],.sl .nil [],.sl .nil [],.sl .nil []]])).new .res).new .res).set (s.nxt+1) (some (.row 4 (List.replicate n (.bool false))))).set (s.nxt+2) (some (.row 42 (List.replicate n (.int .u16 0))))),(((((s.new (.row 104 [.agg [.int .i64 (n:Int),.sl .nil [],.sl .nil [],.sl .nil [],.sl .nil []]])).new .res).new .res).set (s.nxt+1) (some (.row 4 (List.replicate n (.bool false))))).set s.nxt (some (.row 104 [.agg [.int .i64 (n:Int),.own (s.nxt+1) 0 n,.sl .nil [],.sl .nil [],.sl .nil []]]))),((((((s.new (.row 104 [.agg [.int .i64 (n:Int),.sl .nil [],.sl .nil [],.sl .nil [],.sl .nil []]])).new .res).new .res).set (s.nxt+1) (some (.row 4 (List.replicate n (.bool false))))).set (s.nxt+2) (some (.row 42 (List.replicate n (.int .u16 0))))).set s.nxt (some (.row 104 [.agg [.int .i64 (n:Int),.own (s.nxt+1) 0 n,.sl .nil [],.sl .nil [],.sl .nil []]]))),((((((s.new (.row 104 [.agg [.int .i64 (n:Int),.sl .nil [],.sl .nil [],.sl .nil [],.sl .nil []]])).new .res).new .res).set (s.nxt+1) (some (.row 4 (List.replicate n (.bool false))))).set (s.nxt+2) (some (.row 42 (List.replicate n (.int .u16 0))))).set s.nxt (some (.row 104 [.agg [.int .i64 (n:Int),.own (s.nxt+1) 0 n,.sl .nil [],.own (s.nxt+2) 0 n,.sl .nil []]])))] Tryz.mixed (k:=?_)
   refine dP [0,1,2,3,4,5] (pre:=[_,_,_,_,_]) (k:=?_)
   refine DetHC.resMake (s.nxt+1) n [(0,1),(2,3)] _ Y19 pq au au au Tryz.td40 (by rw [Tryz.zp4]) Y14 Y367 Y31 ?_
   refine dP [0,1,4] (pre:=[_]) (k:=?_)
   refine DetHC.resMake (s.nxt+2) n [(0,2),(1,3),(4,5)] _ Y19 pq au au au Tryz.td41 (by rw [Tryz.zp42]) Y14 Y314 Y32 ?_
   refine dP [0,1,2,3] (pre:=[_,_,_]) (k:=?_)
   refine dE [(1,4),(3,5)] (k:=?_)
   refine dP [0,1,2,3,4,5] (pre:=[_,_,_]) (k:=?_)
   refine dE [(5,6)] (k:=?_)
   refine DetHC.nil ?_
   refine rl [0,3,8] (k:=rB (k:=rg [0,3,8] (k:=?_)))
   refine Run.lp ⟨⟨1,Y15,Y380,Y380⟩,?_⟩
   simp only [ivar,go_sem,↓reduceIte,Nat.reduceEqDiff]
   decide
  ·cases hc0
 ·refine rs (k:=rg [0,3,8,9] (k:=rs (k:=rc (ht:=fun hc0=>?_) (hf:=fun hc0=>?_))))
  ·refine rk (k:=rs (k:=rb (k:=rs (k:=rg [0,3,4,8] (k:=?_)))))
   refine Run.reserve (Run.reserve ?_)
   refine rH 16 [5,7,11,15] [[false,false,false,false],[true,false,false,false],[false,true,false,false],[true,true,false,false],[true,false,true,false],[true,true,true,false],[true,true,true,true]] [((((((((s.new (.row 104 [.agg [.int .i64 (n:Int),.sl .nil [],.sl .nil [],.sl .nil [],.sl .nil []]])).new .res).new .res).set (s.nxt+1) (some (.row 4 (List.replicate n (.bool false))))).set (s.nxt+2) (some (.row 42 (List.replicate n (.int .u16 0))))).set s.nxt (some (.row 104 [.agg [.int .i64 (n:Int),.own (s.nxt+1) 0 n,.sl .nil [],.own (s.nxt+2) 0 n,.sl .nil []]]))).new .res).new .res),(((((((((s.new (.row 104 [.agg [.int .i64 (n:Int),.sl .nil [],.sl .nil [],.sl .nil [],.sl .nil []]])).new .res).new .res).set (s.nxt+1) (some (.row 4 (List.replicate n (.bool false))))).set (s.nxt+2) (some (.row 42 (List.replicate n (.int .u16 0))))).set s.nxt (some (.row 104 [.agg [.int .i64 (n:Int),.own (s.nxt+1) 0 n,.sl .nil [],.own (s.nxt+2) 0 n,.sl .nil []]]))).new .res).new .res).set (s.nxt+3) (some (.row 4 (List.replicate n (.bool false))))),(((((((((s.new (.row 104 [.agg [.int .i64 (n:Int),.sl .nil [],.sl .nil [],.sl .nil [],.sl .nil []]])).new .res).new .res).set (s.nxt+1) (some (.row 4 (List.replicate n (.bool false))))).set (s.nxt+2) (some (.row 42 (List.replicate n (.int .u16 0))))).set s.nxt (some (.row 104 [.agg [.int .i64 (n:Int),.own (s.nxt+1) 0 n,.sl .nil [],.own (s.nxt+2) 0 n,.sl .nil []]]))).new .res).new .res).set (s.nxt+4) (some (.row 42 (List.replicate n (.int .u16 0))))),((((((((((s.new (.row 104 [.agg [.int .i64 (n:Int),.sl .nil [],.sl .nil [],.sl .nil [],.sl .nil []]])).new .res).new .res).set (s.nxt+1) (some (.row 4 (List.replicate n (.bool false))))).set (s.nxt+2) (some (.row 42 (List.replicate n (.int .u16 0))))).set s.nxt (some (.row 104 [.agg [.int .i64 (n:Int),.own (s.nxt+1) 0 n,.sl .nil [],.own (s.nxt+2) 0 n,.sl .nil []]]))).new .res).new .res).set (s.nxt+3) (some (.row 4 (List.replicate n (.bool false))))).set (s.nxt+4) (some (.row 42 (List.replicate n (.int .u16 0))))),((((((((((s.new (.row 104 [.agg [.int .i64 (n:Int),.sl .nil [],.sl .nil [],.sl .nil [],.sl .nil []]])).new .res).new .res).set (s.nxt+1) (some (.row 4 (List.replicate n (.bool false))))).set (s.nxt+2) (some (.row 42 (List.replicate n (.int .u16 0))))).set s.nxt (some (.row 104 [.agg [.int .i64 (n:Int),.own (s.nxt+1) 0 n,.sl .nil [],.own (s.nxt+2) 0 n,.sl .nil []]]))).new .res).new .res).set (s.nxt+3) (some (.row 4 (List.replicate n (.bool false))))).set s.nxt (some (.row 104 [.agg [.int .i64 (n:Int),.own (s.nxt+1) 0 n,.own (s.nxt+3) 0 n,.own (s.nxt+2) 0 n,.sl .nil []]]))),(((((((((((s.new (.row 104 [.agg [.int .i64 (n:Int),.sl .nil [],.sl .nil [],.sl .nil [],.sl .nil []]])).new .res).new .res).set (s.nxt+1) (some (.row 4 (List.replicate n (.bool false))))).set (s.nxt+2) (some (.row 42 (List.replicate n (.int .u16 0))))).set s.nxt (some (.row 104 [.agg [.int .i64 (n:Int),.own (s.nxt+1) 0 n,.sl .nil [],.own (s.nxt+2) 0 n,.sl .nil []]]))).new .res).new .res).set (s.nxt+3) (some (.row 4 (List.replicate n (.bool false))))).set (s.nxt+4) (some (.row 42 (List.replicate n (.int .u16 0))))).set s.nxt (some (.row 104 [.agg [.int .i64 (n:Int),.own (s.nxt+1) 0 n,.own (s.nxt+3) 0 n,.own (s.nxt+2) 0 n,.sl .nil []]]))),(((((((((((s.new (.row 104 [.agg [.int .i64 (n:Int),.sl .nil [],.sl .nil [],.sl .nil [],.sl .nil []]])).new .res).new .res).set (s.nxt+1) (some (.row 4 (List.replicate n (.bool false))))).set (s.nxt+2) (some (.row 42 (List.replicate n (.int .u16 0))))).set s.nxt (some (.row 104 [.agg [.int .i64 (n:Int),.own (s.nxt+1) 0 n,.sl .nil [],.own (s.nxt+2) 0 n,.sl .nil []]]))).new .res).new .res).set (s.nxt+3) (some (.row 4 (List.replicate n (.bool false))))).set (s.nxt+4) (some (.row 42 (List.replicate n (.int .u16 0))))).set s.nxt (some (.row 104 [.agg [.int .i64 (n:Int),.own (s.nxt+1) 0 n,.own (s.nxt+3) 0 n,.own (s.nxt+2) 0 n,.own (s.nxt+4) 0 n]])))] Tryz.mixed (k:=?_)
   refine dP [0,1,2,3,4,5] (pre:=[_,_,_,_,_]) (k:=?_)
   refine DetHC.resMake (s.nxt+3) n [(0,1),(2,3)] _ Y19 pq au au au Tryz.td40 (by rw [Tryz.zp4]) Y14 Y367 Y31 ?_
   refine dP [0,1,4] (pre:=[_]) (k:=?_)
   refine DetHC.resMake (s.nxt+4) n [(0,2),(1,3),(4,5)] _ Y19 pq au au au Tryz.td41 (by rw [Tryz.zp42]) Y14 Y314 Y32 ?_
   refine dP [0,1,2,3] (pre:=[_,_,_]) (k:=?_)
   refine dE [(1,4),(3,5)] (k:=?_)
   refine dP [0,1,2,3,4,5] (pre:=[_,_,_]) (k:=?_)
   refine dE [(5,6)] (k:=?_)
   refine DetHC.nil ?_
   refine rl [0,3,8] (k:=rB (k:=rg [0,3,8] (k:=?_)))
   refine Run.lp ⟨⟨2,Y15,Y380,Y380⟩,?_⟩
   simp only [ivar,go_sem,↓reduceIte,Nat.reduceEqDiff]
   decide
  ·cases hc0
 ·refine rs (k:=rg [0,3,8,9] (k:=rs (k:=rc (ht:=fun hc0=>?_) (hf:=fun hc0=>?_))))
  ·cases hc0
  ·refine rX (k:=rs (k:=rg [2] (k:=rR (k:=?_))))
   exact Ret.all (by simp only [Tryz.f44,go_sem,↓reduceIte]<;>rfl) ⟨rfl,rfl⟩
set_option maxRecDepth 100000 in
theorem ref8_NewDevice {n:Nat} {s:St} (h1:1≤n) (h2:n≤65536):ACalls Tryz.prog 21 [.int .i64 (n:Int)] s (fun r s'=>r=.ptr (s.nxt+5) 0 0∧RefAt s.nxt (Dev.zero n) s'∧(∀ i,i<s.nxt→s'.blk i=s.blk i)∧s'.nxt=s.nxt+6):=by
 refine go Tryz.func21 (k:=fun hwf H=>?_)
 refine rs (k:=rg [0] (k:=rs (k:=rr (k:=ro (pre:=[_]) (k:=?_)))))
 refine RunO.callw au au au Y19 ((ref8_New h1 h2).mono ?_)
 rintro r s1 ⟨rfl,rfl⟩
 refine rh [2] (k:=rR (k:=?_))
 refine Ret.all (by simp only [Tryz.f21,go_sem,↓reduceIte]<;>rfl) ⟨rfl,⟨?_,?_,?_,?_,?_,?_⟩,fun i hi=>?_,rfl⟩
 refine jO 1 ?_;rotate_left
 refine jO 1 ?_;rotate_left
 refine jO 1 ?_;rotate_left
 refine jO 1 ?_;rotate_left
 refine jO 1 ?_;rotate_left
 ·simp (disch:=first | omega |(simp only [nxt_set,nxt_new]<;>omega) | fail) only [go_sem,↓reduceIte,Nat.add_assoc,Nat.reduceAdd]
  simp [refRow,Dev.zero]
 ·exact Y153
 any_goals
  refine jI 1 ?_
  simp (disch:=first | omega |(simp only [nxt_set,nxt_new]<;>omega) | fail) only [go_sem]
  simp [rstRow,refRow,Dev.zero]
theorem ref8_there {s:St} {st b0 b1 v0 v1 n:Nat} (hst:s.blk st=some (.row 104 [.agg [.int .i64 (n:Int),.own b0 0 n,.own b1 0 n,.own v0 0 n,.own v1 0 n]])) (hn:n≤65536) {a m:Int}:ACalls Tryz.prog 84 [.ptr st 0 0,.int .i64 a,.int .i64 m] s (fun r s'=>r=.bool (thereF n a m)∧s'=s):=by
 refine go Tryz.func84 (k:=fun hwf H=>?_)
 have H:=aj hst H
 refine rs (k:=rg [0,1,2] (k:=rs (k:=rg [6] (k:=rR (k:=?_)))))
 refine Ret.all (by simp only [Tryz.f84,go_sem,↓reduceIte]<;>rfl) ⟨?_,rfl⟩
 refine congrArg PV.bool ?_
 unfold thereF
 by_cases h0:0≤a
 ·exact Y151
 ·simp [h0]
theorem Y45 {p:Prop} (h:p:=by
 simp (disch:=omega) only [go_sem,↓reduceIte,hst,hb,hw]
 rw [if_pos ⟨Y15,Y14,Y14⟩,if_neg (show ¬ ((x:Int)=n) from Y14)]
 by_cases hx0:(x:Int)=0
 ·rw [if_pos hx0]
  have:x=0:=by omega
  subst this
  simp
 ·rw [if_neg hx0]
  have:(((x+y:Nat):Int)-(x:Int)).toNat=y:=by omega
  rw [this]):p:=h
theorem Y213 {p:Prop} (h:p:=by rw [hcc,List.length_take,List.length_drop];omega):p:=h
theorem Y214 {p:Prop} (h:p:=by simp only [Tryz.f85,go_sem,↓reduceIte]<;>rfl):p:=h
theorem Y275 {p:Prop} (h:p:=by unfold cutF;rw [hn,htT,if_pos rfl];rfl):p:=h
theorem Y276 {p:Prop} (h:p:=by rw [hcc,List.map_take,List.map_drop]):p:=h
theorem ref8_get0 {s:St} {st b0 b1 v0 v1 n:Nat} (hst:s.blk st=some (.row 104 [.agg [.int .i64 (n:Int),.own b0 0 n,.own b1 0 n,.own v0 0 n,.own v1 0 n]])) {l:List Bool} (hb:s.blk b0=some (.row 4 (l.map PV.bool))) (hn:l.length=n) (hn2:n≤65536) {a m:Int} (hm:1≤m):ACalls Tryz.prog 85 [.ptr st 0 0,.int .i64 0,.int .i64 a,.int .i64 m] s (fun r s'=>r=.tuple [.sl .unk ((cutF l a m).map PV.bool),.bool (thereF n a m)]∧s'=s):=by
 refine go Tryz.func85 (k:=fun hwf H=>?_)
 have f0:((0:Int)<((2:Nat):Int))=True:=Y15
 have f1:((1:Int)<((2:Nat):Int))=True:=Y15
 have ft:Int.toNat 1=1:=rfl
 have f2:((0:Int)≤1)=True:=Y15
 have H:=aj f0 (aj f1 (aj ft (aj f2 H)))
 have H:=aj hst (aj hb H)
 refine rs (k:=rg [0,1,2,3] (k:=rs (k:=rs (k:=rr (k:=ro (pre:=[_,_,_,_,_,_,_,_,_,_]) (k:=rG (h:=fun hb=>ref8_there hst hn2) (k:=rh [0,1,2,3,22] (k:=rc (ht:=fun hc0=>?_) (hf:=fun hc0=>?_)))))))))
 refine rs (k:=rg [8,9] (k:=rR (k:=?_)))
 refine jO 1 ?_;rotate_left
 refine rk (k:=rs (k:=?_))
 have htT:thereF n a m=true:=Y77
 have htt:=htT
 unfold thereF at htt
 have htt:=of_decide_eq_true htt
 obtain ⟨x,rfl⟩:∃ x:Nat,a=x:=⟨a.toNat,(Int.toNat_of_nonneg htt.1).symm⟩
 obtain ⟨y,rfl⟩:∃ y:Nat,m=y:=⟨m.toNat,(Int.toNat_of_nonneg Y14).symm⟩
 have hw:IntKind.i64.wrap ((x:Int)+y)=((x+y:Nat):Int):=Y21
 have hcc:cutF l (x:Int) (y:Int)=(l.drop x).take y:=Y275
 have hcl:(cutF l (x:Int) (y:Int)).length≤65536:=Y213
 have H:=aj hw H
 refine rr (k:=rO (k:=ro (pre:=[_,_,_,_,_,_,_,_,_,_]) (k:=?_)))
 refine RunO.gdo au (v:=.own b0 x y) (s':=s) Y45 ?_
 refine RunO.appendFrom (els:=l.map PV.bool) (ys:=(cutF l (x:Int) (y:Int)).map PV.bool) au au au hb Y276 Y199 Tryz.td40 Y191 (isEls_map (P:=Tryz.prog) (e:=4) (f:=PV.bool) (fun a=>⟨rfl,Y251⟩) _) Y252 Y382 (.inr rfl) ?_
 intro k1 s1 hm1
 refine rh [8,9] (k:=rR (k:=?_))
 refine jO 1 ?_;rotate_left
 any_goals
  refine jI 1 ?_
  first
   |(have htF:thereF n a m=false:=by simpa using hc0
     refine Ret.pure (r':=.tuple [.sl .unk ((cutF l a m).map PV.bool),.bool (thereF n a m)]) Y214 ?_ Y83 hwf (fun _ _=>rfl) ⟨rfl,rfl⟩
     simp only [PV.weak,PV.weaks,weaks_bools]
     unfold cutF
     rw [hn,htF];rfl)
   |(refine Ret.pure (r':=.tuple [.sl .unk ((cutF l (x:Int) (y:Int)).map PV.bool),.bool (thereF n (x:Int) (y:Int))]) Y214 ?_ Y83 hwf (hm1.fr hwf).blk ⟨rfl,rfl⟩
     simp only [PV.weak,PV.weaks,weaks_bools]
     rw [htT])
theorem ref8_get1 {s:St} {st b0 b1 v0 v1 n:Nat} (hst:s.blk st=some (.row 104 [.agg [.int .i64 (n:Int),.own b0 0 n,.own b1 0 n,.own v0 0 n,.own v1 0 n]])) {l:List Bool} (hb:s.blk b1=some (.row 4 (l.map PV.bool))) (hn:l.length=n) (hn2:n≤65536) {a m:Int} (hm:1≤m):ACalls Tryz.prog 85 [.ptr st 0 0,.int .i64 1,.int .i64 a,.int .i64 m] s (fun r s'=>r=.tuple [.sl .unk ((cutF l a m).map PV.bool),.bool (thereF n a m)]∧s'=s):=by
 refine go Tryz.func85 (k:=fun hwf H=>?_)
 have f0:((0:Int)<((2:Nat):Int))=True:=Y15
 have f1:((1:Int)<((2:Nat):Int))=True:=Y15
 have ft:Int.toNat 1=1:=rfl
 have f2:((0:Int)≤1)=True:=Y15
 have H:=aj f0 (aj f1 (aj ft (aj f2 H)))
 have H:=aj hst (aj hb H)
 refine rs (k:=rg [0,1,2,3] (k:=rs (k:=rs (k:=rr (k:=ro (pre:=[_,_,_,_,_,_,_,_,_,_]) (k:=rG (h:=fun hb=>ref8_there hst hn2) (k:=rh [0,1,2,3,22] (k:=rc (ht:=fun hc0=>?_) (hf:=fun hc0=>?_)))))))))
 refine rs (k:=rg [8,9] (k:=rR (k:=?_)))
 refine jO 1 ?_;rotate_left
 refine rk (k:=rs (k:=?_))
 have htT:thereF n a m=true:=Y77
 have htt:=htT
 unfold thereF at htt
 have htt:=of_decide_eq_true htt
 obtain ⟨x,rfl⟩:∃ x:Nat,a=x:=⟨a.toNat,(Int.toNat_of_nonneg htt.1).symm⟩
 obtain ⟨y,rfl⟩:∃ y:Nat,m=y:=⟨m.toNat,(Int.toNat_of_nonneg Y14).symm⟩
 have hw:IntKind.i64.wrap ((x:Int)+y)=((x+y:Nat):Int):=Y21
 have hcc:cutF l (x:Int) (y:Int)=(l.drop x).take y:=Y275
 have hcl:(cutF l (x:Int) (y:Int)).length≤65536:=Y213
 have H:=aj hw H
 refine rr (k:=rO (k:=ro (pre:=[_,_,_,_,_,_,_,_,_,_]) (k:=?_)))
 refine RunO.gdo au (v:=.own b1 x y) (s':=s) Y45 ?_
 refine RunO.appendFrom (els:=l.map PV.bool) (ys:=(cutF l (x:Int) (y:Int)).map PV.bool) au au au hb Y276 Y199 Tryz.td40 Y191 (isEls_map (P:=Tryz.prog) (e:=4) (f:=PV.bool) (fun a=>⟨rfl,Y251⟩) _) Y252 Y382 (.inr rfl) ?_
 intro k1 s1 hm1
 refine rh [8,9] (k:=rR (k:=?_))
 refine jO 1 ?_;rotate_left
 any_goals
  refine jI 1 ?_
  first
   |(have htF:thereF n a m=false:=by simpa using hc0
     refine Ret.pure (r':=.tuple [.sl .unk ((cutF l a m).map PV.bool),.bool (thereF n a m)]) Y214 ?_ Y83 hwf (fun _ _=>rfl) ⟨rfl,rfl⟩
     simp only [PV.weak,PV.weaks,weaks_bools]
     unfold cutF
     rw [hn,htF];rfl)
   |(refine Ret.pure (r':=.tuple [.sl .unk ((cutF l (x:Int) (y:Int)).map PV.bool),.bool (thereF n (x:Int) (y:Int))]) Y214 ?_ Y83 hwf (hm1.fr hwf).blk ⟨rfl,rfl⟩
     simp only [PV.weak,PV.weaks,weaks_bools]
     rw [htT])
theorem Y215 {p:Prop} (h:p:=by simp only [Tryz.f86,go_sem,↓reduceIte]<;>rfl):p:=h
theorem ref8_get2 {s:St} {st b0 b1 v0 v1 n:Nat} (hst:s.blk st=some (.row 104 [.agg [.int .i64 (n:Int),.own b0 0 n,.own b1 0 n,.own v0 0 n,.own v1 0 n]])) {l:List Int} (hb:s.blk v0=some (.row 42 (l.map (PV.int .u16)))) (hn:l.length=n) (hn2:n≤65536) {a m:Int} (hm:1≤m):ACalls Tryz.prog 86 [.ptr st 0 0,.int .i64 2,.int .i64 a,.int .i64 m] s (fun r s'=>r=.tuple [.sl .unk ((cutF l a m).map (PV.int .u16)),.bool (thereF n a m)]∧s'=s):=by
 refine go Tryz.func86 (k:=fun hwf H=>?_)
 have f0:((0:Int)<((2:Nat):Int))=True:=Y15
 have f1:((1:Int)<((2:Nat):Int))=True:=Y15
 have ft:Int.toNat 1=1:=rfl
 have f2:((0:Int)≤1)=True:=Y15
 have H:=aj f0 (aj f1 (aj ft (aj f2 H)))
 have w0:IntKind.i64.wrap (2-2)=0:=Y15
 have H:=aj w0 H
 have H:=aj hst (aj hb H)
 refine rs (k:=rg [0,1,2,3] (k:=rs (k:=rs (k:=rr (k:=ro (pre:=[_,_,_,_,_,_,_,_,_,_]) (k:=rG (h:=fun hb=>ref8_there hst hn2) (k:=rh [0,1,2,3,22] (k:=rc (ht:=fun hc0=>?_) (hf:=fun hc0=>?_)))))))))
 refine rs (k:=rg [8,9] (k:=rR (k:=?_)))
 refine jO 1 ?_;rotate_left
 refine rk (k:=rs (k:=?_))
 have htT:thereF n a m=true:=Y77
 have htt:=htT
 unfold thereF at htt
 have htt:=of_decide_eq_true htt
 obtain ⟨x,rfl⟩:∃ x:Nat,a=x:=⟨a.toNat,(Int.toNat_of_nonneg htt.1).symm⟩
 obtain ⟨y,rfl⟩:∃ y:Nat,m=y:=⟨m.toNat,(Int.toNat_of_nonneg Y14).symm⟩
 have hw:IntKind.i64.wrap ((x:Int)+y)=((x+y:Nat):Int):=Y21
 have hcc:cutF l (x:Int) (y:Int)=(l.drop x).take y:=Y275
 have hcl:(cutF l (x:Int) (y:Int)).length≤65536:=Y213
 have H:=aj hw H
 refine rr (k:=rO (k:=ro (pre:=[_,_,_,_,_,_,_,_,_,_,_]) (k:=?_)))
 refine RunO.gdo au (v:=.own v0 x y) (s':=s) Y45 ?_
 refine RunO.appendFrom (els:=l.map (PV.int .u16)) (ys:=(cutF l (x:Int) (y:Int)).map (PV.int .u16)) au au au hb Y276 Y199 Tryz.td41 Y140 (isEls_map (P:=Tryz.prog) (e:=42) (f:=(PV.int .u16)) (fun a=>⟨rfl,Y141⟩) _) Y142 Y383 (.inr rfl) ?_
 intro k1 s1 hm1
 refine rh [8,9] (k:=rR (k:=?_))
 refine jO 1 ?_;rotate_left
 any_goals
  refine jI 1 ?_
  first
   |(have htF:thereF n a m=false:=by simpa using hc0
     refine Ret.pure (r':=.tuple [.sl .unk ((cutF l a m).map (PV.int .u16)),.bool (thereF n a m)]) Y215 ?_ Y84 hwf (fun _ _=>rfl) ⟨rfl,rfl⟩
     simp only [PV.weak,PV.weaks,weaks_u16]
     unfold cutF
     rw [hn,htF];rfl)
   |(refine Ret.pure (r':=.tuple [.sl .unk ((cutF l (x:Int) (y:Int)).map (PV.int .u16)),.bool (thereF n (x:Int) (y:Int))]) Y215 ?_ Y84 hwf (hm1.fr hwf).blk ⟨rfl,rfl⟩
     simp only [PV.weak,PV.weaks,weaks_u16]
     rw [htT])
theorem ref8_get3 {s:St} {st b0 b1 v0 v1 n:Nat} (hst:s.blk st=some (.row 104 [.agg [.int .i64 (n:Int),.own b0 0 n,.own b1 0 n,.own v0 0 n,.own v1 0 n]])) {l:List Int} (hb:s.blk v1=some (.row 42 (l.map (PV.int .u16)))) (hn:l.length=n) (hn2:n≤65536) {a m:Int} (hm:1≤m):ACalls Tryz.prog 86 [.ptr st 0 0,.int .i64 3,.int .i64 a,.int .i64 m] s (fun r s'=>r=.tuple [.sl .unk ((cutF l a m).map (PV.int .u16)),.bool (thereF n a m)]∧s'=s):=by
 refine go Tryz.func86 (k:=fun hwf H=>?_)
 have f0:((0:Int)<((2:Nat):Int))=True:=Y15
 have f1:((1:Int)<((2:Nat):Int))=True:=Y15
 have ft:Int.toNat 1=1:=rfl
 have f2:((0:Int)≤1)=True:=Y15
 have H:=aj f0 (aj f1 (aj ft (aj f2 H)))
 have w0:IntKind.i64.wrap (3-2)=1:=Y15
 have H:=aj w0 H
 have H:=aj hst (aj hb H)
 refine rs (k:=rg [0,1,2,3] (k:=rs (k:=rs (k:=rr (k:=ro (pre:=[_,_,_,_,_,_,_,_,_,_]) (k:=rG (h:=fun hb=>ref8_there hst hn2) (k:=rh [0,1,2,3,22] (k:=rc (ht:=fun hc0=>?_) (hf:=fun hc0=>?_)))))))))
 refine rs (k:=rg [8,9] (k:=rR (k:=?_)))
 refine jO 1 ?_;rotate_left
 refine rk (k:=rs (k:=?_))
 have htT:thereF n a m=true:=Y77
 have htt:=htT
 unfold thereF at htt
 have htt:=of_decide_eq_true htt
 obtain ⟨x,rfl⟩:∃ x:Nat,a=x:=⟨a.toNat,(Int.toNat_of_nonneg htt.1).symm⟩
 obtain ⟨y,rfl⟩:∃ y:Nat,m=y:=⟨m.toNat,(Int.toNat_of_nonneg Y14).symm⟩
 have hw:IntKind.i64.wrap ((x:Int)+y)=((x+y:Nat):Int):=Y21
 have hcc:cutF l (x:Int) (y:Int)=(l.drop x).take y:=Y275
 have hcl:(cutF l (x:Int) (y:Int)).length≤65536:=Y213
 have H:=aj hw H
 refine rr (k:=rO (k:=ro (pre:=[_,_,_,_,_,_,_,_,_,_,_]) (k:=?_)))
 refine RunO.gdo au (v:=.own v1 x y) (s':=s) Y45 ?_
 refine RunO.appendFrom (els:=l.map (PV.int .u16)) (ys:=(cutF l (x:Int) (y:Int)).map (PV.int .u16)) au au au hb Y276 Y199 Tryz.td41 Y140 (isEls_map (P:=Tryz.prog) (e:=42) (f:=(PV.int .u16)) (fun a=>⟨rfl,Y141⟩) _) Y142 Y383 (.inr rfl) ?_
 intro k1 s1 hm1
 refine rh [8,9] (k:=rR (k:=?_))
 refine jO 1 ?_;rotate_left
 any_goals
  refine jI 1 ?_
  first
   |(have htF:thereF n a m=false:=by simpa using hc0
     refine Ret.pure (r':=.tuple [.sl .unk ((cutF l a m).map (PV.int .u16)),.bool (thereF n a m)]) Y215 ?_ Y84 hwf (fun _ _=>rfl) ⟨rfl,rfl⟩
     simp only [PV.weak,PV.weaks,weaks_u16]
     unfold cutF
     rw [hn,htF];rfl)
   |(refine Ret.pure (r':=.tuple [.sl .unk ((cutF l (x:Int) (y:Int)).map (PV.int .u16)),.bool (thereF n (x:Int) (y:Int))]) Y215 ?_ Y84 hwf (hm1.fr hwf).blk ⟨rfl,rfl⟩
     simp only [PV.weak,PV.weaks,weaks_u16]
     rw [htT])
theorem Y95 {p:Prop} (h:p:=by
 simp (disch:=omega) only [go_sem,↓reduceIte,hst,hb]
 rw [if_pos ⟨Y15,Y14⟩,if_neg (show ¬ ((p:Int)=n) from Y14)]
 by_cases hx0:(p:Int)=0
 ·rw [if_pos hx0]
  have:p=0:=Y14
  subst this
  simp
 ·rw [if_neg hx0]
  have:((n:Int)-(p:Int)).toNat=n-p:=Y14
  rw [this]):p:=h
theorem ref8_put0 {s:St} {st b0 b1 v0 v1 n:Nat} (hst:s.blk st=some (.row 104 [.agg [.int .i64 (n:Int),.own b0 0 n,.own b1 0 n,.own v0 0 n,.own v1 0 n]])) {l x:List Bool} (hb:s.blk b0=some (.row 4 (l.map PV.bool))) (hn:l.length=n) (hn2:n≤65536) {a:Int} (hx:x≠[]) (hst2:b0≠st):ACalls Tryz.prog 87 [.ptr st 0 0,.int .i64 0,.int .i64 a,.sl .unk (x.map PV.bool)] s (fun r s'=>r=.bool (thereF n a x.length)∧s'=(if thereF n a x.length=true then s.set b0 (some (.row 4 ((overF l a.toNat x).map PV.bool))) else s)):=by
 refine go Tryz.func87 (k:=fun hwf H=>?_)
 have f0:((0:Int)<((2:Nat):Int))=True:=Y15
 have f1:((1:Int)<((2:Nat):Int))=True:=Y15
 have ft:Int.toNat 1=1:=rfl
 have f2:((0:Int)≤1)=True:=Y15
 have H:=aj f0 (aj f1 (aj ft (aj f2 H)))
 have H:=aj hst (aj hb H)
 refine rs (k:=rg [0,1,2,3] (k:=rs (k:=rs (k:=rr (k:=ro (pre:=[_,_,_,_,_,_,_,_,_,_,_]) (k:=rG (h:=fun hb=>ref8_there hst hn2) (k:=rh [0,1,2,3,22] (k:=rc (ht:=fun hc0=>?_) (hf:=fun hc0=>?_)))))))))
 refine rs (k:=rg [8] (k:=rR (k:=?_)))
 refine jO 1 ?_;rotate_left
 refine rk (k:=rs (k:=?_))
 have hxl:1≤x.length:=List.length_pos_iff.2 hx
 have htT:thereF n a x.length=true:=Y77
 have htt:=htT
 unfold thereF at htt
 have htt:=of_decide_eq_true htt
 obtain ⟨p,hp⟩:∃ p:Nat,a=p:=⟨a.toNat,(Int.toNat_of_nonneg htt.1).symm⟩
 subst hp
 refine rr (k:=ro (pre:=[_,_,_,_,_,_,_]) (k:=?_))
 refine RunO.gdo au (v:=.own b0 p (n-p)) (s':=s) Y95 ?_
 refine ro (pre:=[_]) (k:=?_)
 refine RunO.copy (el:=4) (id:=b0) (off:=p) (len:=n-p) (ys:=x.map PV.bool) (s':=s.set b0 (some (.row 4 ((overF l p x).map PV.bool)))) au au au Tryz.td40 Y191 (isEls_map (P:=Tryz.prog) (e:=4) (f:=PV.bool) (fun a=>⟨rfl,Y251⟩) _) Y86 ?_
 refine rl [] (k:=rs (k:=rg [8] (k:=rR (k:=?_))))
 refine jO 1 ?_;rotate_left
 any_goals
  refine jI 1 ?_
  first
   |(have htF:thereF n a x.length=false:=by simpa using hc0
     refine Ret.all (by simp only [Tryz.f87,go_sem,↓reduceIte]<;>rfl) ⟨by rw [htF],by rw [htF];rfl⟩)
   |(refine Ret.all (by simp only [Tryz.f87,go_sem,↓reduceIte]<;>rfl) ⟨by rw [htT],Y384⟩)
theorem ref8_put3 {s:St} {st b0 b1 v0 v1 n:Nat} (hst:s.blk st=some (.row 104 [.agg [.int .i64 (n:Int),.own b0 0 n,.own b1 0 n,.own v0 0 n,.own v1 0 n]])) {l x:List Int} (hb:s.blk v1=some (.row 42 (l.map (PV.int .u16)))) (hn:l.length=n) (hn2:n≤65536) {a:Int} (hx:x≠[]) (hst2:v1≠st):ACalls Tryz.prog 88 [.ptr st 0 0,.int .i64 3,.int .i64 a,.sl .unk (x.map (PV.int .u16))] s (fun r s'=>r=.bool (thereF n a x.length)∧s'=(if thereF n a x.length=true then s.set v1 (some (.row 42 ((overF l a.toNat x).map (PV.int .u16)))) else s)):=by
 refine go Tryz.func88 (k:=fun hwf H=>?_)
 have f0:((0:Int)<((2:Nat):Int))=True:=Y15
 have f1:((1:Int)<((2:Nat):Int))=True:=Y15
 have ft:Int.toNat 1=1:=rfl
 have f2:((0:Int)≤1)=True:=Y15
 have H:=aj f0 (aj f1 (aj ft (aj f2 H)))
 have w0:IntKind.i64.wrap (3-2)=1:=Y15
 have H:=aj w0 H
 have H:=aj hst (aj hb H)
 refine rs (k:=rg [0,1,2,3] (k:=rs (k:=rs (k:=rr (k:=ro (pre:=[_,_,_,_,_,_,_,_,_,_,_]) (k:=rG (h:=fun hb=>ref8_there hst hn2) (k:=rh [0,1,2,3,22] (k:=rc (ht:=fun hc0=>?_) (hf:=fun hc0=>?_)))))))))
 refine rs (k:=rg [8] (k:=rR (k:=?_)))
 refine jO 1 ?_;rotate_left
 refine rk (k:=rs (k:=?_))
 have hxl:1≤x.length:=List.length_pos_iff.2 hx
 have htT:thereF n a x.length=true:=Y77
 have htt:=htT
 unfold thereF at htt
 have htt:=of_decide_eq_true htt
 obtain ⟨p,hp⟩:∃ p:Nat,a=p:=⟨a.toNat,(Int.toNat_of_nonneg htt.1).symm⟩
 subst hp
 refine rr (k:=ro (pre:=[_,_,_,_,_,_,_,_]) (k:=?_))
 refine RunO.gdo au (v:=.own v1 p (n-p)) (s':=s) Y95 ?_
 refine ro (pre:=[_]) (k:=?_)
 refine RunO.copy (el:=42) (id:=v1) (off:=p) (len:=n-p) (ys:=x.map (PV.int .u16)) (s':=s.set v1 (some (.row 42 ((overF l p x).map (PV.int .u16))))) au au au Tryz.td41 Y140 (isEls_map (P:=Tryz.prog) (e:=42) (f:=(PV.int .u16)) (fun a=>⟨rfl,Y141⟩) _) Y86 ?_
 refine rl [] (k:=rs (k:=rg [8] (k:=rR (k:=?_))))
 refine jO 1 ?_;rotate_left
 any_goals
  refine jI 1 ?_
  first
   |(have htF:thereF n a x.length=false:=by simpa using hc0
     refine Ret.all (by simp only [Tryz.f88,go_sem,↓reduceIte]<;>rfl) ⟨by rw [htF],by rw [htF];rfl⟩)
   |(refine Ret.all (by simp only [Tryz.f88,go_sem,↓reduceIte]<;>rfl) ⟨by rw [htT],Y384⟩)
attribute [local go_sem] weaks_bools Req.pv
theorem ref8_Masked {v:Int} {q:Req} {s:St}:ACalls Tryz.prog 89 [.int .u16 v,q.pv] s (fun r s'=>r=.int .u16 (maskF v q)∧s'=s):=by
 refine go Tryz.func89 (k:=fun hwf H=>?_)
 refine rs (k:=rg [0,3] (k:=rs (k:=rg [4] (k:=rR (k:=rP (by simp only [Tryz.f89,go_sem];rfl) hwf ⟨?_,rfl⟩)))))
 rfl
attribute [local go_sem] weaks_bools Req.pv
set_option maxRecDepth 100000 in
theorem ref8_Asked {q:Req} {s:St}:ACalls Tryz.prog 83 [q.pv] s (fun r s'=>r=.tuple [.int .i64 (askF q).1.1,.int .i64 (askF q).1.2,.int .i64 (askF q).2.1,.int .i64 (askF q).2.2]∧s'=s):=by
 refine go Tryz.func83 (k:=fun hwf H=>?_)
 refine rs (k:=rg [1] (k:=rs (k:=rs (k:=rg [1,7] (k:=rb (k:=rs (k:=rs (k:=rg [1,7,8] (k:=rc (ht:=fun hc0=>?_) (hf:=fun hc0=>?_))))))))))
 refine rk (k:=rc (ht:=fun hc3=>?_) (hf:=fun hc3=>?_))
 refine jO 1 ?_;rotate_left
 ·exact Y371
 refine rs (k:=rg [1,7,8] (k:=rc (ht:=fun hc1=>?_) (hf:=fun hc1=>?_)))
 refine rk (k:=rc (ht:=fun hc3=>?_) (hf:=fun hc3=>?_))
 refine jO 1 ?_;rotate_left
 ·exact Y372
 refine rs (k:=rg [1,7,8] (k:=rc (ht:=fun hc2=>?_) (hf:=fun hc2=>?_)))
 refine rk (k:=rc (ht:=fun hc3=>?_) (hf:=fun hc3=>?_))
 refine jO 1 ?_;rotate_left
 ·exact Y192
 refine rg [1,7,8] (k:=rc (ht:=fun hc3=>?_) (hf:=fun hc3=>?_))
 refine jO 1 ?_;rotate_left
 refine rs (k:=rs (k:=rg [1,7,17] (k:=rc (ht:=fun hc4=>?_) (hf:=fun hc4=>?_))))
 refine rk (k:=rc (ht:=fun hc5=>?_) (hf:=fun hc5=>?_))
 refine jO 1 ?_;rotate_left
 ·exact Bool.noConfusion (hc4.symm.trans hc5)
 refine rg [1,7,17] (k:=rc (ht:=fun hc5=>?_) (hf:=fun hc5=>?_))
 refine jO 1 ?_;rotate_left
 refine rs (k:=rs (k:=rg [1,7,22] (k:=rc (ht:=fun hc6=>?_) (hf:=fun hc6=>?_))))
 refine rk (k:=rc (ht:=fun hc7=>?_) (hf:=fun hc7=>?_))
 refine jO 1 ?_;rotate_left
 ·exact Bool.noConfusion (hc6.symm.trans hc7)
 refine rg [1,7,22] (k:=rc (ht:=fun hc7=>?_) (hf:=fun hc7=>?_))
 refine jO 1 ?_;rotate_left
 refine rs (k:=rg [1,7,29] (k:=rc (ht:=fun hc8=>?_) (hf:=fun hc8=>?_)))
 refine jO 1 ?_;rotate_left
 refine rs (k:=rg [1,35] (k:=rc (ht:=fun hc9=>?_) (hf:=fun hc9=>?_)))
 refine jO 1 ?_;rotate_left
 refine rk (k:=rB (k:=rs (k:=rg [2,3,4,5] (k:=rR (k:=rP (by simp only [Tryz.f83,go_sem];rfl) hwf ⟨?_,rfl⟩)))))
 refine jO 2 ?_;rotate_left
 any_goals
  refine jI 1 ?_
  refine rs (k:=?_)
  refine jO 3 ?_;rotate_left
 any_goals
  refine jI 3 ?_
  refine Run.drawC [] [2,3,4,5] Tryz.mixed Y19 ?_
  refine jO 4 ?_;rotate_left
 any_goals
  refine jI 4 ?_
  refine DetC.all au ?_
  refine jO 5 ?_;rotate_left
 any_goals
  refine jI 5 ?_
  refine re (k:=rR (k:=rP (by simp only [Tryz.f83,go_sem];rfl) hwf ⟨?_,rfl⟩))
  refine jO 2 ?_;rotate_left
 any_goals
  refine jI 2 ?_
  simp only [decide_eq_true_eq,decide_eq_false_iff_not,PV.weak,PV.weaks] at *
  refine jO 6 ?_;rotate_left
 any_goals
  refine jI 6 ?_
  unfold askF
  refine jO 7 ?_;rotate_left
 any_goals
  refine jI 7 ?_
  first
   | rw [if_pos Y14]
   | rw [if_neg Y14,if_pos Y14]
   | rw [if_neg Y14,if_neg Y14,if_pos Y14]
   | rw [if_neg Y14,if_neg Y14,if_neg Y14,if_pos Y14]
   | rw [if_neg Y14,if_neg Y14,if_neg Y14,if_neg Y14,if_pos Y14]
   | rw [if_neg Y14,if_neg Y14,if_neg Y14,if_neg Y14,if_neg Y14]
attribute [local go_sem] weaks_bools Rep.pv
theorem ref8_refuse {b:Nat} {D:Dev} {s:St} (hA:RefAt b D s) {fn code:Int}:ACalls Tryz.prog 61 [.ptr (b+5) 0 0,.int .i64 fn,.int .i64 code] s (fun r s'=>r=(refD D fn code).1.pv∧s'=putRef b (refD D fn code).2 s):=by
 refine go Tryz.func61 (k:=fun hwf H=>?_)
 have hdv:=hA.dv
 unfold refRow at hdv
 have hlt:=hA.lt hwf
 have hinc:IntKind.i64.wrap (D.exc+1)=inc D.exc:=rfl
 have H:=aj hinc H
 have H:=aj hdv H
 refine rs (k:=rg [0,1,2,6] (k:=rs (k:=rg [1,2,6] (k:=rs (k:=rr (k:=ro (pre:=[_,_]) (k:=rC (h:=ref3_Refuse (fn:=fn) (code:=code)) (k:=rh [6] (k:=rR (k:=?_))))))))))
 exact Ret.refd (refD D fn code).2 hA (r':=(refD D fn code).1.pv) (by simp only [Tryz.f61,go_sem,↓reduceIte]<;>rfl) Y380 (blw_rep _ _) hwf (fun i hi=>by
  have h0:=ltn hi;have h1:=lte hi
  rw [putRef_blk]
  simp only [go_sem,Nat.add_assoc,Nat.reduceAdd,↓reduceIte,h0,h1]
  by_cases e5:i=b+5
  ·rw [if_pos e5,if_pos e5];rfl
  rw [if_neg e5,if_neg e5]
  by_cases e4:i=b+4
  ·rw [if_pos e4,e4];exact hA.v1
  rw [if_neg e4]
  by_cases e2:i=b+2
  ·rw [if_pos e2,e2];exact hA.v0
  rw [if_neg e2]
  by_cases e3:i=b+3
  ·rw [if_pos e3,e3];exact hA.c1
  rw [if_neg e3]
  by_cases e1:i=b+1
  ·rw [if_pos e1,e1];exact hA.c0
  rw [if_neg e1]) ⟨rfl,rfl⟩
attribute [local go_sem] weaks_bools Rep.pv
theorem Y96 {p:Prop} (h:p:=by simp only [PV.blw,PV.blws,and_true,true_and];exact ⟨fun t z e=>Y66,blws_u8 _ _⟩):p:=h
theorem ref3_Lay {r:Rep} (hr:r.ok) {s:St}:ACalls Tryz.prog 45 [r.pv] s (fun v s'=>v=.tuple [.sl .unk ((repF r).map (PV.int .u8)),.int .i64 (goodF r)]∧s'=s):=by
 refine go Tryz.func45 (k:=fun hwf H=>?_)
 refine rs (k:=rg [1] (k:=rs (k:=rs (k:=rr (k:=ro (pre:=[_]) (k:=rC (h:=ref3_Good hr) (k:=rh [1,4] (k:=rs (k:=rg [1,4,8] (k:=rc (ht:=fun hc0=>?_) (hf:=fun hc0=>?_)))))))))))
 refine rs (k:=rg [2,3] (k:=rR (k:=?_)))
 refine jO 1 ?_;rotate_left
 refine rk (k:=rs (k:=?_))
 have hg0:goodF r=0:=Y77
 refine rr (k:=ro (pre:=[_]) (k:=rC (h:=ref3_lay hr hg0) (k:=rh [2,3] (k:=rR (k:=?_)))))
 refine jO 1 ?_;rotate_left
 any_goals
  refine jI 1 ?_
  refine Ret.pure (r':=.tuple [.sl .unk ((repF r).map (PV.int .u8)),.int .i64 (goodF r)]) (by simp only [Tryz.f45,go_sem,↓reduceIte]<;>rfl) ?_ Y96 hwf Y26 ⟨rfl,rfl⟩
  refine jO 2 ?_;rotate_left
 any_goals
  refine jI 2 ?_
  unfold repF
  refine jO 3 ?_;rotate_left
 any_goals
  refine jI 3 ?_
  simp only [Bool.not_eq_true',Bool.not_eq_false',decide_eq_true_eq,decide_eq_false_iff_not] at hc0
  refine jO 4 ?_;rotate_left
 any_goals
  refine jI 4 ?_
  first
   | rw [if_pos hc0];simp only [PV.weak,PV.weaks,weaks_u8,hc0]
   | rw [if_neg hc0];rfl
end Go.Proofs
namespace Go.Proofs
open Go.PM
set_option maxHeartbeats 2000000
theorem ref_u8_mod (D:Dev) (x c:Int):refD D (x%128) c=refD D x c:=by
 unfold refD refuseP
 rw [show x%128%128=x%128 from Y14]
theorem readF_err (l:List Int):((readF l).2=13↔l=[])∧((readF l).2=0∨(readF l).2=12∨(readF l).2=13∨(readF l).2=15):=by
 unfold readF
 repeat' split
 all_goals simp_all
theorem RefAt.sv {b:Nat} {D:Dev} {s:St} (h:RefAt b D s) {i:Nat} (hi:b+5<i) (x:Option Blk):RefAt b D (s.set i x):=by
 have e:∀ j,j≤b+5→(s.set i x).blk j=s.blk j:=fun j hj=>blk_set_ne Y14
 exact ⟨Y259,Y260,Y261,Y262,Y263,Y264⟩
theorem putRef_hi {b:Nat} {D:Dev} {s:St} {i:Nat} (h:b+5<i):(putRef b D s).blk i=s.blk i:=by
 rw [putRef_blk,if_neg Y14,if_neg Y14,if_neg Y14,if_neg Y14,if_neg Y14]
theorem putRef_lo {b:Nat} {D:Dev} {s:St} {i:Nat} (h:i<b+1):(putRef b D s).blk i=s.blk i:=by
 rw [putRef_blk,if_neg Y14,if_neg Y14,if_neg Y14,if_neg Y14,if_neg Y14]
theorem putRef_congr2 {b m:Nat} {D:Dev} {s s':St} (hk:∀ i,i<m→i<b+1∨b+5<i→s'.blk i=s.blk i) (i:Nat) (hi:i<m):(putRef b D s').blk i=(putRef b D s).blk i:=by
 by_cases h:i<b+1∨b+5<i
 ·rcases h with h | h
  ·rw [putRef_lo h,putRef_lo h];exact hk i hi (.inl h)
  ·rw [putRef_hi h,putRef_hi h];exact hk i hi (.inr h)
 ·rw [putRef_blk,putRef_blk]
  (repeat' split)<;>first | rfl |(exfalso;omega)
theorem writeR_ok {q:Req} (hq:q.ok) (h:rightF q=0):OkB (writeF q):=by
 have hR:=right0 h
 have h1:=has_cases hR.has
 have h2:=hR.mb
 have h3:=hR.mv
 have h5:=packB_len q.bits
 have h6:=flat2_lenX q.vals
 unfold writeF
 refine OkB.cons ⟨Y14,Y14⟩ ?_
 repeat' split
 all_goals first
  | exact OkB.nil
  | exact (num2_ok _).append (flat2_okB _)
  | exact (num2_ok _).append (num2_ok _)
  | exact (num2_ok _).append ((num2_ok _).append (num2_ok _))
  | exact (num2_ok _).append ((num2_ok _).append (OkB.cons ⟨Y14,Y14⟩ (packB_ok _)))
  | exact (num2_ok _).append ((num2_ok _).append (OkB.cons ⟨Y14,Y14⟩ (flat2_okB _)))
  | exact (num2_ok _).append ((num2_ok _).append (((num2_ok _).append (num2_ok _)).append (OkB.cons ⟨Y14,Y14⟩ (flat2_okB _))))
  | exact (num2_ok _).append ((num2_ok _).append OkB.nil)
attribute [local go_sem] weaks_bools Req.pv
set_option maxRecDepth 100000 in
theorem ref3_Counts {q:Req} {s:St}:ACalls Tryz.prog 82 [q.pv] s (fun r s'=>r=.bool (countF q)∧s'=s):=by
 refine go Tryz.func82 (k:=fun hwf H=>?_)
 refine rs (k:=rg [1] (k:=rs (k:=rs (k:=rr (k:=ro (pre:=[_]) (k:=rC (h:=ref3_Right (q:=q)) (k:=rh [1,6] (k:=rc (ht:=fun hc0=>?_) (hf:=fun hc0=>?_)))))))))
 refine jO 1 ?_;rotate_left
 refine rk (k:=rs (k:=rg [1,3] (k:=rs (k:=rs (k:=rg [1,3,10] (k:=rb (k:=rs (k:=rs (k:=rg [1,3,10,11] (k:=rc (ht:=fun hc1=>?_) (hf:=fun hc1=>?_)))))))))))
 refine rk (k:=rc (ht:=fun hc2=>?_) (hf:=fun hc2=>?_))
 refine jO 1 ?_;rotate_left
 ·exact Y193
 refine rg [1,3,10,11] (k:=rc (ht:=fun hc2=>?_) (hf:=fun hc2=>?_))
 refine jO 1 ?_;rotate_left
 refine rs (k:=rs (k:=rg [1,3,10,20] (k:=rc (ht:=fun hc3=>?_) (hf:=fun hc3=>?_))))
 refine rk (k:=rc (ht:=fun hc4=>?_) (hf:=fun hc4=>?_))
 refine jO 1 ?_;rotate_left
 ·exact Y147
 refine rg [1,3,10,20] (k:=rc (ht:=fun hc4=>?_) (hf:=fun hc4=>?_))
 refine jO 1 ?_;rotate_left
 refine rs (k:=rg [1,3,10,29] (k:=rc (ht:=fun hc5=>?_) (hf:=fun hc5=>?_)))
 refine jO 1 ?_;rotate_left
 refine rs (k:=rg [1,3,10,37] (k:=rc (ht:=fun hc6=>?_) (hf:=fun hc6=>?_)))
 refine jO 1 ?_;rotate_left
 refine rs (k:=rg [1,3,45] (k:=rc (ht:=fun hc7=>?_) (hf:=fun hc7=>?_)))
 refine jO 1 ?_;rotate_left
 refine rk (k:=rB (k:=rs (k:=rg [2] (k:=rR (k:=rP (by simp only [Tryz.f82,go_sem];rfl) hwf ⟨?_,rfl⟩)))))
 refine jO 2 ?_;rotate_left
 any_goals
  refine jI 1 ?_
  refine rs (k:=rg [2] (k:=rR (k:=rP (by simp only [Tryz.f82,go_sem];rfl) hwf ⟨?_,rfl⟩)))
  refine jO 2 ?_;rotate_left
 any_goals
  refine jI 2 ?_
  simp only [PV.weak]
  refine jO 3 ?_;rotate_left
 any_goals
  refine jI 3 ?_
  congr 1
  refine jO 4 ?_;rotate_left
 any_goals
  refine jI 4 ?_
  unfold countF
  refine jO 5 ?_;rotate_left
 any_goals
  refine jI 5 ?_
  simp only [Bool.not_eq_true',Bool.not_eq_false',Bool.or_eq_true,Bool.or_eq_false_iff,decide_eq_true_eq,decide_eq_false_iff_not] at *
  refine jO 6 ?_;rotate_left
 any_goals
  refine jI 6 ?_
  rw [Bool.eq_iff_iff]
  refine jO 7 ?_;rotate_left
 any_goals
  refine jI 7 ?_
  simp only [Bool.and_eq_true,decide_eq_true_eq,Bool.false_eq_true,false_iff,true_iff]
  refine jO 8 ?_;rotate_left
 any_goals
  refine jI 8 ?_
  first
   | omega
   |(simp only [*,Int.reduceEq,or_true,true_or,or_self,if_true,if_false,true_and,and_true,false_and,and_false,not_false_eq_true,ite_true,ite_false];first | done | omega)
   | skip
attribute [local go_sem] weaks_bools Req.pv
theorem ref3_ReadR {b:List Int} (hb:OkB b) (hl:b.length≤140737488351232) {s:St}:ACalls Tryz.prog 60 [.sl .unk (b.map (PV.int .u8))] s (fun r s'=>r=.tuple [(readR b).1.pv,.int .i64 (readR b).2]∧s'=s):=by
 refine go Tryz.func60 (k:=fun hwf H=>?_)
 refine rs (k:=rg [0,2] (k:=rs (k:=rs (k:=rg [0,2,7] (k:=rc (ht:=fun hc0=>?_) (hf:=fun hc0=>?_))))))
 refine jO 1 ?_;rotate_left
 refine rk (k:=rs (k:=rs (k:=?_)))
 have hlt:0<b.length:=Y76
 obtain ⟨x,hx⟩:∃ x,b[0]? =some x:=⟨b[0],List.getElem?_eq_getElem hlt⟩
 have hxx:(b.map (PV.int .u8))[0]? =some (.int .u8 x):=Y146
 have hlT:(0<b.length)=True:=eq_true hlt
 have hx8:U8 x:=hb x (List.mem_of_getElem? hx)
 have hxw:IntKind.i64.wrap x=x:=wrap_i64 Y255
 have hg0:(b[0]?).getD 0=x:=Y318
 have H:=aj hxx (aj hlT (aj hxw H))
 refine rr (k:=ro (pre:=[_,_,_,_]) (k:=rC (h:=ref3_Has (fn:=x)) (k:=rh [0,2,14] (k:=rc (ht:=fun hc1=>?_) (hf:=fun hc1=>?_)))))
 refine jO 1 ?_;rotate_left
 refine rk (k:=rs (k:=rr (k:=ro (pre:=[_]) (k:=rC (h:=ref3_guess hb hl hx) (k:=rh [0,2,4] (k:=rs (k:=rs (k:=?_))))))))
 have hGo:(guessR b).ok:=guessR_ok hb hl
 have hst:((strB (writeF (guessR b))).toList==(strB b).toList)=decide (writeF (guessR b)=b)∨¬ rightF (guessR b)=0:=by
  by_cases hg:rightF (guessR b)=0
  ·exact .inl (strB_beq (writeR_ok hGo hg) hb)
  ·exact .inr hg
 refine Run.drawC [] [2,4,28] Tryz.mixed Y19 ?_
 refine DetC.pre (pre:=[_]) au ?_
 refine DetC.call au au au Y19 (ref3_Right (q:=guessR b)) ?_
 refine DetC.pre (pre:=[_,_]) au ?_
 rcases hd3:(!decide (rightF (guessR b)=0)) with _ | _
 have H:=aj hd3 H
 have hst2:((strB (writeF (guessR b))).toList==(strB b).toList)=decide (writeF (guessR b)=b):=hst.resolve_right (by simpa using hd3)
 have H:=aj hst2 H
 refine DetC.gdo au au ?_
 refine DetC.call au au au Y19 (ref3_write hGo (by simpa using hd3)) ?_
 refine DetC.gdo au au ?_
 refine DetC.gdo au au ?_
 refine DetC.gdo au au ?_
 refine DetC.gdo au au ?_
 refine jO 2 ?_;rotate_left
 have H:=aj hd3 H
 refine DetC.gskip' au ?_
 refine DetC.gskip' au ?_
 refine DetC.gskip' au ?_
 refine DetC.gskip' au ?_
 refine DetC.gskip' au ?_
 refine DetC.gskip' au ?_
 refine jO 2 ?_;rotate_left
 any_goals
  refine jI 2 ?_
  refine DetC.all au ?_
  refine jO 3 ?_;rotate_left
 any_goals
  refine jI 3 ?_
  refine re (k:=rc (ht:=fun hc2=>?_) (hf:=fun hc2=>?_))
  refine jO 1 ?_;rotate_left
  refine jO 4 ?_;rotate_left
 any_goals
  refine jI 4 ?_
  refine rk (k:=rs (k:=rg [2,3] (k:=rR (k:=?_))))
  refine jO 5 ?_;rotate_left
 any_goals
  refine jI 1 ?_
  refine rs (k:=rg [2,3] (k:=rR (k:=?_)))
  refine jO 5 ?_;rotate_left
 any_goals
  refine jI 5 ?_
  refine Ret.pure (r':=.tuple [(readR b).1.pv,.int .i64 (readR b).2]) (by simp only [Tryz.f60,go_sem,↓reduceIte]<;>rfl) ?_ Y374 hwf Y26 ⟨rfl,rfl⟩
  refine jO 6 ?_;rotate_left
 any_goals
  refine jI 6 ?_
  simp only [PV.weak,PV.weaks,weaks_bools,weaks_u16]
  refine jO 7 ?_;rotate_left
 any_goals
  refine jI 7 ?_
  first
   |(cases hc2;done)
   |(have h0:b=[]:=List.length_eq_zero_iff.1 Y74
     unfold readR;rw [if_pos h0];rfl)
   |(have h0:¬ b=[]:=by intro h;rw [h] at hlt;cases hlt
     have h1:hasF x=false:=by simpa using hc1
     unfold readR;rw [if_neg h0,hg0,if_pos h1];rfl)
   |(have h0:¬ b=[]:=by intro h;rw [h] at hlt;cases hlt
     have h1:¬ hasF x=false:=by simpa using hc1
     have h2:¬ (rightF (guessR b)=0∧writeF (guessR b)=b):=by
      rintro ⟨e1,e2⟩
      first
       |(simp [e1] at hd3;done)
       |(simp [e2] at hc2;done)
     unfold readR;rw [if_neg h0,hg0,if_neg h1,if_neg h2];rfl)
   |(have h0:¬ b=[]:=by intro h;rw [h] at hlt;cases hlt
     have h1:¬ hasF x=false:=by simpa using hc1
     have h2:rightF (guessR b)=0∧writeF (guessR b)=b:=⟨by simpa using hd3,Y368⟩
     unfold readR;rw [if_neg h0,hg0,if_neg h1,if_pos h2];rfl)
theorem ref3_Read {b:List Int} (hb:OkB b) (hl:b.length≤140737488351232) {s:St}:ACalls Tryz.prog 60 [.sl .unk (b.map (PV.int .u8))] s (fun r s'=>r=.tuple [(readF b).1.pv,.int .i64 (readF b).2]∧s'=s):=by
 have:=ref3_ReadR hb hl (s:=s)
 rwa [readR_eq hb hl] at this
attribute [local go_sem] set_set putRef_hi putRef_nxt weaks_bools Req.pv Rep.pv
theorem Y46 {p:Prop} (h:p:=by simp (disch:=first | omega |(simp only [nxt_set,nxt_new]<;>omega) | fail) only [go_sem,↓reduceIte,H];unfold PV.frz;simp only [List.map_cons,List.map_nil];simp (disch:=first | omega |(simp only [nxt_set,nxt_new]<;>omega) | fail) [PV.frz,PV.weak,go_sem,H]):p:=h
theorem Y97 {p:Prop} (h:p:=by
 exact
                                                                            (fun i hi=>by
  have h0:=ltn hi;have h1:=lte hi
  simp (disch:=first | omega |(simp only [nxt_set,nxt_new]<;>omega) | fail) only [go_sem,Nat.add_assoc,Nat.reduceAdd,↓reduceIte,h0,h1]
  exact putRef_congr2 (m:=s.nxt) Y91 i hi)):p:=h
theorem Y158 {p:Prop} (h:p:=by simp only [Tryz.f90,go_sem,↓reduceIte]<;>rfl):p:=h
theorem Y415 {p:Prop} (h:p:=by simp [PV.blw,PV.blws]):p:=h
set_option maxRecDepth 100000 in
theorem ref8_diag {b:Nat} {D:Dev} {s:St} (hA:RefAt b D s) {q:Req} (hq:q.ok) (hc:countF q=true) (hf:q.fn=8):ACalls Tryz.prog 90 [.ptr (b+5) 0 0,q.pv] s (fun r s'=>r=(finR (diagF D q) q).1.pv∧s'=putRef b (finR (diagF D q) q).2 s):=by
 refine go Tryz.func90 (k:=fun hwf H=>?_)
 have hdv:=hA.dv
 unfold refRow at hdv
 have hlt:=hA.lt hwf
 have hr:=count_right hc
 obtain ⟨y,hye⟩:∃ y,q.vals=[y]:=⟨_,(one_getI (nv_6 hr (.inr hf))).symm⟩
 have hy0:(q.vals[0]?).getD 0=y:=Y323
 have hyy:(q.vals.map (PV.int .u16))[0]? =some (.int .u16 y):=Y323
 have hyl:(0<q.vals.length)=True:=by rw [hye];simp
 have hA1:∀ x y z,RefAt b D (((s.new x).new y).new z):=fun x y z=>((hA.nw hlt x).nw Y87 y).nw (by show b+5<s.nxt+2;omega) z
 have hA2:∀ x y z w u,RefAt b D ((((((s.new x).new y).new z).new w).set (s.nxt+2) u)):=fun x y z w u=>((hA1 x y z).nw (by show b+5<s.nxt+3;omega) w).sv Y14 _
 have f1:((0:Int)<((1:Nat):Int))=True:=Y15
 have H:=aj hyy (aj hyl (aj f1 H))
 have H:=aj hdv H
 refine rs (k:=rg [0,3,4] (k:=rs (k:=?_)))
 refine Run.reserve ?_
 refine rH 11 [7,9,10] [[false,false,false],[true,false,false],[false,true,false],[true,true,false],[true,true,true]] [(((s.new (.row 44 [.agg [.int .i64 q.fn,.int .i64 q.at_,.int .i64 q.count,.int .i64 q.wat,.int .i64 q.sub,.sl .unk (q.bits.map PV.bool),.sl .unk (q.vals.map (PV.int .u16)),.int .u16 q.and_,.int .u16 q.or_]])).new (.row 94 [.agg [.int .i64 0,.int .i64 0,.int .i64 0,.int .i64 0,.int .i64 0,.sl .nil [],.sl .nil [],.int .u16 0,.int .u16 0,.sl .nil []]])).new .res),((((s.new (.row 44 [.agg [.int .i64 q.fn,.int .i64 q.at_,.int .i64 q.count,.int .i64 q.wat,.int .i64 q.sub,.sl .unk (q.bits.map PV.bool),.sl .unk (q.vals.map (PV.int .u16)),.int .u16 q.and_,.int .u16 q.or_]])).new (.row 94 [.agg [.int .i64 0,.int .i64 0,.int .i64 0,.int .i64 0,.int .i64 0,.sl .nil [],.sl .nil [],.int .u16 0,.int .u16 0,.sl .nil []]])).new .res).new (.row 42 [.int .u16 y])),((((s.new (.row 44 [.agg [.int .i64 q.fn,.int .i64 q.at_,.int .i64 q.count,.int .i64 q.wat,.int .i64 q.sub,.sl .unk (q.bits.map PV.bool),.sl .unk (q.vals.map (PV.int .u16)),.int .u16 q.and_,.int .u16 q.or_]])).new (.row 94 [.agg [.int .i64 0,.int .i64 0,.int .i64 0,.int .i64 0,.int .i64 0,.sl .nil [],.sl .nil [],.int .u16 0,.int .u16 0,.sl .nil []]])).new .res).set (s.nxt+2) (some (.row 94 [.agg [.int .i64 0,.int .i64 0,.int .i64 0,.int .i64 0,.int .i64 0,.sl .nil [],.sl .nil [],.int .u16 0,.int .u16 0,.sl .nil []]]))),(((((s.new (.row 44 [.agg [.int .i64 q.fn,.int .i64 q.at_,.int .i64 q.count,.int .i64 q.wat,.int .i64 q.sub,.sl .unk (q.bits.map PV.bool),.sl .unk (q.vals.map (PV.int .u16)),.int .u16 q.and_,.int .u16 q.or_]])).new (.row 94 [.agg [.int .i64 0,.int .i64 0,.int .i64 0,.int .i64 0,.int .i64 0,.sl .nil [],.sl .nil [],.int .u16 0,.int .u16 0,.sl .nil []]])).new .res).new (.row 42 [.int .u16 y])).set (s.nxt+2) (some (.row 94 [.agg [.int .i64 0,.int .i64 0,.int .i64 0,.int .i64 0,.int .i64 0,.sl .nil [],.sl .nil [],.int .u16 0,.int .u16 0,.sl .nil []]]))),(((((s.new (.row 44 [.agg [.int .i64 q.fn,.int .i64 q.at_,.int .i64 q.count,.int .i64 q.wat,.int .i64 q.sub,.sl .unk (q.bits.map PV.bool),.sl .unk (q.vals.map (PV.int .u16)),.int .u16 q.and_,.int .u16 q.or_]])).new (.row 94 [.agg [.int .i64 0,.int .i64 0,.int .i64 0,.int .i64 0,.int .i64 0,.sl .nil [],.sl .nil [],.int .u16 0,.int .u16 0,.sl .nil []]])).new .res).new (.row 42 [.int .u16 y])).set (s.nxt+2) (some (.row 94 [.agg [.int .i64 q.fn,.int .i64 0,.int .i64 0,.int .i64 0,.int .i64 q.sub,.sl .nil [],.own (s.nxt+3) 0 1,.int .u16 0,.int .u16 0,.sl .nil []]])))] Tryz.mixed (k:=?_)
 refine dP [0,1,2,3] (pre:=[_,_,_,_,_,_,_]) (k:=?_)
 refine DetHC.appF (kx:=.clip) (ky:=.unk) (xs:=[]) (ys:=q.vals.map (PV.int .u16)) (v:=.own (s.nxt+3) 0 1) [(0,1),(2,3)] _ Y19 pq au au au Tryz.td41 Y140 (by intro p hp;cases hp) (isEls_map (P:=Tryz.prog) (e:=42) (f:=PV.int .u16) (fun a=>⟨rfl,Y141⟩) _) Y142 (by rw [Tryz.by42,List.length_map,hye];simp) (by intro q hq;simp only [List.mem_cons,List.not_mem_nil,or_false] at hq;rcases hq with rfl | rfl<;>(unfold aAppendFirst;rw [hye,List.map_cons,List.map_nil];dsimp only;rw [if_pos Y67];refine congrArg some (Prod.ext rfl ?_);first | rfl | exact St.eq_of rfl fun i=>by (by_cases e3:i=s.nxt+3<;>by_cases e2:i=s.nxt+2<;>simp only [blk_set,blk_new,nxt_new,nxt_set,List.nil_append,Nat.add_assoc,Nat.reduceAdd,e3,e2,if_true,if_false,Nat.add_left_cancel_iff,Nat.reduceEqDiff]))) ?_
 refine dP [1,3] (pre:=[_]) (k:=?_)
 refine DetHC.resAlloc (id:=s.nxt+2) [(0,2),(1,3)] _ Y19 pq au rfl (by rw [Tryz.zp94]) Y31 ?_
 refine dE [(3,4)] (k:=?_)
 refine DetHC.nil ?_
 refine rl [0,3,4,5] (k:=rs (k:=rg [0,3,4,5] (k:=rs (k:=rs (k:=rg [0,3,4,5,17] (k:=rb (k:=rs (k:=rg [0,3,4,5,17,22] (k:=rc (ht:=fun hc0=>?_) (hf:=fun hc0=>?_))))))))))
 have hc:=hc0
 refine rs (k:=rr (k:=ro (pre:=[_]) (k:=?_)))
 refine RunO.thaw 24 (s.nxt+3) 3 (v:=.agg [.int .i64 q.fn,.int .i64 0,.int .i64 0,.int .i64 0,.int .i64 q.sub,.sl .nil [],.sl .unk [.int .u16 y],.int .u16 0,.int .u16 0,.sl .nil []]) Y46 Y415 ?_
 refine jO 1 ?_;rotate_left
 have hc:=hc0
 refine rs (k:=rg [0,3,4,5,17,25] (k:=rc (ht:=fun hc1=>?_) (hf:=fun hc1=>?_)))
 have hc:=hc1
 refine rs (k:=rg [4,5] (k:=rs (k:=rr (k:=ro (pre:=[_]) (k:=?_)))))
 refine RunO.thaw 33 (s.nxt+3) 3 (v:=.agg [.int .i64 q.fn,.int .i64 0,.int .i64 0,.int .i64 0,.int .i64 q.sub,.sl .nil [],.sl .unk [.int .u16 y],.int .u16 0,.int .u16 0,.sl .nil []]) Y46 Y415 ?_
 refine jO 1 ?_;rotate_left
 have hc:=hc1
 refine rs (k:=rs (k:=rg [0,3,4,5,17,34] (k:=rc (ht:=fun hc2=>?_) (hf:=fun hc2=>?_))))
 have hc:=hc2
 refine rk (k:=rc (ht:=fun hc3=>?_) (hf:=fun hc3=>?_))
 refine jO 2 ?_;rotate_left
 ·exact Y192
 have hc:=hc2
 refine rg [0,3,4,5,17,34] (k:=rc (ht:=fun hc3=>?_) (hf:=fun hc3=>?_))
 refine jO 2 ?_;rotate_left
 have hc:=hc3
 refine rs (k:=rg [0,3,4,5,41] (k:=rc (ht:=fun hc4=>?_) (hf:=fun hc4=>?_)))
 have hc:=hc4
 refine rg [0,3,4,5,6] (k:=rB (k:=rs (k:=rs (k:=rg [0,3,4,5,6,51] (k:=rc (ht:=fun hc5=>?_) (hf:=fun hc5=>?_))))))
 refine jO 3 ?_;rotate_left
 have hc:=hc5
 refine rk (k:=rs (k:=rg [4,5] (k:=rs (k:=rr (k:=ro (pre:=[_]) (k:=?_))))))
 refine RunO.thaw 61 (s.nxt+3) 3 (v:=.agg [.int .i64 q.fn,.int .i64 0,.int .i64 0,.int .i64 0,.int .i64 q.sub,.sl .nil [],.sl .unk [.int .u16 (IntKind.u16.wrap D.exc)],.int .u16 0,.int .u16 0,.sl .nil []]) Y46 Y415 ?_
 refine jO 1 ?_;rotate_left
 have hc:=hc4
 refine jO 4 ?_;rotate_left
 any_goals
  refine jI 2 ?_
  have hc:=hc3
  refine jO 5 ?_;rotate_left
 any_goals
  refine jI 5 ?_
  refine rg [0,3,4,5,6] (k:=rB (k:=rs (k:=rs (k:=rg [0,3,4,5,6,51] (k:=rc (ht:=fun hc5=>?_) (hf:=fun hc5=>?_))))))
  refine jO 3 ?_;rotate_left
  refine jO 6 ?_;rotate_left
 any_goals
  refine jI 6 ?_
  have hc:=hc5
  refine jO 7 ?_;rotate_left
 any_goals
  refine jI 7 ?_
  refine rk (k:=rs (k:=rg [4,5] (k:=rs (k:=rr (k:=ro (pre:=[_]) (k:=?_))))))
  refine jO 8 ?_;rotate_left
 any_goals
  refine jI 8 ?_
  refine RunO.thaw 61 (s.nxt+3) 3 (v:=.agg [.int .i64 q.fn,.int .i64 0,.int .i64 0,.int .i64 0,.int .i64 q.sub,.sl .nil [],.sl .unk [.int .u16 (IntKind.u16.wrap D.msgs)],.int .u16 0,.int .u16 0,.sl .nil []]) Y46 Y415 ?_
  refine jO 1 ?_;rotate_left
 any_goals
  refine jI 3 ?_
  have hc:=hc5
  refine jO 4 ?_;rotate_left
 any_goals
  refine jI 4 ?_
  refine rs (k:=rr (k:=ro (pre:=[_,_,_]) (k:=?_)))
  refine jO 9 ?_;rotate_left
 any_goals
  refine jI 9 ?_
  refine RunO.callw au au au Y19 ((ref8_refuse (hA2 _ _ _ _ _)).mono ?_)
  refine jO 10 ?_;rotate_left
 any_goals
  refine jI 1 ?_
  refine ro (pre:=[_]) (k:=rl [4] (k:=rR (k:=?_)))
  refine jO 11 ?_;rotate_left
 any_goals
  refine jI 10 ?_
  rintro r s1 ⟨rfl,rfl⟩
  refine jO 12 ?_;rotate_left
 any_goals
  refine jI 12 ?_
  refine rh [4] (k:=rR (k:=?_))
  refine jO 11 ?_;rotate_left
 any_goals
  refine jI 11 ?_
  simp only [decide_eq_true_eq,decide_eq_false_iff_not,Bool.not_eq_true',Bool.not_eq_false'] at *
  refine jO 13 ?_;rotate_left
 any_goals
  refine jI 13 ?_
  first
   |(have hB:finR (diagF D q) q=(⟨q.fn,0,0,0,q.sub,[],[y],0,0,[]⟩,D):=by
      unfold diagF
      simp only [hy0]
      rw [if_pos Y14];rfl
     refine Ret.refd (D) hA (r':=(⟨q.fn,0,0,0,q.sub,[],[y],0,0,[]⟩:Rep).pv) Y158 ?_ (blw_rep _ _) hwf  (fun i hi=>by
      have h0:=ltn hi;have h1:=lte hi
      rw [putRef_blk]
      simp (disch:=first | omega |(simp only [nxt_set,nxt_new]<;>omega) | fail) only [go_sem,Nat.add_assoc,Nat.reduceAdd,↓reduceIte,h0,h1]
      (repeat' split)<;>first | rfl |(rename_i e;rw [e];first | exact hA.dv | exact hA.v1 | exact hA.v0 | exact hA.c1 | exact hA.c0) |(exfalso;omega)) ⟨Y88,Y88⟩
     simp only [Rep.pv,PV.weak,PV.weaks,weaks_u16,weaks_bools,weaks_u8];first | done | rfl)
   |(have hB:finR (diagF D q) q=(⟨q.fn,0,0,0,q.sub,[],[y],0,0,[]⟩,{ D with msgs:=0,exc:=0 }):=by
      unfold diagF
      simp only [hy0]
      rw [if_neg Y14,if_pos Y14];rfl
     refine Ret.refd ({ D with msgs:=0,exc:=0 }) hA (r':=(⟨q.fn,0,0,0,q.sub,[],[y],0,0,[]⟩:Rep).pv) Y158 ?_ (blw_rep _ _) hwf  (fun i hi=>by
      have h0:=ltn hi;have h1:=lte hi
      rw [putRef_blk]
      simp (disch:=first | omega |(simp only [nxt_set,nxt_new]<;>omega) | fail) only [go_sem,Nat.add_assoc,Nat.reduceAdd,↓reduceIte,h0,h1]
      (repeat' split)<;>first | rfl |(rename_i e;rw [e];first | exact hA.dv | exact hA.v1 | exact hA.v0 | exact hA.c1 | exact hA.c0) |(exfalso;omega)) ⟨Y88,Y88⟩
     simp only [Rep.pv,PV.weak,PV.weaks,weaks_u16,weaks_bools,weaks_u8];first | done | rfl)
   |(have hB:finR (diagF D q) q=((refD D q.fn 3).1,(refD D q.fn 3).2):=by
      unfold diagF
      simp only [hy0]
      rw [if_neg Y14,if_neg Y14,if_pos Y14,if_pos Y14];rfl
     refine Ret.refd ((refD D q.fn 3).2) hA (r':=((refD D q.fn 3).1:Rep).pv) Y158 ?_ (blw_rep _ _) hwf  Y97 ⟨Y88,Y88⟩
     simp only [Rep.pv,PV.weak,PV.weaks,weaks_u16,weaks_bools,weaks_u8];first | done | rfl)
   |(have hB:finR (diagF D q) q=(⟨q.fn,0,0,0,q.sub,[],[IntKind.u16.wrap D.exc],0,0,[]⟩,D):=by
      unfold diagF
      simp only [hy0]
      rw [if_neg Y14,if_neg Y14,if_pos Y14,if_neg Y14,if_pos Y14];rfl
     refine Ret.refd (D) hA (r':=(⟨q.fn,0,0,0,q.sub,[],[IntKind.u16.wrap D.exc],0,0,[]⟩:Rep).pv) Y158 ?_ (blw_rep _ _) hwf  (fun i hi=>by
      have h0:=ltn hi;have h1:=lte hi
      rw [putRef_blk]
      simp (disch:=first | omega |(simp only [nxt_set,nxt_new]<;>omega) | fail) only [go_sem,Nat.add_assoc,Nat.reduceAdd,↓reduceIte,h0,h1]
      (repeat' split)<;>first | rfl |(rename_i e;rw [e];first | exact hA.dv | exact hA.v1 | exact hA.v0 | exact hA.c1 | exact hA.c0) |(exfalso;omega)) ⟨Y88,Y88⟩
     simp only [Rep.pv,PV.weak,PV.weaks,weaks_u16,weaks_bools,weaks_u8];first | done | rfl)
   |(have hB:finR (diagF D q) q=(⟨q.fn,0,0,0,q.sub,[],[IntKind.u16.wrap D.msgs],0,0,[]⟩,D):=by
      unfold diagF
      simp only [hy0]
      rw [if_neg Y14,if_neg Y14,if_pos Y14,if_neg Y14,if_neg Y14];rfl
     refine Ret.refd (D) hA (r':=(⟨q.fn,0,0,0,q.sub,[],[IntKind.u16.wrap D.msgs],0,0,[]⟩:Rep).pv) Y158 ?_ (blw_rep _ _) hwf  (fun i hi=>by
      have h0:=ltn hi;have h1:=lte hi
      rw [putRef_blk]
      simp (disch:=first | omega |(simp only [nxt_set,nxt_new]<;>omega) | fail) only [go_sem,Nat.add_assoc,Nat.reduceAdd,↓reduceIte,h0,h1]
      (repeat' split)<;>first | rfl |(rename_i e;rw [e];first | exact hA.dv | exact hA.v1 | exact hA.v0 | exact hA.c1 | exact hA.c0) |(exfalso;omega)) ⟨Y88,Y88⟩
     simp only [Rep.pv,PV.weak,PV.weaks,weaks_u16,weaks_bools,weaks_u8];first | done | rfl)
   |(have hB:finR (diagF D q) q=((refD D q.fn 3).1,(refD D q.fn 3).2):=by
      unfold diagF
      simp only [hy0]
      rw [if_neg Y14,if_neg Y14,if_neg Y14];rfl
     refine Ret.refd ((refD D q.fn 3).2) hA (r':=((refD D q.fn 3).1:Rep).pv) Y158 ?_ (blw_rep _ _) hwf  Y97 ⟨Y88,Y88⟩
     simp only [Rep.pv,PV.weak,PV.weaks,weaks_u16,weaks_bools,weaks_u8];first | done | rfl)
end Go.Proofs
namespace Go.Proofs
open Go.PM
set_option maxHeartbeats 2000000
attribute [local go_sem] set_set putRef_hi putRef_nxt weaks_bools Req.pv Rep.pv
theorem Y47 {p:Prop} (h:p:=by rw [hB];simp only [Rep.pv,PV.weak,PV.weaks,weaks_u16,weaks_bools,weaks_u8];first | done | rfl):p:=h
theorem Y98 {p:Prop} (h:p:=by
 exact
                 (fun j hj hj2=>by
  have h0:=ltn hj;have h1:=lte hj;have h2:(j=S.nxt)=False:=eq_false Y325
  first
  | exact gf j hj Y14
  |(rcases hj2 with hj2 | hj2
    ·simp (disch:=first | omega |(simp only [nxt_set,nxt_new]<;>omega) | fail) only [h2,↓reduceIte,go_sem,putRef_lo,putRef_put];exact gf j hj Y14
    ·simp (disch:=first | omega |(simp only [nxt_set,nxt_new]<;>omega) | fail) only [h2,↓reduceIte,go_sem,putRef_hi,putRef_put];exact gf j hj Y14))):p:=h
theorem Y48 {p:Prop} (h:p:=by
 exact
    (fun i hi=>by
  have h0:=ltn hi;have h1:=lte hi;have h2:(i=S.nxt)=False:=eq_false Y325
  simp (disch:=first | omega |(simp only [nxt_set,nxt_new]<;>omega) | fail) only [h2,go_sem,Nat.add_assoc,Nat.reduceAdd,↓reduceIte,h0,h1]
  exact putRef_congr2 (m:=s.nxt) Y98 i hi)):p:=h
theorem Y49 {p:Prop} (h:p:=by
 exact
    (fun i hi=>by
  have h0:=ltn hi;have h1:=lte hi;have h2:(i=S.nxt)=False:=eq_false Y325
  rw [putRef_blk]
  simp (disch:=first | omega |(simp only [nxt_set,nxt_new]<;>omega) | fail) only [h2,go_sem,Nat.add_assoc,Nat.reduceAdd,↓reduceIte,h0,h1]
  (repeat' split)<;>first | rfl |(rename_i e;rw [e];first | exact gA.dv | exact gA.v1 | exact gA.v0 | exact gA.c1 | exact gA.c0) | exact gf i hi ‹_› |(exfalso;omega))):p:=h
theorem Y99 {p:Prop} (h:p:=by have:=hT.1;rwa [ha1,ha2] at this):p:=h
theorem Y100 {p:Prop} (h:p:=by have:=hT.2;rwa [ha3,ha4] at this):p:=h
theorem Y101 {p:Prop} (h:p:=by rw [hS2];simp (disch:=first | omega |(simp only [nxt_set,nxt_new]<;>omega) | fail) only [go_sem];exact g0):p:=h
theorem Y102 {p:Prop} (h:p:=by rw [hS2];simp (disch:=first | omega |(simp only [nxt_set,nxt_new]<;>omega) | fail) only [go_sem,gn]<;>rfl):p:=h
theorem Y103 {p:Prop} (h:p:=by rw [hS2];simp (disch:=first | omega |(simp only [nxt_set,nxt_new]<;>omega) | fail) only [go_sem];exact g1):p:=h
theorem Y104 {p:Prop} (h:p:=by simp only [Tryz.f62,go_sem,↓reduceIte]<;>rfl):p:=h
theorem Y105 {p:Prop} (h:p:=by
 exact
    (fun i hi=>by
  have h0:=ltn hi;have h1:=lte hi;have h2:(i=S.nxt)=False:=eq_false Y325
  rw [putRef_blk]
  simp (disch:=first | omega |(simp only [nxt_set,nxt_new]<;>omega) | fail) only [hmb,h2,go_sem,Nat.add_assoc,Nat.reduceAdd,↓reduceIte,h0,h1]
  (repeat' split)<;>first | rfl |(rename_i e;rw [e];first | exact gA.dv | exact gA.v1 | exact gA.v0 | exact gA.c1 | exact gA.c0) | exact gf i hi ‹_› |(exfalso;omega))):p:=h
theorem Y159 {p:Prop} (h:p:=by rw [ha]):p:=h
theorem Y160 {p:Prop} (h:p:=by rw [hS2];simp only [nxt_set,nxt_new,gn]):p:=h
set_option maxRecDepth 100000 in
theorem ref8_Do {b:Nat} {D:Dev} {s:St} (hA:RefAt b D s) (hD:D.ok) {q:Req} (hq:q.ok):ACalls Tryz.prog 62 [.ptr (b+5) 0 0,q.pv] s (fun r s'=>r=(doF D q).1.pv∧s'=putRef b (doF D q).2 s):=by
 refine go Tryz.func62 (k:=fun hwf H=>?_)
 have hdv:=hA.dv
 unfold refRow at hdv
 have hlt:=hA.lt hwf
 have hinc:IntKind.i64.wrap (D.msgs+1)=inc D.msgs:=rfl
 have hDu:=inc_ok hD
 have hd2:D.c0.length≤65536:=hD.h2
 have hd3:=hD.c1
 have hd4:=hD.v0
 have hd5:=hD.v1
 have hu8:IntKind.u8.wrap D.unit=D.unit:=by have:=hD.unit;unfold U8 at this;rw [u8_wrap];omega
 have H:=aj hdv (aj hinc (aj hu8 H))
 refine rs (k:=rg [0,3,4] (k:=rs (k:=rg [0,3,4] (k:=rs (k:=rs (k:=?_))))))
 refine Run.genS fun S hS=>?_
 have g0:S.blk s.nxt=some (.row 44 [.agg [.int .i64 q.fn,.int .i64 q.at_,.int .i64 q.count,.int .i64 q.wat,.int .i64 q.sub,.sl .unk (q.bits.map PV.bool),.sl .unk (q.vals.map (PV.int .u16)),.int .u16 q.and_,.int .u16 q.or_]]):=Y39
 have g1:S.blk (s.nxt+1)=some (.row 94 [.agg [.int .i64 0,.int .i64 0,.int .i64 0,.int .i64 0,.int .i64 0,.sl .nil [],.sl .nil [],.int .u16 0,.int .u16 0,.sl .nil []]]):=Y39
 have gA:RefAt b D.up S:=by
  have e:∀ i,i≤b+5→i≠b+5→S.blk i=s.blk i:=fun i h1 h2=>Y40
  exact ⟨Y204,Y205,Y206,Y207,Y208,Y39⟩
 have gn:S.nxt=s.nxt+2:=by rw [hS];rfl
 have gf:∀ i,i<s.nxt→i≠b+5→S.blk i=s.blk i:=fun i h1 h2=>Y40
 clear hS
 have gd:=gA.dv
 unfold refRow at gd
 have H:=aj g0 (aj g1 (aj gn (aj gd H)))
 refine rr (k:=ro (pre:=[_,_]) (k:=rC (h:=ref3_Has (fn:=q.fn)) (k:=rh [0,3,4,22] (k:=rc (ht:=fun hc0=>?_) (hf:=fun hc0=>?_)))))
 refine jO 1 ?_;rotate_left
 refine rk (k:=rs (k:=rs (k:=rr (k:=ro (pre:=[_]) (k:=rC (h:=ref3_Counts (q:=q)) (k:=rh [0,3,4,29] (k:=rc (ht:=fun hc1=>?_) (hf:=fun hc1=>?_))))))))
 refine jO 1 ?_;rotate_left
 refine rk (k:=rs (k:=?_))
 have hcO:countF q=true:=by simpa using hc1
 refine rr (k:=ro (pre:=[_]) (k:=rC (h:=ref8_Asked (q:=q)) (k:=rh [0,3,4,5,6,7,8] (k:=rs (k:=rs (k:=rr (k:=ro (pre:=[_,_,_,_,_,_]) (k:=rC (h:=ref8_there gA.st hd2) (k:=ro (pre:=[_,_,_,_,_,_,_,_]) (k:=rG (h:=fun hb=>ref8_there gA.st hd2) (k:=rh [0,3,4,5,6,7,58] (k:=rc (ht:=fun hc2=>?_) (hf:=fun hc2=>?_)))))))))))))
 refine jO 1 ?_;rotate_left
 refine rk (k:=rs (k:=?_))
 have hTu:thereF D.up.c0.length (askF q).1.1 (askF q).1.2=true∧thereF D.up.c0.length (askF q).2.1 (askF q).2.2=true:=Y368
 have hT:thereF D.c0.length (askF q).1.1 (askF q).1.2=true∧thereF D.c0.length (askF q).2.1 (askF q).2.2=true:=hTu
 refine rg [0,3,4,5,6,7,9] (k:=rs (k:=rs (k:=rg [0,3,4,5,6,7,9,67] (k:=rb (k:=rs (k:=rs (k:=rg [0,3,4,5,6,7,9,67,68] (k:=rc (ht:=fun hc3=>?_) (hf:=fun hc3=>?_)))))))))
 refine rk (k:=rc (ht:=fun hc4=>?_) (hf:=fun hc4=>?_))
 have hf:q.fn=1:=of_decide_eq_true hc3
 have ha:=ask_r (q:=q) Y14
 have ha1:(askF q).1.1=q.at_:=Y159
 have ha2:(askF q).1.2=q.count:=Y159
 have ha3:(askF q).2.1=0:=Y159
 have ha4:(askF q).2.2=0:=Y159
 have hT1:thereF D.c0.length q.at_ q.count=true:=Y99
 have hT2:thereF D.c0.length 0 0=true:=Y100
 have gA1:∀ x y,RefAt b D.up ((S.new x).set (s.nxt+2) y):=fun x y=>(gA.nw Y14 x).sv Y14 y
 have hcn:=count_of hcO Y14
 have hw:IntKind.i64.wrap (q.fn-1)=0:=by rw [hf];decide
 have hcall:∀ S',RefAt b D.up S'→ACalls Tryz.prog 85 [.ptr b 0 0,.int .i64 0,.int .i64 q.at_,.int .i64 q.count] S' (fun r s'=>r=.tuple [.sl .unk ((cutF D.c0 q.at_ q.count).map PV.bool),.bool (thereF D.c0.length q.at_ q.count)]∧s'=S'):=fun S' h=>ref8_get0 h.st h.c0 rfl hd2 hcn
 refine Run.genS fun S2 hS2=>?_
 have k0:S2.blk s.nxt=some (.row 44 [.agg [.int .i64 q.fn,.int .i64 q.at_,.int .i64 q.count,.int .i64 q.wat,.int .i64 q.sub,.sl .unk (q.bits.map PV.bool),.sl .unk (q.vals.map (PV.int .u16)),.int .u16 q.and_,.int .u16 q.or_]]):=Y101
 have k2:S2.blk (s.nxt+2)=some (.row 94 [.agg [.int .i64 q.fn,.int .i64 0,.int .i64 0,.int .i64 0,.int .i64 0,.sl .nil [],.sl .nil [],.int .u16 0,.int .u16 0,.sl .nil []]]):=Y102
 have k1b:S2.blk (s.nxt+1)=some (.row 94 [.agg [.int .i64 0,.int .i64 0,.int .i64 0,.int .i64 0,.int .i64 0,.sl .nil [],.sl .nil [],.int .u16 0,.int .u16 0,.sl .nil []]]):=Y103
 have kn:S2.nxt=s.nxt+3:=Y160
 have gA13:RefAt b D.up S2:=by rw [hS2];exact gA1 _ _
 have gd13:=gA13.dv
 unfold refRow at gd13
 have H:=aj ha1 (aj ha2 (aj ha3 (aj ha4 (aj hw (aj gd13 (aj k0 (aj k2 (aj k1b (aj kn H)))))))))
 refine rH 15 [14] [[false],[true]] [S2,S2.set (s.nxt+2) (some (.row 94 [.agg [.int .i64 q.fn,.int .i64 0,.int .i64 0,.int .i64 0,.int .i64 0,(.sl .unk ((cutF D.c0 q.at_ q.count).map PV.bool)),.sl .nil [],.int .u16 0,.int .u16 0,.sl .nil []]]))] Tryz.mixed (k:=?_)
 refine jO 2 ?_;rotate_left
 ·exact Y147
 refine rg [0,3,4,5,6,7,9,67,68] (k:=rc (ht:=fun hc4=>?_) (hf:=fun hc4=>?_))
 have hf:q.fn=2:=of_decide_eq_true hc4
 have ha:=ask_r (q:=q) Y14
 have ha1:(askF q).1.1=q.at_:=Y159
 have ha2:(askF q).1.2=q.count:=Y159
 have ha3:(askF q).2.1=0:=Y159
 have ha4:(askF q).2.2=0:=Y159
 have hT1:thereF D.c0.length q.at_ q.count=true:=Y99
 have hT2:thereF D.c0.length 0 0=true:=Y100
 have gA1:∀ x y,RefAt b D.up ((S.new x).set (s.nxt+2) y):=fun x y=>(gA.nw Y14 x).sv Y14 y
 have hcn:=count_of hcO Y14
 have hw:IntKind.i64.wrap (q.fn-1)=1:=by rw [hf];decide
 have hcall:∀ S',RefAt b D.up S'→ACalls Tryz.prog 85 [.ptr b 0 0,.int .i64 1,.int .i64 q.at_,.int .i64 q.count] S' (fun r s'=>r=.tuple [.sl .unk ((cutF D.c1 q.at_ q.count).map PV.bool),.bool (thereF D.c0.length q.at_ q.count)]∧s'=S'):=fun S' h=>ref8_get1 h.st h.c1 hd3 hd2 hcn
 refine Run.genS fun S2 hS2=>?_
 have k0:S2.blk s.nxt=some (.row 44 [.agg [.int .i64 q.fn,.int .i64 q.at_,.int .i64 q.count,.int .i64 q.wat,.int .i64 q.sub,.sl .unk (q.bits.map PV.bool),.sl .unk (q.vals.map (PV.int .u16)),.int .u16 q.and_,.int .u16 q.or_]]):=Y101
 have k2:S2.blk (s.nxt+2)=some (.row 94 [.agg [.int .i64 q.fn,.int .i64 0,.int .i64 0,.int .i64 0,.int .i64 0,.sl .nil [],.sl .nil [],.int .u16 0,.int .u16 0,.sl .nil []]]):=Y102
 have k1b:S2.blk (s.nxt+1)=some (.row 94 [.agg [.int .i64 0,.int .i64 0,.int .i64 0,.int .i64 0,.int .i64 0,.sl .nil [],.sl .nil [],.int .u16 0,.int .u16 0,.sl .nil []]]):=Y103
 have kn:S2.nxt=s.nxt+3:=Y160
 have gA13:RefAt b D.up S2:=by rw [hS2];exact gA1 _ _
 have gd13:=gA13.dv
 unfold refRow at gd13
 have H:=aj ha1 (aj ha2 (aj ha3 (aj ha4 (aj hw (aj gd13 (aj k0 (aj k2 (aj k1b (aj kn H)))))))))
 refine rH 15 [14] [[false],[true]] [S2,S2.set (s.nxt+2) (some (.row 94 [.agg [.int .i64 q.fn,.int .i64 0,.int .i64 0,.int .i64 0,.int .i64 0,(.sl .unk ((cutF D.c1 q.at_ q.count).map PV.bool)),.sl .nil [],.int .u16 0,.int .u16 0,.sl .nil []]]))] Tryz.mixed (k:=?_)
 refine jO 2 ?_;rotate_left
 refine rs (k:=rg [0,3,4,5,6,7,9,67,85] (k:=rc (ht:=fun hc5=>?_) (hf:=fun hc5=>?_)))
 have hf:q.fn=3:=of_decide_eq_true hc5
 have ha:=ask_r (q:=q) Y14
 have ha1:(askF q).1.1=q.at_:=Y159
 have ha2:(askF q).1.2=q.count:=Y159
 have ha3:(askF q).2.1=0:=Y159
 have ha4:(askF q).2.2=0:=Y159
 have hT1:thereF D.c0.length q.at_ q.count=true:=Y99
 have hT2:thereF D.c0.length 0 0=true:=Y100
 have gA1:∀ x y,RefAt b D.up ((S.new x).set (s.nxt+2) y):=fun x y=>(gA.nw Y14 x).sv Y14 y
 have hcn:=count_of hcO Y14
 have H:=aj ha1 (aj ha2 (aj ha3 (aj ha4 H)))
 refine rr (k:=ro (pre:=[_,_,_,_,_,_]) (k:=rC (h:=ref8_get3 (l:=D.v1) (n:=D.c0.length) (gA1 _ _).st (gA1 _ _).v1 hd5 hd2 hcn) (k:=rh [4,9] (k:=rB (k:=rs (k:=rg [4] (k:=rR (k:=?_))))))))
 refine jO 3 ?_;rotate_left
 refine rs (k:=rg [0,3,4,5,6,7,9,67,98] (k:=rc (ht:=fun hc6=>?_) (hf:=fun hc6=>?_)))
 have hf:q.fn=4:=of_decide_eq_true hc6
 have ha:=ask_r (q:=q) Y14
 have ha1:(askF q).1.1=q.at_:=Y159
 have ha2:(askF q).1.2=q.count:=Y159
 have ha3:(askF q).2.1=0:=Y159
 have ha4:(askF q).2.2=0:=Y159
 have hT1:thereF D.c0.length q.at_ q.count=true:=Y99
 have hT2:thereF D.c0.length 0 0=true:=Y100
 have gA1:∀ x y,RefAt b D.up ((S.new x).set (s.nxt+2) y):=fun x y=>(gA.nw Y14 x).sv Y14 y
 have hcn:=count_of hcO Y14
 have H:=aj ha1 (aj ha2 (aj ha3 (aj ha4 H)))
 refine rr (k:=ro (pre:=[_,_,_,_,_,_]) (k:=rC (h:=ref8_get2 (l:=D.v0) (n:=D.c0.length) (gA1 _ _).st (gA1 _ _).v0 hd4 hd2 hcn) (k:=rh [4,9] (k:=rB (k:=rs (k:=rg [4] (k:=rR (k:=?_))))))))
 refine jO 3 ?_;rotate_left
 refine rs (k:=rs (k:=rg [0,3,4,5,6,7,9,67,111] (k:=rc (ht:=fun hc7=>?_) (hf:=fun hc7=>?_))))
 refine rk (k:=rc (ht:=fun hc8=>?_) (hf:=fun hc8=>?_))
 refine rs (k:=?_)
 have hf:q.fn=5:=of_decide_eq_true hc7
 have ha:=ask_1 (q:=q) Y14
 have ha1:(askF q).1.1=0:=Y159
 have ha2:(askF q).1.2=0:=Y159
 have ha3:(askF q).2.1=q.at_:=Y159
 have ha4:(askF q).2.2=1:=Y159
 have hT1:thereF D.c0.length 0 0=true:=Y99
 have hT2:thereF D.c0.length q.at_ 1=true:=Y100
 have gA1:∀ x y,RefAt b D.up ((S.new x).set (s.nxt+2) y):=fun x y=>(gA.nw Y14 x).sv Y14 y
 have hr:=count_right hcO
 have hmv:=(right0 hr).mv
 have hne:q.bits≠[]:=bits_of hr hcO Y14
 have hTx:thereF D.c0.length q.at_ q.bits.length=true:=by rw [nb_5 hr hf];exact hT2
 have hfT:decide (q.fn=5)=true:=Y322
 have H:=aj ha1 (aj ha2 (aj ha3 (aj ha4 (aj hfT H))))
 refine Run.drawCut 7 [] Tryz.mixed Y19 Y19 ?_
 refine DetC.all au ?_
 refine RunO.callw au au au Y19 ((ref8_put0 (l:=D.c0) (n:=D.c0.length) (gA1 _ _).st (gA1 _ _).c0 rfl hd2 hne Y14).mono ?_)
 rintro r s1 ⟨rfl,hs⟩
 have hs:=hs.trans (if_pos hTx)
 subst hs
 refine rl [3,4,9] (k:=rs (k:=?_))
 refine Run.genS fun S2 hS2=>?_
 have k0:S2.blk s.nxt=some (.row 44 [.agg [.int .i64 q.fn,.int .i64 q.at_,.int .i64 q.count,.int .i64 q.wat,.int .i64 q.sub,.sl .unk (q.bits.map PV.bool),.sl .unk (q.vals.map (PV.int .u16)),.int .u16 q.and_,.int .u16 q.or_]]):=Y101
 have k2:S2.blk (s.nxt+2)=some (.row 94 [.agg [.int .i64 q.fn,.int .i64 0,.int .i64 0,.int .i64 0,.int .i64 0,.sl .nil [],.sl .nil [],.int .u16 0,.int .u16 0,.sl .nil []]]):=Y102
 have k1b:S2.blk (s.nxt+1)=some (.row 94 [.agg [.int .i64 0,.int .i64 0,.int .i64 0,.int .i64 0,.int .i64 0,.sl .nil [],.sl .nil [],.int .u16 0,.int .u16 0,.sl .nil []]]):=Y103
 have kn:S2.nxt=s.nxt+3:=Y160
 have H:=aj k0 (aj k2 (aj k1b (aj kn H)))
 refine Run.drawM 8 [5,7] [S2,S2.set (s.nxt+2) (some (.row 94 [.agg [.int .i64 q.fn,.int .i64 0,.int .i64 q.at_,.int .i64 0,.int .i64 0,.sl .nil [],.sl .nil [],.int .u16 0,.int .u16 0,.sl .nil []]])),S2.set (s.nxt+2) (some (.row 94 [.agg [.int .i64 q.fn,.int .i64 0,.int .i64 q.at_,.int .i64 q.count,.int .i64 0,.sl .nil [],.sl .nil [],.int .u16 0,.int .u16 0,.sl .nil []]]))] Tryz.mixed Y19 Y19 ?_
 refine DetBC.pre (pre:=[_,_,_,_,_]) Y15 List.mem_cons_self au ?_
 refine DetBC.eff Y15 List.mem_cons_self au au ?_
 refine DetBC.pre (pre:=[_]) Y15 (List.mem_cons_of_mem _ List.mem_cons_self) au ?_
 refine DetBC.eff Y15 (List.mem_cons_of_mem _ List.mem_cons_self) au au ?_
 refine DetBC.nil (List.mem_cons_of_mem _ (List.mem_cons_of_mem _ List.mem_cons_self)) ?_
 refine rl [3,4,9] (k:=rs (k:=rg [3,4,9,130] (k:=rc (ht:=fun hc9=>?_) (hf:=fun hc9=>?_))))
 refine rr (k:=rO (k:=ro (pre:=[_,_]) (k:=?_)))
 refine RunO.made au au au Tryz.td40 Y191 (isEls_map (P:=Tryz.prog) (e:=4) (f:=PV.bool) (fun a=>⟨rfl,Y251⟩) _) Y252 (by rw [Tryz.by4];simp;have:=nb_5 hr hf;omega) (.inr rfl) ?_
 refine jO 4 ?_;rotate_left
 ·cases hc9
 ·exact Bool.noConfusion (hc7.symm.trans hc8)
 refine rg [0,3,4,5,6,7,9,67,111] (k:=rc (ht:=fun hc8=>?_) (hf:=fun hc8=>?_))
 refine rs (k:=?_)
 have hf:q.fn=15:=of_decide_eq_true hc8
 have ha:=ask_n (q:=q) Y14
 have ha1:(askF q).1.1=0:=Y159
 have ha2:(askF q).1.2=0:=Y159
 have ha3:(askF q).2.1=q.at_:=Y159
 have ha4:(askF q).2.2=q.count:=Y159
 have hT1:thereF D.c0.length 0 0=true:=Y99
 have hT2:thereF D.c0.length q.at_ q.count=true:=Y100
 have gA1:∀ x y,RefAt b D.up ((S.new x).set (s.nxt+2) y):=fun x y=>(gA.nw Y14 x).sv Y14 y
 have hr:=count_right hcO
 have hmv:=(right0 hr).mv
 have hne:q.bits≠[]:=bits_of hr hcO Y14
 have hTx:thereF D.c0.length q.at_ q.bits.length=true:=by rw [nb_15 hr hf];exact hT2
 have hfT:decide (q.fn=5)=false:=Y322
 have H:=aj ha1 (aj ha2 (aj ha3 (aj ha4 (aj hfT H))))
 refine Run.drawCut 7 [] Tryz.mixed Y19 Y19 ?_
 refine DetC.all au ?_
 refine RunO.callw au au au Y19 ((ref8_put0 (l:=D.c0) (n:=D.c0.length) (gA1 _ _).st (gA1 _ _).c0 rfl hd2 hne Y14).mono ?_)
 rintro r s1 ⟨rfl,hs⟩
 have hs:=hs.trans (if_pos hTx)
 subst hs
 refine rl [3,4,9] (k:=rs (k:=?_))
 refine Run.genS fun S2 hS2=>?_
 have k0:S2.blk s.nxt=some (.row 44 [.agg [.int .i64 q.fn,.int .i64 q.at_,.int .i64 q.count,.int .i64 q.wat,.int .i64 q.sub,.sl .unk (q.bits.map PV.bool),.sl .unk (q.vals.map (PV.int .u16)),.int .u16 q.and_,.int .u16 q.or_]]):=Y101
 have k2:S2.blk (s.nxt+2)=some (.row 94 [.agg [.int .i64 q.fn,.int .i64 0,.int .i64 0,.int .i64 0,.int .i64 0,.sl .nil [],.sl .nil [],.int .u16 0,.int .u16 0,.sl .nil []]]):=Y102
 have k1b:S2.blk (s.nxt+1)=some (.row 94 [.agg [.int .i64 0,.int .i64 0,.int .i64 0,.int .i64 0,.int .i64 0,.sl .nil [],.sl .nil [],.int .u16 0,.int .u16 0,.sl .nil []]]):=Y103
 have kn:S2.nxt=s.nxt+3:=Y160
 have H:=aj k0 (aj k2 (aj k1b (aj kn H)))
 refine Run.drawM 8 [5,7] [S2,S2.set (s.nxt+2) (some (.row 94 [.agg [.int .i64 q.fn,.int .i64 0,.int .i64 q.at_,.int .i64 0,.int .i64 0,.sl .nil [],.sl .nil [],.int .u16 0,.int .u16 0,.sl .nil []]])),S2.set (s.nxt+2) (some (.row 94 [.agg [.int .i64 q.fn,.int .i64 0,.int .i64 q.at_,.int .i64 q.count,.int .i64 0,.sl .nil [],.sl .nil [],.int .u16 0,.int .u16 0,.sl .nil []]]))] Tryz.mixed Y19 Y19 ?_
 refine DetBC.pre (pre:=[_,_,_,_,_]) Y15 List.mem_cons_self au ?_
 refine DetBC.eff Y15 List.mem_cons_self au au ?_
 refine DetBC.pre (pre:=[_]) Y15 (List.mem_cons_of_mem _ List.mem_cons_self) au ?_
 refine DetBC.eff Y15 (List.mem_cons_of_mem _ List.mem_cons_self) au au ?_
 refine DetBC.nil (List.mem_cons_of_mem _ (List.mem_cons_of_mem _ List.mem_cons_self)) ?_
 refine rl [3,4,9] (k:=rs (k:=rg [3,4,9,130] (k:=rc (ht:=fun hc9=>?_) (hf:=fun hc9=>?_))))
 ·cases hc9
 refine jO 5 ?_;rotate_left
 refine rs (k:=rs (k:=rg [0,3,4,5,6,7,9,67,136] (k:=rc (ht:=fun hc10=>?_) (hf:=fun hc10=>?_))))
 refine rk (k:=rc (ht:=fun hc11=>?_) (hf:=fun hc11=>?_))
 refine rs (k:=?_)
 have hf:q.fn=6:=of_decide_eq_true hc10
 have ha:=ask_1 (q:=q) Y14
 have ha1:(askF q).1.1=0:=Y159
 have ha2:(askF q).1.2=0:=Y159
 have ha3:(askF q).2.1=q.at_:=Y159
 have ha4:(askF q).2.2=1:=Y159
 have hT1:thereF D.c0.length 0 0=true:=Y99
 have hT2:thereF D.c0.length q.at_ 1=true:=Y100
 have gA1:∀ x y,RefAt b D.up ((S.new x).set (s.nxt+2) y):=fun x y=>(gA.nw Y14 x).sv Y14 y
 have hr:=count_right hcO
 have hmv:=(right0 hr).mv
 have hne:q.vals≠[]:=vals_of hr hcO Y14
 have hTx:thereF D.c0.length q.at_ q.vals.length=true:=by rw [nv_6 hr (.inl hf)];exact hT2
 have hfT:decide (q.fn=6)=true:=Y322
 have H:=aj ha1 (aj ha2 (aj ha3 (aj ha4 (aj hfT H))))
 refine Run.drawCut 7 [] Tryz.mixed Y19 Y19 ?_
 refine DetC.all au ?_
 refine RunO.callw au au au Y19 ((ref8_put3 (l:=D.v1) (n:=D.c0.length) (gA1 _ _).st (gA1 _ _).v1 hd5 hd2 hne Y14).mono ?_)
 rintro r s1 ⟨rfl,hs⟩
 have hs:=hs.trans (if_pos hTx)
 subst hs
 refine rl [3,4,9] (k:=rs (k:=?_))
 refine Run.genS fun S2 hS2=>?_
 have k0:S2.blk s.nxt=some (.row 44 [.agg [.int .i64 q.fn,.int .i64 q.at_,.int .i64 q.count,.int .i64 q.wat,.int .i64 q.sub,.sl .unk (q.bits.map PV.bool),.sl .unk (q.vals.map (PV.int .u16)),.int .u16 q.and_,.int .u16 q.or_]]):=Y101
 have k2:S2.blk (s.nxt+2)=some (.row 94 [.agg [.int .i64 q.fn,.int .i64 0,.int .i64 0,.int .i64 0,.int .i64 0,.sl .nil [],.sl .nil [],.int .u16 0,.int .u16 0,.sl .nil []]]):=Y102
 have k1b:S2.blk (s.nxt+1)=some (.row 94 [.agg [.int .i64 0,.int .i64 0,.int .i64 0,.int .i64 0,.int .i64 0,.sl .nil [],.sl .nil [],.int .u16 0,.int .u16 0,.sl .nil []]]):=Y103
 have kn:S2.nxt=s.nxt+3:=Y160
 have H:=aj k0 (aj k2 (aj k1b (aj kn H)))
 refine Run.drawM 8 [5,7] [S2,S2.set (s.nxt+2) (some (.row 94 [.agg [.int .i64 q.fn,.int .i64 0,.int .i64 q.at_,.int .i64 0,.int .i64 0,.sl .nil [],.sl .nil [],.int .u16 0,.int .u16 0,.sl .nil []]])),S2.set (s.nxt+2) (some (.row 94 [.agg [.int .i64 q.fn,.int .i64 0,.int .i64 q.at_,.int .i64 q.count,.int .i64 0,.sl .nil [],.sl .nil [],.int .u16 0,.int .u16 0,.sl .nil []]]))] Tryz.mixed Y19 Y19 ?_
 refine DetBC.pre (pre:=[_,_,_,_,_]) Y15 List.mem_cons_self au ?_
 refine DetBC.eff Y15 List.mem_cons_self au au ?_
 refine DetBC.pre (pre:=[_]) Y15 (List.mem_cons_of_mem _ List.mem_cons_self) au ?_
 refine DetBC.eff Y15 (List.mem_cons_of_mem _ List.mem_cons_self) au au ?_
 refine DetBC.nil (List.mem_cons_of_mem _ (List.mem_cons_of_mem _ List.mem_cons_self)) ?_
 refine rl [3,4,9] (k:=rs (k:=rg [3,4,9,155] (k:=rc (ht:=fun hc12=>?_) (hf:=fun hc12=>?_))))
 refine rr (k:=rO (k:=ro (pre:=[_,_]) (k:=?_)))
 refine RunO.made au au au Tryz.td41 Y140 (isEls_map (P:=Tryz.prog) (e:=42) (f:=PV.int .u16) (fun a=>⟨rfl,Y141⟩) _) Y142 (by rw [Tryz.by42];simp;try omega) (.inr rfl) ?_
 refine jO 4 ?_;rotate_left
 ·cases hc12
 ·exact Bool.noConfusion (hc10.symm.trans hc11)
 refine rg [0,3,4,5,6,7,9,67,136] (k:=rc (ht:=fun hc11=>?_) (hf:=fun hc11=>?_))
 refine rs (k:=?_)
 have hf:q.fn=16:=of_decide_eq_true hc11
 have ha:=ask_n (q:=q) Y14
 have ha1:(askF q).1.1=0:=Y159
 have ha2:(askF q).1.2=0:=Y159
 have ha3:(askF q).2.1=q.at_:=Y159
 have ha4:(askF q).2.2=q.count:=Y159
 have hT1:thereF D.c0.length 0 0=true:=Y99
 have hT2:thereF D.c0.length q.at_ q.count=true:=Y100
 have gA1:∀ x y,RefAt b D.up ((S.new x).set (s.nxt+2) y):=fun x y=>(gA.nw Y14 x).sv Y14 y
 have hr:=count_right hcO
 have hmv:=(right0 hr).mv
 have hne:q.vals≠[]:=vals_of hr hcO Y14
 have hTx:thereF D.c0.length q.at_ q.vals.length=true:=by rw [nv_16 hr hf];exact hT2
 have hfT:decide (q.fn=6)=false:=Y322
 have H:=aj ha1 (aj ha2 (aj ha3 (aj ha4 (aj hfT H))))
 refine Run.drawCut 7 [] Tryz.mixed Y19 Y19 ?_
 refine DetC.all au ?_
 refine RunO.callw au au au Y19 ((ref8_put3 (l:=D.v1) (n:=D.c0.length) (gA1 _ _).st (gA1 _ _).v1 hd5 hd2 hne Y14).mono ?_)
 rintro r s1 ⟨rfl,hs⟩
 have hs:=hs.trans (if_pos hTx)
 subst hs
 refine rl [3,4,9] (k:=rs (k:=?_))
 refine Run.genS fun S2 hS2=>?_
 have k0:S2.blk s.nxt=some (.row 44 [.agg [.int .i64 q.fn,.int .i64 q.at_,.int .i64 q.count,.int .i64 q.wat,.int .i64 q.sub,.sl .unk (q.bits.map PV.bool),.sl .unk (q.vals.map (PV.int .u16)),.int .u16 q.and_,.int .u16 q.or_]]):=Y101
 have k2:S2.blk (s.nxt+2)=some (.row 94 [.agg [.int .i64 q.fn,.int .i64 0,.int .i64 0,.int .i64 0,.int .i64 0,.sl .nil [],.sl .nil [],.int .u16 0,.int .u16 0,.sl .nil []]]):=Y102
 have k1b:S2.blk (s.nxt+1)=some (.row 94 [.agg [.int .i64 0,.int .i64 0,.int .i64 0,.int .i64 0,.int .i64 0,.sl .nil [],.sl .nil [],.int .u16 0,.int .u16 0,.sl .nil []]]):=Y103
 have kn:S2.nxt=s.nxt+3:=Y160
 have H:=aj k0 (aj k2 (aj k1b (aj kn H)))
 refine Run.drawM 8 [5,7] [S2,S2.set (s.nxt+2) (some (.row 94 [.agg [.int .i64 q.fn,.int .i64 0,.int .i64 q.at_,.int .i64 0,.int .i64 0,.sl .nil [],.sl .nil [],.int .u16 0,.int .u16 0,.sl .nil []]])),S2.set (s.nxt+2) (some (.row 94 [.agg [.int .i64 q.fn,.int .i64 0,.int .i64 q.at_,.int .i64 q.count,.int .i64 0,.sl .nil [],.sl .nil [],.int .u16 0,.int .u16 0,.sl .nil []]]))] Tryz.mixed Y19 Y19 ?_
 refine DetBC.pre (pre:=[_,_,_,_,_]) Y15 List.mem_cons_self au ?_
 refine DetBC.eff Y15 List.mem_cons_self au au ?_
 refine DetBC.pre (pre:=[_]) Y15 (List.mem_cons_of_mem _ List.mem_cons_self) au ?_
 refine DetBC.eff Y15 (List.mem_cons_of_mem _ List.mem_cons_self) au au ?_
 refine DetBC.nil (List.mem_cons_of_mem _ (List.mem_cons_of_mem _ List.mem_cons_self)) ?_
 refine rl [3,4,9] (k:=rs (k:=rg [3,4,9,155] (k:=rc (ht:=fun hc12=>?_) (hf:=fun hc12=>?_))))
 ·cases hc12
 refine jO 5 ?_;rotate_left
 refine rs (k:=rg [0,3,4,5,6,7,9,67,161] (k:=rc (ht:=fun hc13=>?_) (hf:=fun hc13=>?_)))
 refine rs (k:=?_)
 have hf:q.fn=22:=of_decide_eq_true hc13
 have ha:=ask_22 (q:=q) hf
 have ha1:(askF q).1.1=q.at_:=Y159
 have ha2:(askF q).1.2=1:=Y159
 have ha3:(askF q).2.1=q.at_:=Y159
 have ha4:(askF q).2.2=1:=Y159
 have hT1:thereF D.c0.length q.at_ 1=true:=Y99
 have hT2:thereF D.c0.length q.at_ 1=true:=Y100
 have gA1:∀ x y,RefAt b D.up ((S.new x).set (s.nxt+2) y):=fun x y=>(gA.nw Y14 x).sv Y14 y
 have H:=aj ha1 (aj ha2 (aj ha3 (aj ha4 H)))
 refine rr (k:=ro (pre:=[_,_,_,_,_]) (k:=rC (h:=ref8_get3 (l:=D.v1) (n:=D.c0.length) (gA1 _ _).st (gA1 _ _).v1 hd5 hd2 Y15) (k:=rh [0,3,4,5,9,10] (k:=rs (k:=?_)))))
 have htt:=hT1
 unfold thereF at htt
 have htt:=of_decide_eq_true htt
 have hat:q.at_.toNat<D.v1.length:=Y14
 have hcut:cutF D.v1 q.at_ 1=[(D.v1[q.at_.toNat]?).getD 0]:=by
  unfold cutF
  rw [show thereF D.v1.length q.at_ 1=true by rw [hd5];exact hT1,if_pos rfl]
  show (D.v1.drop q.at_.toNat).take 1=_
  rw [List.drop_eq_getElem_cons hat,List.getElem?_eq_getElem hat]
  rfl
 have hm0:((cutF D.v1 q.at_ 1).map (PV.int .u16))[0]? =some (.int .u16 ((D.v1[q.at_.toNat]?).getD 0)):=by rw [hcut];rfl
 have hml:(0<(cutF D.v1 q.at_ 1).length)=True:=by rw [hcut];simp
 have H:=aj hm0 (aj hml H)
 refine Run.drawCut 11 [] Tryz.mixed Y19 Y19 ?_
 refine DetC.pre (pre:=[_,_,_,_,_,_,_,_,_]) au ?_
 refine DetC.call au au au Y19 (ref8_Masked (q:=q)) ?_
 refine DetC.all au ?_
 refine RunO.callw au au au Y19 ((ref8_put3 (l:=D.v1) (n:=D.c0.length) (gA1 _ _).st (gA1 _ _).v1 (x:=[maskF ((D.v1[q.at_.toNat]?).getD 0) q]) hd5 hd2 Y67 Y14).mono ?_)
 rintro r s1 ⟨rfl,hs⟩
 have hs:=hs.trans (if_pos hT1)
 subst hs
 refine rl [3,4,9] (k:=?_)
 refine Run.genS fun S2 hS2=>?_
 have k0:S2.blk s.nxt=some (.row 44 [.agg [.int .i64 q.fn,.int .i64 q.at_,.int .i64 q.count,.int .i64 q.wat,.int .i64 q.sub,.sl .unk (q.bits.map PV.bool),.sl .unk (q.vals.map (PV.int .u16)),.int .u16 q.and_,.int .u16 q.or_]]):=Y101
 have k2:S2.blk (s.nxt+2)=some (.row 94 [.agg [.int .i64 q.fn,.int .i64 0,.int .i64 0,.int .i64 0,.int .i64 0,.sl .nil [],.sl .nil [],.int .u16 0,.int .u16 0,.sl .nil []]]):=Y102
 have k1b:S2.blk (s.nxt+1)=some (.row 94 [.agg [.int .i64 0,.int .i64 0,.int .i64 0,.int .i64 0,.int .i64 0,.sl .nil [],.sl .nil [],.int .u16 0,.int .u16 0,.sl .nil []]]):=Y103
 have kn:S2.nxt=s.nxt+3:=Y160
 have H:=aj k0 (aj k2 (aj k1b (aj kn H)))
 refine Run.drawM 12 [7,9,11] [S2,S2.set (s.nxt+2) (some (.row 94 [.agg [.int .i64 q.fn,.int .i64 0,.int .i64 q.at_,.int .i64 0,.int .i64 0,.sl .nil [],.sl .nil [],.int .u16 0,.int .u16 0,.sl .nil []]])),S2.set (s.nxt+2) (some (.row 94 [.agg [.int .i64 q.fn,.int .i64 0,.int .i64 q.at_,.int .i64 0,.int .i64 0,.sl .nil [],.sl .nil [],.int .u16 q.and_,.int .u16 0,.sl .nil []]])),S2.set (s.nxt+2) (some (.row 94 [.agg [.int .i64 q.fn,.int .i64 0,.int .i64 q.at_,.int .i64 0,.int .i64 0,.sl .nil [],.sl .nil [],.int .u16 q.and_,.int .u16 q.or_,.sl .nil []]]))] Tryz.mixed Y19 Y19 ?_
 refine DetBC.pre (pre:=[_,_,_,_,_,_,_]) Y15 List.mem_cons_self au ?_
 refine DetBC.eff Y15 List.mem_cons_self au au ?_
 refine DetBC.pre (pre:=[_]) Y15 (List.mem_cons_of_mem _ List.mem_cons_self) au ?_
 refine DetBC.eff Y15 (List.mem_cons_of_mem _ List.mem_cons_self) au au ?_
 refine DetBC.pre (pre:=[_]) Y15 (List.mem_cons_of_mem _ (List.mem_cons_of_mem _ List.mem_cons_self)) au ?_
 refine DetBC.eff Y15 (List.mem_cons_of_mem _ (List.mem_cons_of_mem _ List.mem_cons_self)) au au ?_
 refine DetBC.nil (List.mem_cons_of_mem _ (List.mem_cons_of_mem _ (List.mem_cons_of_mem _ List.mem_cons_self))) ?_
 refine jO 6 ?_;rotate_left
 refine rs (k:=rg [0,3,4,5,6,7,9,67,193] (k:=rc (ht:=fun hc14=>?_) (hf:=fun hc14=>?_)))
 refine rs (k:=?_)
 have hf:q.fn=23:=of_decide_eq_true hc14
 have ha:=ask_23 (q:=q) hf
 have ha1:(askF q).1.1=q.at_:=Y159
 have ha2:(askF q).1.2=q.count:=Y159
 have ha3:(askF q).2.1=q.wat:=Y159
 have ha4:(askF q).2.2=(q.vals.length:Int):=Y159
 have hT1:thereF D.c0.length q.at_ q.count=true:=Y99
 have hT2:thereF D.c0.length q.wat (q.vals.length:Int)=true:=Y100
 have gA1:∀ x y,RefAt b D.up ((S.new x).set (s.nxt+2) y):=fun x y=>(gA.nw Y14 x).sv Y14 y
 have hcn:=count_of hcO Y14
 have hr:=count_right hcO
 have hne:=vals_of hr hcO Y14
 have hTx:thereF D.c0.length q.wat q.vals.length=true:=hT2
 have hlo:(overF D.v1 q.wat.toNat q.vals).length=D.c0.length:=by
  rw [overF_len (by have:=there_len hTx;omega)];exact hd5
 have gA2:∀ x y,RefAt b { D.up with v1:=overF D.v1 q.wat.toNat q.vals } (((S.new x).set (s.nxt+2) y).set (b+4) (some (.row 42 ((overF D.v1 q.wat.toNat q.vals).map (PV.int .u16))))):=fun x y=>(gA1 x y).of (blk_set_ne Y14) rfl (by rw [blk_set_ne Y14];exact (gA1 x y).c0) (by rw [blk_set_ne Y14];exact (gA1 x y).c1) (by rw [blk_set_ne Y14];exact (gA1 x y).v0) (by rw [blk_set_self]) (by rw [blk_set_ne Y14];exact (gA1 x y).dv)
 have H:=aj ha1 (aj ha2 (aj ha3 (aj ha4 H)))
 refine Run.drawCut 7 [] Tryz.mixed Y19 Y19 ?_
 refine DetC.all au ?_
 refine RunO.callw au au au Y19 ((ref8_put3 (l:=D.v1) (n:=D.c0.length) (gA1 _ _).st (gA1 _ _).v1 hd5 hd2 hne Y14).mono ?_)
 rintro r s1 ⟨rfl,hs⟩
 have hs:=hs.trans (if_pos hTx)
 subst hs
 refine rl [0,4,5,6,9] (k:=rr (k:=ro (pre:=[_,_,_,_,_,_]) (k:=rC (h:=ref8_get3 (gA2 _ _).st (gA2 _ _).v1 hlo hd2 hcn) (k:=rh [4,9] (k:=rB (k:=rs (k:=rg [4] (k:=rR (k:=?_)))))))))
 refine jO 3 ?_;rotate_left
 refine rs (k:=rg [0,3,4,9,67,214] (k:=rc (ht:=fun hc15=>?_) (hf:=fun hc15=>?_)))
 refine rs (k:=?_)
 have hf:q.fn=8:=of_decide_eq_true hc15
 have gA1:∀ x y,RefAt b D.up ((S.new x).set (s.nxt+2) y):=fun x y=>(gA.nw Y14 x).sv Y14 y
 refine rr (k:=ro (pre:=[_,_]) (k:=?_))
 refine RunO.callw au au au Y19 ((ref8_diag (gA1 _ _) hq hcO hf).mono ?_)
 refine jO 7 ?_;rotate_left
 refine rs (k:=rg [0,4,9,219] (k:=rc (ht:=fun hc16=>?_) (hf:=fun hc16=>?_)))
 have hf:q.fn=17:=of_decide_eq_true hc16
 have hu9:D.up.unit%256=D.unit:=by show D.unit%256=D.unit;have:=hD.unit;unfold U8 at this;omega
 have gA1:∀ x y,RefAt b D.up ((S.new x).set (s.nxt+2) y):=fun x y=>(gA.nw Y14 x).sv Y14 y
 have H:=aj hu9 H
 refine rr (k:=ro (pre:=[_,_,_,_,_]) (k:=rO (k:=rh [4,9] (k:=rB (k:=rs (k:=rg [4] (k:=rR (k:=?_))))))))
 refine jO 3 ?_;rotate_left
 ·refine rk (k:=rB (k:=rs (k:=?_)))
  exfalso
  have hh:hasF q.fn=true:=Y77
  have:=has_cases hh
  simp only [decide_eq_true_eq,decide_eq_false_iff_not] at *
  omega
 any_goals
  refine jI 2 ?_
  refine dP [0] (pre:=[_,_,_,_,_,_,_,_,_]) (k:=?_)
  refine jO 8 ?_;rotate_left
 any_goals
  refine jI 8 ?_
  refine dC [0] (h:=fun s hs=>by rw [List.mem_singleton.1 hs];exact hcall _ gA13) (k:=?_)
  refine jO 9 ?_;rotate_left
 any_goals
  refine jI 1 ?_
  refine rs (k:=rr (k:=ro (pre:=[_,_,_]) (k:=?_)))
  refine jO 10 ?_;rotate_left
 any_goals
  refine jI 9 ?_
  refine dP [0,1] (pre:=[_,_,_,_]) (k:=?_)
  refine jO 11 ?_;rotate_left
 any_goals
  refine jI 4 ?_
  intro k1 s1 hm1
  refine jO 12 ?_;rotate_left
 any_goals
  refine jI 12 ?_
  have hmb:=hm1.blk
  refine jO 13 ?_;rotate_left
 any_goals
  refine jI 10 ?_
  refine RunO.callw au au au Y19 ((ref8_refuse gA).mono ?_)
  refine jO 7 ?_;rotate_left
 any_goals
  refine jI 11 ?_
  refine dE [(0,1)] (k:=?_)
  refine jO 14 ?_;rotate_left
 any_goals
  refine jI 13 ?_
  have hmx:=hm1.nx
  refine jO 15 ?_;rotate_left
 any_goals
  refine jI 14 ?_
  refine DetHC.nil ?_
  refine jO 6 ?_;rotate_left
 any_goals
  refine jI 15 ?_
  have H:=aj hmb H
  refine jO 16 ?_;rotate_left
 any_goals
  refine jI 6 ?_
  refine rl [4,9] (k:=rB (k:=rs (k:=rg [4] (k:=rR (k:=?_)))))
  refine jO 3 ?_;rotate_left
 any_goals
  refine jI 16 ?_
  refine rh [4,9] (k:=rB (k:=rs (k:=rg [4] (k:=rR (k:=?_)))))
  refine jO 3 ?_;rotate_left
 any_goals
  refine jI 5 ?_
  refine rk (k:=rB (k:=rs (k:=rg [4] (k:=rR (k:=?_)))))
  refine jO 3 ?_;rotate_left
 any_goals
  refine jI 7 ?_
  rintro r s1 ⟨rfl,rfl⟩
  refine jO 17 ?_;rotate_left
 any_goals
  refine jI 17 ?_
  refine rh [4] (k:=rR (k:=?_))
  refine jO 3 ?_;rotate_left
 any_goals
  refine jI 3 ?_
  first
   |(have hB:=(show doF D q=refD D.up q.fn 1 from by
      have hh:hasF q.fn=false:=Y77
      unfold doF
      dsimp only
      rw [if_pos hh];rfl)
     (try subst hS2)
     refine Ret.refd (doF D q).2 hA (r':=(doF D q).1.pv) Y104 ?_ (blw_rep _ _) hwf ?_ ⟨rfl,rfl⟩
     ·exact Y47
     ·rw [hB]
      exact Y48)
   |(have hB:=(show doF D q=refD D.up q.fn 3 from by
      have h00:¬ hasF q.fn=false:=Y77
      have hcc:¬ rightF q=0∨countF q=false:=.inr (by simpa using hc1)
      unfold doF
      dsimp only
      rw [if_neg h00,if_pos hcc];rfl)
     (try subst hS2)
     refine Ret.refd (doF D q).2 hA (r':=(doF D q).1.pv) Y104 ?_ (blw_rep _ _) hwf ?_ ⟨rfl,rfl⟩
     ·exact Y47
     ·rw [hB]
      exact Y48)
   |(have hB:=do_bad hcO (D:=D) (show thereF D.c0.length (askF q).1.1 (askF q).1.2=false∨thereF D.c0.length (askF q).2.1 (askF q).2.2=false by have hTu:thereF D.up.c0.length (askF q).1.1 (askF q).1.2=false∨thereF D.up.c0.length (askF q).2.1 (askF q).2.2=false:=Y368;exact hTu)
     (try subst hS2)
     refine Ret.refd (doF D q).2 hA (r':=(doF D q).1.pv) Y104 ?_ (blw_rep _ _) hwf ?_ ⟨rfl,rfl⟩
     ·exact Y47
     ·rw [hB]
      exact Y48)
   |(have hB:=do_8 hcO (D:=D) hf
     (try subst hS2)
     refine Ret.refd (doF D q).2 hA (r':=(doF D q).1.pv) Y104 ?_ (blw_rep _ _) hwf ?_ ⟨rfl,rfl⟩
     ·exact Y47
     ·rw [hB]
      exact Y48)
   |(have hB:=do_1 hcO (D:=D) hf hT1
     (try subst hS2)
     refine Ret.refd (doF D q).2 hA (r':=(doF D q).1.pv) Y104 ?_ (blw_rep _ _) hwf ?_ ⟨rfl,rfl⟩
     ·exact Y47
     ·rw [hB]
      exact Y49)
   |(have hB:=do_2 hcO (D:=D) hf hT1
     (try subst hS2)
     refine Ret.refd (doF D q).2 hA (r':=(doF D q).1.pv) Y104 ?_ (blw_rep _ _) hwf ?_ ⟨rfl,rfl⟩
     ·exact Y47
     ·rw [hB]
      exact Y49)
   |(have hB:=do_3 hcO (D:=D) hf hT1
     (try subst hS2)
     refine Ret.refd (doF D q).2 hA (r':=(doF D q).1.pv) Y104 ?_ (blw_rep _ _) hwf ?_ ⟨rfl,rfl⟩
     ·exact Y47
     ·rw [hB]
      exact Y49)
   |(have hB:=do_4 hcO (D:=D) hf hT1
     (try subst hS2)
     refine Ret.refd (doF D q).2 hA (r':=(doF D q).1.pv) Y104 ?_ (blw_rep _ _) hwf ?_ ⟨rfl,rfl⟩
     ·exact Y47
     ·rw [hB]
      exact Y49)
   |(have hB:=do_5 hcO (D:=D) hf hTx
     (try subst hS2)
     refine Ret.refd (doF D q).2 hA (r':=(doF D q).1.pv) Y104 ?_ (blw_rep _ _) hwf ?_ ⟨rfl,rfl⟩
     ·exact Y47
     ·rw [hB]
      exact Y105)
   |(have hB:=do_15 hcO (D:=D) hf hTx
     (try subst hS2)
     refine Ret.refd (doF D q).2 hA (r':=(doF D q).1.pv) Y104 ?_ (blw_rep _ _) hwf ?_ ⟨rfl,rfl⟩
     ·exact Y47
     ·rw [hB]
      exact Y49)
   |(have hB:=do_6 hcO (D:=D) hf hTx
     (try subst hS2)
     refine Ret.refd (doF D q).2 hA (r':=(doF D q).1.pv) Y104 ?_ (blw_rep _ _) hwf ?_ ⟨rfl,rfl⟩
     ·exact Y47
     ·rw [hB]
      exact Y105)
   |(have hB:=do_16 hcO (D:=D) hf hTx
     (try subst hS2)
     refine Ret.refd (doF D q).2 hA (r':=(doF D q).1.pv) Y104 ?_ (blw_rep _ _) hwf ?_ ⟨rfl,rfl⟩
     ·exact Y47
     ·rw [hB]
      exact Y49)
   |(have hB:=do_17 hcO (D:=D) hf
     (try subst hS2)
     refine Ret.refd (doF D q).2 hA (r':=(doF D q).1.pv) Y104 ?_ (blw_rep _ _) hwf ?_ ⟨rfl,rfl⟩
     ·exact Y47
     ·rw [hB]
      exact Y49)
   |(have hB:=do_22 hcO (D:=D) hf hT1
     (try subst hS2)
     refine Ret.refd (doF D q).2 hA (r':=(doF D q).1.pv) Y104 ?_ (blw_rep _ _) hwf ?_ ⟨rfl,rfl⟩
     ·exact Y47
     ·rw [hB]
      exact Y49)
   |(have hB:=do_23 hcO (D:=D) hf hT1 hTx
     (try subst hS2)
     refine Ret.refd (doF D q).2 hA (r':=(doF D q).1.pv) Y104 ?_ (blw_rep _ _) hwf ?_ ⟨rfl,rfl⟩
     ·exact Y47
     ·rw [hB]
      exact Y49)
end Go.Proofs
namespace Go.Proofs
open Go.PM
set_option maxHeartbeats 2000000
attribute [local go_sem] set_set putRef_hi putRef_nxt weaks_bools Req.pv Rep.pv
theorem Y50 {p:Prop} (h:p:=by
 exact
    (fun i hi=>by
  have h0:=ltn hi;have h1:=lte hi;have h2:(i=S.nxt)=False:=eq_false Y325
  try simp (disch:=first | omega |(simp only [nxt_set,nxt_new]<;>omega) | fail) only [h2,go_sem,Nat.add_assoc,Nat.reduceAdd,↓reduceIte,h0,h1]
  exact putRef_congr2 (m:=s.nxt) Y98 i hi)):p:=h
theorem Y216 {p:Prop} (h:p:=by simp only [Tryz.f47,go_sem,↓reduceIte]<;>rfl):p:=h
set_option maxRecDepth 100000 in
theorem ref8_Pdu {b:Nat} {D:Dev} {s:St} (hA:RefAt b D s) (hD:D.ok) {l:List Int} (hb:OkB l) (hl:l.length≤140737488351232):ACalls Tryz.prog 47 [.ptr (b+5) 0 0,.sl .unk (l.map (PV.int .u8))] s (fun r s'=>r=.sl .unk ((pduF D l).1.map (PV.int .u8))∧s'=putRef b (pduF D l).2 s):=by
 refine go Tryz.func47 (k:=fun hwf H=>?_)
 have hdv:=hA.dv
 unfold refRow at hdv
 have hlt:=hA.lt hwf
 have hA1:∀ x,RefAt b D (s.new x):=fun x=>hA.nw hlt x
 have hinc:IntKind.i64.wrap (D.msgs+1)=inc D.msgs:=rfl
 have H:=aj hdv (aj hinc H)
 obtain ⟨q,hQ⟩:∃ q,q=(readF l).1:=⟨_,rfl⟩
 obtain ⟨E,hE⟩:∃ E,E=(readF l).2:=⟨_,rfl⟩
 have hqo:q.ok:=by rw [hQ];exact readF_ok hb hl
 have hrd:∀ s,ACalls Tryz.prog 60 [.sl .unk (l.map (PV.int .u8))] s (fun r s'=>r=.tuple [q.pv,.int .i64 E]∧s'=s):=fun s=>by rw [hQ,hE];exact ref3_Read hb hl
 have hEr:=readF_err l
 rw [← hE] at hEr
 refine rs (k:=rg [0,1] (k:=rs (k:=rs (k:=rg [0,1,14] (k:=rc (ht:=fun hc0=>?_) (hf:=fun hc0=>?_))))))
 refine rs (k:=rg [4] (k:=rR (k:=?_)))
 refine jO 1 ?_;rotate_left
 refine rk (k:=rs (k:=?_))
 have hne:l≠[]:=by intro e;rw [e] at hc0;simp at hc0
 refine rr (k:=ro (pre:=[_]) (k:=rC (h:=hrd _) (k:=rh [0,1,5,6] (k:=rs (k:=rs (k:=rg [0,1,5,6,21] (k:=rc (ht:=fun hc1=>?_) (hf:=fun hc1=>?_))))))))
 refine rs (k:=rg [0,1,6] (k:=rs (k:=rg [0,1,6,7] (k:=rs (k:=rs (k:=rg [0,1,7,30] (k:=rc (ht:=fun hc2=>?_) (hf:=fun hc2=>?_))))))))
 refine rg [0,1,7] (k:=rs (k:=?_))
 refine jO 2 ?_;rotate_left
 refine rk (k:=rs (k:=?_))
 refine jO 2 ?_;rotate_left
 refine rk (k:=rs (k:=rr (k:=ro (pre:=[_,_]) (k:=?_))))
 refine RunO.callw au au au Y19 ((ref8_Do (hA1 _) hD hqo).mono ?_)
 rintro r s1 ⟨rfl,rfl⟩
 refine rC (h:=ref3_Lay Y269) (k:=rh [10] (k:=rs (k:=rg [4] (k:=rR (k:=?_)))))
 refine jO 1 ?_;rotate_left
 any_goals
  refine jI 2 ?_
  have hne:l≠[]:=by intro e;rw [e] at hc0;simp at hc0
  refine jO 3 ?_;rotate_left
 any_goals
  refine jI 3 ?_
  have hll:0<l.length:=List.length_pos_iff.2 hne
  refine jO 4 ?_;rotate_left
 any_goals
  refine jI 4 ?_
  obtain ⟨x,hx⟩:∃ x,l[0]? =some x:=⟨l[0],List.getElem?_eq_getElem hll⟩
  refine jO 5 ?_;rotate_left
 any_goals
  refine jI 5 ?_
  have hxx:(l.map (PV.int .u8))[0]? =some (.int .u8 x):=Y146
  refine jO 6 ?_;rotate_left
 any_goals
  refine jI 6 ?_
  have hlT:(0<l.length)=True:=eq_true hll
  refine jO 7 ?_;rotate_left
 any_goals
  refine jI 7 ?_
  have hx8:U8 x:=hb x (List.mem_of_getElem? hx)
  refine jO 8 ?_;rotate_left
 any_goals
  refine jI 8 ?_
  have hx0:(l[0]?).getD 0=x:=Y318
  refine jO 9 ?_;rotate_left
 any_goals
  refine jI 9 ?_
  have hxw:IntKind.i64.wrap x=x:=wrap_i64 Y255
  refine jO 10 ?_;rotate_left
 any_goals
  refine jI 10 ?_
  refine Run.genS fun S hS=>?_
  refine jO 11 ?_;rotate_left
 any_goals
  refine jI 11 ?_
  have gA:RefAt b D.up S:=by
   have e:∀ i,i≤b+5→i≠b+5→S.blk i=s.blk i:=fun i h1 h2=>Y40
   exact ⟨Y204,Y205,Y206,Y207,Y208,Y39⟩
  refine jO 12 ?_;rotate_left
 any_goals
  refine jI 12 ?_
  have gn:S.nxt=s.nxt+1:=by rw [hS];rfl
  refine jO 13 ?_;rotate_left
 any_goals
  refine jI 13 ?_
  have gf:∀ i,i<s.nxt→i≠b+5→S.blk i=s.blk i:=fun i h1 h2=>Y40
  refine jO 14 ?_;rotate_left
 any_goals
  refine jI 14 ?_
  clear hS
  refine jO 15 ?_;rotate_left
 any_goals
  refine jI 15 ?_
  have H:=aj hxx (aj hlT (aj hxw (aj gn H)))
  refine jO 16 ?_;rotate_left
 any_goals
  refine jI 16 ?_
  refine rr (k:=ro (pre:=[_,_,_,_,_,_]) (k:=?_))
  refine jO 17 ?_;rotate_left
 any_goals
  refine jI 17 ?_
  refine RunO.callw au au au Y19 ((ref8_refuse gA).mono ?_)
  refine jO 18 ?_;rotate_left
 any_goals
  refine jI 18 ?_
  rintro r s1 ⟨rfl,rfl⟩
  refine jO 19 ?_;rotate_left
 any_goals
  refine jI 19 ?_
  refine rC (h:=ref3_Lay Y269) (k:=rh [8] (k:=rs (k:=rg [4] (k:=rR (k:=?_)))))
  refine jO 1 ?_;rotate_left
 any_goals
  refine jI 1 ?_
  first
   |(have hEk:E=15:=by
      have h1:¬ E=0:=by simpa using hc1
      have h2:E=15:=by simpa using hc2
      have h3:¬ E=13:=fun h=>hne (hEr.1.1 h)
      have h4:=hEr.2
      omega
     have hB:pduF D l=(repF (refD D.up x 1).1,(refD D.up x 1).2):=by
      rw [← ref_u8_mod D.up x 1]
      unfold pduF
      rw [← hE,hEk,hx0]
      rfl
     refine Ret.refd (refD D.up x 1).2 hA (r':=.sl .unk ((repF (refD D.up x 1).1).map (PV.int .u8))) Y216 ?_ Y20 hwf ?_ ⟨Y88,Y88⟩
     ·exact Y326
     ·exact Y50)
   |(have hEk:E=12:=by
      have h1:¬ E=0:=by simpa using hc1
      have h2:¬ E=15:=by simpa using hc2
      have h3:¬ E=13:=fun h=>hne (hEr.1.1 h)
      have h4:=hEr.2
      omega
     have hB:pduF D l=(repF (refD D.up x 3).1,(refD D.up x 3).2):=by
      rw [← ref_u8_mod D.up x 3]
      unfold pduF
      rw [← hE,hEk,hx0]
      rfl
     refine Ret.refd (refD D.up x 3).2 hA (r':=.sl .unk ((repF (refD D.up x 3).1).map (PV.int .u8))) Y216 ?_ Y20 hwf ?_ ⟨Y88,Y88⟩
     ·exact Y326
     ·exact Y50)
   |(have h0:l=[]:=List.length_eq_zero_iff.1 Y74
     have hB:pduF D l=([],D):=by
      rw [h0];rfl
     refine Ret.refd D hA (r':=.sl .unk (([]:List Int).map (PV.int .u8))) Y216 ?_ Y20 hwf ?_ ⟨Y88,Y88⟩
     ·rfl
     ·rw [show putRef b D s=s from (eq_putRef rfl hA fun _ _=>rfl).symm]
      exact fun i hi=>Y51)
   |(have hE0:E=0:=by simpa using hc1
     have hB:pduF D l=(repF (doF D q).1,(doF D q).2):=by
      unfold pduF
      rw [← hE,hE0,← hQ]
      rfl
     refine Ret.refd (doF D q).2 hA (r':=.sl .unk ((repF (doF D q).1).map (PV.int .u8))) Y216 ?_ Y20 hwf ?_ ⟨Y88,Y88⟩
     ·exact Y326
     ·exact (fun i hi=>by
      have h0:=ltn hi;have h1:=lte hi
      try simp (disch:=first | omega |(simp only [nxt_set,nxt_new]<;>omega) | fail) only [go_sem,Nat.add_assoc,Nat.reduceAdd,↓reduceIte,h0,h1]
      exact putRef_congr2 (m:=s.nxt) (fun j hj hj2=>by
       have h0:=ltn hj;have h1:=lte hj
       first | rfl | simp (disch:=first | omega |(simp only [nxt_set,nxt_new]<;>omega) | fail) only [go_sem,Nat.add_assoc,Nat.reduceAdd,↓reduceIte,h0,h1]) i hi))
end Go.Proofs
namespace Go.Proofs
open Go.PM
set_option maxHeartbeats 2000000
theorem Y329 {p:Prop} (h:p:=by rw [← List.map_drop,List.take_of_length_le (by rw [List.length_map,List.length_drop];omega)]):p:=h
theorem rtu_Read {b:List Int} (hb:OkB b) (hl:b.length≤140737488350000) {s:St}:ACalls Tryz.prog 38 [.sl .unk (b.map (PV.int .u8))] s (fun r s'=>r=.tuple [.int .i64 (rtuF b).1.1,.sl .unk ((rtuF b).1.2.map (PV.int .u8)),.int .i64 (rtuF b).2]∧s'=s):=by
 refine go Tryz.func38 (k:=fun hwf H=>?_)
 refine rs (k:=rg [0] (k:=rs (k:=rr (k:=ro (pre:=[_]) (k:=rC (h:=crc_Open hb hl) (k:=rh [0,5,6] (k:=rs (k:=rb (k:=rs (k:=rg [0,5,6,12] (k:=rc (ht:=fun hc0=>?_) (hf:=fun hc0=>?_))))))))))))
 refine jO 1 ?_;rotate_left
 refine rs (k:=rg [5,6,16] (k:=rc (ht:=fun hc1=>?_) (hf:=fun hc1=>?_)))
 refine jO 1 ?_;rotate_left
 refine rs (k:=rg [5,20] (k:=rc (ht:=fun hc2=>?_) (hf:=fun hc2=>?_)))
 refine jO 1 ?_;rotate_left
 refine rs (k:=?_)
 obtain ⟨x,ho⟩:∃ x,openB b=some x:=Option.isSome_iff_exists.1 Y368
 have hxl:x.length=b.length-2:=by
  unfold openB at ho
  split at ho
  ·cases ho;rw [List.length_take];omega
  ·cases ho
 have hbl:4≤b.length:=Y76
 have hxo:=open_ok hb ho
 have hx0:0<x.length:=Y14
 obtain ⟨y,hy⟩:∃ y,x[0]? =some y:=⟨x[0],List.getElem?_eq_getElem hx0⟩
 have hyy:(x.map (PV.int .u8))[0]? =some (.int .u8 y):=by rw [List.getElem?_map,hy];rfl
 have hxT:(0<x.length)=True:=eq_true hx0
 have hxT1:((1:Int)≤(x.length:Int))=True:=eq_true Y14
 have hgd:(openB b).getD []=x:=by rw [ho];rfl
 have hy8:U8 y:=hxo y (List.mem_of_getElem? hy)
 have hyw:IntKind.i64.wrap y=y:=wrap_i64 (by unfold U8 at hy8;omega)
 have hh0:hd0 x=y:=by unfold hd0;rw [hy];rfl
 have hln:((x.length:Int)-1).toNat=x.length-1:=Y14
 have htk:((x.map (PV.int .u8)).drop 1).take (x.length-1)=(x.drop 1).map (PV.int .u8):=Y329
 have h1n:Int.toNat 1=1:=rfl
 have H:=aj hyy (aj hxT (aj hxT1 (aj hgd (aj hyw (aj hln (aj htk (aj h1n H)))))))
 refine rg [5,23] (k:=rc (ht:=fun hc3=>?_) (hf:=fun hc3=>?_))
 refine jO 1 ?_;rotate_left
 refine rk (k:=rB (k:=rs (k:=?_)))
 refine Run.drawC [] [2,3,4] Tryz.mixed Y19 ?_
 refine DetC.pre (pre:=[_,_,_,_,_,_]) au ?_
 refine DetC.call au au au Y19 (clip_u8 (xs:=x.drop 1)) ?_
 refine DetC.all au ?_
 refine re (k:=rR (k:=?_))
 refine jO 2 ?_;rotate_left
 any_goals
  refine jI 1 ?_
  refine rs (k:=rg [2,3,4] (k:=rR (k:=?_)))
  refine jO 2 ?_;rotate_left
 any_goals
  refine jI 2 ?_
  refine Ret.pure (r':=.tuple [.int .i64 (rtuF b).1.1,.sl .unk ((rtuF b).1.2.map (PV.int .u8)),.int .i64 (rtuF b).2]) (by simp only [Tryz.f38,go_sem,↓reduceIte]<;>rfl) ?_ Y96 hwf Y26 ⟨rfl,rfl⟩
  refine jO 3 ?_;rotate_left
 any_goals
  refine jI 3 ?_
  simp only [PV.weak,PV.weaks,weaks_u8]
  refine jO 4 ?_;rotate_left
 any_goals
  refine jI 4 ?_
  first
   |(have e:rtuF b=((0,[]),13):=by unfold rtuF;rw [if_pos Y74]
     rw [e];rfl)
   |(have e:rtuF b=((0,[]),3):=by unfold rtuF;rw [if_neg Y76,if_pos Y71]
     rw [e];rfl)
   |(have ho:openB b=none:=by cases hq:openB b with | none=>rfl | some x=>rw [hq] at hc2;simp at hc2
     have e:rtuF b=((0,[]),14):=by unfold rtuF;rw [if_neg Y76,if_neg Y138,ho]
     rw [e];rfl)
   |(have h3:hd0 x<1∨247<hd0 x:=by rw [hh0];simpa using hc3
     have e:rtuF b=((0,[]),1):=by unfold rtuF;rw [if_neg Y14,if_neg Y138,ho];exact if_pos h3
     rw [e];rfl)
   |(have h3:¬ (hd0 x<1∨247<hd0 x):=by rw [hh0];simp at hc3;omega
     have e:rtuF b=((y,x.drop 1),0):=by unfold rtuF;rw [if_neg Y14,if_neg Y138,ho];exact (if_neg h3).trans (by rw [hh0])
     rw [e];first | done | simp only [weaks_u8,List.map_drop] | rfl)
theorem ref5_Read {b:List Int} (hb:OkB b) (hl:b.length≤140737488350000) {s:St}:ACalls Tryz.prog 20 [.sl .unk (b.map (PV.int .u8))] s (fun r s'=>r=.tuple [.int .i64 (rtuF b).1.1,.sl .unk ((rtuF b).1.2.map (PV.int .u8)),.int .i64 (rtuF b).2]∧s'=s):=by
 refine go Tryz.func20 (k:=fun hwf H=>?_)
 refine rs (k:=rg [0] (k:=rs (k:=rs (k:=rg [0,9] (k:=rc (ht:=fun hc0=>?_) (hf:=fun hc0=>?_))))))
 refine jO 1 ?_;rotate_left
 refine rk (k:=rs (k:=rs (k:=rg [0,12] (k:=rc (ht:=fun hc1=>?_) (hf:=fun hc1=>?_)))))
 refine jO 1 ?_;rotate_left
 refine rk (k:=rs (k:=rr (k:=ro (pre:=[_]) (k:=rC (h:=ref1_Unseal hb hl) (k:=rh [5,6] (k:=rs (k:=rs (k:=rg [5,19] (k:=rc (ht:=fun hc2=>?_) (hf:=fun hc2=>?_))))))))))
 refine jO 1 ?_;rotate_left
 refine rk (k:=rs (k:=rs (k:=?_)))
 obtain ⟨x,ho⟩:∃ x,openB b=some x:=Option.isSome_iff_exists.1 Y368
 have hxl:x.length=b.length-2:=by
  unfold openB at ho
  split at ho
  ·cases ho;rw [List.length_take];omega
  ·cases ho
 have hbl:4≤b.length:=Y76
 have hxo:=open_ok hb ho
 have hx0:0<x.length:=Y14
 obtain ⟨y,hy⟩:∃ y,x[0]? =some y:=⟨x[0],List.getElem?_eq_getElem hx0⟩
 have hyy:(x.map (PV.int .u8))[0]? =some (.int .u8 y):=by rw [List.getElem?_map,hy];rfl
 have hxT:(0<x.length)=True:=eq_true hx0
 have hxT1:((1:Int)≤(x.length:Int))=True:=eq_true Y14
 have hgd:(openB b).getD []=x:=by rw [ho];rfl
 have hy8:U8 y:=hxo y (List.mem_of_getElem? hy)
 have hyw:IntKind.i64.wrap y=y:=wrap_i64 (by unfold U8 at hy8;omega)
 have hh0:hd0 x=y:=by unfold hd0;rw [hy];rfl
 have hln:((x.length:Int)-1).toNat=x.length-1:=Y14
 have htk:((x.map (PV.int .u8)).drop 1).take (x.length-1)=(x.drop 1).map (PV.int .u8):=Y329
 have h1n:Int.toNat 1=1:=rfl
 have H:=aj hyy (aj hxT (aj hxT1 (aj hgd (aj hyw (aj hln (aj htk (aj h1n H)))))))
 refine rg [5,29] (k:=rc (ht:=fun hc3=>?_) (hf:=fun hc3=>?_))
 refine jO 1 ?_;rotate_left
 refine rk (k:=rs (k:=?_))
 refine Run.drawC [] [2,3,4] Tryz.mixed Y19 ?_
 refine DetC.all au ?_
 refine re (k:=rR (k:=?_))
 refine jO 2 ?_;rotate_left
 any_goals
  refine jI 1 ?_
  refine rs (k:=rg [2,3,4] (k:=rR (k:=?_)))
  refine jO 2 ?_;rotate_left
 any_goals
  refine jI 2 ?_
  refine Ret.pure (r':=.tuple [.int .i64 (rtuF b).1.1,.sl .unk ((rtuF b).1.2.map (PV.int .u8)),.int .i64 (rtuF b).2]) (by simp only [Tryz.f20,go_sem,↓reduceIte]<;>rfl) ?_ Y96 hwf Y26 ⟨rfl,rfl⟩
  refine jO 3 ?_;rotate_left
 any_goals
  refine jI 3 ?_
  simp only [PV.weak,PV.weaks,weaks_u8]
  refine jO 4 ?_;rotate_left
 any_goals
  refine jI 4 ?_
  first
   |(have e:rtuF b=((0,[]),13):=by unfold rtuF;rw [if_pos Y74]
     rw [e];rfl)
   |(have e:rtuF b=((0,[]),3):=by unfold rtuF;rw [if_neg Y76,if_pos Y71]
     rw [e];rfl)
   |(have ho:openB b=none:=by cases hq:openB b with | none=>rfl | some x=>rw [hq] at hc2;simp at hc2
     have e:rtuF b=((0,[]),14):=by unfold rtuF;rw [if_neg Y76,if_neg Y138,ho]
     rw [e];rfl)
   |(have h3:hd0 x<1∨247<hd0 x:=by rw [hh0];simpa using hc3
     have e:rtuF b=((0,[]),1):=by unfold rtuF;rw [if_neg Y14,if_neg Y138,ho];exact if_pos h3
     rw [e];rfl)
   |(have h3:¬ (hd0 x<1∨247<hd0 x):=by rw [hh0];simp at hc3;omega
     have e:rtuF b=((y,x.drop 1),0):=by unfold rtuF;rw [if_neg Y14,if_neg Y138,ho];exact (if_neg h3).trans (by rw [hh0])
     rw [e];first | done | simp only [weaks_u8,List.map_drop] | rfl)
theorem Y217 {p:Prop} (h:p:=by exact (fun i hi=>by first | rfl | exact hlo i hi |(have h0:=ltn hi;have h1:=lte hi;simp only [go_sem,Nat.add_assoc,Nat.reduceAdd,↓reduceIte,h0,h1]))):p:=h
theorem Y330 {p:Prop} (h:p:=by simp only [Bool.or_eq_false_iff,decide_eq_false_iff_not] at hc0;rw [u8_wrap];omega):p:=h
theorem Y331 {p:Prop} (h:p:=by simp only [Bool.or_eq_false_iff,decide_eq_false_iff_not] at hc0;constructor<;>omega):p:=h
theorem ref5_Frame {a:Int} {b:List Int} (hb:OkB b) (hl:b.length≤140737488350000) {s:St}:ACalls Tryz.prog 34 [.int .i64 a,.sl .unk (b.map (PV.int .u8))] s (fun r s'=>r=.tuple [.sl .unk ((frameA a b).1.map (PV.int .u8)),.int .i64 (frameA a b).2]∧s'=s):=by
 refine go Tryz.func34 (k:=fun hwf H=>?_)
 refine rs (k:=rg [0,1] (k:=rs (k:=rs (k:=rg [0,1,11] (k:=rc (ht:=fun hc0=>?_) (hf:=fun hc0=>?_))))))
 refine jO 1 ?_;rotate_left
 refine rk (k:=rs (k:=rs (k:=rg [0,1,14] (k:=rc (ht:=fun hc1=>?_) (hf:=fun hc1=>?_)))))
 refine jO 1 ?_;rotate_left
 refine rk (k:=rs (k:=rs (k:=rg [0,1,17] (k:=rc (ht:=fun hc2=>?_) (hf:=fun hc2=>?_)))))
 refine jO 1 ?_;rotate_left
 refine rk (k:=rs (k:=?_))
 have haw:IntKind.u8.wrap a=a:=Y330
 have hao:OkB (a::b):=OkB.cons Y331 hb
 have H:=aj haw H
 refine rr (k:=ro (pre:=[_,_]) (k:=rO (k:=ro (pre:=[_]) (k:=?_))))
 refine RunO.growL (f:=PV.int .u8) [a] b (a::b) (ky:=.unk) au au au rfl Tryz.td23 Y72 (fun a=>⟨rfl,Y23⟩) Y24 Y73 (fun k' S hlo hnx=>?_)
 refine rC (h:=ref1_Seal (l:=a::b) hao Y246) (k:=rh [4,5] (k:=rR (k:=?_)))
 refine jO 2 ?_;rotate_left
 any_goals
  refine jI 1 ?_
  refine rs (k:=rg [4,5] (k:=rR (k:=?_)))
  refine jO 2 ?_;rotate_left
 any_goals
  refine jI 2 ?_
  refine Ret.pure (r':=.tuple [.sl .unk ((frameA a b).1.map (PV.int .u8)),.int .i64 (frameA a b).2]) (by simp only [Tryz.f34,go_sem,↓reduceIte]<;>rfl) ?_ Y96 hwf Y217 ⟨rfl,rfl⟩
  refine jO 3 ?_;rotate_left
 any_goals
  refine jI 3 ?_
  simp only [PV.weak,PV.weaks,weaks_u8]
  refine jO 4 ?_;rotate_left
 any_goals
  refine jI 4 ?_
  simp only [Bool.or_eq_true,Bool.or_eq_false_iff,decide_eq_true_eq,decide_eq_false_iff_not] at *
  refine jO 5 ?_;rotate_left
 any_goals
  refine jI 5 ?_
  have hbn:b=[]↔(b.length:Int)=0:=⟨fun e=>by rw [e];rfl,fun e=>List.length_eq_zero_iff.1 Y14⟩
  refine jO 6 ?_;rotate_left
 any_goals
  refine jI 6 ?_
  first
   |(have e:frameA a b=([],1):=by unfold frameA;rw [if_pos hc0]
     rw [e];rfl)
   |(have e:frameA a b=([],13):=by unfold frameA;rw [if_neg Y14,if_pos (hbn.2 Y14)]
     rw [e];rfl)
   |(have e:frameA a b=([],3):=by unfold frameA;rw [if_neg Y14,if_neg (fun h=>absurd (hbn.1 h) Y14),if_pos Y14]
     rw [e];rfl)
   |(have e:frameA a b=(sealB (a::b),0):=by unfold frameA;rw [if_neg Y14,if_neg (fun h=>absurd (hbn.1 h) Y14),if_neg Y14]
     rw [e])
theorem rtu_Frame {a:Int} {b:List Int} (hb:OkB b) (hl:b.length≤140737488350000) {s:St}:ACalls Tryz.prog 91 [.int .i64 a,.sl .unk (b.map (PV.int .u8))] s (fun r s'=>r=.tuple [.sl .unk ((frameA a b).1.map (PV.int .u8)),.int .i64 (frameA a b).2]∧s'=s):=by
 refine go Tryz.func91 (k:=fun hwf H=>?_)
 refine rs (k:=rg [0,1] (k:=rs (k:=rb (k:=rs (k:=rg [0,1,6] (k:=rc (ht:=fun hc0=>?_) (hf:=fun hc0=>?_)))))))
 refine jO 1 ?_;rotate_left
 refine rs (k:=rg [0,1,13] (k:=rc (ht:=fun hc1=>?_) (hf:=fun hc1=>?_)))
 refine jO 1 ?_;rotate_left
 refine rs (k:=rg [0,1,17] (k:=rc (ht:=fun hc2=>?_) (hf:=fun hc2=>?_)))
 refine jO 1 ?_;rotate_left
 refine rk (k:=rB (k:=rs (k:=?_)))
 have haw:IntKind.u8.wrap a=a:=Y330
 have hao:OkB (a::b):=OkB.cons Y331 hb
 have H:=aj haw H
 refine rr (k:=ro (pre:=[_,_]) (k:=rO (k:=ro (pre:=[_]) (k:=?_))))
 refine RunO.growL (f:=PV.int .u8) [a] b (a::b) (ky:=.unk) au au au rfl Tryz.td23 Y72 (fun a=>⟨rfl,Y23⟩) Y24 Y73 (fun k' S hlo hnx=>?_)
 refine rC (h:=crc_Seal (l:=a::b) hao Y246) (k:=rh [4,5] (k:=rR (k:=?_)))
 refine jO 2 ?_;rotate_left
 any_goals
  refine jI 1 ?_
  refine rs (k:=rg [4,5] (k:=rR (k:=?_)))
  refine jO 2 ?_;rotate_left
 any_goals
  refine jI 2 ?_
  refine Ret.pure (r':=.tuple [.sl .unk ((frameA a b).1.map (PV.int .u8)),.int .i64 (frameA a b).2]) (by simp only [Tryz.f91,go_sem,↓reduceIte]<;>rfl) ?_ Y96 hwf Y217 ⟨rfl,rfl⟩
  refine jO 3 ?_;rotate_left
 any_goals
  refine jI 3 ?_
  simp only [PV.weak,PV.weaks,weaks_u8]
  refine jO 4 ?_;rotate_left
 any_goals
  refine jI 4 ?_
  simp only [Bool.or_eq_true,Bool.or_eq_false_iff,decide_eq_true_eq,decide_eq_false_iff_not] at *
  refine jO 5 ?_;rotate_left
 any_goals
  refine jI 5 ?_
  have hbn:b=[]↔(b.length:Int)=0:=⟨fun e=>by rw [e];rfl,fun e=>List.length_eq_zero_iff.1 Y14⟩
  refine jO 6 ?_;rotate_left
 any_goals
  refine jI 6 ?_
  first
   |(have e:frameA a b=([],1):=by unfold frameA;rw [if_pos hc0]
     rw [e];rfl)
   |(have e:frameA a b=([],13):=by unfold frameA;rw [if_neg Y14,if_pos (hbn.2 Y14)]
     rw [e];rfl)
   |(have e:frameA a b=([],3):=by unfold frameA;rw [if_neg Y14,if_neg (fun h=>absurd (hbn.1 h) Y14),if_pos Y14]
     rw [e];rfl)
   |(have e:frameA a b=(sealB (a::b),0):=by unfold frameA;rw [if_neg Y14,if_neg (fun h=>absurd (hbn.1 h) Y14),if_neg Y14]
     rw [e])
attribute [local go_sem] weaks_bools Req.pv
theorem ref17_Frame {q:Req} (hq:q.ok) {s:St}:ACalls Tryz.prog 16 [q.pv] s (fun r s'=>r=.sl .unk ((frameF (bytesF q)).map (PV.int .u8))∧s'=s):=by
 refine go Tryz.func16 (k:=fun hwf H=>?_)
 have hbo:OkB (bytesF q):=by unfold bytesF;split;exact writeF_ok hq ‹_›;exact OkB.nil
 have hbl:(bytesF q).length≤140737488350000:=by
  unfold bytesF
  split
  ·have:=writeF_len ‹_›;omega
  ·simp
 refine rs (k:=rg [1] (k:=rs (k:=rr (k:=ro (pre:=[_]) (k:=rC (h:=ref3_Bytes hq) (k:=rh [3,4] (k:=rs (k:=rs (k:=rg [3,13] (k:=rc (ht:=fun hc0=>?_) (hf:=fun hc0=>?_)))))))))))
 refine rs (k:=rg [2] (k:=rR (k:=?_)))
 refine jO 1 ?_;rotate_left
 refine rk (k:=rs (k:=rr (k:=ro (pre:=[_]) (k:=rC (h:=ref5_Frame (a:=17) hbo hbl) (k:=rh [5] (k:=rs (k:=rg [2] (k:=rR (k:=?_)))))))))
 refine jO 1 ?_;rotate_left
 any_goals
  refine jI 1 ?_
  refine Ret.pure (r':=.sl .unk ((frameF (bytesF q)).map (PV.int .u8))) (by simp only [Tryz.f16,go_sem,↓reduceIte]<;>rfl) ?_ Y20 hwf Y26 ⟨rfl,rfl⟩
  refine jO 2 ?_;rotate_left
 any_goals
  refine jI 2 ?_
  simp only [PV.weak,PV.weaks,weaks_u8]
  refine jO 3 ?_;rotate_left
 any_goals
  refine jI 3 ?_
  first
   |(have h0:¬ rightF q=0:=by simpa using hc0
     have e:bytesF q=[]:=by unfold bytesF;rw [if_neg h0]
     rw [e];rfl)
   | rfl
end Go.Proofs
namespace Go.Proofs
open Go.PM
set_option maxHeartbeats 2000000
def lnRow (d:Nat) (a0 a1 a2 a3 st:PV):Blk:=.row 74 [.agg [.ptr d 0 0,a0,a1,a2,a3,st]]
theorem line_New {d:Nat} {s:St}:ACalls Tryz.prog 9 [.ptr d 0 0] s (fun r s'=>r=.ptr s.nxt 0 0∧s'=s.new (lnRow d (.sl .nil []) (.sl .nil []) (.sl .nil []) (.sl .nil []) (.sl .nil []))):=by
 refine go Tryz.func9 (k:=fun hwf H=>?_)
 refine rs (k:=rg [0] (k:=rs (k:=rs (k:=rg [0,4] (k:=rc (ht:=fun hc0=>?_) (hf:=fun hc0=>?_))))))
 ·cases hc0
 ·refine rk (k:=rs (k:=rg [2] (k:=rR (k:=?_))))
  exact Ret.all (by simp only [Tryz.f9,go_sem,↓reduceIte]<;>rfl) ⟨rfl,by unfold lnRow;rfl⟩
theorem line_NewN {s:St}:ACalls Tryz.prog 9 [.nilp] s (fun r s'=>r=.nilp∧s'=s):=by
 refine go Tryz.func9 (k:=fun hwf H=>?_)
 refine rs (k:=rg [0] (k:=rs (k:=rs (k:=rg [0,4] (k:=rc (ht:=fun hc0=>?_) (hf:=fun hc0=>?_))))))
 ·refine rs (k:=rg [2] (k:=rR (k:=rP (by simp only [Tryz.f9,go_sem];rfl) hwf ⟨?_,rfl⟩)))
  simp [PV.weak,go_sem]
 ·cases hc0
theorem line_is {t:Int} {s:St}:ACalls Tryz.prog 30 [.int .i64 t] s (fun r s'=>r=.bool (decide (0≤t)&&decide (t<4))∧s'=s):=by
 refine go Tryz.func30 (k:=fun hwf H=>?_)
 refine rs (k:=rg [0] (k:=rs (k:=rg [2] (k:=rR (k:=rP (by simp only [Tryz.f30,go_sem];rfl) hwf ⟨?_,rfl⟩)))))
 rfl
theorem line_Device {ln d:Nat} {a0 a1 a2 a3 st:PV} {s:St} (hl:s.blk ln=some (lnRow d a0 a1 a2 a3 st)):ACalls Tryz.prog 22 [.ptr ln 0 0] s (fun r s'=>r=.ptr d 0 0∧s'=s):=by
 refine go Tryz.func22 (k:=fun hwf H=>?_)
 unfold lnRow at hl
 have H:=aj hl H
 refine rs (k:=rg [0] (k:=rs (k:=rg [2] (k:=rR (k:=?_)))))
 exact Ret.all (by simp only [Tryz.f22,go_sem,↓reduceIte]<;>rfl) ⟨rfl,rfl⟩
theorem Y218 {p:Prop} (h:p:=by
 refine rk (k:=rs (k:=rg [4] (k:=rR (k:=?_))))
 exact Ret.all (by simp only [Tryz.f12,go_sem,↓reduceIte,H]<;>rfl) ⟨rfl,rfl⟩):p:=h
theorem line_Left0 {ln d:Nat} {a1 a2 a3 st:PV} {k:SK} {L:List Int} {s:St} (hl:s.blk ln=some (lnRow d (.sl k (L.map (PV.int .i64))) a1 a2 a3 st)):ACalls Tryz.prog 12 [.ptr ln 0 0,.int .i64 0] s (fun r s'=>r=.int .i64 L.length∧s'=s):=by
 refine go Tryz.func12 (k:=fun hwf H=>?_)
 unfold lnRow at hl
 have f0:((0:Int)<((4:Nat):Int))=True:=eq_true Y15
 have f1:((0:Int)≤0)=True:=eq_true Y15
 have f2:Int.toNat 0=0:=rfl
 have f3:decide ((0:Int)≤0)=true:=Y15
 have f4:decide ((0:Int)<4)=true:=Y15
 have H:=aj f0 (aj f1 (aj f2 (aj f3 (aj f4 H))))
 have H:=aj hl H
 refine rs (k:=rg [0,1] (k:=rs (k:=rs (k:=rr (k:=ro (pre:=[_]) (k:=rC (h:=(line_is (t:=0))) (k:=rh [0,1,7] (k:=rc (ht:=fun hc0=>?_) (hf:=fun hc0=>?_)))))))))
 ·cases hc0
 ·exact Y218
theorem Y161 {p:Prop} (h:p:=by rw [Tryz.cz3];first | done | rfl):p:=h
theorem Y52 {p:Prop} (h:p:=by first | exact isEls_map (P:=Tryz.prog) (e:=3) (f:=PV.int .i64) (fun a=>⟨rfl,Y161⟩) _ |(intro p hp;cases hp)):p:=h
theorem Y162 {p:Prop} (h:p:=by rw [Tryz.by3];simp<;>omega):p:=h
theorem Y219 {p:Prop} (h:p:=by simp only [Tryz.f11,go_sem,↓reduceIte]<;>rfl):p:=h
theorem Y277 {p:Prop} (h:p:=by rw [Tryz.zp3];rfl):p:=h
theorem Y278 {p:Prop} (h:p:=by rw [Tryz.by3];decide):p:=h
theorem line_Hurt0N {ln d:Nat} {a1 a2 a3 st:PV} {F:Int} (hF:0≤F∧F≤4) {s:St} (hl:s.blk ln=some (lnRow d (.sl .nil []) a1 a2 a3 st)):ACalls Tryz.prog 11 [.ptr ln 0 0,.int .i64 0,.int .i64 F] s (fun r s'=>r=.bool true∧s'=((s.new (.tok [F].length)).set ln (some (lnRow d (.sl (.tok s.nxt 1) ([F].map (PV.int .i64))) a1 a2 a3 st)))):=by
 refine go Tryz.func11 (k:=fun hwf H=>?_)
 unfold lnRow at hl
 have hlt:=lt_blk hwf hl
 have f0:((0:Int)<((4:Nat):Int))=True:=eq_true Y15
 have f1:((0:Int)≤0)=True:=eq_true Y15
 have f2:Int.toNat 0=0:=rfl
 have f3:decide ((0:Int)≤0)=true:=Y15
 have f4:decide ((0:Int)<4)=true:=Y15
 have H:=aj f0 (aj f1 (aj f2 (aj f3 (aj f4 H))))
 have g1:decide (F<0)=false:=decide_eq_false Y14
 have g2:decide (4<F)=false:=decide_eq_false Y14
 have H:=aj g1 (aj g2 H)
 have g3:decide ((1000:Int)≤0)=false:=Y15
 have H:=aj g3 H
 have n1:(ln=s.nxt)=False:=eq_false Y14
 have H:=aj n1 H
 have H:=aj hl H
 refine rs (k:=rg [0,1,2] (k:=rs (k:=rs (k:=rr (k:=ro (pre:=[_]) (k:=rC (h:=(line_is (t:=0))) (k:=rh [0,1,2,27] (k:=rc (ht:=fun hc0=>?_) (hf:=fun hc0=>?_)))))))))
 ·cases hc0
 ·refine rk (k:=rs (k:=rH 15 [10,14] [[false,false],[true,false],[true,true]] [s,(s.new (.tok [F].length)),((s.new (.tok [F].length)).set ln (some (.row 74 [.agg [.ptr d 0 0,.sl (.tok s.nxt 1) ([F].map (PV.int .i64)),a1,a2,a3,st]])))] Tryz.mixed (k:=?_)))
  refine dP [0,1] (pre:=[_,_,_,_,_,_,_,_,_,_]) (k:=?_)
  refine DetHC.app (kx:=.nil) (xs:=[]) (ys:=[F].map (PV.int .i64)) (v:=.sl (.tok s.nxt 1) ([F].map (PV.int .i64))) [(0,1)] _ Y19 pq au au au Tryz.td27 Y277 Y52 (isEls_map (P:=Tryz.prog) (e:=3) (f:=PV.int .i64) (fun a=>⟨rfl,Y161⟩) _) Y278 Y162 (by intro q hq;rw [List.mem_singleton.1 hq];exact aAppend_nilL (f:=PV.int .i64) (ys:=[F]) Y67 (by rw [Tryz.cz3])) ?_
  refine dP [0,1] (pre:=[_,_,_]) (k:=?_)
  refine dE [(1,2)] (k:=?_)
  refine DetHC.nil ?_
  refine rl [] (k:=rs (k:=rg [6] (k:=rR (k:=?_))))
  exact Ret.all Y219 ⟨rfl,by unfold lnRow;rfl⟩
theorem Y163 {p:Prop} (h:p:=by intro q hq;rw [List.mem_singleton.1 hq];exact aAppend_tokL (f:=PV.int .i64) (xs:=L) (ys:=[F]) rfl Y67 ht rfl (by rw [Tryz.cz3])):p:=h
theorem line_Hurt0T {ln d t:Nat} {a1 a2 a3 st:PV} {L:List Int} (hL:L.length<1000) {F:Int} (hF:0≤F∧F≤4) {s:St} (hl:s.blk ln=some (lnRow d (.sl (.tok t 1) (L.map (PV.int .i64))) a1 a2 a3 st)) (ht:s.blk t=some (.tok L.length)) (hne:t≠ln):ACalls Tryz.prog 11 [.ptr ln 0 0,.int .i64 0,.int .i64 F] s (fun r s'=>r=.bool true∧s'=((s.set t (some (.tok (L++[F]).length))).set ln (some (lnRow d (.sl (.tok t 1) ((L++[F]).map (PV.int .i64))) a1 a2 a3 st)))):=by
 refine go Tryz.func11 (k:=fun hwf H=>?_)
 unfold lnRow at hl
 have hlt:=lt_blk hwf hl
 have f0:((0:Int)<((4:Nat):Int))=True:=eq_true Y15
 have f1:((0:Int)≤0)=True:=eq_true Y15
 have f2:Int.toNat 0=0:=rfl
 have f3:decide ((0:Int)≤0)=true:=Y15
 have f4:decide ((0:Int)<4)=true:=Y15
 have H:=aj f0 (aj f1 (aj f2 (aj f3 (aj f4 H))))
 have g1:decide (F<0)=false:=decide_eq_false Y14
 have g2:decide (4<F)=false:=decide_eq_false Y14
 have H:=aj g1 (aj g2 H)
 have g3:decide ((1000:Int)≤(L.length:Int))=false:=decide_eq_false Y14
 have H:=aj g3 H
 have n1:(ln=s.nxt)=False:=eq_false Y14
 have H:=aj n1 H
 have n2:(ln=t)=False:=eq_false Y14
 have n3:(t=ln)=False:=eq_false hne
 have H:=aj n2 (aj n3 H)
 have H:=aj hl H
 refine rs (k:=rg [0,1,2] (k:=rs (k:=rs (k:=rr (k:=ro (pre:=[_]) (k:=rC (h:=(line_is (t:=0))) (k:=rh [0,1,2,27] (k:=rc (ht:=fun hc0=>?_) (hf:=fun hc0=>?_)))))))))
 ·cases hc0
 ·refine rk (k:=rs (k:=rH 15 [10,14] [[false,false],[true,false],[true,true]] [s,(s.set t (some (.tok (L++[F]).length))),((s.set t (some (.tok (L++[F]).length))).set ln (some (.row 74 [.agg [.ptr d 0 0,.sl (.tok t 1) ((L++[F]).map (PV.int .i64)),a1,a2,a3,st]])))] Tryz.mixed (k:=?_)))
  refine dP [0,1] (pre:=[_,_,_,_,_,_,_,_,_,_]) (k:=?_)
  refine DetHC.app (kx:=.tok t 1) (xs:=L.map (PV.int .i64)) (ys:=[F].map (PV.int .i64)) (v:=.sl (.tok t 1) ((L++[F]).map (PV.int .i64))) [(0,1)] _ Y19 pq au au au Tryz.td27 Y277 Y52 (isEls_map (P:=Tryz.prog) (e:=3) (f:=PV.int .i64) (fun a=>⟨rfl,Y161⟩) _) Y278 Y162 Y163 ?_
  refine dP [0,1] (pre:=[_,_,_]) (k:=?_)
  refine dE [(1,2)] (k:=?_)
  refine DetHC.nil ?_
  refine rl [] (k:=rs (k:=rg [6] (k:=rR (k:=?_))))
  exact Ret.all Y219 ⟨rfl,by unfold lnRow;rfl⟩
theorem Y332 {p:Prop} (h:p:=by simp only [Tryz.f37,go_sem,↓reduceIte]<;>rfl):p:=h
theorem line_take0 {ln d:Nat} {a1 a2 a3 st:PV} {k:SK} {s:St} (hl:s.blk ln=some (lnRow d (.sl k []) a1 a2 a3 st)):ACalls Tryz.prog 37 [.ptr ln 0 0,.int .i64 0] s (fun r s'=>r=.int .i64 0∧s'=s):=by
 refine go Tryz.func37 (k:=fun hwf H=>?_)
 unfold lnRow at hl
 have f0:((0:Int)<((4:Nat):Int))=True:=eq_true Y15
 have f1:((0:Int)≤0)=True:=eq_true Y15
 have f2:Int.toNat 0=0:=rfl
 have f3:decide ((0:Int)≤0)=true:=Y15
 have f4:decide ((0:Int)<4)=true:=Y15
 have H:=aj f0 (aj f1 (aj f2 (aj f3 (aj f4 H))))
 have H:=aj hl H
 refine rs (k:=rg [0,1] (k:=rs (k:=rs (k:=rr (k:=ro (pre:=[_]) (k:=rC (h:=(line_is (t:=0))) (k:=rh [0,1,18] (k:=rc (ht:=fun hc0=>?_) (hf:=fun hc0=>?_)))))))))
 ·refine rs (k:=rg [4] (k:=rR (k:=?_)))
  exact Ret.all Y332 ⟨rfl,rfl⟩
 ·cases hc0
theorem Y106 {p:Prop} (h:p:=by
 refine rk (k:=rs (k:=rg [0,1,5] (k:=rs (k:=?_))))
 refine Run.drawC [12] [5] Tryz.mixed Y19 ?_
 refine DetC.pre (pre:=[_,_,_,_,_,_,_,_,_,_,_,_]) au ?_
 refine DetC.eff Y15 au au ?_
 refine DetC.nil ?_
 refine re (k:=rs (k:=rg [4] (k:=rR (k:=?_))))
 exact Ret.all Y332 ⟨rfl,by unfold lnRow;rfl⟩):p:=h
theorem Y333 {p:Prop} (h:p:=by rw [List.length_map];exact Nat.le_refl _):p:=h
theorem line_take0T {ln d t:Nat} {a1 a2 a3 st:PV} {x:Int} {L:List Int} (hL:L.length<1000) {s:St} (hl:s.blk ln=some (lnRow d (.sl (.tok t 1) ((x::L).map (PV.int .i64))) a1 a2 a3 st)):ACalls Tryz.prog 37 [.ptr ln 0 0,.int .i64 0] s (fun r s'=>r=.int .i64 x∧s'=s.set ln (some (lnRow d (.sl .any (L.map (PV.int .i64))) a1 a2 a3 st))):=by
 refine go Tryz.func37 (k:=fun hwf H=>?_)
 unfold lnRow at hl
 have hlt:=lt_blk hwf hl
 have f0:((0:Int)<((4:Nat):Int))=True:=eq_true Y15
 have f1:((0:Int)≤0)=True:=eq_true Y15
 have f2:Int.toNat 0=0:=rfl
 have f3:decide ((0:Int)≤0)=true:=Y15
 have f4:decide ((0:Int)<4)=true:=Y15
 have H:=aj f0 (aj f1 (aj f2 (aj f3 (aj f4 H))))
 have g0:decide (((L.length+1:Nat):Int)=0)=false:=decide_eq_false Y14
 have g1:((1:Int)≤((L.length+1:Nat):Int))=True:=eq_true Y14
 have g2:(((L.length+1:Nat):Int)-1).toNat=L.length:=Y14
 have g3:(L.map (PV.int .i64)).take L.length=L.map (PV.int .i64):=by rw [List.take_of_length_le Y333]
 have g4:(0<L.length+1)=True:=eq_true Y14
 have h1n:Int.toNat 1=1:=rfl
 have h10:((1:Int)=0)=False:=eq_false Y15
 have hok:okEls 1 (PV.int .i64 x::L.map (PV.int .i64))=True:=okEls_intK .i64 (x::L)
 have H:=aj g0 (aj g1 (aj g2 (aj g3 (aj g4 (aj h1n (aj h10 (aj hok H)))))))
 have H:=aj hl H
 refine rs (k:=rg [0,1] (k:=rs (k:=rs (k:=rr (k:=ro (pre:=[_]) (k:=rC (h:=(line_is (t:=0))) (k:=rh [0,1,18] (k:=rc (ht:=fun hc0=>?_) (hf:=fun hc0=>?_)))))))))
 ·cases hc0
 ·exact Y106
theorem line_take0A {ln d:Nat} {a1 a2 a3 st:PV} {x:Int} {L:List Int} (hL:L.length<1000) {s:St} (hl:s.blk ln=some (lnRow d (.sl (.any) ((x::L).map (PV.int .i64))) a1 a2 a3 st)):ACalls Tryz.prog 37 [.ptr ln 0 0,.int .i64 0] s (fun r s'=>r=.int .i64 x∧s'=s.set ln (some (lnRow d (.sl .any (L.map (PV.int .i64))) a1 a2 a3 st))):=by
 refine go Tryz.func37 (k:=fun hwf H=>?_)
 unfold lnRow at hl
 have hlt:=lt_blk hwf hl
 have f0:((0:Int)<((4:Nat):Int))=True:=eq_true Y15
 have f1:((0:Int)≤0)=True:=eq_true Y15
 have f2:Int.toNat 0=0:=rfl
 have f3:decide ((0:Int)≤0)=true:=Y15
 have f4:decide ((0:Int)<4)=true:=Y15
 have H:=aj f0 (aj f1 (aj f2 (aj f3 (aj f4 H))))
 have g0:decide (((L.length+1:Nat):Int)=0)=false:=decide_eq_false Y14
 have g1:((1:Int)≤((L.length+1:Nat):Int))=True:=eq_true Y14
 have g2:(((L.length+1:Nat):Int)-1).toNat=L.length:=Y14
 have g3:(L.map (PV.int .i64)).take L.length=L.map (PV.int .i64):=by rw [List.take_of_length_le Y333]
 have g4:(0<L.length+1)=True:=eq_true Y14
 have h1n:Int.toNat 1=1:=rfl
 have h10:((1:Int)=0)=False:=eq_false Y15
 have hok:okEls 1 (PV.int .i64 x::L.map (PV.int .i64))=True:=okEls_intK .i64 (x::L)
 have H:=aj g0 (aj g1 (aj g2 (aj g3 (aj g4 (aj h1n (aj h10 (aj hok H)))))))
 have H:=aj hl H
 refine rs (k:=rg [0,1] (k:=rs (k:=rs (k:=rr (k:=ro (pre:=[_]) (k:=rC (h:=(line_is (t:=0))) (k:=rh [0,1,18] (k:=rc (ht:=fun hc0=>?_) (hf:=fun hc0=>?_)))))))))
 ·cases hc0
 ·exact Y106
theorem Y107 {p:Prop} (h:p:=by
 refine rs (k:=rg [6] (k:=rR (k:=rP (by simp only [Tryz.f11,go_sem];rfl) hwf ⟨?_,rfl⟩)))
 simp [PV.weak,go_sem]):p:=h
theorem line_HurtT {ln:Nat} {s:St}:ACalls Tryz.prog 11 [.ptr ln 0 0,.int .i64 (-1),.int .i64 0] s (fun r s'=>r=.bool false∧s'=s):=by
 refine go Tryz.func11 (k:=fun hwf H=>?_)
 have f3:decide ((0:Int)≤ -1)=false:=Y15
 have H:=aj f3 H
 refine rs (k:=rg [0,1,2] (k:=rs (k:=rs (k:=rr (k:=ro (pre:=[_]) (k:=rC (h:=(line_is (t:= -1))) (k:=ro (pre:=[_,_]) (k:=rg0 (k:=rg0 (k:=ro (pre:=[_,_]) (k:=rg0 (k:=rg0 (k:=ro (pre:=[_,_]) (k:=rg0 (k:=rg0 (k:=rg0 (k:=rg0 (k:=rg0 (k:=rg0 (k:=rg0 (k:=rg0 (k:=rh [0,1,2,27] (k:=rc (ht:=fun hc0=>?_) (hf:=fun hc0=>?_))))))))))))))))))))))))
 ·exact Y107
 ·cases hc0
theorem line_HurtF {ln:Nat} {s:St}:ACalls Tryz.prog 11 [.ptr ln 0 0,.int .i64 0,.int .i64 5] s (fun r s'=>r=.bool false∧s'=s):=by
 refine go Tryz.func11 (k:=fun hwf H=>?_)
 have f3:decide ((0:Int)≤0)=true:=Y15
 have f4:decide ((0:Int)<4)=true:=Y15
 have f5:decide ((5:Int)<0)=false:=Y15
 have f6:decide ((4:Int)<5)=true:=Y15
 have H:=aj f3 (aj f4 (aj f5 (aj f6 H)))
 refine rs (k:=rg [0,1,2] (k:=rs (k:=rs (k:=rr (k:=ro (pre:=[_]) (k:=rC (h:=(line_is (t:=0))) (k:=ro (pre:=[_,_,_,_,_,_,_,_,_,_]) (k:=rg0 (k:=rg0 (k:=rg0 (k:=rg0 (k:=rg0 (k:=rg0 (k:=rg0 (k:=rg0 (k:=rh [0,1,2,27] (k:=rc (ht:=fun hc0=>?_) (hf:=fun hc0=>?_))))))))))))))))))
 ·exact Y107
 ·cases hc0
theorem Y279 {p:Prop} (h:p:=by
 refine rs (k:=rg [4] (k:=rR (k:=rP (by simp only [Tryz.f12,go_sem];rfl) hwf ⟨?_,rfl⟩)))
 simp [PV.weak,go_sem]):p:=h
theorem line_LeftN {ln:Nat} {s:St}:ACalls Tryz.prog 12 [.ptr ln 0 0,.int .i64 9] s (fun r s'=>r=.int .i64 0∧s'=s):=by
 refine go Tryz.func12 (k:=fun hwf H=>?_)
 have f3:decide ((0:Int)≤9)=true:=Y15
 have f4:decide ((9:Int)<4)=false:=Y15
 have H:=aj f3 (aj f4 H)
 refine rs (k:=rg [0,1] (k:=rs (k:=rs (k:=rr (k:=ro (pre:=[_]) (k:=rC (h:=(line_is (t:=9))) (k:=rh [0,1,7] (k:=rc (ht:=fun hc0=>?_) (hf:=fun hc0=>?_)))))))))
 ·exact Y279
 ·cases hc0
end Go.Proofs
namespace Go.Proofs
open Go.PM
set_option maxHeartbeats 2000000
theorem crc_SealO {l:List Int} (hb:OkB l) (hl:l.length+2≤140737488355328) {s:St}:ACalls Tryz.prog 78 [.sl .unk (l.map (PV.int .u8))] s (fun r s'=>r=.own s.nxt 0 (l.length+2)∧s'=s.new (.row 5 ((sealB l).map (PV.int .u8)))):=by
 refine go Tryz.func78 (k:=fun hwf H=>?_)
 refine rs (k:=rg [0] (k:=rs (k:=rr (k:=ro (pre:=[_]) (k:=?_)))))
 refine RunO.call au au Y19 ((crc_Of hb Y14).mono ?_)
 rintro r s1 ⟨rfl,hs⟩
 subst s1
 refine rh [0,3] (k:=rs (k:=rr (k:=ro (pre:=[_]) (k:=?_))))
 refine RunO.call au au Y19 ((clip_u8 (xs:=l)).mono ?_)
 rintro r s1 ⟨rfl,hs⟩
 subst s1
 refine ro (pre:=[_,_,_,_,_]) (k:=rO (k:=?_))
 refine RunO.appendFirst au au au Tryz.td23 Y72 (isEls_map (P:=Tryz.prog) (e:=5) (f:=PV.int .u8) (fun a=>⟨rfl,Y23⟩) _) (isEls_map (P:=Tryz.prog) (e:=5) (f:=PV.int .u8) (fun a=>⟨rfl,Y23⟩) [_,_]) Y24 Y73 (by unfold aAppendFirst;dsimp only;rw [if_pos Y67]) ?_
 refine rh [2] (k:=rR (k:=?_))
 refine Ret.all (r:=.own s.nxt 0 (l.length+2)) (by simp only [Tryz.f78,go_sem,↓reduceIte]<;>simp) ⟨rfl,?_⟩
 congr 2
 simp [sealB,crc_hi,crc_hi']
theorem Y391 {p:Prop} (h:p:=by unfold aAppend;rw [if_neg (by simpa using h1),Tryz.cz5];simp [Nat.add_comm]):p:=h
theorem rtu_FrameO {b:List Int} (hb:OkB b) (h1:b≠[]) (h2:b.length≤253) {s:St}:ACalls Tryz.prog 91 [.int .i64 17,.sl .unk (b.map (PV.int .u8))] s (fun r s'=>r=.tuple [.own (s.nxt+1) 0 (b.length+3),.int .i64 0]∧s'=(s.new (.tok (17::b).length)).new (.row 5 ((sealB (17::b)).map (PV.int .u8)))):=by
 refine go Tryz.func91 (k:=fun hwf H=>?_)
 have g0:decide ((17:Int)<1)=false:=Y15
 have g1:decide ((247:Int)<17)=false:=Y15
 have hp:0<b.length:=List.length_pos_iff.2 h1
 have g2:decide ((b.length:Int)=0)=false:=decide_eq_false Y14
 have g3:decide ((253:Int)<(b.length:Int))=false:=decide_eq_false Y14
 have gw:IntKind.u8.wrap 17=17:=Y15
 have hao:OkB (17::b):=OkB.cons Y16 hb
 have H:=aj g0 (aj g1 (aj g2 (aj g3 (aj gw H))))
 refine rs (k:=rg [0,1] (k:=rs (k:=rb (k:=rs (k:=rg [0,1,6] (k:=rc (ht:=fun hc0=>?_) (hf:=fun hc0=>?_)))))))
 ·cases hc0
 ·refine rs (k:=rg [0,1,13] (k:=rc (ht:=fun hc1=>?_) (hf:=fun hc1=>?_)))
  ·cases hc1
  ·refine rs (k:=rg [0,1,17] (k:=rc (ht:=fun hc2=>?_) (hf:=fun hc2=>?_)))
   ·cases hc2
   ·refine rk (k:=rB (k:=rs (k:=rr (k:=ro (pre:=[_,_]) (k:=rO (k:=ro (pre:=[_]) (k:=?_)))))))
    refine RunO.append (v:=.sl (.tok s.nxt 1) ((17::b).map (PV.int .u8))) (s':=s.new (.tok (17::b).length)) au au au Tryz.td23 Y72 (isEls_map (P:=Tryz.prog) (e:=5) (f:=PV.int .u8) (fun a=>⟨rfl,Y23⟩) [_]) (isEls_map (P:=Tryz.prog) (e:=5) (f:=PV.int .u8) (fun a=>⟨rfl,Y23⟩) b) Y24 Y73 Y391 ?_
    refine RunO.callw au au au Y19 ((crc_SealO (l:=17::b) hao Y246).mono ?_)
    rintro r s1 ⟨rfl,rfl⟩
    refine rh [4,5] (k:=rR (k:=?_))
    exact Ret.all (by simp only [Tryz.f91,go_sem,↓reduceIte]<;>rfl) ⟨by simp [nxt_new],rfl⟩
theorem line_frame {b:List Int} (hb:OkB b) (hl:b.length≤140737488350000) {s:St}:ACalls Tryz.prog 73 [.sl .unk (b.map (PV.int .u8))] s (fun r s'=>r=.sl .unk ((frameF b).map (PV.int .u8))∧s'=s):=by
 refine go Tryz.func73 (k:=fun hwf H=>?_)
 refine rs (k:=rg [0] (k:=rs (k:=rr (k:=ro (pre:=[_]) (k:=rC (h:=rtu_Frame (a:=17) hb hl) (k:=rh [3] (k:=rs (k:=rg [2] (k:=rR (k:=?_))))))))))
 exact Ret.all (by simp only [Tryz.f73,go_sem,↓reduceIte]<;>rfl) ⟨rfl,rfl⟩
theorem line_frameO {b:List Int} (hb:OkB b) (h1:b≠[]) (h2:b.length≤253) {s:St}:ACalls Tryz.prog 73 [.sl .unk (b.map (PV.int .u8))] s (fun r s'=>r=.own (s.nxt+1) 0 (b.length+3)∧s'=(s.new (.tok (17::b).length)).new (.row 5 ((sealB (17::b)).map (PV.int .u8)))):=by
 refine go Tryz.func73 (k:=fun hwf H=>?_)
 refine rs (k:=rg [0] (k:=rs (k:=rr (k:=ro (pre:=[_]) (k:=?_)))))
 refine RunO.callw au au au Y19 ((rtu_FrameO hb h1 h2).mono ?_)
 rintro r s1 ⟨rfl,rfl⟩
 refine rh [3] (k:=rs (k:=rg [2] (k:=rR (k:=?_))))
 exact Ret.all (by simp only [Tryz.f73,go_sem,↓reduceIte]<;>rfl) ⟨rfl,rfl⟩
theorem pduF_len {D:Dev} (hD:D.ok) {p:List Int} (hp:OkB p) (hpl:p.length≤253):(pduF D p).1.length≤140737488350000:=by
 have h:∀ R:Rep,(repF R).length≤300:=fun R=>by
  unfold repF
  split
  ·exact layF_len ‹_›
  ·simp
 unfold pduF
 split
 ·simp
 ·dsimp only
  exact Nat.le_trans (h _) Y14
theorem refuse_mod (x:Int):refuseP x 4=refuseP (x%128) 4:=by
 unfold refuseP
 rw [show x%128%128=x%128 from Y14]
theorem line_fine {ln b:Nat} {a0 a1 a2 a3 st:PV} {D:Dev} {s:St} (hl:s.blk ln=some (lnRow (b+5) a0 a1 a2 a3 st)) (hA:DevAt b D s) (hD:D.ok) {p:List Int} (hp:OkB p) (hpl:p.length≤253):ACalls Tryz.prog 51 [.ptr ln 0 0,.sl .unk (p.map (PV.int .u8))] s (fun r s'=>r=.sl .unk ((lineF 0 D p).1.map (PV.int .u8))∧s'=putDev b (lineF 0 D p).2 s):=by
 refine go Tryz.func51 (k:=fun hwf H=>?_)
 unfold lnRow at hl
 obtain ⟨⟨x,D'⟩,hX⟩:∃ Z,pduF D p=Z:=⟨_,rfl⟩
 have hxo:OkB x:=by have:=pduF_okB hD hp Y14;rwa [hX] at this
 have hxl:x.length≤140737488350000:=by have:=pduF_len hD hp hpl;rw [hX] at this;exact this
 have hpd:∀ s,DevAt b D s→ACalls Tryz.prog 74 [.ptr (b+5) 0 0,.sl .unk (p.map (PV.int .u8))] s (fun r s'=>r=.sl .unk (x.map (PV.int .u8))∧s'=putDev b D' s):=fun s hA=>by
  have:=device_Pdu hA hD hp (s:=s) Y14
  rwa [hX] at this
 have H:=aj hl H
 refine rs (k:=rg [0,1] (k:=rs (k:=rr (k:=ro (pre:=[_,_,_,_,_]) (k:=?_)))))
 refine RunO.callw au au au Y19 ((hpd _ hA).mono ?_)
 rintro r s1 ⟨rfl,rfl⟩
 refine rC (h:=line_frame hxo hxl) (k:=rh [4] (k:=rR (k:=?_)))
 exact Ret.all (by simp only [Tryz.f51,go_sem,↓reduceIte]<;>rfl) ⟨by show _=PV.sl .unk ((frameF (pduF D p).1).map _);rw [hX],by show _=putDev b (pduF D p).2 s;rw [hX]⟩
theorem line_fineO {ln b:Nat} {a0 a1 a2 a3 st:PV} {D:Dev} {s:St} (hl:s.blk ln=some (lnRow (b+5) a0 a1 a2 a3 st)) (hA:DevAt b D s) (hD:D.ok) {p:List Int} (hp:OkB p) (hpl:p.length≤253) (h1:(pduF D p).1≠[]) (h2:(pduF D p).1.length≤253):ACalls Tryz.prog 51 [.ptr ln 0 0,.sl .unk (p.map (PV.int .u8))] s (fun r s'=>r=.own (s.nxt+1) 0 ((pduF D p).1.length+3)∧s'=((putDev b (pduF D p).2 s).new (.tok (17::(pduF D p).1).length)).new (.row 5 ((sealB (17::(pduF D p).1)).map (PV.int .u8)))):=by
 refine go Tryz.func51 (k:=fun hwf H=>?_)
 unfold lnRow at hl
 obtain ⟨⟨x,D'⟩,hX⟩:∃ Z,pduF D p=Z:=⟨_,rfl⟩
 have hxo:OkB x:=by have:=pduF_okB hD hp Y14;rwa [hX] at this
 have hxl:x.length≤140737488350000:=by have:=pduF_len hD hp hpl;rw [hX] at this;exact this
 have hpd:∀ s,DevAt b D s→ACalls Tryz.prog 74 [.ptr (b+5) 0 0,.sl .unk (p.map (PV.int .u8))] s (fun r s'=>r=.sl .unk (x.map (PV.int .u8))∧s'=putDev b D' s):=fun s hA=>by
  have:=device_Pdu hA hD hp (s:=s) Y14
  rwa [hX] at this
 rw [hX] at h1 h2 ⊢
 have H:=aj hl H
 refine rs (k:=rg [0,1] (k:=rs (k:=rr (k:=ro (pre:=[_,_,_,_,_]) (k:=?_)))))
 refine RunO.callw au au au Y19 ((hpd _ hA).mono ?_)
 rintro r s1 ⟨rfl,rfl⟩
 refine RunO.callw au au au Y19 ((line_frameO hxo h1 h2).mono ?_)
 rintro r s1 ⟨rfl,rfl⟩
 refine rh [4] (k:=rR (k:=?_))
 exact Ret.all (by simp only [Tryz.f51,go_sem,↓reduceIte]<;>rfl) ⟨rfl,rfl⟩
theorem line_lost {ln b:Nat} {a0 a1 a2 a3 st:PV} {D:Dev} {s:St} (hl:s.blk ln=some (lnRow (b+5) a0 a1 a2 a3 st)) (hA:DevAt b D s) (hD:D.ok) {p:List Int} (hp:OkB p) (hpl:p.length≤253):ACalls Tryz.prog 52 [.ptr ln 0 0,.sl .unk (p.map (PV.int .u8))] s (fun r s'=>r=.sl .unk ((lineF 1 D p).1.map (PV.int .u8))∧s'=putDev b (lineF 1 D p).2 s):=by
 refine go Tryz.func52 (k:=fun hwf H=>?_)
 refine rs (k:=rg [] (k:=rs (k:=rg [4] (k:=rR (k:=?_)))))
 refine Ret.pure (r':=.sl .unk []) (by simp only [Tryz.f52,go_sem,↓reduceIte]<;>rfl) rfl Y79 hwf (fun _ _=>rfl) ⟨rfl,(putDev_self hA).symm⟩
theorem line_mute {ln b:Nat} {a0 a1 a2 a3 st:PV} {D:Dev} {s:St} (hl:s.blk ln=some (lnRow (b+5) a0 a1 a2 a3 st)) (hA:DevAt b D s) (hD:D.ok) {p:List Int} (hp:OkB p) (hpl:p.length≤253):ACalls Tryz.prog 53 [.ptr ln 0 0,.sl .unk (p.map (PV.int .u8))] s (fun r s'=>r=.sl .unk ((lineF 2 D p).1.map (PV.int .u8))∧s'=putDev b (lineF 2 D p).2 s):=by
 refine go Tryz.func53 (k:=fun hwf H=>?_)
 refine rs (k:=rg [0,1] (k:=rs (k:=rr (k:=ro (pre:=[_,_]) (k:=?_)))))
 refine RunO.callw au au au Y19 ((line_fine hl hA hD hp hpl).mono ?_)
 rintro r s1 ⟨rfl,rfl⟩
 refine rl [] (k:=rs (k:=rg [4] (k:=rR (k:=?_))))
 exact Ret.dev (lineF 2 D p).2 hA (r':=.sl .unk []) (by simp only [Tryz.f53,go_sem,↓reduceIte]<;>rfl) rfl Y79 hwf (fun _ _=>rfl) ⟨rfl,rfl⟩
attribute [local go_sem] weaks_bools Rep.pv
theorem line_refuse {ln b:Nat} {a0 a1 a2 a3 st:PV} {D:Dev} {s:St} (hl:s.blk ln=some (lnRow (b+5) a0 a1 a2 a3 st)) (hA:DevAt b D s) (hD:D.ok) {p:List Int} (hp:OkB p) (hpl:p.length≤253) (hne:p≠[]):ACalls Tryz.prog 55 [.ptr ln 0 0,.sl .unk (p.map (PV.int .u8))] s (fun r s'=>r=.sl .unk ((lineF 4 D p).1.map (PV.int .u8))∧s'=putDev b (lineF 4 D p).2 s):=by
 refine go Tryz.func55 (k:=fun hwf H=>?_)
 have hll:0<p.length:=List.length_pos_iff.2 hne
 obtain ⟨x,hx⟩:∃ x,p[0]? =some x:=⟨p[0],List.getElem?_eq_getElem hll⟩
 have hxx:(p.map (PV.int .u8))[0]? =some (.int .u8 x):=Y146
 have hlT:(0<p.length)=True:=eq_true hll
 have hx8:U8 x:=hp x (List.mem_of_getElem? hx)
 have hx0:(p[0]?).getD 0=x:=Y318
 have ha127:ibits .and .u8 x 127=x%128:=u8_and127 hx8
 have hw:IntKind.i64.wrap (x%128)=x%128:=wrap_i64 Y14
 have hx64:I64 (x%128):=Y194
 have h4:I64 4:=Y16
 have hrl:(repF (refuseP (x%128) 4)).length≤140737488350000:=by
  unfold repF
  split
  ·exact Nat.le_trans (layF_len ‹_›) Y14
  ·simp
 have H:=aj hxx (aj hlT (aj ha127 (aj hw H)))
 refine rs (k:=rg [1] (k:=rs (k:=rr (k:=ro (pre:=[_,_,_,_,_]) (k:=rC (h:=reply_Refuse (fn:=x%128) (code:=4) hx64 h4) (k:=rC (h:=reply_Bytes (refuseP_ok _ _)) (k:=rh [5] (k:=rs (k:=rr (k:=ro (pre:=[_]) (k:=rC (h:=line_frame (repF_ok (refuseP_ok _ _)) hrl) (k:=rh [4] (k:=rR (k:=?_))))))))))))))
 exact Ret.all (by simp only [Tryz.f55,go_sem,↓reduceIte]<;>rfl) ⟨by show _=PV.sl .unk ((frameF (repF (refuseP ((p[0]?).getD 0) 4))).map _);rw [hx0,refuse_mod x],(putDev_self hA).symm⟩
end Go.Proofs
namespace Go.Proofs
open Go.PM
set_option maxHeartbeats 2000000
theorem line_brokenN {ln b:Nat} {a0 a1 a2 a3 st:PV} {D:Dev} {s:St} (hl:s.blk ln=some (lnRow (b+5) a0 a1 a2 a3 st)) (hA:DevAt b D s) (hD:D.ok) {p:List Int} (hp:OkB p) (hpl:p.length≤253) (hz:frameF (pduF D p).1=[]):ACalls Tryz.prog 54 [.ptr ln 0 0,.sl .unk (p.map (PV.int .u8))] s (fun r s'=>r=.sl .unk ((lineF 3 D p).1.map (PV.int .u8))∧s'=putDev b (lineF 3 D p).2 s):=by
 refine go Tryz.func54 (k:=fun hwf H=>?_)
 have hz2:(lineF 0 D p).1=[]:=hz
 have hzl:(((lineF 0 D p).1.length:Nat):Int)=0:=by rw [hz2];rfl
 have H:=aj hzl H
 refine rs (k:=rg [0,1] (k:=rs (k:=rr (k:=ro (pre:=[_,_]) (k:=?_)))))
 refine RunO.callw au au au Y19 ((line_fine hl hA hD hp hpl).mono ?_)
 rintro r s1 ⟨rfl,rfl⟩
 refine rh [5] (k:=rs (k:=rs (k:=rg [5,6] (k:=rs (k:=rg [5,6,13] (k:=rc (ht:=fun hc0=>?_) (hf:=fun hc0=>?_)))))))
 ·cases hc0
 ·refine rk (k:=rs (k:=rg [4] (k:=rR (k:=?_))))
  exact Ret.all (by simp only [Tryz.f54,go_sem,↓reduceIte]<;>rfl) ⟨by rw [hz2];show _=PV.sl .unk ((flipL (frameF (pduF D p).1)).map _);rw [hz];rfl,rfl⟩
attribute [local go_sem] set_set putDev_hi putDev_nxt
theorem Y334 {p:Prop} (h:p:=by simp only [PV.weak,weaks_u8]):p:=h
theorem Y392 {p:Prop} (h:p:=by simp only [PV.blw,blws_u8T];exact ⟨fun t z e=>Y66,trivial⟩):p:=h
theorem line_brokenO {ln b:Nat} {a0 a1 a2 a3 st:PV} {D:Dev} {s:St} (hl:s.blk ln=some (lnRow (b+5) a0 a1 a2 a3 st)) (hA:DevAt b D s) (hD:D.ok) {p:List Int} (hp:OkB p) (hpl:p.length≤253) (h1:(pduF D p).1≠[]) (h2:(pduF D p).1.length≤253):ACalls Tryz.prog 54 [.ptr ln 0 0,.sl .unk (p.map (PV.int .u8))] s (fun r s'=>r=.sl .unk ((lineF 3 D p).1.map (PV.int .u8))∧s'=putDev b (lineF 3 D p).2 s):=by
 refine go Tryz.func54 (k:=fun hwf H=>?_)
 obtain ⟨Z,hZ⟩:∃ Z,Z=sealB (17::(pduF D p).1):=⟨_,rfl⟩
 have hZl:Z.length=(pduF D p).1.length+3:=by rw [hZ,sealB_len,List.length_cons]
 have hlt:=hA.lt hwf
 obtain ⟨m,hm⟩:∃ m,m+1=Z.length:=⟨(pduF D p).1.length+2,Y14⟩
 have hml:m<Z.length:=Y14
 obtain ⟨z,hz⟩:∃ z,Z[m]'hml=z:=⟨_,rfl⟩
 have hzz:(Z.map (PV.int .u8))[m]? =some (.int .u8 z):=by rw [map_get hml,hz]
 have hT1:((0:Int)<(((pduF D p).1.length+3:Nat):Int))=True:=eq_true Y14
 have hw:IntKind.i64.wrap ((((pduF D p).1.length+3:Nat):Int)-1)=(m:Int):=Y21
 have hmT:(m<(pduF D p).1.length+3)=True:=eq_true Y14
 have hmT2:((m:Int)<(((pduF D p).1.length+3:Nat):Int))=True:=eq_true Y14
 have hset:(Z.map (PV.int .u8)).set m (.int .u8 (ibits .xor .u8 z 1))=(Z.set m (ibits .xor .u8 z 1)).map (PV.int .u8):=by rw [List.map_set]
 have hfl:Z.set m (ibits .xor .u8 z 1)=flipL (frameF (pduF D p).1):=by
  rw [frameF_eq h1 h2,← hZ]
  unfold flipL
  rw [show Z.length-1=m from Y14,List.getElem?_eq_getElem hml,hz];rfl
 have H:=aj hzz (aj hT1 (aj hw (aj hmT (aj hmT2 (aj hset H)))))
 refine rs (k:=rg [0,1] (k:=rs (k:=rr (k:=ro (pre:=[_,_]) (k:=?_)))))
 refine RunO.callw au au au Y19 ((line_fineO hl hA hD hp hpl h1 h2).mono ?_)
 rintro r s1 ⟨rfl,rfl⟩
 rw [← hZ]
 refine rh [5] (k:=rs (k:=rs (k:=rg [5,6] (k:=rs (k:=rg [5,6,13] (k:=rc (ht:=fun hc0=>?_) (hf:=fun hc0=>?_)))))))
 ·refine rg [5] (k:=rs (k:=rr (k:=?_)))
  refine RunO.thaw 5 (s.nxt+1) 2 (v:=.sl .unk ((flipL (frameF (pduF D p).1)).map (PV.int .u8))) (by simp (disch:=omega) only [go_sem,↓reduceIte];rw [← hfl];exact frz_own_ints (t:=5) (by rw [List.length_set];omega) Y67 (by simp (disch:=first | omega |(simp only [nxt_set,nxt_new,putDev_nxt]<;>omega) | fail) only [go_sem,putDev_nxt,↓reduceIte,H]<;>rfl)) Y392 ?_
  refine ro (pre:=[_]) (k:=rh [4] (k:=rR (k:=?_)))
  exact Ret.dev (lineF 3 D p).2 hA (r':=.sl .unk ((flipL (frameF (pduF D p).1)).map (PV.int .u8))) (by simp only [Tryz.f54,go_sem,↓reduceIte]<;>rfl) Y334 Y20 hwf (fun i hi=>by first | rfl |(have h0:=ltn hi;have h1:=lte hi;simp (disch:=first | omega |(simp only [nxt_set,nxt_new,putDev_nxt]<;>omega) | fail) only [go_sem,putDev_nxt,Nat.add_assoc,Nat.reduceAdd,↓reduceIte,h0,h1]<;>rfl)) ⟨rfl,rfl⟩
 ·cases hc0
theorem line_broken {ln b:Nat} {a0 a1 a2 a3 st:PV} {D:Dev} {s:St} (hl:s.blk ln=some (lnRow (b+5) a0 a1 a2 a3 st)) (hA:DevAt b D s) (hD:D.ok) {p:List Int} (hp:OkB p) (hpl:p.length≤253):ACalls Tryz.prog 54 [.ptr ln 0 0,.sl .unk (p.map (PV.int .u8))] s (fun r s'=>r=.sl .unk ((lineF 3 D p).1.map (PV.int .u8))∧s'=putDev b (lineF 3 D p).2 s):=by
 by_cases h1:(pduF D p).1=[]
 ·exact line_brokenN hl hA hD hp hpl (by rw [h1];rfl)
 ·by_cases h2:(pduF D p).1.length≤253
  ·exact line_brokenO hl hA hD hp hpl h1 h2
  ·refine line_brokenN hl hA hD hp hpl ?_
   unfold frameF frameA
   rw [if_neg Y15,if_neg h1,if_pos Y14]
theorem Y164 {p:Prop} (h:p:=by simp only [Tryz.f36,go_sem,↓reduceIte]<;>rfl):p:=h
theorem Y165 {p:Prop} (h:p:=by simp only [PV.blw,PV.blws,and_true];exact hln):p:=h
theorem line_does0 {ln:Nat} {s:St} (hln:ln<s.nxt):ACalls Tryz.prog 36 [.ptr ln 0 0,.int .i64 0] s (fun r s'=>r=.fn (.func 51) [.ptr ln 0 0] []∧s'=s):=by
 refine go Tryz.func36 (k:=fun hwf H=>?_)
 have f0:((0:Int)<((5:Nat):Int))=True:=eq_true Y15
 have f1:((0:Int)≤0)=True:=eq_true Y15
 have f2:Int.toNat 0=0:=rfl
 have H:=aj f0 (aj f1 (aj f2 H))
 refine rs (k:=rg [0,1] (k:=rs (k:=rg [1,5] (k:=rs (k:=rg [4] (k:=rR (k:=?_)))))))
 exact Ret.pure (r':=.fn (.func 51) [.ptr ln 0 0] []) Y164 Y380 Y165 hwf Y26 ⟨rfl,rfl⟩
theorem line_does1 {ln:Nat} {s:St} (hln:ln<s.nxt):ACalls Tryz.prog 36 [.ptr ln 0 0,.int .i64 1] s (fun r s'=>r=.fn (.func 52) [.ptr ln 0 0] []∧s'=s):=by
 refine go Tryz.func36 (k:=fun hwf H=>?_)
 have f0:((1:Int)<((5:Nat):Int))=True:=eq_true Y15
 have f1:((0:Int)≤1)=True:=eq_true Y15
 have f2:Int.toNat 1=1:=rfl
 have H:=aj f0 (aj f1 (aj f2 H))
 refine rs (k:=rg [0,1] (k:=rs (k:=rg [1,5] (k:=rs (k:=rg [4] (k:=rR (k:=?_)))))))
 exact Ret.pure (r':=.fn (.func 52) [.ptr ln 0 0] []) Y164 Y380 Y165 hwf Y26 ⟨rfl,rfl⟩
theorem line_does2 {ln:Nat} {s:St} (hln:ln<s.nxt):ACalls Tryz.prog 36 [.ptr ln 0 0,.int .i64 2] s (fun r s'=>r=.fn (.func 53) [.ptr ln 0 0] []∧s'=s):=by
 refine go Tryz.func36 (k:=fun hwf H=>?_)
 have f0:((2:Int)<((5:Nat):Int))=True:=eq_true Y15
 have f1:((0:Int)≤2)=True:=eq_true Y15
 have f2:Int.toNat 2=2:=rfl
 have H:=aj f0 (aj f1 (aj f2 H))
 refine rs (k:=rg [0,1] (k:=rs (k:=rg [1,5] (k:=rs (k:=rg [4] (k:=rR (k:=?_)))))))
 exact Ret.pure (r':=.fn (.func 53) [.ptr ln 0 0] []) Y164 Y380 Y165 hwf Y26 ⟨rfl,rfl⟩
theorem line_does3 {ln:Nat} {s:St} (hln:ln<s.nxt):ACalls Tryz.prog 36 [.ptr ln 0 0,.int .i64 3] s (fun r s'=>r=.fn (.func 54) [.ptr ln 0 0] []∧s'=s):=by
 refine go Tryz.func36 (k:=fun hwf H=>?_)
 have f0:((3:Int)<((5:Nat):Int))=True:=eq_true Y15
 have f1:((0:Int)≤3)=True:=eq_true Y15
 have f2:Int.toNat 3=3:=rfl
 have H:=aj f0 (aj f1 (aj f2 H))
 refine rs (k:=rg [0,1] (k:=rs (k:=rg [1,5] (k:=rs (k:=rg [4] (k:=rR (k:=?_)))))))
 exact Ret.pure (r':=.fn (.func 54) [.ptr ln 0 0] []) Y164 Y380 Y165 hwf Y26 ⟨rfl,rfl⟩
theorem line_does4 {ln:Nat} {s:St} (hln:ln<s.nxt):ACalls Tryz.prog 36 [.ptr ln 0 0,.int .i64 4] s (fun r s'=>r=.fn (.func 55) [.ptr ln 0 0] []∧s'=s):=by
 refine go Tryz.func36 (k:=fun hwf H=>?_)
 have f0:((4:Int)<((5:Nat):Int))=True:=eq_true Y15
 have f1:((0:Int)≤4)=True:=eq_true Y15
 have f2:Int.toNat 4=4:=rfl
 have H:=aj f0 (aj f1 (aj f2 H))
 refine rs (k:=rg [0,1] (k:=rs (k:=rg [1,5] (k:=rs (k:=rg [4] (k:=rR (k:=?_)))))))
 exact Ret.pure (r':=.fn (.func 55) [.ptr ln 0 0] []) Y164 Y380 Y165 hwf Y26 ⟨rfl,rfl⟩
end Go.Proofs
namespace Go.Proofs
open Go.PM
set_option maxHeartbeats 2000000
theorem Ret.allW {P:Program} {fn:Func} {args:List PV} {s0 s:St} {Q:PV→St→Prop} {e:Env} {r r':PV} (hr:retv P fn.results.toList e s=some r) (hr':r'=r.weak) (h:Q r' s):Ret P fn args s0 Q e s:=by
 subst hr'
 exact ⟨r,hr,r.weak,s,h,fun g0 w0 g w _ hX hI v hv=>⟨g,hI,R_weak r v hv,hX⟩⟩
structure Snt where
 tick:Int
 tenant:Int
 data:List Int
def Snt.pv (x:Snt):PV:=.agg [.int .i64 x.tick,.int .i64 x.tenant,.sl .unk (x.data.map (PV.int .u8))]
theorem line_body {f:Int} (hf:0≤f∧f≤4):∃ N:Nat,(∀ {ln:Nat} {s:St},ln<s.nxt→ACalls Tryz.prog 36 [.ptr ln 0 0,.int .i64 f] s (fun r s'=>r=.fn (.func N) [.ptr ln 0 0] []∧s'=s))∧callable Tryz.prog N=true ∧
  ∀ {ln b:Nat} {a0 a1 a2 a3 st:PV} {D:Dev} {s:St},s.blk ln=some (lnRow (b+5) a0 a1 a2 a3 st)→DevAt b D s→D.ok→∀ {p:List Int},OkB p→p.length≤253→p≠[]→ACalls Tryz.prog N [.ptr ln 0 0,.sl .unk (p.map (PV.int .u8))] s (fun r s'=>r=.sl .unk ((lineF f D p).1.map (PV.int .u8))∧s'=putDev b (lineF f D p).2 s):=by
 obtain rfl | rfl | rfl | rfl | rfl:f=0∨f=1∨f=2∨f=3∨f=4:=Y14
 ·exact ⟨51,fun h=>line_does0 h,Y19,fun hl hA hD _ hp hpl _=>line_fine hl hA hD hp hpl⟩
 ·exact ⟨52,fun h=>line_does1 h,Y19,fun hl hA hD _ hp hpl _=>line_lost hl hA hD hp hpl⟩
 ·exact ⟨53,fun h=>line_does2 h,Y19,fun hl hA hD _ hp hpl _=>line_mute hl hA hD hp hpl⟩
 ·exact ⟨54,fun h=>line_does3 h,Y19,fun hl hA hD _ hp hpl _=>line_broken hl hA hD hp hpl⟩
 ·exact ⟨55,fun h=>line_does4 h,Y19,fun hl hA hD _ hp hpl hne=>line_refuse hl hA hD hp hpl hne⟩
attribute [local go_sem] set_set putDev_hi putDev_nxt
theorem Y393 {p:Prop} (h:p:=by rw [Tryz.cz80];first | done | rfl):p:=h
theorem Y53 {p:Prop} (h:p:=by first | exact isEls_map (P:=Tryz.prog) (e:=80) (f:=Snt.pv) (fun a=>⟨rfl,Y393⟩) _ |(intro p hp;cases hp)):p:=h
theorem Y108 {p:Prop} (h:p:=by simp only [go_sem,List.map_cons,List.map_nil,Snt.pv,↓reduceIte,Nat.reduceEqDiff,H]<;>rfl):p:=h
theorem Y109 {p:Prop} (h:p:=by simp only [Tryz.f17,go_sem,↓reduceIte]<;>rfl):p:=h
theorem Y220 {p:Prop} (h:p:=by rw [Tryz.by80];simp<;>omega):p:=h
theorem Y221 {p:Prop} (h:p:=by intro q hq;rw [List.mem_singleton.1 hq];exact aAppend_nilL (f:=Snt.pv) (ys:=[(⟨tick,tn,fr⟩:Snt)]) Y67 (by rw [Tryz.cz80])):p:=h
theorem Y222 {p:Prop} (h:p:=by rintro ⟨e1,e2⟩;rw [e1,e2] at hc0;cases hc0):p:=h
theorem Y280 {p:Prop} (h:p:=by rw [Tryz.zp80];rfl):p:=h
theorem Y281 {p:Prop} (h:p:=by rw [Tryz.by80];decide):p:=h
theorem Y335 {p:Prop} (h:p:=by rw [hso];simp only [PV.weak,weaks_u8]):p:=h
theorem Y416 {p:Prop} (h:p:=by rw [hso];rfl):p:=h
set_option maxRecDepth 100000 in
theorem line_SendN {ln b:Nat} {a0 a1 a2 a3 c0 c1 c2 c3:PV} {D:Dev} {tn tick f:Int} (hf:0≤f∧f≤4) {fr:List Int} (hfo:OkB fr) (hfl:fr.length≤140737488350000) {s:St} (hl:s.blk ln=some (lnRow (b+5) a0 a1 a2 a3 (.sl .nil []))) (hA:DevAt b D s) (hD:D.ok) (hbl:b+5<ln)
  (htake:∀ S':St,S'.blk ln=some (lnRow (b+5) a0 a1 a2 a3 (.sl (.tok s.nxt 3) ([(⟨tick,tn,fr⟩:Snt)].map Snt.pv)))→ACalls Tryz.prog 37 [.ptr ln 0 0,.int .i64 tn] S' (fun r s'=>r=.int .i64 f∧s'=S'.set ln (some (lnRow (b+5) c0 c1 c2 c3 (.sl (.tok s.nxt 3) ([(⟨tick,tn,fr⟩:Snt)].map Snt.pv)))))) :
  ACalls Tryz.prog 17 [.ptr ln 0 0,.int .i64 tn,.int .i64 tick,.sl .unk (fr.map (PV.int .u8))] s (fun r s'=>r=.sl .unk ((sendF f D fr).1.map (PV.int .u8))∧s'=putDev b (sendF f D fr).2 ((s.new (.tok [(⟨tick,tn,fr⟩:Snt)].length)).set ln (some (lnRow (b+5) c0 c1 c2 c3 (.sl (.tok s.nxt 3) ([(⟨tick,tn,fr⟩:Snt)].map Snt.pv)))))):=by
 refine go Tryz.func17 (k:=fun hwf H=>?_)
 unfold lnRow at hl
 have hlt:=lt_blk hwf hl
 obtain ⟨Nf,hdoes,hcal,hbody⟩:=line_body hf
 have n1:(ln=s.nxt)=False:=eq_false Y14
 have hfl2:fr.length*1≤140737488355328:=Y14
 have H:=aj n1 H
 have hA1:∀ x,DevAt b D ((s.new (.tok [(⟨tick,tn,fr⟩:Snt)].length)).set ln x):=fun x=>(hA.nw (hA.lt hwf) _).sv Y14 x
 have H:=aj hl H
 refine rs (k:=rg [0,1,2,3] (k:=rs (k:=rH 15 [11,14] [[false,false],[true,false],[true,true]] [s,(s.new (.tok [(⟨tick,tn,fr⟩:Snt)].length)),((s.new (.tok [(⟨tick,tn,fr⟩:Snt)].length)).set ln (some (.row 74 [.agg [.ptr (b+5) 0 0,a0,a1,a2,a3,.sl (.tok s.nxt 3) ([(⟨tick,tn,fr⟩:Snt)].map Snt.pv)]])))] Tryz.mixed (k:=?_))))
 refine dP [0,1] (pre:=[_,_,_,_,_,_,_,_]) (k:=?_)
 refine dC [0] (h:=fun s _=>clone_u8 (xs:=fr) hfl2) (k:=?_)
 refine dP [0] (pre:=[_,_]) (k:=?_)
 refine DetHC.app (kx:=.nil) (xs:=[]) (ys:=[(⟨tick,tn,fr⟩:Snt)].map Snt.pv) (v:=.sl (.tok s.nxt 3) ([(⟨tick,tn,fr⟩:Snt)].map Snt.pv)) [(0,1)] _ Y19 pq au au Y108 Tryz.td61 Y280 Y53 Y53 Y281 Y220 Y221 ?_
 refine dP [1] (pre:=[_,_]) (k:=?_)
 refine dE [(1,2)] (k:=?_)
 refine DetHC.nil ?_
 refine rl [0,1,3] (k:=rs (k:=rr (k:=ro (pre:=[_,_,_]) (k:=?_))))
 refine RunO.callw au au au Y19 ((htake _ (by unfold lnRow;exact blk_set_self _ _ _)).mono ?_)
 rintro r s1 ⟨rfl,rfl⟩
 refine rC (h:=hdoes (by first |(simp only [nxt_set,nxt_new];omega) | omega)) (k:=rh [3,9] (k:=rs (k:=rr (k:=ro (pre:=[_]) (k:=rC (h:=rtu_Read hfo hfl) (k:=rh [9,10,11,12] (k:=rs (k:=rs (k:=rg [9,11,43] (k:=rc (ht:=fun hc0=>?_) (hf:=fun hc0=>?_)))))))))))
 refine rs (k:=rg [8] (k:=rR (k:=?_)))
 refine jO 1 ?_;rotate_left
 refine rk (k:=rs (k:=?_))
 have hrt:(rtuF fr).2=0∧(rtuF fr).1.1=17:=Y77
 have hpd:=rtu_pdu hrt.1
 have hso:sendF f D fr=lineF f D (rtuF fr).1.2:=if_pos hrt
 refine rr (k:=ro (pre:=[_,_]) (k:=?_))
 refine RunO.callw au au au hcal ((hbody (blk_set_self _ _ _) (hA1 _) hD (rtu_ok hfo) hpd.2.1 hpd.1).mono ?_)
 rintro r s1 ⟨rfl,rfl⟩
 refine rC (h:=clip_u8 (xs:=(lineF f D (rtuF fr).1.2).1)) (k:=rh [8] (k:=rR (k:=?_)))
 refine jO 1 ?_;rotate_left
 any_goals
  refine jI 1 ?_
  first
   |(have hso:sendF f D fr=([],D):=if_neg Y222
     refine Ret.allW (r':=.sl .unk []) Y109 Y380 ⟨Y416,?_⟩
     rw [hso]
     exact (putDev_self (hA1 _)).symm)
   |(refine Ret.allW (r':=.sl .unk ((sendF f D fr).1.map (PV.int .u8))) Y109 ?_ ⟨rfl,?_⟩
     ·exact Y335
     ·rw [hso]<;>rfl)
attribute [local go_sem] set_set putDev_hi putDev_nxt
theorem Y223 {p:Prop} (h:p:=by intro q hq;rw [List.mem_singleton.1 hq];exact aAppend_tokL (f:=Snt.pv) (xs:=l) (ys:=[(⟨tick,tn,fr⟩:Snt)]) rfl Y67 ht rfl (by rw [Tryz.cz80])):p:=h
set_option maxRecDepth 100000 in
theorem line_SendT {ln b t:Nat} {a0 a1 a2 a3 c0 c1 c2 c3:PV} {D:Dev} {tn tick f:Int} (hf:0≤f∧f≤4) {fr:List Int} (hfo:OkB fr) (hfl:fr.length≤140737488350000) {l:List Snt} (hL:l.length≤100000) {s:St} (hl:s.blk ln=some (lnRow (b+5) a0 a1 a2 a3 (.sl (.tok t 3) (l.map Snt.pv)))) (hA:DevAt b D s) (hD:D.ok) (hbl:b+5<ln) (ht:s.blk t=some (.tok l.length)) (hne:t≠ln) (hbt:b+5<t)
  (htake:∀ S':St,S'.blk ln=some (lnRow (b+5) a0 a1 a2 a3 (.sl (.tok t 3) ((l++[(⟨tick,tn,fr⟩:Snt)]).map Snt.pv)))→ACalls Tryz.prog 37 [.ptr ln 0 0,.int .i64 tn] S' (fun r s'=>r=.int .i64 f∧s'=S'.set ln (some (lnRow (b+5) c0 c1 c2 c3 (.sl (.tok t 3) ((l++[(⟨tick,tn,fr⟩:Snt)]).map Snt.pv)))))) :
  ACalls Tryz.prog 17 [.ptr ln 0 0,.int .i64 tn,.int .i64 tick,.sl .unk (fr.map (PV.int .u8))] s (fun r s'=>r=.sl .unk ((sendF f D fr).1.map (PV.int .u8))∧s'=putDev b (sendF f D fr).2 ((s.set t (some (.tok (l++[(⟨tick,tn,fr⟩:Snt)]).length))).set ln (some (lnRow (b+5) c0 c1 c2 c3 (.sl (.tok t 3) ((l++[(⟨tick,tn,fr⟩:Snt)]).map Snt.pv)))))):=by
 refine go Tryz.func17 (k:=fun hwf H=>?_)
 unfold lnRow at hl
 have hlt:=lt_blk hwf hl
 obtain ⟨Nf,hdoes,hcal,hbody⟩:=line_body hf
 have n1:(ln=s.nxt)=False:=eq_false Y14
 have hfl2:fr.length*1≤140737488355328:=Y14
 have H:=aj n1 H
 have htl:=lt_blk hwf ht
 have n2:(ln=t)=False:=eq_false Y14
 have n3:(t=ln)=False:=eq_false Y14
 have H:=aj n2 (aj n3 H)
 have hA1:∀ x,DevAt b D ((s.set t (some (.tok (l++[(⟨tick,tn,fr⟩:Snt)]).length))).set ln x):=fun x=>(hA.sv hbt _).sv Y14 x
 have H:=aj hl H
 refine rs (k:=rg [0,1,2,3] (k:=rs (k:=rH 15 [11,14] [[false,false],[true,false],[true,true]] [s,(s.set t (some (.tok (l++[(⟨tick,tn,fr⟩:Snt)]).length))),((s.set t (some (.tok (l++[(⟨tick,tn,fr⟩:Snt)]).length))).set ln (some (.row 74 [.agg [.ptr (b+5) 0 0,a0,a1,a2,a3,.sl (.tok t 3) ((l++[(⟨tick,tn,fr⟩:Snt)]).map Snt.pv)]])))] Tryz.mixed (k:=?_))))
 refine dP [0,1] (pre:=[_,_,_,_,_,_,_,_]) (k:=?_)
 refine dC [0] (h:=fun s _=>clone_u8 (xs:=fr) hfl2) (k:=?_)
 refine dP [0] (pre:=[_,_]) (k:=?_)
 refine DetHC.app (kx:=.tok t 3) (xs:=l.map Snt.pv) (ys:=[(⟨tick,tn,fr⟩:Snt)].map Snt.pv) (v:=.sl (.tok t 3) ((l++[(⟨tick,tn,fr⟩:Snt)]).map Snt.pv)) [(0,1)] _ Y19 pq au au Y108 Tryz.td61 Y280 Y53 Y53 Y281 Y220 Y223 ?_
 refine dP [1] (pre:=[_,_]) (k:=?_)
 refine dE [(1,2)] (k:=?_)
 refine DetHC.nil ?_
 refine rl [0,1,3] (k:=rs (k:=rr (k:=ro (pre:=[_,_,_]) (k:=?_))))
 refine RunO.callw au au au Y19 ((htake _ (by unfold lnRow;exact blk_set_self _ _ _)).mono ?_)
 rintro r s1 ⟨rfl,rfl⟩
 refine rC (h:=hdoes (by first |(simp only [nxt_set,nxt_new];omega) | omega)) (k:=rh [3,9] (k:=rs (k:=rr (k:=ro (pre:=[_]) (k:=rC (h:=rtu_Read hfo hfl) (k:=rh [9,10,11,12] (k:=rs (k:=rs (k:=rg [9,11,43] (k:=rc (ht:=fun hc0=>?_) (hf:=fun hc0=>?_)))))))))))
 refine rs (k:=rg [8] (k:=rR (k:=?_)))
 refine jO 1 ?_;rotate_left
 refine rk (k:=rs (k:=?_))
 have hrt:(rtuF fr).2=0∧(rtuF fr).1.1=17:=Y77
 have hpd:=rtu_pdu hrt.1
 have hso:sendF f D fr=lineF f D (rtuF fr).1.2:=if_pos hrt
 refine rr (k:=ro (pre:=[_,_]) (k:=?_))
 refine RunO.callw au au au hcal ((hbody (blk_set_self _ _ _) (hA1 _) hD (rtu_ok hfo) hpd.2.1 hpd.1).mono ?_)
 rintro r s1 ⟨rfl,rfl⟩
 refine rC (h:=clip_u8 (xs:=(lineF f D (rtuF fr).1.2).1)) (k:=rh [8] (k:=rR (k:=?_)))
 refine jO 1 ?_;rotate_left
 any_goals
  refine jI 1 ?_
  first
   |(have hso:sendF f D fr=([],D):=if_neg Y222
     refine Ret.allW (r':=.sl .unk []) Y109 Y380 ⟨Y416,?_⟩
     rw [hso]
     exact (putDev_self (hA1 _)).symm)
   |(refine Ret.allW (r':=.sl .unk ((sendF f D fr).1.map (PV.int .u8))) Y109 ?_ ⟨rfl,?_⟩
     ·exact Y335
     ·rw [hso]<;>rfl)
end Go.Proofs
namespace Go.Proofs
open Go.PM
set_option maxHeartbeats 2000000
structure ElsAt (c:Nat) (s0 s':St) (kk:SK) (els ws:List PV):Prop where
 wk:PV.weaks els=ws
 el:∀ p∈els,p.ok=true∧p.cells.length=c
 fr:Fr s0 s'
 gr:Grows s' kk els.length c
 tk:∀ t z,kk=.tok t z→s0.nxt≤t∧t<s'.nxt
theorem weaks_snocP {a b:List PV}:PV.weaks (a++b)=PV.weaks a++PV.weaks b:=by
 induction a with
 | nil=>rfl
 | cons x l ih=>simp only [List.cons_append,PV.weaks,ih]
theorem ElsAt.snoc {c:Nat} {s0 s1 s2 s3:St} {kk k':SK} {els ws:List PV} {el w:PV} (h:ElsAt c s0 s1 kk els ws) (h1:el.ok=true) (h2:el.cells.length=c) (hw:el.weak=w) (h12:s1.nxt≤s2.nxt) (f2:Fr s0 s2)
  (hg:Grows s3 k' (els.length+[el].length) c) (htm:TMoves s2 s3 kk k'):ElsAt c s0 s3 k' (els++[el]) (ws++[w]):=by
 refine ⟨by rw [weaks_snocP,h.wk];simp only [PV.weaks,hw],fun p hp=>?_,f2.tm htm (fun t z e=>(h.tk t z e).1),by rw [List.length_append];exact hg,fun t z e=>?_⟩
 ·rcases List.mem_append.1 hp with hp | hp
  ·exact h.el p hp
  ·rw [List.mem_singleton.1 hp];exact ⟨h1,h2⟩
 ·have h9:=htm.nxt
  have h8:=f2.nxt
  rcases htm.fresh t z e with ⟨z',h'⟩ | ⟨h1,h2⟩
  ·have:=h.tk t z' h';omega
  ·omega
attribute [local go_sem] set_set
theorem Y394 {p:Prop} (h:p:=by rw [map_get hil,hxe];rfl):p:=h
set_option maxRecDepth 100000 in
theorem line_Sent {ln d:Nat} {a0 a1 a2 a3:PV} {k:SK} {l:List Snt} (hll:l.length≤100000) (hld:∀ x∈l,x.data.length≤140737488350000) {s:St} (hl:s.blk ln=some (lnRow d a0 a1 a2 a3 (.sl k (l.map Snt.pv)))):ACalls Tryz.prog 28 [.ptr ln 0 0] s (fun r s'=>r=.sl .unk (l.map Snt.pv)∧s'=s):=by
 refine go Tryz.func28 (k:=fun hwf H=>?_)
 unfold lnRow at hl
 have hlt:=lt_blk hwf hl
 have n1:(ln=s.nxt)=False:=eq_false Y14
 have H:=aj n1 H
 have H:=aj hl H
 refine rs (k:=rg [0] (k:=rs (k:=rr (k:=ro (pre:=[_,_,_,_,_]) (k:=?_)))))
 refine RunO.makeCap (n:=l.length) au au au Tryz.td61 (by rw [Tryz.zp80]) Y14 (by rw [Tryz.by80];omega) ?_
 refine rh [0,3] (k:=rs (k:=rs (k:=rg [3,15,16,17] (k:=rb (k:=?_)))))
 refine Run.loop (fun e s'=>∃ (i:Nat) (els:List PV) (kk:SK),e=[(3,.sl kk els),(15,.sl k (l.map Snt.pv)),(16,.int .i64 (l.length:Int)),(17,.int .i64 (i:Int))]∧i≤l.length∧els.length=i∧ElsAt 3 s s' kk els ((l.take i).map Snt.pv)) (fun e s'=>l.length-ivar e 17) ?_ ?_
 ·exact ⟨0,[],.tok s.nxt 3,rfl,Nat.zero_le _,rfl,rfl,(fun p hp=>by cases hp),(Fr.refl hwf).new _,.inr (.inr ⟨s.nxt,rfl,blk_new_eq⟩),fun t z e=>by cases e;exact ⟨Nat.le_refl _,Nat.lt_succ_self _⟩⟩
 rintro e s1 ⟨i,els,kk,rfl,hi,hel,hE⟩
 have hFn:=hE.fr.nxt
 refine rs (k:=rg [3,15,16,17,18] (k:=rs (k:=rc (ht:=fun hc0=>?_) (hf:=fun hc0=>?_))))
 ·refine rk (k:=rs (k:=rb (k:=rs (k:=?_))))
  have hil:i<l.length:=Y74
  obtain ⟨x,hxe⟩:∃ z_,l[i]'hil=z_:=⟨_,rfl⟩
  have hxx:(l.map Snt.pv)[i]? =some (.agg [.int .i64 x.tick,.int .i64 x.tenant,.sl .unk (x.data.map (PV.int .u8))]):=Y394
  have hilT:(i<l.length)=True:=eq_true hil
  have hxd:x.data.length≤140737488350000:=hld x Y185
  have hw:IntKind.i64.wrap ((i:Int)+1)=((i+1:Nat):Int):=Y21
  have H:=aj hxx (aj hilT (aj hw H))
  refine rg [3,5,15,16,17] (k:=rs (k:=rr (k:=ro (pre:=[_,_]) (k:=rC (h:=clone_u8 (xs:=x.data) Y14) (k:=rC (h:=clip_u8 (xs:=x.data)) (k:=rh [3,5,15,16,17] (k:=rr (k:=ro (pre:=[_,_]) (k:=rO (k:=?_))))))))))
  refine RunO.grow (xs:=els) (ys:=[_]) au au au Tryz.td61 Y280 (by unfold isEls;rw [Tryz.cz80];exact hE.el) (by intro p hp;rw [List.mem_singleton.1 hp,Tryz.cz80];exact ⟨rfl,rfl⟩) Y281 (by rw [Tryz.by80];simp;omega) (by rw [Tryz.cz80];exact hE.gr.mono fun t e=>by have:=hE.tk _ _ e;simp (disch:=first | omega |(simp only [nxt_set,nxt_new]<;>omega) | fail) only [go_sem]) Y67 ?_
  intro k' s3 hgr' htm
  rw [Tryz.cz80] at hgr'
  refine rh [3,15,16,17] (k:=rB (k:=rg [3,15,16,17] (k:=?_)))
  refine Run.lp ⟨⟨i+1,_,k',rfl,Y14,by rw [List.length_append,hel];rfl,?_⟩,?_⟩
  ·rw [take_get hil,hxe,List.map_append]
   exact hE.snoc rfl rfl (by simp only [PV.weak,PV.weaks,weaks_u8,Snt.pv]) (Nat.le_succ _) (hE.fr.new _) hgr' htm
  ·exact Y75
 ·refine rX (k:=rs (k:=rg [2] (k:=rR (k:=?_))))
  have hi2:i=l.length:=Y76
  refine Ret.pure (r':=.sl .unk (l.map Snt.pv)) (by simp only [Tryz.f28,go_sem,↓reduceIte]<;>rfl) (by rw [PV.weak,hE.wk,hi2,List.take_length]) (by simp only [PV.blw];exact ⟨fun t z e=>Y66,blws_map Snt.pv _ (fun a=>by simp only [Snt.pv,PV.blw,PV.blws,and_true,true_and];exact ⟨fun t z e=>Y66,blws_u8 _ _⟩) _⟩) hwf hE.fr.blk ⟨rfl,rfl⟩
end Go.Proofs
namespace Go.Proofs
open Go.PM
set_option maxHeartbeats 2000000
def TkAt (s:St) (z:Nat) (els:List PV) (c:Nat) (x:PV):Option Nat→Prop
 | none=>x=.sl .nil []∧els=[]
 | some t=>x=.sl (.tok t z) els∧s.blk t=some (.tok els.length)∧c≤t∧t<s.nxt
theorem TkAt.keep {s s':St} {z:Nat} {els:List PV} {c:Nat} {x:PV} {n:Option Nat} (h:TkAt s z els c x n) (hb:∀ t,n=some t→t<s.nxt→s'.blk t=s.blk t) (hx:s.nxt≤s'.nxt):TkAt s' z els c x n:=by
 cases n with
 | none=>exact h
 | some t=>exact ⟨h.1,by rw [hb t rfl h.2.2.2];exact h.2.1,h.2.2.1,Nat.lt_of_lt_of_le h.2.2.2 hx⟩
structure LnAt (b ln c:Nat) (D:Dev) (F:List Int) (l:List Snt) (a1 a2 a3:PV) (s:St):Prop where
 row:∃ x st n m,s.blk ln=some (lnRow (b+5) x a1 a2 a3 st)∧TkAt s 1 (F.map (PV.int .i64)) c x n∧TkAt s 3 (l.map Snt.pv) c st m∧(n=none∨n≠m)
 dev:DevAt b D s
 lt:b+5<ln
 hc:ln<c
 nx:c≤s.nxt
structure Out (b ln c:Nat) (s s':St):Prop where
 nx:s.nxt≤s'.nxt
 same:∀ j,j<s.nxt→(j<c∨∀ L,s.blk j≠some (.tok L))→j≠ln→¬ (b≤j∧j≤b+5)→s'.blk j=s.blk j
theorem Out.refl (b ln c:Nat) (s:St):Out b ln c s s:=⟨Nat.le_refl _,fun _ _ _ _ _=>rfl⟩
theorem Out.trans {b ln c:Nat} {s s1 s2:St} (h:Out b ln c s s1) (k:Out b ln c s1 s2):Out b ln c s s2:=⟨Nat.le_trans h.nx k.nx,fun j h1 h2 h3 h4=>(k.same j (Nat.lt_of_lt_of_le h1 h.nx) (by rw [h.same j h1 h2 h3 h4];exact h2) h3 h4).trans (h.same j h1 h2 h3 h4)⟩
theorem LnAt.put {b ln c:Nat} {D D':Dev} {F:List Int} {l:List Snt} {a1 a2 a3:PV} {s:St} (h:LnAt b ln c D F l a1 a2 a3 s) (hl:D'.c0.length=D.c0.length):LnAt b ln c D' F l a1 a2 a3 (putDev b D' s)∧Out b ln c s (putDev b D' s):=by
 have h1:=h.lt
 have h2:=h.hc
 obtain ⟨x,st,n,m,r1,r2,r3,r4⟩:=h.row
 refine ⟨⟨⟨x,st,n,m,by rw [putDev_hi Y14];exact r1,?_,?_,r4⟩,DevAt.put h.dev hl,h1,h2,h.nx⟩,Nat.le_refl _,fun j _ _ _ h3=>?_⟩
 ·refine r2.keep (fun t e ht=>?_) (Nat.le_refl _)
  subst e
  have:=r2.2.2.1
  exact putDev_hi Y14
 ·refine r3.keep (fun t e ht=>?_) (Nat.le_refl _)
  subst e
  have:=r3.2.2.1
  exact putDev_hi Y14
 ·by_cases hj:j<b
  ·exact putDev_lo Y14
  ·exact putDev_hi Y14
theorem LnAt.nw {b ln c:Nat} {D:Dev} {F:List Int} {l:List Snt} {a1 a2 a3:PV} {s:St} (h:LnAt b ln c D F l a1 a2 a3 s) (x:Blk):LnAt b ln c D F l a1 a2 a3 (s.new x):=by
 have h1:=h.lt
 have h2:=h.hc
 have h3:=h.nx
 obtain ⟨y,st,n,m,r1,r2,r3,r4⟩:=h.row
 exact ⟨⟨y,st,n,m,by rw [blk_new_ne Y14];exact r1,r2.keep (fun t e ht=>blk_new_ne Y14) (Nat.le_succ _),r3.keep (fun t e ht=>blk_new_ne Y14) (Nat.le_succ _),r4⟩,h.dev.nw Y14 _,h1,h2,Nat.le_succ_of_le h3⟩
theorem LnAt.hi {b ln c r:Nat} {D:Dev} {F:List Int} {l:List Snt} {a1 a2 a3:PV} {s:St} (h:LnAt b ln c D F l a1 a2 a3 s) (hr:c≤r) (hb:∀ L,s.blk r≠some (.tok L)) (x:Option Blk):LnAt b ln c D F l a1 a2 a3 (s.set r x):=by
 have h1:=h.lt
 have h2:=h.hc
 obtain ⟨y,st,n,m,r1,r2,r3,r4⟩:=h.row
 refine ⟨⟨y,st,n,m,by rw [blk_set_ne Y14];exact r1,r2.keep (fun t e ht=>?_) (Nat.le_refl _),r3.keep (fun t e ht=>?_) (Nat.le_refl _),r4⟩,h.dev.sv Y14 _,h1,h2,h.nx⟩
 ·subst e
  exact blk_set_ne (by rintro rfl;exact hb _ r2.2.1)
 ·subst e
  exact blk_set_ne (by rintro rfl;exact hb _ r3.2.1)
theorem Out.nw {b ln c:Nat} {s s':St} (h:Out b ln c s s') (x:Blk):Out b ln c s (s'.new x) :=
 ⟨Nat.le_succ_of_le h.nx,fun j q1 q2 q3 q4=>by rw [blk_new_ne (by have:=h.nx;omega)];exact h.same j q1 q2 q3 q4⟩
theorem Out.hi {b ln c r:Nat} {s s':St} (h:Out b ln c s s') (hr:s.nxt≤r) (x:Option Blk):Out b ln c s (s'.set r x) :=
 ⟨h.nx,fun j q1 q2 q3 q4=>by rw [blk_set_ne Y14];exact h.same j q1 q2 q3 q4⟩
theorem Y395 {p:Prop} (h:p:=by rw [blk_set_ne q2,blk_new_ne Y14]):p:=h
theorem LnAt.newF {b ln c:Nat} {D:Dev} {F:List Int} {l:List Snt} {a1 a2 a3 st:PV} {m:Option Nat} {s:St} (hd:DevAt b D s) (h1:b+5<ln) (h2:ln<c) (h3:c≤s.nxt) (hm:TkAt s 3 (l.map Snt.pv) c st m) :
  LnAt b ln c D F l a1 a2 a3 ((s.new (.tok F.length)).set ln (some (lnRow (b+5) (.sl (.tok s.nxt 1) (F.map (PV.int .i64))) a1 a2 a3 st)))∧Out b ln c s ((s.new (.tok F.length)).set ln (some (lnRow (b+5) (.sl (.tok s.nxt 1) (F.map (PV.int .i64))) a1 a2 a3 st))):=by
 refine ⟨⟨⟨_,st,some s.nxt,m,blk_set_self _ _ _,⟨rfl,?_,h3,Nat.lt_succ_self _⟩,hm.keep (fun t e ht=>?_) (Nat.le_succ _),.inr ?_⟩,(hd.nw Y14 _).sv Y14 _,h1,h2,Nat.le_succ_of_le h3⟩,Nat.le_succ _,fun j q1 _ q2 _=>?_⟩
 ·rw [blk_set_ne Y14,List.length_map];exact blk_new_eq
 ·subst e
  have:=hm.2.2.1
  rw [blk_set_ne Y14,blk_new_ne Y14]
 ·rintro rfl
  have:=hm.2.2.2
  omega
 ·exact Y395
theorem LnAt.cutF {b ln c t k:Nat} {D:Dev} {F:List Int} {l:List Snt} {a1 a2 a3 st:PV} {m:Option Nat} {s:St} (hd:DevAt b D s) (h1:b+5<ln) (h2:ln<c) (h3:c≤s.nxt) (ht:c≤t) (htx:t<s.nxt) {L0:Nat} (hb:s.blk t=some (.tok L0)) (hm:TkAt s 3 (l.map Snt.pv) c st m) (hne:some t≠m) (hk:k=F.length) :
  LnAt b ln c D F l a1 a2 a3 (((s.set t none).new (.tok k)).set ln (some (lnRow (b+5) (.sl (.tok s.nxt 1) (F.map (PV.int .i64))) a1 a2 a3 st)))∧Out b ln c s (((s.set t none).new (.tok k)).set ln (some (lnRow (b+5) (.sl (.tok s.nxt 1) (F.map (PV.int .i64))) a1 a2 a3 st))):=by
 subst hk
 have ho:Out b ln c s (s.set t none):=⟨Nat.le_refl _,fun j q1 qt q2 _=>blk_set_ne (by rintro rfl;rcases qt with h | h;omega;exact h _ hb)⟩
 have hm':TkAt (s.set t none) 3 (l.map Snt.pv) c st m:=hm.keep (fun t' e ht'=>blk_set_ne (fun e'=>hne (by rw [e,e']))) (Nat.le_refl _)
 obtain ⟨k1,k2⟩:=LnAt.newF (F:=F) (a1:=a1) (a2:=a2) (a3:=a3) (hd.sv Y14 none) h1 h2 h3 hm'
 exact ⟨k1,ho.trans k2⟩
attribute [local go_sem] set_set putDev_hi putDev_nxt
set_option maxRecDepth 100000 in
theorem line_SendXN {ln b:Nat} {a0 a1 a2 a3 c0 c1 c2 c3 st9:PV} {S9:St} {D:Dev} {tn tick f:Int} (hf:0≤f∧f≤4) {fr:List Int} (hfo:OkB fr) (hfl:fr.length≤140737488350000) {s:St} (hl:s.blk ln=some (lnRow (b+5) a0 a1 a2 a3 (.sl .nil []))) (hA:DevAt b D s) (hD:D.ok) (hbl:b+5<ln)
  (htake:ACalls Tryz.prog 37 [.ptr ln 0 0,.int .i64 tn] ((s.new (.tok [(⟨tick,tn,fr⟩:Snt)].length)).set ln (some (lnRow (b+5) a0 a1 a2 a3 (.sl (.tok s.nxt 3) ([(⟨tick,tn,fr⟩:Snt)].map Snt.pv))))) (fun r s'=>r=.int .i64 f∧s'=S9)) (hl9:S9.blk ln=some (lnRow (b+5) c0 c1 c2 c3 st9)) (hA9:DevAt b D S9) (hx9:ln<S9.nxt) :
  ACalls Tryz.prog 17 [.ptr ln 0 0,.int .i64 tn,.int .i64 tick,.sl .unk (fr.map (PV.int .u8))] s (fun r s'=>r=.sl .unk ((sendF f D fr).1.map (PV.int .u8))∧s'=putDev b (sendF f D fr).2 S9):=by
 refine go Tryz.func17 (k:=fun hwf H=>?_)
 unfold lnRow at hl
 have hlt:=lt_blk hwf hl
 obtain ⟨Nf,hdoes,hcal,hbody⟩:=line_body hf
 have n1:(ln=s.nxt)=False:=eq_false Y14
 have hfl2:fr.length*1≤140737488355328:=Y14
 have H:=aj n1 H
 have H:=aj hl H
 refine rs (k:=rg [0,1,2,3] (k:=rs (k:=rH 15 [11,14] [[false,false],[true,false],[true,true]] [s,(s.new (.tok [(⟨tick,tn,fr⟩:Snt)].length)),((s.new (.tok [(⟨tick,tn,fr⟩:Snt)].length)).set ln (some (.row 74 [.agg [.ptr (b+5) 0 0,a0,a1,a2,a3,.sl (.tok s.nxt 3) ([(⟨tick,tn,fr⟩:Snt)].map Snt.pv)]])))] Tryz.mixed (k:=?_))))
 refine dP [0,1] (pre:=[_,_,_,_,_,_,_,_]) (k:=?_)
 refine dC [0] (h:=fun s _=>clone_u8 (xs:=fr) hfl2) (k:=?_)
 refine dP [0] (pre:=[_,_]) (k:=?_)
 refine DetHC.app (kx:=.nil) (xs:=[]) (ys:=[(⟨tick,tn,fr⟩:Snt)].map Snt.pv) (v:=.sl (.tok s.nxt 3) ([(⟨tick,tn,fr⟩:Snt)].map Snt.pv)) [(0,1)] _ Y19 pq au au Y108 Tryz.td61 Y280 Y53 Y53 Y281 Y220 Y221 ?_
 refine dP [1] (pre:=[_,_]) (k:=?_)
 refine dE [(1,2)] (k:=?_)
 refine DetHC.nil ?_
 refine rl [0,1,3] (k:=rs (k:=rr (k:=ro (pre:=[_,_,_]) (k:=?_))))
 refine RunO.callw au au au Y19 ((htake).mono ?_)
 rintro r s1 ⟨rfl,hs⟩
 subst s1
 refine rC (h:=hdoes hx9) (k:=rh [3,9] (k:=rs (k:=rr (k:=ro (pre:=[_]) (k:=rC (h:=rtu_Read hfo hfl) (k:=rh [9,10,11,12] (k:=rs (k:=rs (k:=rg [9,11,43] (k:=rc (ht:=fun hc0=>?_) (hf:=fun hc0=>?_)))))))))))
 refine rs (k:=rg [8] (k:=rR (k:=?_)))
 refine jO 1 ?_;rotate_left
 refine rk (k:=rs (k:=?_))
 have hrt:(rtuF fr).2=0∧(rtuF fr).1.1=17:=Y77
 have hpd:=rtu_pdu hrt.1
 have hso:sendF f D fr=lineF f D (rtuF fr).1.2:=if_pos hrt
 refine rr (k:=ro (pre:=[_,_]) (k:=?_))
 refine RunO.callw au au au hcal ((hbody hl9 hA9 hD (rtu_ok hfo) hpd.2.1 hpd.1).mono ?_)
 rintro r s1 ⟨rfl,hs⟩
 subst s1
 refine rC (h:=clip_u8 (xs:=(lineF f D (rtuF fr).1.2).1)) (k:=rh [8] (k:=rR (k:=?_)))
 refine jO 1 ?_;rotate_left
 any_goals
  refine jI 1 ?_
  first
   |(have hso:sendF f D fr=([],D):=if_neg Y222
     refine Ret.allW (r':=.sl .unk []) Y109 Y380 ⟨Y416,?_⟩
     rw [hso]
     exact (putDev_self hA9).symm)
   |(refine Ret.allW (r':=.sl .unk ((sendF f D fr).1.map (PV.int .u8))) Y109 ?_ ⟨rfl,?_⟩
     ·exact Y335
     ·rw [hso]<;>rfl)
attribute [local go_sem] set_set putDev_hi putDev_nxt
set_option maxRecDepth 100000 in
theorem line_SendXT {ln b t:Nat} {a0 a1 a2 a3 c0 c1 c2 c3 st9:PV} {S9:St} {D:Dev} {tn tick f:Int} (hf:0≤f∧f≤4) {fr:List Int} (hfo:OkB fr) (hfl:fr.length≤140737488350000) {l:List Snt} (hL:l.length≤100000) {s:St} (hl:s.blk ln=some (lnRow (b+5) a0 a1 a2 a3 (.sl (.tok t 3) (l.map Snt.pv)))) (hA:DevAt b D s) (hD:D.ok) (hbl:b+5<ln) (ht:s.blk t=some (.tok l.length)) (hne:t≠ln) (hbt:b+5<t)
  (htake:ACalls Tryz.prog 37 [.ptr ln 0 0,.int .i64 tn] ((s.set t (some (.tok (l++[(⟨tick,tn,fr⟩:Snt)]).length))).set ln (some (lnRow (b+5) a0 a1 a2 a3 (.sl (.tok t 3) ((l++[(⟨tick,tn,fr⟩:Snt)]).map Snt.pv))))) (fun r s'=>r=.int .i64 f∧s'=S9)) (hl9:S9.blk ln=some (lnRow (b+5) c0 c1 c2 c3 st9)) (hA9:DevAt b D S9) (hx9:ln<S9.nxt) :
  ACalls Tryz.prog 17 [.ptr ln 0 0,.int .i64 tn,.int .i64 tick,.sl .unk (fr.map (PV.int .u8))] s (fun r s'=>r=.sl .unk ((sendF f D fr).1.map (PV.int .u8))∧s'=putDev b (sendF f D fr).2 S9):=by
 refine go Tryz.func17 (k:=fun hwf H=>?_)
 unfold lnRow at hl
 have hlt:=lt_blk hwf hl
 obtain ⟨Nf,hdoes,hcal,hbody⟩:=line_body hf
 have n1:(ln=s.nxt)=False:=eq_false Y14
 have hfl2:fr.length*1≤140737488355328:=Y14
 have H:=aj n1 H
 have htl:=lt_blk hwf ht
 have n2:(ln=t)=False:=eq_false Y14
 have n3:(t=ln)=False:=eq_false Y14
 have H:=aj n2 (aj n3 H)
 have H:=aj hl H
 refine rs (k:=rg [0,1,2,3] (k:=rs (k:=rH 15 [11,14] [[false,false],[true,false],[true,true]] [s,(s.set t (some (.tok (l++[(⟨tick,tn,fr⟩:Snt)]).length))),((s.set t (some (.tok (l++[(⟨tick,tn,fr⟩:Snt)]).length))).set ln (some (.row 74 [.agg [.ptr (b+5) 0 0,a0,a1,a2,a3,.sl (.tok t 3) ((l++[(⟨tick,tn,fr⟩:Snt)]).map Snt.pv)]])))] Tryz.mixed (k:=?_))))
 refine dP [0,1] (pre:=[_,_,_,_,_,_,_,_]) (k:=?_)
 refine dC [0] (h:=fun s _=>clone_u8 (xs:=fr) hfl2) (k:=?_)
 refine dP [0] (pre:=[_,_]) (k:=?_)
 refine DetHC.app (kx:=.tok t 3) (xs:=l.map Snt.pv) (ys:=[(⟨tick,tn,fr⟩:Snt)].map Snt.pv) (v:=.sl (.tok t 3) ((l++[(⟨tick,tn,fr⟩:Snt)]).map Snt.pv)) [(0,1)] _ Y19 pq au au Y108 Tryz.td61 Y280 Y53 Y53 Y281 Y220 Y223 ?_
 refine dP [1] (pre:=[_,_]) (k:=?_)
 refine dE [(1,2)] (k:=?_)
 refine DetHC.nil ?_
 refine rl [0,1,3] (k:=rs (k:=rr (k:=ro (pre:=[_,_,_]) (k:=?_))))
 refine RunO.callw au au au Y19 ((htake).mono ?_)
 rintro r s1 ⟨rfl,hs⟩
 subst s1
 refine rC (h:=hdoes hx9) (k:=rh [3,9] (k:=rs (k:=rr (k:=ro (pre:=[_]) (k:=rC (h:=rtu_Read hfo hfl) (k:=rh [9,10,11,12] (k:=rs (k:=rs (k:=rg [9,11,43] (k:=rc (ht:=fun hc0=>?_) (hf:=fun hc0=>?_)))))))))))
 refine rs (k:=rg [8] (k:=rR (k:=?_)))
 refine jO 1 ?_;rotate_left
 refine rk (k:=rs (k:=?_))
 have hrt:(rtuF fr).2=0∧(rtuF fr).1.1=17:=Y77
 have hpd:=rtu_pdu hrt.1
 have hso:sendF f D fr=lineF f D (rtuF fr).1.2:=if_pos hrt
 refine rr (k:=ro (pre:=[_,_]) (k:=?_))
 refine RunO.callw au au au hcal ((hbody hl9 hA9 hD (rtu_ok hfo) hpd.2.1 hpd.1).mono ?_)
 rintro r s1 ⟨rfl,hs⟩
 subst s1
 refine rC (h:=clip_u8 (xs:=(lineF f D (rtuF fr).1.2).1)) (k:=rh [8] (k:=rR (k:=?_)))
 refine jO 1 ?_;rotate_left
 any_goals
  refine jI 1 ?_
  first
   |(have hso:sendF f D fr=([],D):=if_neg Y222
     refine Ret.allW (r':=.sl .unk []) Y109 Y380 ⟨Y416,?_⟩
     rw [hso]
     exact (putDev_self hA9).symm)
   |(refine Ret.allW (r':=.sl .unk ((sendF f D fr).1.map (PV.int .u8))) Y109 ?_ ⟨rfl,?_⟩
     ·exact Y335
     ·rw [hso]<;>rfl)
end Go.Proofs
namespace Go.Proofs
open Go.PM
set_option maxHeartbeats 2000000
def lnR (ty d:Nat) (xs:List PV) (st:PV):Blk:=.row ty [.agg (.ptr d 0 0::(xs++[st]))]
theorem drop_one {xs:List PV} {st x p:PV} {T:Nat} (h:xs[T]? =some x):List.drop (1+T) (p::(xs++[st]))=x::List.drop (T+1) (xs++[st]):=by
 have ht:T<xs.length:=(List.getElem?_eq_some_iff.1 h).1
 rw [Nat.add_comm,List.drop_succ_cons,List.drop_eq_getElem_cons (by rw [List.length_append];omega),List.getElem_append_left ht]
 rw [List.getElem?_eq_getElem ht] at h
 rw [Option.some.inj h]
theorem set_one {xs:List PV} {st p v:PV} {T:Nat} (ht:T<xs.length):(p::(xs++[st])).set (1+T) v=p::(xs.set T v++[st]):=by
 rw [Nat.add_comm 1 T,List.set_cons_succ,List.set_append_left _ _ ht]
theorem app_new {P:Program} {e:TypeId} {k:SK} {f:Int→PV} {ys:List Int} {s:St} {z:Nat} (hk:k=.nil∨k=.clip) (hy:ys≠[]) (hc:P.cellsOf e=z):aAppend P e k [] (ys.map f) s=some (.sl (.tok s.nxt z) (ys.map f),s.new (.tok ys.length)):=by
 unfold aAppend
 rw [if_neg (by simpa using hy),hc]
 rcases hk with rfl | rfl<;>simp
theorem line_LeftG {ln d T:Nat} {xs:List PV} {st:PV} {L:List Int} {k:SK} (hT:T<4) (hxl:xs.length=4) (hx:xs[T]? =some (.sl k (L.map (PV.int .i64)))) {s:St} (hl:s.blk ln=some (lnR 74 d xs st)):ACalls Tryz.prog 12 [.ptr ln 0 0,.int .i64 (T:Int)] s (fun r s'=>r=.int .i64 L.length∧s'=s):=by
 refine go Tryz.func12 (k:=fun hwf H=>?_)
 unfold lnR at hl
 have ht4:((T:Int)<((4:Nat):Int))=True:=eq_true Y14
 have ht0:decide ((0:Int)≤(T:Int))=true:=decide_eq_true Y14
 have ht5:decide ((T:Int)<4)=true:=decide_eq_true Y14
 have hdr:=drop_one (st:=st) (p:=.ptr d 0 0) hx
 have hst:=fun v=>set_one (st:=st) (p:=.ptr d 0 0) (v:=v) (show T<xs.length from Y14)
 have H:=aj ht4 (aj ht0 (aj ht5 (aj hdr (aj hst H))))
 have H:=aj hl H
 refine rs (k:=rg [0,1] (k:=rs (k:=rs (k:=rr (k:=ro (pre:=[_]) (k:=rC (h:=(line_is (t:=(T:Int)))) (k:=rh [0,1,7] (k:=rc (ht:=fun hc0=>?_) (hf:=fun hc0=>?_)))))))))
 ·cases hc0
 ·exact Y218
theorem Y110 {p:Prop} (h:p:=by rw [List.length_append];simp;omega):p:=h
theorem Y282 {p:Prop} (h:p:=by intro q hq;rw [List.mem_singleton.1 hq];exact app_new (f:=PV.int .i64) (ys:=[F]) hk Y67 (by rw [Tryz.cz3])):p:=h
theorem line_HurtGN {ln d T:Nat} {xs:List PV} {st:PV} {L:List Int} {k:SK} {F:Int} (hT:T<4) (hF:0≤F∧F≤4) (hxl:xs.length=4) (hk:k=.nil∨k=.clip) (hx:xs[T]? =some (.sl k [])) {s:St} (hl:s.blk ln=some (lnR 74 d xs st)):ACalls Tryz.prog 11 [.ptr ln 0 0,.int .i64 (T:Int),.int .i64 F] s (fun r s'=>r=.bool true∧s'=((s.new (.tok [F].length)).set ln (some (lnR 74 d (xs.set T (.sl (.tok s.nxt 1) ([F].map (PV.int .i64)))) st)))):=by
 refine go Tryz.func11 (k:=fun hwf H=>?_)
 unfold lnR at hl
 have ht4:((T:Int)<((4:Nat):Int))=True:=eq_true Y14
 have ht0:decide ((0:Int)≤(T:Int))=true:=decide_eq_true Y14
 have ht5:decide ((T:Int)<4)=true:=decide_eq_true Y14
 have hdr:=drop_one (st:=st) (p:=.ptr d 0 0) hx
 have hst:=fun v=>set_one (st:=st) (p:=.ptr d 0 0) (v:=v) (show T<xs.length from Y14)
 have H:=aj ht4 (aj ht0 (aj ht5 (aj hdr (aj hst H))))
 have hlt:=lt_blk hwf hl
 have g1:decide (F<0)=false:=decide_eq_false Y14
 have g2:decide (4<F)=false:=decide_eq_false Y14
 have g6:decide ((T:Int)<0)=false:=decide_eq_false Y14
 have g7:decide (4≤(T:Int))=false:=decide_eq_false Y14
 have g8:(1+T≤(xs++[st]).length)=True:=eq_true Y110
 have H:=aj g1 (aj g2 (aj g6 (aj g7 (aj g8 H))))
 have g3:decide ((1000:Int)≤0)=false:=Y15
 have H:=aj g3 H
 have n1:(ln=s.nxt)=False:=eq_false Y14
 have H:=aj n1 H
 have H:=aj hl H
 refine rs (k:=rg [0,1,2] (k:=rs (k:=rs (k:=rr (k:=ro (pre:=[_]) (k:=rC (h:=(line_is (t:=(T:Int)))) (k:=rh [0,1,2,27] (k:=rc (ht:=fun hc0=>?_) (hf:=fun hc0=>?_)))))))))
 ·cases hc0
 ·refine rk (k:=rs (k:=rH 15 [10,14] [[false,false],[true,false],[true,true]] [s,(s.new (.tok [F].length)),((s.new (.tok [F].length)).set ln (some (.row 74 [.agg (.ptr d 0 0::(xs.set T (.sl (.tok s.nxt 1) ([F].map (PV.int .i64)))++[st]))])))] Tryz.mixed (k:=?_)))
  refine dP [0,1] (pre:=[_,_,_,_,_,_,_,_,_,_]) (k:=?_)
  refine DetHC.app (kx:=k) (xs:=[]) (ys:=[F].map (PV.int .i64)) (v:=(.sl (.tok s.nxt 1) ([F].map (PV.int .i64)))) [(0,1)] _ Y19 pq au au au Tryz.td27 Y277 Y52 (isEls_map (P:=Tryz.prog) (e:=3) (f:=PV.int .i64) (fun a=>⟨rfl,Y161⟩) _) Y278 Y162 Y282 ?_
  refine dP [0,1] (pre:=[_,_,_]) (k:=?_)
  refine dE [(1,2)] (k:=?_)
  refine DetHC.nil ?_
  refine rl [] (k:=rs (k:=rg [6] (k:=rR (k:=?_))))
  exact Ret.all Y219 ⟨rfl,by unfold lnR;rfl⟩
theorem ref17_HurtGN {ln d T:Nat} {xs:List PV} {st:PV} {L:List Int} {k:SK} {F:Int} (hT:T<4) (hF:0≤F∧F≤4) (hxl:xs.length=4) (hk:k=.nil∨k=.clip) (hx:xs[T]? =some (.sl k [])) {s:St} (hl:s.blk ln=some (lnR 63 d xs st)):ACalls Tryz.prog 23 [.ptr ln 0 0,.int .i64 (T:Int),.int .i64 F] s (fun r s'=>r=.bool true∧s'=((s.new (.tok [F].length)).set ln (some (lnR 63 d (xs.set T (.sl (.tok s.nxt 1) ([F].map (PV.int .i64)))) st)))):=by
 refine go Tryz.func23 (k:=fun hwf H=>?_)
 unfold lnR at hl
 have ht4:((T:Int)<((4:Nat):Int))=True:=eq_true Y14
 have ht0:decide ((0:Int)≤(T:Int))=true:=decide_eq_true Y14
 have ht5:decide ((T:Int)<4)=true:=decide_eq_true Y14
 have hdr:=drop_one (st:=st) (p:=.ptr d 0 0) hx
 have hst:=fun v=>set_one (st:=st) (p:=.ptr d 0 0) (v:=v) (show T<xs.length from Y14)
 have H:=aj ht4 (aj ht0 (aj ht5 (aj hdr (aj hst H))))
 have hlt:=lt_blk hwf hl
 have g1:decide (F<0)=false:=decide_eq_false Y14
 have g2:decide (4<F)=false:=decide_eq_false Y14
 have g6:decide ((T:Int)<0)=false:=decide_eq_false Y14
 have g7:decide (4≤(T:Int))=false:=decide_eq_false Y14
 have g8:(1+T≤(xs++[st]).length)=True:=eq_true Y110
 have H:=aj g1 (aj g2 (aj g6 (aj g7 (aj g8 H))))
 have g3:decide ((1000:Int)≤0)=false:=Y15
 have H:=aj g3 H
 have n1:(ln=s.nxt)=False:=eq_false Y14
 have H:=aj n1 H
 have H:=aj hl H
 refine rs (k:=rg [0,1,2] (k:=rs (k:=rs (k:=rg [0,1,2,30] (k:=rc (ht:=fun hc0=>?_) (hf:=fun hc0=>?_))))))
 ·cases hc0
 ·refine rk (k:=rs (k:=rH 15 [10,14] [[false,false],[true,false],[true,true]] [s,(s.new (.tok [F].length)),((s.new (.tok [F].length)).set ln (some (.row 63 [.agg (.ptr d 0 0::(xs.set T (.sl (.tok s.nxt 1) ([F].map (PV.int .i64)))++[st]))])))] Tryz.mixed (k:=?_)))
  refine dP [0,1] (pre:=[_,_,_,_,_,_,_,_,_,_]) (k:=?_)
  refine DetHC.app (kx:=k) (xs:=[]) (ys:=[F].map (PV.int .i64)) (v:=(.sl (.tok s.nxt 1) ([F].map (PV.int .i64)))) [(0,1)] _ Y19 pq au au au Tryz.td27 Y277 Y52 (isEls_map (P:=Tryz.prog) (e:=3) (f:=PV.int .i64) (fun a=>⟨rfl,Y161⟩) _) Y278 Y162 Y282 ?_
  refine dP [0,1] (pre:=[_,_,_]) (k:=?_)
  refine dE [(1,2)] (k:=?_)
  refine DetHC.nil ?_
  refine rl [] (k:=rs (k:=rg [6] (k:=rR (k:=?_))))
  exact Ret.all (by simp only [Tryz.f23,go_sem,↓reduceIte]<;>rfl) ⟨rfl,by unfold lnR;rfl⟩
theorem line_HurtGT {ln d T t:Nat} {xs:List PV} {st:PV} {L:List Int} {k:SK} {F:Int} (hT:T<4) (hF:0≤F∧F≤4) (hxl:xs.length=4) (hL:L.length<1000) (hx:xs[T]? =some (.sl (.tok t 1) (L.map (PV.int .i64)))) {s:St} (hl:s.blk ln=some (lnR 74 d xs st)) (ht:s.blk t=some (.tok L.length)) (hne:t≠ln):ACalls Tryz.prog 11 [.ptr ln 0 0,.int .i64 (T:Int),.int .i64 F] s (fun r s'=>r=.bool true∧s'=((s.set t (some (.tok (L++[F]).length))).set ln (some (lnR 74 d (xs.set T (.sl (.tok t 1) ((L++[F]).map (PV.int .i64)))) st)))):=by
 refine go Tryz.func11 (k:=fun hwf H=>?_)
 unfold lnR at hl
 have ht4:((T:Int)<((4:Nat):Int))=True:=eq_true Y14
 have ht0:decide ((0:Int)≤(T:Int))=true:=decide_eq_true Y14
 have ht5:decide ((T:Int)<4)=true:=decide_eq_true Y14
 have hdr:=drop_one (st:=st) (p:=.ptr d 0 0) hx
 have hst:=fun v=>set_one (st:=st) (p:=.ptr d 0 0) (v:=v) (show T<xs.length from Y14)
 have H:=aj ht4 (aj ht0 (aj ht5 (aj hdr (aj hst H))))
 have hlt:=lt_blk hwf hl
 have g1:decide (F<0)=false:=decide_eq_false Y14
 have g2:decide (4<F)=false:=decide_eq_false Y14
 have g6:decide ((T:Int)<0)=false:=decide_eq_false Y14
 have g7:decide (4≤(T:Int))=false:=decide_eq_false Y14
 have g8:(1+T≤(xs++[st]).length)=True:=eq_true Y110
 have H:=aj g1 (aj g2 (aj g6 (aj g7 (aj g8 H))))
 have g3:decide ((1000:Int)≤(L.length:Int))=false:=decide_eq_false Y14
 have H:=aj g3 H
 have n1:(ln=s.nxt)=False:=eq_false Y14
 have H:=aj n1 H
 have n2:(ln=t)=False:=eq_false Y14
 have n3:(t=ln)=False:=eq_false hne
 have H:=aj n2 (aj n3 H)
 have H:=aj hl H
 refine rs (k:=rg [0,1,2] (k:=rs (k:=rs (k:=rr (k:=ro (pre:=[_]) (k:=rC (h:=(line_is (t:=(T:Int)))) (k:=rh [0,1,2,27] (k:=rc (ht:=fun hc0=>?_) (hf:=fun hc0=>?_)))))))))
 ·cases hc0
 ·refine rk (k:=rs (k:=rH 15 [10,14] [[false,false],[true,false],[true,true]] [s,(s.set t (some (.tok (L++[F]).length))),((s.set t (some (.tok (L++[F]).length))).set ln (some (.row 74 [.agg (.ptr d 0 0::(xs.set T (.sl (.tok t 1) ((L++[F]).map (PV.int .i64)))++[st]))])))] Tryz.mixed (k:=?_)))
  refine dP [0,1] (pre:=[_,_,_,_,_,_,_,_,_,_]) (k:=?_)
  refine DetHC.app (kx:=.tok t 1) (xs:=L.map (PV.int .i64)) (ys:=[F].map (PV.int .i64)) (v:=(.sl (.tok t 1) ((L++[F]).map (PV.int .i64)))) [(0,1)] _ Y19 pq au au au Tryz.td27 Y277 Y52 (isEls_map (P:=Tryz.prog) (e:=3) (f:=PV.int .i64) (fun a=>⟨rfl,Y161⟩) _) Y278 Y162 Y163 ?_
  refine dP [0,1] (pre:=[_,_,_]) (k:=?_)
  refine dE [(1,2)] (k:=?_)
  refine DetHC.nil ?_
  refine rl [] (k:=rs (k:=rg [6] (k:=rR (k:=?_))))
  exact Ret.all Y219 ⟨rfl,by unfold lnR;rfl⟩
theorem ref17_HurtGT {ln d T t:Nat} {xs:List PV} {st:PV} {L:List Int} {k:SK} {F:Int} (hT:T<4) (hF:0≤F∧F≤4) (hxl:xs.length=4) (hL:L.length<1000) (hx:xs[T]? =some (.sl (.tok t 1) (L.map (PV.int .i64)))) {s:St} (hl:s.blk ln=some (lnR 63 d xs st)) (ht:s.blk t=some (.tok L.length)) (hne:t≠ln):ACalls Tryz.prog 23 [.ptr ln 0 0,.int .i64 (T:Int),.int .i64 F] s (fun r s'=>r=.bool true∧s'=((s.set t (some (.tok (L++[F]).length))).set ln (some (lnR 63 d (xs.set T (.sl (.tok t 1) ((L++[F]).map (PV.int .i64)))) st)))):=by
 refine go Tryz.func23 (k:=fun hwf H=>?_)
 unfold lnR at hl
 have ht4:((T:Int)<((4:Nat):Int))=True:=eq_true Y14
 have ht0:decide ((0:Int)≤(T:Int))=true:=decide_eq_true Y14
 have ht5:decide ((T:Int)<4)=true:=decide_eq_true Y14
 have hdr:=drop_one (st:=st) (p:=.ptr d 0 0) hx
 have hst:=fun v=>set_one (st:=st) (p:=.ptr d 0 0) (v:=v) (show T<xs.length from Y14)
 have H:=aj ht4 (aj ht0 (aj ht5 (aj hdr (aj hst H))))
 have hlt:=lt_blk hwf hl
 have g1:decide (F<0)=false:=decide_eq_false Y14
 have g2:decide (4<F)=false:=decide_eq_false Y14
 have g6:decide ((T:Int)<0)=false:=decide_eq_false Y14
 have g7:decide (4≤(T:Int))=false:=decide_eq_false Y14
 have g8:(1+T≤(xs++[st]).length)=True:=eq_true Y110
 have H:=aj g1 (aj g2 (aj g6 (aj g7 (aj g8 H))))
 have g3:decide ((1000:Int)≤(L.length:Int))=false:=decide_eq_false Y14
 have H:=aj g3 H
 have n1:(ln=s.nxt)=False:=eq_false Y14
 have H:=aj n1 H
 have n2:(ln=t)=False:=eq_false Y14
 have n3:(t=ln)=False:=eq_false hne
 have H:=aj n2 (aj n3 H)
 have H:=aj hl H
 refine rs (k:=rg [0,1,2] (k:=rs (k:=rs (k:=rg [0,1,2,30] (k:=rc (ht:=fun hc0=>?_) (hf:=fun hc0=>?_))))))
 ·cases hc0
 ·refine rk (k:=rs (k:=rH 15 [10,14] [[false,false],[true,false],[true,true]] [s,(s.set t (some (.tok (L++[F]).length))),((s.set t (some (.tok (L++[F]).length))).set ln (some (.row 63 [.agg (.ptr d 0 0::(xs.set T (.sl (.tok t 1) ((L++[F]).map (PV.int .i64)))++[st]))])))] Tryz.mixed (k:=?_)))
  refine dP [0,1] (pre:=[_,_,_,_,_,_,_,_,_,_]) (k:=?_)
  refine DetHC.app (kx:=.tok t 1) (xs:=L.map (PV.int .i64)) (ys:=[F].map (PV.int .i64)) (v:=(.sl (.tok t 1) ((L++[F]).map (PV.int .i64)))) [(0,1)] _ Y19 pq au au au Tryz.td27 Y277 Y52 (isEls_map (P:=Tryz.prog) (e:=3) (f:=PV.int .i64) (fun a=>⟨rfl,Y161⟩) _) Y278 Y162 Y163 ?_
  refine dP [0,1] (pre:=[_,_,_]) (k:=?_)
  refine dE [(1,2)] (k:=?_)
  refine DetHC.nil ?_
  refine rl [] (k:=rs (k:=rg [6] (k:=rR (k:=?_))))
  exact Ret.all (by simp only [Tryz.f23,go_sem,↓reduceIte]<;>rfl) ⟨rfl,by unfold lnR;rfl⟩
theorem Y166 {p:Prop} (h:p:=by rw [Bool.and_eq_false_iff,decide_eq_false_iff_not,decide_eq_false_iff_not];omega):p:=h
theorem line_LeftB {ln:Nat} {tn:Int} (hb:¬ (0≤tn∧tn<4)) {s:St}:ACalls Tryz.prog 12 [.ptr ln 0 0,.int .i64 tn] s (fun r s'=>r=.int .i64 0∧s'=s):=by
 refine go Tryz.func12 (k:=fun hwf H=>?_)
 have f3:(decide ((0:Int)≤tn)&&decide (tn<4))=false:=Y166
 have H:=aj f3 H
 refine rs (k:=rg [0,1] (k:=rs (k:=rs (k:=rr (k:=ro (pre:=[_]) (k:=rC (h:=(line_is (t:=tn))) (k:=rh [0,1,7] (k:=rc (ht:=fun hc0=>?_) (hf:=fun hc0=>?_)))))))))
 ·exact Y279
 ·cases hc0
theorem Y283 {p:Prop} (h:p:=by
 refine rs (k:=rg [4] (k:=rR (k:=rP (by simp only [Tryz.f37,go_sem];rfl) hwf ⟨?_,rfl⟩)))
 simp [PV.weak,go_sem]):p:=h
theorem line_takeB {ln:Nat} {tn:Int} (hb:¬ (0≤tn∧tn<4)) {s:St}:ACalls Tryz.prog 37 [.ptr ln 0 0,.int .i64 tn] s (fun r s'=>r=.int .i64 0∧s'=s):=by
 refine go Tryz.func37 (k:=fun hwf H=>?_)
 have f3:(decide ((0:Int)≤tn)&&decide (tn<4))=false:=Y166
 have H:=aj f3 H
 refine rs (k:=rg [0,1] (k:=rs (k:=rs (k:=rr (k:=ro (pre:=[_]) (k:=rC (h:=(line_is (t:=tn))) (k:=ro (pre:=[_,_]) (k:=rg0 (k:=rg0 (k:=rg0 (k:=rg0 (k:=rg0 (k:=rg0 (k:=rg0 (k:=rg0 (k:=rh [0,1,18] (k:=rc (ht:=fun hc0=>?_) (hf:=fun hc0=>?_))))))))))))))))))
 ·exact Y283
 ·cases hc0
theorem line_HurtB1 {ln:Nat} {tn F:Int} {s:St} (hb:¬ (0≤tn∧tn<4)):ACalls Tryz.prog 11 [.ptr ln 0 0,.int .i64 tn,.int .i64 F] s (fun r s'=>r=.bool false∧s'=s):=by
 refine go Tryz.func11 (k:=fun hwf H=>?_)
 have f3:(decide ((0:Int)≤tn)&&decide (tn<4))=false:=Y166
 have H:=aj f3 H
 refine rs (k:=rg [0,1,2] (k:=rs (k:=rs (k:=rr (k:=ro (pre:=[_]) (k:=rC (h:=(line_is (t:=tn))) (k:=ro (pre:=[_,_]) (k:=rg0 (k:=rg0 (k:=ro (pre:=[_,_]) (k:=rg0 (k:=rg0 (k:=ro (pre:=[_,_]) (k:=rg0 (k:=rg0 (k:=rg0 (k:=rg0 (k:=rg0 (k:=rg0 (k:=rg0 (k:=rg0 (k:=rh [0,1,2,27] (k:=rc (ht:=fun hc0=>?_) (hf:=fun hc0=>?_))))))))))))))))))))))))
 ·exact Y107
 ·cases hc0
theorem line_HurtB2 {ln:Nat} {tn F:Int} {s:St} (hb:0≤tn∧tn<4) (hF:F<0):ACalls Tryz.prog 11 [.ptr ln 0 0,.int .i64 tn,.int .i64 F] s (fun r s'=>r=.bool false∧s'=s):=by
 refine go Tryz.func11 (k:=fun hwf H=>?_)
 have f3:decide ((0:Int)≤tn)=true:=decide_eq_true Y14
 have f4:decide (tn<4)=true:=decide_eq_true Y14
 have f5:decide (tn<0)=false:=decide_eq_false Y14
 have f6:decide (4≤tn)=false:=decide_eq_false Y14
 have H:=aj f3 (aj f4 (aj f5 (aj f6 H)))
 have f7:decide (F<0)=true:=decide_eq_true Y14
 have H:=aj f7 H
 refine rs (k:=rg [0,1,2] (k:=rs (k:=rs (k:=rr (k:=ro (pre:=[_]) (k:=rC (h:=(line_is (t:=tn))) (k:=ro (pre:=[_,_]) (k:=rg1 (k:=rg1 (k:=ro (pre:=[_,_]) (k:=rg0 (k:=rg0 (k:=ro (pre:=[_,_]) (k:=rg0 (k:=rg0 (k:=rg0 (k:=rg0 (k:=rg0 (k:=rg0 (k:=rg0 (k:=rg0 (k:=rh [0,1,2,27] (k:=rc (ht:=fun hc0=>?_) (hf:=fun hc0=>?_))))))))))))))))))))))))
 ·exact Y107
 ·cases hc0
theorem line_HurtB3 {ln:Nat} {tn F:Int} {s:St} (hb:0≤tn∧tn<4) (hF:4<F):ACalls Tryz.prog 11 [.ptr ln 0 0,.int .i64 tn,.int .i64 F] s (fun r s'=>r=.bool false∧s'=s):=by
 refine go Tryz.func11 (k:=fun hwf H=>?_)
 have f3:decide ((0:Int)≤tn)=true:=decide_eq_true Y14
 have f4:decide (tn<4)=true:=decide_eq_true Y14
 have f5:decide (tn<0)=false:=decide_eq_false Y14
 have f6:decide (4≤tn)=false:=decide_eq_false Y14
 have H:=aj f3 (aj f4 (aj f5 (aj f6 H)))
 have f7:decide (F<0)=false:=decide_eq_false Y14
 have f8:decide (4<F)=true:=decide_eq_true Y14
 have H:=aj f7 (aj f8 H)
 refine rs (k:=rg [0,1,2] (k:=rs (k:=rs (k:=rr (k:=ro (pre:=[_]) (k:=rC (h:=(line_is (t:=tn))) (k:=ro (pre:=[_,_]) (k:=rg1 (k:=rg1 (k:=ro (pre:=[_,_]) (k:=rg1 (k:=rg1 (k:=ro (pre:=[_,_]) (k:=rg0 (k:=rg0 (k:=rg0 (k:=rg0 (k:=rg0 (k:=rg0 (k:=rg0 (k:=rg0 (k:=rh [0,1,2,27] (k:=rc (ht:=fun hc0=>?_) (hf:=fun hc0=>?_))))))))))))))))))))))))
 ·exact Y107
 ·cases hc0
theorem Y111 {p:Prop} (h:p:=by
 refine rs (k:=rg [6] (k:=rR (k:=rP (by simp only [Tryz.f23,go_sem];rfl) hwf ⟨?_,rfl⟩)))
 simp [PV.weak,go_sem]):p:=h
theorem ref17_HurtB1a {ln:Nat} {tn F:Int} {s:St} (hb:tn<0):ACalls Tryz.prog 23 [.ptr ln 0 0,.int .i64 tn,.int .i64 F] s (fun r s'=>r=.bool false∧s'=s):=by
 refine go Tryz.func23 (k:=fun hwf H=>?_)
 have f3:decide (tn<0)=true:=decide_eq_true hb
 have H:=aj f3 H
 refine rs (k:=rg [0,1,2] (k:=rs (k:=rs (k:=rr (k:=ro (pre:=[_,_,_]) (k:=rg0 (k:=rg0 (k:=ro (pre:=[_,_]) (k:=rg0 (k:=rg0 (k:=ro (pre:=[_,_]) (k:=rg0 (k:=rg0 (k:=ro (pre:=[_,_]) (k:=rg0 (k:=rg0 (k:=rg0 (k:=rg0 (k:=rg0 (k:=rg0 (k:=rg0 (k:=rg0 (k:=rh [0,1,2,30] (k:=rc (ht:=fun hc0=>?_) (hf:=fun hc0=>?_)))))))))))))))))))))))))
 ·exact Y111
 ·cases hc0
theorem ref17_HurtB1b {ln:Nat} {tn F:Int} {s:St} (hb:4≤tn):ACalls Tryz.prog 23 [.ptr ln 0 0,.int .i64 tn,.int .i64 F] s (fun r s'=>r=.bool false∧s'=s):=by
 refine go Tryz.func23 (k:=fun hwf H=>?_)
 have f3:decide (tn<0)=false:=decide_eq_false Y14
 have f4:decide (4≤tn)=true:=decide_eq_true hb
 have H:=aj f3 (aj f4 H)
 refine rs (k:=rg [0,1,2] (k:=rs (k:=rs (k:=rr (k:=ro (pre:=[_,_,_]) (k:=rg1 (k:=rg1 (k:=ro (pre:=[_,_]) (k:=rg0 (k:=rg0 (k:=ro (pre:=[_,_]) (k:=rg0 (k:=rg0 (k:=ro (pre:=[_,_]) (k:=rg0 (k:=rg0 (k:=rg0 (k:=rg0 (k:=rg0 (k:=rg0 (k:=rg0 (k:=rg0 (k:=rh [0,1,2,30] (k:=rc (ht:=fun hc0=>?_) (hf:=fun hc0=>?_)))))))))))))))))))))))))
 ·exact Y111
 ·cases hc0
theorem ref17_HurtB2 {ln:Nat} {tn F:Int} {s:St} (hb:0≤tn∧tn<4) (hF:F<0):ACalls Tryz.prog 23 [.ptr ln 0 0,.int .i64 tn,.int .i64 F] s (fun r s'=>r=.bool false∧s'=s):=by
 refine go Tryz.func23 (k:=fun hwf H=>?_)
 have f3:decide ((0:Int)≤tn)=true:=decide_eq_true Y14
 have f4:decide (tn<4)=true:=decide_eq_true Y14
 have f5:decide (tn<0)=false:=decide_eq_false Y14
 have f6:decide (4≤tn)=false:=decide_eq_false Y14
 have H:=aj f3 (aj f4 (aj f5 (aj f6 H)))
 have f7:decide (F<0)=true:=decide_eq_true Y14
 have H:=aj f7 H
 refine rs (k:=rg [0,1,2] (k:=rs (k:=rs (k:=rr (k:=ro (pre:=[_,_,_]) (k:=rg1 (k:=rg1 (k:=ro (pre:=[_,_]) (k:=rg1 (k:=rg1 (k:=ro (pre:=[_,_]) (k:=rg0 (k:=rg0 (k:=ro (pre:=[_,_]) (k:=rg0 (k:=rg0 (k:=rg0 (k:=rg0 (k:=rg0 (k:=rg0 (k:=rg0 (k:=rg0 (k:=rh [0,1,2,30] (k:=rc (ht:=fun hc0=>?_) (hf:=fun hc0=>?_)))))))))))))))))))))))))
 ·exact Y111
 ·cases hc0
theorem ref17_HurtB3 {ln:Nat} {tn F:Int} {s:St} (hb:0≤tn∧tn<4) (hF:4<F):ACalls Tryz.prog 23 [.ptr ln 0 0,.int .i64 tn,.int .i64 F] s (fun r s'=>r=.bool false∧s'=s):=by
 refine go Tryz.func23 (k:=fun hwf H=>?_)
 have f3:decide ((0:Int)≤tn)=true:=decide_eq_true Y14
 have f4:decide (tn<4)=true:=decide_eq_true Y14
 have f5:decide (tn<0)=false:=decide_eq_false Y14
 have f6:decide (4≤tn)=false:=decide_eq_false Y14
 have H:=aj f3 (aj f4 (aj f5 (aj f6 H)))
 have f7:decide (F<0)=false:=decide_eq_false Y14
 have f8:decide (4<F)=true:=decide_eq_true Y14
 have H:=aj f7 (aj f8 H)
 refine rs (k:=rg [0,1,2] (k:=rs (k:=rs (k:=rr (k:=ro (pre:=[_,_,_]) (k:=rg1 (k:=rg1 (k:=ro (pre:=[_,_]) (k:=rg1 (k:=rg1 (k:=ro (pre:=[_,_]) (k:=rg1 (k:=rg1 (k:=ro (pre:=[_,_]) (k:=rg0 (k:=rg0 (k:=rg0 (k:=rg0 (k:=rg0 (k:=rg0 (k:=rg0 (k:=rg0 (k:=rh [0,1,2,30] (k:=rc (ht:=fun hc0=>?_) (hf:=fun hc0=>?_)))))))))))))))))))))))))
 ·exact Y111
 ·cases hc0
theorem line_HurtB4 {ln d T:Nat} {xs:List PV} {st:PV} {L:List Int} {k:SK} {F:Int} (hT:T<4) (hF:0≤F∧F≤4) (hxl:xs.length=4) (hL:1000≤L.length) (hx:xs[T]? =some (.sl k (L.map (PV.int .i64)))) {s:St} (hl:s.blk ln=some (lnR 74 d xs st)):ACalls Tryz.prog 11 [.ptr ln 0 0,.int .i64 (T:Int),.int .i64 F] s (fun r s'=>r=.bool false∧s'=s):=by
 refine go Tryz.func11 (k:=fun hwf H=>?_)
 unfold lnR at hl
 have ht4:((T:Int)<((4:Nat):Int))=True:=eq_true Y14
 have ht0:decide ((0:Int)≤(T:Int))=true:=decide_eq_true Y14
 have ht5:decide ((T:Int)<4)=true:=decide_eq_true Y14
 have hdr:=drop_one (st:=st) (p:=.ptr d 0 0) hx
 have hst:=fun v=>set_one (st:=st) (p:=.ptr d 0 0) (v:=v) (show T<xs.length from Y14)
 have H:=aj ht4 (aj ht0 (aj ht5 (aj hdr (aj hst H))))
 have g1:decide (F<0)=false:=decide_eq_false Y14
 have g2:decide (4<F)=false:=decide_eq_false Y14
 have g6:decide ((T:Int)<0)=false:=decide_eq_false Y14
 have g7:decide (4≤(T:Int))=false:=decide_eq_false Y14
 have g3:decide ((1000:Int)≤(L.length:Int))=true:=decide_eq_true Y14
 have H:=aj g1 (aj g2 (aj g6 (aj g7 (aj g3 H))))
 have H:=aj hl H
 refine rs (k:=rg [0,1,2] (k:=rs (k:=rs (k:=rr (k:=ro (pre:=[_]) (k:=rC (h:=(line_is (t:=(T:Int)))) (k:=ro (pre:=[_,_]) (k:=rg1 (k:=rg1 (k:=ro (pre:=[_,_]) (k:=rg1 (k:=rg1 (k:=ro (pre:=[_,_]) (k:=rg1 (k:=rg1 (k:=rg1 (k:=rg1 (k:=rg1 (k:=rg1 (k:=rg1 (k:=rg1 (k:=rh [0,1,2,27] (k:=?_)))))))))))))))))))))))
 refine rc (ht:=fun hc0=>?_) (hf:=fun hc0=>?_)
 ·exact Y107
 ·cases hc0
theorem ref17_HurtB4 {ln d T:Nat} {xs:List PV} {st:PV} {L:List Int} {k:SK} {F:Int} (hT:T<4) (hF:0≤F∧F≤4) (hxl:xs.length=4) (hL:1000≤L.length) (hx:xs[T]? =some (.sl k (L.map (PV.int .i64)))) {s:St} (hl:s.blk ln=some (lnR 63 d xs st)):ACalls Tryz.prog 23 [.ptr ln 0 0,.int .i64 (T:Int),.int .i64 F] s (fun r s'=>r=.bool false∧s'=s):=by
 refine go Tryz.func23 (k:=fun hwf H=>?_)
 unfold lnR at hl
 have ht4:((T:Int)<((4:Nat):Int))=True:=eq_true Y14
 have ht0:decide ((0:Int)≤(T:Int))=true:=decide_eq_true Y14
 have ht5:decide ((T:Int)<4)=true:=decide_eq_true Y14
 have hdr:=drop_one (st:=st) (p:=.ptr d 0 0) hx
 have hst:=fun v=>set_one (st:=st) (p:=.ptr d 0 0) (v:=v) (show T<xs.length from Y14)
 have H:=aj ht4 (aj ht0 (aj ht5 (aj hdr (aj hst H))))
 have g1:decide (F<0)=false:=decide_eq_false Y14
 have g2:decide (4<F)=false:=decide_eq_false Y14
 have g6:decide ((T:Int)<0)=false:=decide_eq_false Y14
 have g7:decide (4≤(T:Int))=false:=decide_eq_false Y14
 have g3:decide ((1000:Int)≤(L.length:Int))=true:=decide_eq_true Y14
 have H:=aj g1 (aj g2 (aj g6 (aj g7 (aj g3 H))))
 have H:=aj hl H
 refine rs (k:=rg [0,1,2] (k:=rs (k:=rs (k:=rr (k:=ro (pre:=[_,_,_]) (k:=rg1 (k:=rg1 (k:=ro (pre:=[_,_]) (k:=rg1 (k:=rg1 (k:=ro (pre:=[_,_]) (k:=rg1 (k:=rg1 (k:=ro (pre:=[_,_]) (k:=rg1 (k:=rg1 (k:=rg1 (k:=rg1 (k:=rg1 (k:=rg1 (k:=rg1 (k:=rg1 (k:=rh [0,1,2,30] (k:=rc (ht:=fun hc0=>?_) (hf:=fun hc0=>?_)))))))))))))))))))))))))
 ·exact Y111
 ·cases hc0
theorem line_takeG0 {ln d T:Nat} {xs:List PV} {st:PV} {L:List Int} {k:SK} (hT:T<4) (hxl:xs.length=4) (hx:xs[T]? =some (.sl k (L.map (PV.int .i64)))) {s:St} (hl:s.blk ln=some (lnR 74 d xs st)) (hL:L=[]):ACalls Tryz.prog 37 [.ptr ln 0 0,.int .i64 (T:Int)] s (fun r s'=>r=.int .i64 0∧s'=s):=by
 refine go Tryz.func37 (k:=fun hwf H=>?_)
 subst hL
 unfold lnR at hl
 have ht4:((T:Int)<((4:Nat):Int))=True:=eq_true Y14
 have ht0:decide ((0:Int)≤(T:Int))=true:=decide_eq_true Y14
 have ht5:decide ((T:Int)<4)=true:=decide_eq_true Y14
 have hdr:=drop_one (st:=st) (p:=.ptr d 0 0) hx
 have hst:=fun v=>set_one (st:=st) (p:=.ptr d 0 0) (v:=v) (show T<xs.length from Y14)
 have H:=aj ht4 (aj ht0 (aj ht5 (aj hdr (aj hst H))))
 have H:=aj hl H
 refine rs (k:=rg [0,1] (k:=rs (k:=rs (k:=rr (k:=ro (pre:=[_]) (k:=rC (h:=(line_is (t:=(T:Int)))) (k:=ro (pre:=[_,_]) (k:=rg1 (k:=rg1 (k:=rg1 (k:=rg1 (k:=rg1 (k:=rg1 (k:=rg1 (k:=rg1 (k:=rh [0,1,18] (k:=rc (ht:=fun hc0=>?_) (hf:=fun hc0=>?_))))))))))))))))))
 ·exact Y283
 ·cases hc0
theorem line_takeGC {ln d T t:Nat} {xs:List PV} {st:PV} {x:Int} {L:List Int} (hT:T<4) (hxl:xs.length=4) (hx:xs[T]? =some (.sl (.tok t 1) ((x::L).map (PV.int .i64)))) (hL:L.length<1000) {s:St} (hl:s.blk ln=some (lnR 74 d xs st)) (ht:s.blk t=some (.tok (x::L).length)) (hne:t≠ln):ACalls Tryz.prog 37 [.ptr ln 0 0,.int .i64 (T:Int)] s (fun r s'=>r=.int .i64 x∧s'=(((s.set t none).new (.tok L.length)).set ln (some (lnR 74 d (xs.set T (.sl (.tok s.nxt 1) (L.map (PV.int .i64)))) st)))):=by
 refine go Tryz.func37 (k:=fun hwf H=>?_)
 unfold lnR at hl
 have ht4:((T:Int)<((4:Nat):Int))=True:=eq_true Y14
 have ht0:decide ((0:Int)≤(T:Int))=true:=decide_eq_true Y14
 have ht5:decide ((T:Int)<4)=true:=decide_eq_true Y14
 have hdr:=drop_one (st:=st) (p:=.ptr d 0 0) hx
 have hst:=fun v=>set_one (st:=st) (p:=.ptr d 0 0) (v:=v) (show T<xs.length from Y14)
 have H:=aj ht4 (aj ht0 (aj ht5 (aj hdr (aj hst H))))
 have hlt:=lt_blk hwf hl
 have htl:=lt_blk hwf ht
 have g0:decide (((L.length+1:Nat):Int)=0)=false:=decide_eq_false Y14
 have n1:(ln=s.nxt)=False:=eq_false Y14
 have n2:(ln=t)=False:=eq_false (fun e=>hne e.symm)
 have g4:(0<L.length+1)=True:=eq_true Y14
 have h1n:Int.toNat 1=1:=rfl
 have h10:((1:Int)=0)=False:=eq_false Y15
 have g8:(1+T≤(xs++[st]).length)=True:=eq_true Y110
 have H:=aj g0 (aj n1 (aj n2 (aj g4 (aj h1n (aj h10 (aj g8 H))))))
 have H:=aj hl H
 refine rs (k:=rg [0,1] (k:=rs (k:=rs (k:=rr (k:=ro (pre:=[_]) (k:=rC (h:=(line_is (t:=(T:Int)))) (k:=rh [0,1,18] (k:=rc (ht:=fun hc0=>?_) (hf:=fun hc0=>?_)))))))))
 ·cases hc0
 ·refine rk (k:=rs (k:=rg [0,1,5] (k:=rs (k:=rH 13 [8,12] [[false,false],[true,false],[true,true]] [s,((s.set t none).new (.tok L.length)),(((s.set t none).new (.tok L.length)).set ln (some (.row 74 [.agg (.ptr d 0 0::(xs.set T (.sl (.tok s.nxt 1) (L.map (PV.int .i64)))++[st]))])))] Tryz.mixed (k:=?_)))))
  refine dP [0,1] (pre:=[_,_,_,_,_,_,_,_]) (k:=?_)
  refine DetHC.cut (tk:=t) (lo:=1) (el:=3) (xs:=(x::L).map (PV.int .i64)) (v:=(.sl (.tok s.nxt 1) (L.map (PV.int .i64)))) [(0,1)] _ Y19 pq au au au Tryz.td27 Tryz.cz3 Y15 Y15 Y67 (by intro q hq;rw [List.mem_singleton.1 hq];exact ⟨by rw [List.length_map];exact ht,rfl,by rw [List.length_map];rfl⟩) ?_
  refine dP [0,1] (pre:=[_,_,_]) (k:=?_)
  refine dE [(1,2)] (k:=?_)
  refine DetHC.nil ?_
  refine rl [5] (k:=rs (k:=rg [4] (k:=rR (k:=?_))))
  exact Ret.all Y332 ⟨rfl,by unfold lnR;rfl⟩
end Go.Proofs
namespace Go.Proofs
open Go.PM
set_option maxHeartbeats 2000000
def sealS (l:List Int) (s:St):St:=((s.new (.row 5 (l.map (PV.int .u8)))).set s.nxt none).new (.row 5 ((sealB l).map (PV.int .u8)))
theorem ref1_SealO {l:List Int} (hb:OkB l) (hl:l.length+2≤140737488355328) (hne:l≠[]) {s:St}:ACalls Tryz.prog 50 [.sl .unk (l.map (PV.int .u8))] s (fun r s'=>r=.own (s.nxt+1) 0 (l.length+2)∧s'=sealS l s):=by
 refine go Tryz.func50 (k:=fun hwf H=>?_)
 refine rs (k:=rg [0] (k:=rs (k:=rr (k:=ro (pre:=[_]) (k:=?_)))))
 refine RunO.call au au Y19 ((ref1_Sum hb Y14).mono ?_)
 rintro r s1 ⟨rfl,hs⟩
 subst s1
 refine rh [0,3] (k:=rs (k:=rr (k:=rO (k:=ro (pre:=[_]) (k:=?_)))))
 refine RunO.appendFirst au au au Tryz.td23 Y72 (by intro p hp;cases hp) (isEls_map (P:=Tryz.prog) (e:=5) (f:=PV.int .u8) (fun a=>⟨rfl,Y23⟩) l) Y24 Y73 (by unfold aAppendFirst;dsimp only;rw [if_pos (by simpa using hne)]) ?_
 refine ro (pre:=[_,_,_,_,_]) (k:=rO (k:=?_))
 refine RunO.appendOwn (el:=5) au au au Tryz.td23 Y72 (isEls_map (P:=Tryz.prog) (e:=5) (f:=PV.int .u8) (fun a=>⟨rfl,Y23⟩) [_,_]) Y24 Y73 (v:=.own (s.nxt+1) 0 (l.length+2)) (s':=sealS l s) ?_ ?_
 ·unfold aAppendOwn sealS
  simp only [blk_new_eq,List.length_nil,Nat.zero_add,List.nil_append]
  rw [if_pos ⟨Y67,trivial,Y67⟩]
  (simp [sealB,crc_hi,crc_hi',List.take_of_length_le]<;>rfl)
 refine rh [2] (k:=rR (k:=?_))
 exact Ret.all (by simp only [Tryz.f50,go_sem,↓reduceIte]<;>rfl) ⟨rfl,rfl⟩
theorem ref5_FrameO {b:List Int} (hb:OkB b) (h1:b≠[]) (h2:b.length≤253) {s:St}:ACalls Tryz.prog 34 [.int .i64 17,.sl .unk (b.map (PV.int .u8))] s (fun r s'=>r=.tuple [.own (s.nxt+2) 0 (b.length+3),.int .i64 0]∧s'=sealS (17::b) (s.new (.tok (17::b).length))):=by
 refine go Tryz.func34 (k:=fun hwf H=>?_)
 have g0:decide ((17:Int)<1)=false:=Y15
 have g1:decide ((247:Int)<17)=false:=Y15
 have hp:0<b.length:=List.length_pos_iff.2 h1
 have g2:decide ((b.length:Int)=0)=false:=decide_eq_false Y14
 have g3:decide ((253:Int)<(b.length:Int))=false:=decide_eq_false Y14
 have gw:IntKind.u8.wrap 17=17:=Y15
 have hao:OkB (17::b):=OkB.cons Y16 hb
 have H:=aj g0 (aj g1 (aj g2 (aj g3 (aj gw H))))
 refine rs (k:=rg [0,1] (k:=rs (k:=rs (k:=rg [0,1,11] (k:=rc (ht:=fun hc0=>?_) (hf:=fun hc0=>?_))))))
 ·cases hc0
 ·refine rk (k:=rs (k:=rs (k:=rg [0,1,14] (k:=rc (ht:=fun hc1=>?_) (hf:=fun hc1=>?_)))))
  ·cases hc1
  ·refine rk (k:=rs (k:=rs (k:=rg [0,1,17] (k:=rc (ht:=fun hc2=>?_) (hf:=fun hc2=>?_)))))
   ·cases hc2
   ·refine rk (k:=rs (k:=rr (k:=ro (pre:=[_,_]) (k:=rO (k:=ro (pre:=[_]) (k:=?_))))))
    refine RunO.append (v:=.sl (.tok s.nxt 1) ((17::b).map (PV.int .u8))) (s':=s.new (.tok (17::b).length)) au au au Tryz.td23 Y72 (isEls_map (P:=Tryz.prog) (e:=5) (f:=PV.int .u8) (fun a=>⟨rfl,Y23⟩) [_]) (isEls_map (P:=Tryz.prog) (e:=5) (f:=PV.int .u8) (fun a=>⟨rfl,Y23⟩) b) Y24 Y73 Y391 ?_
    refine RunO.callw au au au Y19 ((ref1_SealO (l:=17::b) hao Y246 Y67).mono ?_)
    rintro r s1 ⟨rfl,rfl⟩
    refine rh [4,5] (k:=rR (k:=?_))
    exact Ret.all (by simp only [Tryz.f34,go_sem,↓reduceIte]<;>rfl) ⟨by simp [nxt_new],rfl⟩
attribute [local go_sem] set_set putRef_hi putRef_nxt weaks_bools Rep.pv
theorem Y54 {p:Prop} (h:p:=by
 refine rs (k:=?_)
 obtain ⟨T9,t,L,kw,ew,S2,hT9,_,hx9,hLl,hap2,h2l,hS3⟩:=hcase.resolve_left (by
  rintro ⟨_,_,h | ⟨k9,T9,h1,h2,h3⟩⟩
  ·exact h ⟨Y14,Y14⟩
  ·obtain rfl:T=T9:=Y14
   rw [hx] at h3
   have e9:=congrArg List.length (PV.sl.inj (Option.some.inj h3)).2
   have c9:=of_decide_eq_true hc0
   simp only [List.length_map,List.length_nil,List.length_cons] at e9
   omega)
 obtain rfl:T=T9:=by omega
 have hdr9:=drop_one (st:=.sl kv ev) (p:=.ptr (b+5) 0 0) hx9
 have hst9:=fun v=>set_one (st:=.sl kv ev) (p:=.ptr (b+5) 0 0) (v:=v) (show T<xs.length from Y14)
 have g8:(1+T≤(xs++[PV.sl kv ev]).length)=True:=eq_true Y110
 have g0:(0<L.length+1)=True:=eq_true Y14
 have g1:((1:Int)≤((L.length+1:Nat):Int))=True:=eq_true Y14
 have g2:(((L.length+1:Nat):Int)-1).toNat=L.length:=by omega
 have g3:(L.map (PV.int .i64)).take L.length=L.map (PV.int .i64):=by rw [List.take_of_length_le Y333]
 have h1n:Int.toNat 1=1:=rfl
 have h10:((1:Int)=0)=False:=eq_false Y15
 have hok:okEls 1 (PV.int .i64 f::L.map (PV.int .i64))=True:=okEls_intK .i64 (f::L)
 have H:=aj hdr9 (aj hst9 (aj g8 (aj g0 (aj g1 (aj g2 (aj g3 (aj h1n (aj h10 (aj hok (aj h2l H))))))))))
 refine rg [0,1,3,9] (k:=rH 15 [10,14] [[false,false],[true,false],[true,true]] [(S1.set ln (some (.row 63 [.agg (.ptr (b+5) 0 0::(xs++[(.sl kv ev)]))]))),S2,(S2.set ln (some (.row 63 [.agg (.ptr (b+5) 0 0::(xs.set T (.sl kw ew)++[(.sl kv ev)]))])))] Tryz.mixed (k:=?_))
 refine dP [0,1] (pre:=[_,_,_,_,_,_,_,_,_,_]) (k:=?_)
 refine DetHC.app (kx:=.clip) (ky:=.any) (xs:=[]) (ys:=L.map (PV.int .i64)) (v:=.sl kw ew) [(0,1)] _ Y19 pq au au au Tryz.td27 Y277 Y52 Y52 Y278 Y162 (by intro q hq;rw [List.mem_singleton.1 hq];exact hap2) ?_
 refine dP [0,1] (pre:=[_,_,_]) (k:=?_)
 refine dE [(1,2)] (k:=?_)
 refine DetHC.nil ?_
 refine rl [0,3,9] (k:=?_)
 subst hS3
 exact hJs3 _ _ ⟨rfl,rfl⟩):p:=h
theorem Y112 {p:Prop} (h:p:=by
 rintro ⟨T9,t,L,kw,ew,S2,h1,h2,h3,_⟩
 first
  |(have:=of_decide_eq_false hg2;omega)
  |(have:=of_decide_eq_false hg6;omega)
  |(obtain rfl:T=T9:=by omega
    rw [hx] at h3
    have e9:=congrArg List.length (PV.sl.inj (Option.some.inj h3)).2
    have c9:=of_decide_eq_false hc0
    simp only [List.length_map,List.length_nil,List.length_cons] at e9
    omega)):p:=h
theorem Y167 {p:Prop} (h:p:=by rw [List.drop_succ_cons,List.drop_append_of_le_length Y14,List.drop_of_length_le Y14];rfl):p:=h
theorem Y168 {p:Prop} (h:p:=by simp only [Tryz.f25,go_sem,↓reduceIte]<;>rfl):p:=h
theorem Y396 {p:Prop} (h:p:=by rw [List.set_cons_succ,List.set_append_right _ _ Y14];simp [hxl]):p:=h
set_option maxRecDepth 100000 in
theorem ref17_SendW {ln b:Nat} {xs:List PV} {k0:SK} {l:List Snt} {kv:SK} {ev:List PV} {S1 S3:St} {D:Dev} {tn tick f:Int} (hf:0≤f∧f≤4) {fr:List Int} (hfo:OkB fr) (hfl:fr.length≤140737488350000) (hll:l.length≤100000) (hxl:xs.length=4) {s:St} (hl:s.blk ln=some (lnR 63 (b+5) xs (.sl k0 (l.map Snt.pv)))) (hD:D.ok)
  (hap:aAppend Tryz.prog 80 k0 (l.map Snt.pv) [Snt.pv (⟨tick,tn,fr⟩:Snt)] s=some (.sl kv ev,S1)) (h1l:S1.blk ln=some (lnR 63 (b+5) xs (.sl k0 (l.map Snt.pv)))) (hcase:(f=0∧S3=(S1.set ln (some (lnR 63 (b+5) xs (.sl kv ev))))∧(¬ (0≤tn∧tn<4)∨∃ (k:SK) (T:Nat),tn=(T:Int)∧T<4∧xs[T]? =some (.sl k [])) ∨
    ∃ (T t:Nat) (L:List Int) (kw:SK) (ew:List PV) (S2:St),tn=(T:Int)∧T<4∧xs[T]? =some (.sl (.tok t 1) ((f::L).map (PV.int .i64)))∧L.length≤1000∧aAppend Tryz.prog 3 .clip [] (L.map (PV.int .i64)) (S1.set ln (some (lnR 63 (b+5) xs (.sl kv ev))))=some (.sl kw ew,S2)∧S2.blk ln=some (lnR 63 (b+5) xs (.sl kv ev))∧S3=S2.set ln (some (lnR 63 (b+5) (xs.set T (.sl kw ew)) (.sl kv ev)))))
  (hl3:∃ xs3,xs3.length=4∧S3.blk ln=some (lnR 63 (b+5) xs3 (.sl kv ev))) (hA:RefAt b D S3) (hv:f=3→(rtuF fr).2=0→(rtuF fr).1.1=17→frameF (pduF D (rtuF fr).1.2).1=[]) :
  ACalls Tryz.prog 25 [.ptr ln 0 0,.int .i64 tn,.int .i64 tick,.sl .unk (fr.map (PV.int .u8))] s (fun r s'=>r=.sl .unk ((sendF f D fr).1.map (PV.int .u8))∧s'=putRef b (sendF f D fr).2 S3):=by
 refine go Tryz.func25 (k:=fun hwf H=>?_)
 unfold lnR at hl h1l hcase
 have hlt:=lt_blk hwf hl
 have hfl2:fr.length*1≤140737488355328:=Y14
 have n0:(1+4≤(xs++[PV.sl k0 (l.map Snt.pv)]).length)=True:=eq_true Y110
 have n5:∀ v:PV,List.drop 5 (PV.ptr (b+5) 0 0::(xs++[v]))=[v]:=fun v=>Y167
 have n6:∀ v w:PV,(PV.ptr (b+5) 0 0::(xs++[v])).set 5 w=PV.ptr (b+5) 0 0::(xs++[w]):=fun v w=>Y396
 have n7:(5≤(xs++[PV.sl k0 (l.map Snt.pv)]).length)=True:=eq_true Y110
 have hrt:rtuF fr=rtuF fr:=rfl
 have hdn:decide (0≤tn)=decide (0≤tn):=rfl
 have H:=aj n5 (aj n6 (aj n7 H))
 have H:=aj hl (aj h1l H)
 refine rs (k:=rg [0,1,2,3] (k:=rs (k:=rH 16 [12,15] [[false,false],[true,false],[true,true]] [s,S1,(S1.set ln (some (.row 63 [.agg (.ptr (b+5) 0 0::(xs++[(.sl kv ev)]))])))] Tryz.mixed (k:=?_))))
 refine dP [0,1] (pre:=[_,_,_,_,_,_,_,_,_]) (k:=?_)
 refine DetHC.appW (kx:=.clip) (ky:=.unk) (xs:=[]) (ys:=fr.map (PV.int .u8)) (zs:=fr.map (PV.int .u8)) [0] [s] Y19 rfl au au au Tryz.td23 Y72 (by intro p hp;cases hp) (isEls_map (P:=Tryz.prog) (e:=5) (f:=PV.int .u8) (fun a=>⟨rfl,Y23⟩) _) Y24 (by rw [Tryz.by5];simp<;>omega) (.inr rfl) (by rw [List.nil_append,weaks_u8]) (fun n=>blws_u8 _ _) ?_
 refine dP [0] (pre:=[_,_]) (k:=?_)
 refine DetHC.app (kx:=k0) (xs:=l.map Snt.pv) (ys:=[Snt.pv (⟨tick,tn,fr⟩:Snt)]) (v:=.sl kv ev) [(0,1)] _ Y19 pq au au Y108 Tryz.td61 Y280 Y53 (isEls_map (P:=Tryz.prog) (e:=80) (f:=Snt.pv) (fun a=>⟨rfl,Y393⟩) [(⟨tick,tn,fr⟩:Snt)]) Y281 Y220 (by intro q hq;rw [List.mem_singleton.1 hq];exact hap) ?_
 refine dP [1] (pre:=[_,_]) (k:=?_)
 refine dE [(1,2)] (k:=?_)
 refine DetHC.nil ?_
 refine rl [0,1,3] (k:=rs (k:=rg [0,1,3,9] (k:=rs (k:=?_))))
 refine Run.join (fun e s'=>e=[(0,.ptr ln 0 0),(3,.sl .unk (fr.map (PV.int .u8))),(9,.int .i64 f)]∧s'=S3) ?_ ?_
 ·rintro e s9 ⟨rfl,hs⟩
  subst s9
  obtain ⟨xs3,hxl3,hr3⟩:=hl3
  unfold lnR at hr3
  have H:=aj hr3 H
  refine rs (k:=rr (k:=ro (pre:=[_]) (k:=rC (h:=ref5_Read hfo hfl) (k:=rh [0,9,10,11,12] (k:=rs (k:=rs (k:=rg [0,9,11,88] (k:=rc (ht:=fun hc1=>?_) (hf:=fun hc1=>?_)))))))))
  ·refine rs (k:=rg [8] (k:=rR (k:=?_)))
   have hso:sendF f D fr=([],D):=by
    unfold sendF
    split
    ·rename_i h
     have hf1:f=1:=by simpa [h.1,h.2] using hc1
     subst hf1
     rfl
    ·rfl
   refine Ret.allW (r':=.sl .unk []) Y168 Y380 ⟨Y416,?_⟩
   rw [hso]
   exact (putRef_self hA).symm
  ·refine rk (k:=rs (k:=rs (k:=?_)))
   have hrt:((rtuF fr).2=0∧(rtuF fr).1.1=17)∧¬ f=1:=by simpa [and_assoc] using hc1
   have hpd:=rtu_pdu hrt.1.1
   have hso:sendF f D fr=lineF f D (rtuF fr).1.2:=if_pos hrt.1
   obtain ⟨p,hpe⟩:∃ y,(rtuF fr).1.2=y:=⟨_,rfl⟩
   have hpo:OkB p:=by rw [← hpe];exact rtu_ok hfo
   rw [hpe] at hpd hso
   have H:=aj hpe H
   refine rg [0,9,11,90] (k:=rc (ht:=fun hc2=>?_) (hf:=fun hc2=>?_))
   ·refine rs (k:=?_)
    have hf4:f=4:=of_decide_eq_true hc2
    subst hf4
    have hll9:0<p.length:=List.length_pos_iff.2 hpd.1
    obtain ⟨x,hx⟩:∃ x,p[0]? =some x:=⟨p[0],List.getElem?_eq_getElem hll9⟩
    have hxx:(p.map (PV.int .u8))[0]? =some (.int .u8 x):=Y146
    have hlT:(0<p.length)=True:=eq_true hll9
    have hx8:U8 x:=hpo x (List.mem_of_getElem? hx)
    have hx0:(p[0]?).getD 0=x:=Y318
    have hw:IntKind.i64.wrap x=x:=wrap_i64 Y255
    have hrl:(repF (refuseP x 4)).length≤140737488350000:=by
     unfold repF
     split
     ·exact Nat.le_trans (layF_len ‹_›) Y14
     ·simp
    have H:=aj hxx (aj hlT (aj hw H))
    refine rr (k:=ro (pre:=[_,_,_,_]) (k:=rC (h:=ref3_Refuse) (k:=rC (h:=ref3_Lay (refuseP_ok _ _)) (k:=rh [13] (k:=rs (k:=rr (k:=ro (pre:=[_]) (k:=rC (h:=ref5_Frame (a:=17) (repF_ok (refuseP_ok _ _)) hrl) (k:=rh [15] (k:=rs (k:=rg [8] (k:=rR (k:=?_)))))))))))))
    refine Ret.allW (r':=.sl .unk ((sendF 4 D fr).1.map (PV.int .u8))) Y168 ?_ ⟨rfl,?_⟩
    ·rw [hso];simp only [PV.weak,weaks_u8];show PV.sl .unk ((frameF (repF (refuseP ((p[0]?).getD 0) 4))).map _)=_;rw [hx0];rfl
    ·rw [hso];exact (putRef_self hA).symm
   ·refine rk (k:=rs (k:=?_))
    have hxo:OkB (pduF D p).1:=pduF_okB hD hpo Y14
    have hxl9:(pduF D p).1.length≤140737488350000:=pduF_len hD hpo hpd.2.1
    refine rr (k:=ro (pre:=[_,_,_,_,_]) (k:=?_))
    refine RunO.callw au au au Y19 ((ref8_Pdu hA hD hpo Y14).mono ?_)
    rintro r s9 ⟨rfl,hs⟩
    subst s9
    refine rh [9,17] (k:=rs (k:=rs (k:=rg [9,17,113] (k:=rc (ht:=fun hc3=>?_) (hf:=fun hc3=>?_)))))
    ·refine rs (k:=rg [8] (k:=rR (k:=?_)))
     have hf2:f=2:=of_decide_eq_true hc3
     subst hf2
     refine Ret.allW (r':=.sl .unk []) Y168 Y380 ⟨Y416,?_⟩
     rw [hso];rfl
    ·refine rk (k:=rs (k:=rr (k:=ro (pre:=[_]) (k:=rC (h:=ref5_Frame (a:=17) hxo hxl9) (k:=rh [9,18] (k:=rs (k:=rs (k:=?_))))))))
     have hq17:(decide (f=3)&&decide (0<(((frameA 17 (pduF D p).1).1.length:Nat):Int)))=false:=by
      rw [Bool.and_eq_false_iff,decide_eq_false_iff_not,decide_eq_false_iff_not]
      by_cases h3:f=3
      case neg=>exact .inl h3
      refine .inr ?_
      have h:=hv h3 hrt.1.1 hrt.1.2
      rw [hpe] at h
      rw [show (frameA 17 (pduF D p).1).1=[] from h]
      decide
     have H:=aj hq17 H
     refine rg [18,125] (k:=rc (ht:=fun hc4=>?_) (hf:=fun hc4=>?_))
     ·cases hc4
     ·refine rk (k:=rs (k:=rg [8] (k:=rR (k:=?_))))
      have hfe:lineF f D p=(frameF (pduF D p).1,(pduF D p).2):=by
       have hf2:¬ f=2:=of_decide_eq_false hc3
       have hf4:¬ f=4:=of_decide_eq_false hc2
       obtain rfl | rfl:f=0∨f=3:=Y14
       ·rfl
       ·have h:=hv rfl hrt.1.1 hrt.1.2
        rw [hpe] at h
        show (flipL (frameF (pduF D p).1),(pduF D p).2)=_
        rw [h]
        rfl
      refine Ret.allW (r':=.sl .unk ((sendF f D fr).1.map (PV.int .u8))) Y168 ?_ ⟨rfl,?_⟩
      ·rw [hso,hfe];simp only [PV.weak,weaks_u8];rfl
      ·rw [hso,hfe]
 intro hJs3
 refine rs (k:=rr (k:=ro (pre:=[_,_,_]) (k:=rQ 37 (ht:=fun hg2=>?_) (hf:=fun hg2=>?_))))
 refine rg1 (k:=rg1 (k:=ro (pre:=[_,_]) (k:=rQ 41 (ht:=fun hg6=>?_) (hf:=fun hg6=>?_))))
 have hg6':tn<4:=of_decide_eq_true hg6
 have hg2':0≤tn:=of_decide_eq_true hg2
 obtain ⟨T,k,L0,rfl,hT,hx⟩:∃ (T:Nat) (k:SK) (L0:List Int),tn=(T:Int)∧T<4∧xs[T]? =some (.sl k (L0.map (PV.int .i64))):=by
  rcases hcase with ⟨_,_,h | ⟨k,T,h1,h2,h3⟩⟩ | ⟨T,t,L,_,_,_,h1,h2,h3,_⟩
  ·exact absurd ⟨hg2',hg6'⟩ h
  ·exact ⟨T,k,[],h1,h2,h3⟩
  ·exact ⟨T,_,_,h1,h2,h3⟩
 have hdr:=drop_one (st:=.sl kv ev) (p:=.ptr (b+5) 0 0) hx
 have ht4:((T:Int)<((4:Nat):Int))=True:=eq_true Y14
 have H:=aj hdr (aj ht4 H)
 refine rg1 (k:=rg1 (k:=rg1 (k:=rg1 (k:=rg1 (k:=rg1 (k:=rg1 (k:=rg1 (k:=rh [0,1,3,9,50] (k:=rc (ht:=fun hc0=>?_) (hf:=fun hc0=>?_))))))))))
 ·exact Y54
 refine jO 1 ?_;rotate_left
 refine jO 2 ?_;rotate_left
 refine rg0 (k:=rg0 (k:=ro (pre:=[_,_]) (k:=rQ 41 (ht:=fun hg6=>?_) (hf:=fun hg6=>?_))))
 ·cases hg6
 refine jO 2 ?_;rotate_left
 any_goals
  refine jI 2 ?_
  refine rg0 (k:=rg0 (k:=rg0 (k:=rg0 (k:=rg0 (k:=rg0 (k:=rg0 (k:=rg0 (k:=rh [0,1,3,9,50] (k:=rc (ht:=fun hc0=>?_) (hf:=fun hc0=>?_))))))))))
  ·cases hc0
  refine jO 1 ?_;rotate_left
 any_goals
  refine jI 1 ?_
  refine rk (k:=?_)
  refine jO 3 ?_;rotate_left
 any_goals
  refine jI 3 ?_
  obtain ⟨h0,hS8,_⟩:=hcase.resolve_right Y112
  subst h0
  subst hS8
  refine Run.prune [0,3,9] rfl ?_
  exact hJs3 _ _ ⟨rfl,rfl⟩
attribute [local go_sem] set_set putRef_hi putRef_nxt weaks_bools Rep.pv
set_option maxRecDepth 100000 in
theorem ref17_SendO {ln b:Nat} {xs:List PV} {k0:SK} {l:List Snt} {kv:SK} {ev:List PV} {S1 S3:St} {D:Dev} {tn tick f:Int} (hf:0≤f∧f≤4) {fr:List Int} (hfo:OkB fr) (hfl:fr.length≤140737488350000) (hll:l.length≤100000) (hxl:xs.length=4) {s:St} (hl:s.blk ln=some (lnR 63 (b+5) xs (.sl k0 (l.map Snt.pv)))) (hD:D.ok)
  (hap:aAppend Tryz.prog 80 k0 (l.map Snt.pv) [Snt.pv (⟨tick,tn,fr⟩:Snt)] s=some (.sl kv ev,S1)) (h1l:S1.blk ln=some (lnR 63 (b+5) xs (.sl k0 (l.map Snt.pv)))) (hcase:(f=0∧S3=(S1.set ln (some (lnR 63 (b+5) xs (.sl kv ev))))∧(¬ (0≤tn∧tn<4)∨∃ (k:SK) (T:Nat),tn=(T:Int)∧T<4∧xs[T]? =some (.sl k [])) ∨
    ∃ (T t:Nat) (L:List Int) (kw:SK) (ew:List PV) (S2:St),tn=(T:Int)∧T<4∧xs[T]? =some (.sl (.tok t 1) ((f::L).map (PV.int .i64)))∧L.length≤1000∧aAppend Tryz.prog 3 .clip [] (L.map (PV.int .i64)) (S1.set ln (some (lnR 63 (b+5) xs (.sl kv ev))))=some (.sl kw ew,S2)∧S2.blk ln=some (lnR 63 (b+5) xs (.sl kv ev))∧S3=S2.set ln (some (lnR 63 (b+5) (xs.set T (.sl kw ew)) (.sl kv ev)))))
  (hl3:∃ xs3,xs3.length=4∧S3.blk ln=some (lnR 63 (b+5) xs3 (.sl kv ev))) (hA:RefAt b D S3) (h3:f=3) (hrd:(rtuF fr).2=0∧(rtuF fr).1.1=17) (h1:(pduF D (rtuF fr).1.2).1≠[]) (h2:(pduF D (rtuF fr).1.2).1.length≤253) :
  ACalls Tryz.prog 25 [.ptr ln 0 0,.int .i64 tn,.int .i64 tick,.sl .unk (fr.map (PV.int .u8))] s (fun r s'=>r=.sl .unk ((sendF f D fr).1.map (PV.int .u8))∧s'=((sealS (17::(pduF D (rtuF fr).1.2).1) ((putRef b (pduF D (rtuF fr).1.2).2 S3).new (.tok (17::(pduF D (rtuF fr).1.2).1).length))).set (S3.nxt+2) none)):=by
 refine go Tryz.func25 (k:=fun hwf H=>?_)
 have y0:decide ((rtuF fr).2=0)=true:=decide_eq_true hrd.1
 have y1:decide ((rtuF fr).1.1=17)=true:=decide_eq_true hrd.2
 have y2:decide (f=1)=false:=decide_eq_false Y14
 have y3:decide (f=4)=false:=decide_eq_false Y14
 have y4:decide (f=2)=false:=decide_eq_false Y14
 have y5:decide (f=3)=true:=decide_eq_true h3
 have H:=aj y0 (aj y1 (aj y2 (aj y3 (aj y4 (aj y5 H)))))
 unfold lnR at hl h1l hcase
 have hlt:=lt_blk hwf hl
 have hfl2:fr.length*1≤140737488355328:=Y14
 have n0:(1+4≤(xs++[PV.sl k0 (l.map Snt.pv)]).length)=True:=eq_true Y110
 have n5:∀ v:PV,List.drop 5 (PV.ptr (b+5) 0 0::(xs++[v]))=[v]:=fun v=>Y167
 have n6:∀ v w:PV,(PV.ptr (b+5) 0 0::(xs++[v])).set 5 w=PV.ptr (b+5) 0 0::(xs++[w]):=fun v w=>Y396
 have n7:(5≤(xs++[PV.sl k0 (l.map Snt.pv)]).length)=True:=eq_true Y110
 have hrt:rtuF fr=rtuF fr:=rfl
 have hdn:decide (0≤tn)=decide (0≤tn):=rfl
 have H:=aj n5 (aj n6 (aj n7 H))
 have H:=aj hl (aj h1l H)
 refine rs (k:=rg [0,1,2,3] (k:=rs (k:=rH 16 [12,15] [[false,false],[true,false],[true,true]] [s,S1,(S1.set ln (some (.row 63 [.agg (.ptr (b+5) 0 0::(xs++[(.sl kv ev)]))])))] Tryz.mixed (k:=?_))))
 refine dP [0,1] (pre:=[_,_,_,_,_,_,_,_,_]) (k:=?_)
 refine DetHC.appW (kx:=.clip) (ky:=.unk) (xs:=[]) (ys:=fr.map (PV.int .u8)) (zs:=fr.map (PV.int .u8)) [0] [s] Y19 rfl au au au Tryz.td23 Y72 (by intro p hp;cases hp) (isEls_map (P:=Tryz.prog) (e:=5) (f:=PV.int .u8) (fun a=>⟨rfl,Y23⟩) _) Y24 (by rw [Tryz.by5];simp<;>omega) (.inr rfl) (by rw [List.nil_append,weaks_u8]) (fun n=>blws_u8 _ _) ?_
 refine dP [0] (pre:=[_,_]) (k:=?_)
 refine DetHC.app (kx:=k0) (xs:=l.map Snt.pv) (ys:=[Snt.pv (⟨tick,tn,fr⟩:Snt)]) (v:=.sl kv ev) [(0,1)] _ Y19 pq au au Y108 Tryz.td61 Y280 Y53 (isEls_map (P:=Tryz.prog) (e:=80) (f:=Snt.pv) (fun a=>⟨rfl,Y393⟩) [(⟨tick,tn,fr⟩:Snt)]) Y281 Y220 (by intro q hq;rw [List.mem_singleton.1 hq];exact hap) ?_
 refine dP [1] (pre:=[_,_]) (k:=?_)
 refine dE [(1,2)] (k:=?_)
 refine DetHC.nil ?_
 refine rl [0,1,3] (k:=rs (k:=rg [0,1,3,9] (k:=rs (k:=?_))))
 refine Run.join (fun e s'=>e=[(0,.ptr ln 0 0),(3,.sl .unk (fr.map (PV.int .u8))),(9,.int .i64 f)]∧s'=S3) ?_ ?_
 ·rintro e s9 ⟨rfl,hs⟩
  subst s9
  obtain ⟨xs3,hxl3,hr3⟩:=hl3
  unfold lnR at hr3
  have H:=aj hr3 H
  refine rs (k:=rr (k:=ro (pre:=[_]) (k:=rC (h:=ref5_Read hfo hfl) (k:=rh [0,9,10,11,12] (k:=rs (k:=rs (k:=rg [0,9,11,88] (k:=rc (ht:=fun hc1=>?_) (hf:=fun hc1=>?_)))))))))
  ·cases hc1
  ·refine rk (k:=rs (k:=rs (k:=?_)))
   have hrt:((rtuF fr).2=0∧(rtuF fr).1.1=17)∧True:=⟨hrd,trivial⟩
   have hpd:=rtu_pdu hrt.1.1
   have hso:sendF f D fr=lineF f D (rtuF fr).1.2:=if_pos hrt.1
   obtain ⟨p,hpe⟩:∃ y,(rtuF fr).1.2=y:=⟨_,rfl⟩
   have hpo:OkB p:=by rw [← hpe];exact rtu_ok hfo
   rw [hpe] at hpd hso
   rw [hpe] at h1 h2
   have H:=aj hpe H
   refine rg [0,9,11,90] (k:=rc (ht:=fun hc2=>?_) (hf:=fun hc2=>?_))
   ·cases hc2
   ·refine rk (k:=rs (k:=?_))
    have hxo:OkB (pduF D p).1:=pduF_okB hD hpo Y14
    have hxl9:(pduF D p).1.length≤140737488350000:=pduF_len hD hpo hpd.2.1
    refine rr (k:=ro (pre:=[_,_,_,_,_]) (k:=?_))
    refine RunO.callw au au au Y19 ((ref8_Pdu hA hD hpo Y14).mono ?_)
    rintro r s9 ⟨rfl,hs⟩
    subst s9
    refine rh [9,17] (k:=rs (k:=rs (k:=rg [9,17,113] (k:=rc (ht:=fun hc3=>?_) (hf:=fun hc3=>?_)))))
    ·cases hc3
    ·refine rk (k:=rs (k:=rr (k:=ro (pre:=[_]) (k:=?_))))
     refine RunO.callw au au au Y19 ((ref5_FrameO (b:=(pduF D p).1) hxo h1 h2).mono ?_)
     rintro r s9 ⟨rfl,hs⟩
     subst s9
     refine rh [9,18] (k:=rs (k:=rs (k:=?_)))
     refine Run.genS fun S9 hS9=>?_
     obtain ⟨Z,hZ⟩:∃ Z,Z=sealB (17::(pduF D p).1):=⟨_,rfl⟩
     have hrow:S9.blk (S3.nxt+2)=some (.row 5 (Z.map (PV.int .u8))):=by rw [hS9,hZ];exact blk_new_eq
     have hZl:Z.length=(pduF D p).1.length+3:=by rw [hZ,sealB_len,List.length_cons]
     obtain ⟨m,hm⟩:∃ m,m+1=Z.length:=⟨(pduF D p).1.length+2,Y14⟩
     have hml:m<Z.length:=Y14
     obtain ⟨z,hz⟩:∃ z,Z[m]'hml=z:=⟨_,rfl⟩
     have hzz:(Z.map (PV.int .u8))[m]? =some (.int .u8 z):=by rw [map_get hml,hz]
     have hT1:((0:Int)<(((pduF D p).1.length+3:Nat):Int))=True:=eq_true Y14
     have hw:IntKind.i64.wrap ((((pduF D p).1.length+3:Nat):Int)-1)=(m:Int):=Y21
     have hmT:(m<(pduF D p).1.length+3)=True:=eq_true Y14
     have hmT2:((m:Int)<(((pduF D p).1.length+3:Nat):Int))=True:=eq_true Y14
     have hset:(Z.map (PV.int .u8)).set m (.int .u8 (ibits .xor .u8 z 1))=(Z.set m (ibits .xor .u8 z 1)).map (PV.int .u8):=by rw [List.map_set]
     have hfl9:Z.set m (ibits .xor .u8 z 1)=flipL (frameF (pduF D p).1):=by
      rw [frameF_eq h1 h2,← hZ]
      unfold flipL
      rw [show Z.length-1=m from Y14,List.getElem?_eq_getElem hml,hz];rfl
     have H:=aj hrow (aj hzz (aj hT1 (aj hw (aj hmT (aj hmT2 (aj hset H))))))
     refine rg [18,125] (k:=rc (ht:=fun hc4=>?_) (hf:=fun hc4=>?_))
     ·refine rg [18] (k:=rs (k:=rr (k:=?_)))
      refine RunO.thaw 18 (S3.nxt+2) 2 (v:=.sl .unk ((flipL (frameF (pduF D p).1)).map (PV.int .u8))) (by simp (disch:=omega) only [go_sem,↓reduceIte];rw [← hfl9];exact frz_own_ints (t:=5) (by rw [List.length_set];omega) Y67 (by simp (disch:=first | omega |(simp only [nxt_set,nxt_new,putRef_nxt]<;>omega) | fail) only [go_sem,putRef_nxt,↓reduceIte,H]<;>rfl)) Y392 ?_
      refine ro (pre:=[_]) (k:=rh [8] (k:=rR (k:=?_)))
      refine Ret.allW (r':=.sl .unk ((sendF f D fr).1.map (PV.int .u8))) Y168 ?_ ⟨rfl,?_⟩
      ·rw [hso,h3];simp only [PV.weak,weaks_u8];rfl
      ·rw [hS9,hpe];rfl
     ·cases hc4
 intro hJs3
 refine rs (k:=rr (k:=ro (pre:=[_,_,_]) (k:=rQ 37 (ht:=fun hg2=>?_) (hf:=fun hg2=>?_))))
 refine rg1 (k:=rg1 (k:=ro (pre:=[_,_]) (k:=rQ 41 (ht:=fun hg6=>?_) (hf:=fun hg6=>?_))))
 have hg6':tn<4:=of_decide_eq_true hg6
 have hg2':0≤tn:=of_decide_eq_true hg2
 obtain ⟨T,k,L0,rfl,hT,hx⟩:∃ (T:Nat) (k:SK) (L0:List Int),tn=(T:Int)∧T<4∧xs[T]? =some (.sl k (L0.map (PV.int .i64))):=by
  rcases hcase with ⟨_,_,h | ⟨k,T,h1,h2,h3⟩⟩ | ⟨T,t,L,_,_,_,h1,h2,h3,_⟩
  ·exact absurd ⟨hg2',hg6'⟩ h
  ·exact ⟨T,k,[],h1,h2,h3⟩
  ·exact ⟨T,_,_,h1,h2,h3⟩
 have hdr:=drop_one (st:=.sl kv ev) (p:=.ptr (b+5) 0 0) hx
 have ht4:((T:Int)<((4:Nat):Int))=True:=eq_true Y14
 have H:=aj hdr (aj ht4 H)
 refine rg1 (k:=rg1 (k:=rg1 (k:=rg1 (k:=rg1 (k:=rg1 (k:=rg1 (k:=rg1 (k:=rh [0,1,3,9,50] (k:=rc (ht:=fun hc0=>?_) (hf:=fun hc0=>?_))))))))))
 ·exact Y54
 refine jO 1 ?_;rotate_left
 refine jO 2 ?_;rotate_left
 refine rg0 (k:=rg0 (k:=ro (pre:=[_,_]) (k:=rQ 41 (ht:=fun hg6=>?_) (hf:=fun hg6=>?_))))
 ·cases hg6
 refine jO 2 ?_;rotate_left
 any_goals
  refine jI 2 ?_
  refine rg0 (k:=rg0 (k:=rg0 (k:=rg0 (k:=rg0 (k:=rg0 (k:=rg0 (k:=rg0 (k:=rh [0,1,3,9,50] (k:=rc (ht:=fun hc0=>?_) (hf:=fun hc0=>?_))))))))))
  ·cases hc0
  refine jO 1 ?_;rotate_left
 any_goals
  refine jI 1 ?_
  refine rk (k:=?_)
  refine jO 3 ?_;rotate_left
 any_goals
  refine jI 3 ?_
  obtain ⟨h0,hS8,_⟩:=hcase.resolve_right Y112
  exact absurd (h3.symm.trans h0) Y15
end Go.Proofs
namespace Go.Proofs
open Go.PM
set_option maxHeartbeats 2000000
def TkB (s:St) (z:Nat) (els:List PV) (c:Nat) (x:PV):Option Nat→Prop
 | none=>(x=.sl .nil []∨x=.sl .clip [])∧els=[]
 | some t=>x=.sl (.tok t z) els∧s.blk t=some (.tok els.length)∧c≤t∧t<s.nxt
theorem TkB.keep {s s':St} {z:Nat} {els:List PV} {c:Nat} {x:PV} {n:Option Nat} (h:TkB s z els c x n) (hb:∀ t,n=some t→s'.blk t=s.blk t) (hx:s.nxt≤s'.nxt):TkB s' z els c x n:=by
 cases n with
 | none=>exact h
 | some t=>exact ⟨h.1,by rw [hb t rfl];exact h.2.1,h.2.2.1,Nat.lt_of_lt_of_le h.2.2.2 hx⟩
theorem TkB.sl {s:St} {z:Nat} {els:List PV} {c:Nat} {x:PV} {n:Option Nat} (h:TkB s z els c x n):∃ k,x=.sl k els:=by
 cases n with
 | none=>obtain ⟨h1 | h1,rfl⟩:=h<;>exact ⟨_,h1⟩
 | some t=>exact ⟨_,h.1⟩
def upF {α:Type} (F:Nat→α) (k:Nat) (L:α):Nat→α:=fun i=>if i=k then L else F i
theorem upF_at {α:Type} {F:Nat→α} {k:Nat} {L:α}:upF F k L k=L:=if_pos rfl
theorem upF_ne {α:Type} {F:Nat→α} {k i:Nat} {L:α} (h:i≠k):upF F k L i=F i:=if_neg h
structure Ln4 (ty d ln c:Nat) (FS:Nat→List Int) (l:List Snt) (ns:Nat→Option Nat) (s:St):Prop where
 row:∃ xs st,s.blk ln=some (lnR ty d xs st)∧xs.length=4∧(∀ T,T<4→∃ x,xs[T]? =some x∧TkB s 1 ((FS T).map (PV.int .i64)) c x (ns T))∧TkAt s 3 (l.map Snt.pv) c st (ns 4)
 inj:∀ i j t,ns i=some t→ns j=some t→i=j
 own:∀ i t,ns i=some t→c≤t∧t<s.nxt
 hc:ln<c
 nx:c≤s.nxt
 top:∀ i,4<i→ns i=none
structure Fr4 (b n ln:Nat) (ns ns':Nat→Option Nat) (s s':St):Prop where
 nx:s.nxt≤s'.nxt
 same:∀ j,j<s.nxt→j≠ln→¬ (b≤j∧j<n)→(∀ i,ns i≠some j)→s'.blk j=s.blk j
 new:∀ i t,ns' i=some t→(∃ i',ns i'=some t)∨s.nxt≤t
theorem Fr4.refl (b n ln:Nat) (ns:Nat→Option Nat) (s:St):Fr4 b n ln ns ns s s:=⟨Nat.le_refl _,fun _ _ _ _ _=>rfl,fun i t h=>.inl ⟨i,h⟩⟩
theorem Fr4.wide {n ln:Nat} {ns ns':Nat→Option Nat} {s s':St} (h:Fr4 0 0 ln ns ns' s s') (b:Nat):Fr4 b n ln ns ns' s s':=⟨h.nx,fun j h1 h2 _ h4=>h.same j h1 h2 Y14 h4,h.new⟩
theorem Fr4.trans {b n ln:Nat} {ns n1 n2:Nat→Option Nat} {s s1 s2:St} (h:Fr4 b n ln ns n1 s s1) (k:Fr4 b n ln n1 n2 s1 s2):Fr4 b n ln ns n2 s s2:=by
 refine ⟨Nat.le_trans h.nx k.nx,fun j h1 h2 h3 h4=>?_,fun i t ht=>?_⟩
 ·rw [k.same j (Nat.lt_of_lt_of_le h1 h.nx) h2 h3 fun i hi=>?_]
  ·exact h.same j h1 h2 h3 h4
  ·rcases h.new i j hi with ⟨i',h'⟩ | h'
   ·exact h4 i' h'
   ·omega
 ·rcases k.new i t ht with ⟨i',h'⟩ | h'
  ·exact h.new i' t h'
  ·exact .inr (Nat.le_trans h.nx h')
theorem Ln4.keep {ty d ln c:Nat} {FS:Nat→List Int} {l:List Snt} {ns:Nat→Option Nat} {s s':St} (h:Ln4 ty d ln c FS l ns s) (hn:s.nxt≤s'.nxt) (he:∀ j,j<s.nxt→(j=ln∨∃ i,ns i=some j)→s'.blk j=s.blk j):Ln4 ty d ln c FS l ns s':=by
 obtain ⟨xs,st,h1,h2,h3,h4⟩:=h.row
 have hc:=h.hc
 have hx:=h.nx
 refine ⟨⟨xs,st,by rw [he ln Y14 (.inl rfl)];exact h1,h2,fun T hT=>?_,h4.keep (fun t e _=>he t (h.own _ _ e).2 (.inr ⟨_,e⟩)) hn⟩,h.inj,fun i t e=>⟨(h.own i t e).1,Nat.lt_of_lt_of_le (h.own i t e).2 hn⟩,hc,Nat.le_trans hx hn,h.top⟩
 obtain ⟨x,k1,k2⟩:=h3 T hT
 exact ⟨x,k1,k2.keep (fun t e=>he t (h.own _ _ e).2 (.inr ⟨_,e⟩)) hn⟩
theorem Ln4.nw {ty d ln c:Nat} {FS:Nat→List Int} {l:List Snt} {ns:Nat→Option Nat} {s:St} (h:Ln4 ty d ln c FS l ns s) (x:Blk):Ln4 ty d ln c FS l ns (s.new x) :=
 h.keep (Nat.le_succ _) fun j hj _=>blk_new_ne Y14
theorem Ln4.notrow {ty d ln c i j t:Nat} {vs:List PV} {FS:Nat→List Int} {l:List Snt} {ns:Nat→Option Nat} {s:St} (h:Ln4 ty d ln c FS l ns s) (hi:ns i=some j):s.blk j≠some (.row t vs):=by
 obtain ⟨xs,st,h1,h2,h3,h4⟩:=h.row
 have e:∃ L,s.blk j=some (.tok L):=by
  by_cases g:i<4
  ·obtain ⟨x,_,k⟩:=h3 i g
   rw [hi] at k
   exact ⟨_,k.2.1⟩
  ·by_cases g4:i=4
   ·rw [← g4,hi] at h4
    exact ⟨_,h4.2.1⟩
   ·rw [h.top i Y14] at hi;cases hi
 obtain ⟨L,e⟩:=e
 rw [e]
 intro q;cases q
theorem Y224 {p:Prop} (h:p:=by
 rw [e,upF_at] at hi
 rw [upF_ne e'] at hj
 rcases hfr t hi with q | q
 ·rw [e];exact h.inj _ _ _ q hj
 ·have:=(h.own _ _ hj).2;omega):p:=h
theorem Y225 {p:Prop} (h:p:=by
 rw [e',upF_at] at hj
 rw [upF_ne e] at hi
 rcases hfr t hj with q | q
 ·rw [e'];exact h.inj _ _ _ hi q
 ·have:=(h.own _ _ hi).2;omega):p:=h
theorem Y397 {p:Prop} (h:p:=by
 rw [upF_ne e'] at e
 exact ⟨(h.own _ _ e).1,Nat.lt_of_lt_of_le (h.own _ _ e).2 hn⟩):p:=h
theorem Ln4.chT {ty d ln c k:Nat} {FS:Nat→List Int} {l:List Snt} {ns:Nat→Option Nat} {s s':St} (h:Ln4 ty d ln c FS l ns s) (hk:k<4) {xs:List PV} {st x':PV} {L':List Int} {n':Option Nat} (hr:s.blk ln=some (lnR ty d xs st))
  (hb:s'.blk ln=some (lnR ty d (xs.set k x') st)) (hx':TkB s' 1 (L'.map (PV.int .i64)) c x' n') (hn:s.nxt≤s'.nxt) (hsame:∀ j,j<s.nxt→j≠ln→ns k≠some j→s'.blk j=s.blk j) (hfr:∀ t,n'=some t→ns k=some t∨s.nxt≤t) :
  Ln4 ty d ln c (upF FS k L') l (upF ns k n') s'∧Fr4 0 0 ln ns (upF ns k n') s s':=by
 obtain ⟨ys,st2,h1,h2,h3,h4⟩:=h.row
 rw [hr] at h1
 have e1:=Option.some.inj h1
 unfold lnR at e1
 have e2:=(PV.agg.inj (List.cons.inj (Blk.row.inj e1).2).1)
 have e3:=(List.cons.inj e2).2
 obtain ⟨rfl,e4⟩:=List.append_inj' e3 rfl
 have e5:=(List.cons.inj e4).1
 subst e5
 have hc:=h.hc
 have hx:=h.nx
 have hln:∀ i t,ns i=some t→t≠ln:=fun i t e=>by have:=(h.own i t e).1;omega
 refine ⟨⟨⟨xs.set k x',st,hb,by rw [List.length_set];exact h2,fun T hT=>?_,?_⟩,fun i j t hi hj=>?_,fun i t e=>?_,hc,Nat.le_trans hx hn,fun i hi=>by rw [upF_ne Y14];exact h.top i hi⟩,hn,fun j q1 q2 _ q3=>hsame j q1 q2 (q3 k),fun i t e=>?_⟩
 ·by_cases e:T=k
  ·subst e
   exact ⟨x',List.getElem?_set_self Y14,by rw [upF_at,upF_at];exact hx'⟩
  ·obtain ⟨x,k1,k2⟩:=h3 T hT
   refine ⟨x,by rw [List.getElem?_set_ne (Ne.symm e)];exact k1,?_⟩
   rw [upF_ne e,upF_ne e]
   exact k2.keep (fun t q=>hsame t (h.own _ _ q).2 (hln _ _ q) fun q'=>e (h.inj _ _ _ q q')) hn
 ·rw [upF_ne Y14]
  exact h4.keep (fun t q _=>hsame t (h.own _ _ q).2 (hln _ _ q) fun q'=>absurd (h.inj _ _ _ q q') Y14) hn
 ·by_cases e:i=k<;>by_cases e':j=k
  ·rw [e,e']
  ·exact Y224
  ·exact Y225
  ·rw [upF_ne e] at hi
   rw [upF_ne e'] at hj
   exact h.inj _ _ _ hi hj
 ·by_cases e':i=k
  ·rw [e',upF_at] at e
   subst e
   exact ⟨hx'.2.2.1,hx'.2.2.2⟩
  ·exact Y397
 ·by_cases e':i=k
  ·rw [e',upF_at] at e
   exact (hfr t e).imp (fun q=>⟨k,q⟩) id
  ·rw [upF_ne e'] at e
   exact .inl ⟨i,e⟩
theorem Ln4.chS {ty d ln c:Nat} {FS:Nat→List Int} {l l':List Snt} {ns:Nat→Option Nat} {s s':St} (h:Ln4 ty d ln c FS l ns s) {xs:List PV} {st x':PV} {n':Option Nat} (hr:s.blk ln=some (lnR ty d xs st))
  (hb:s'.blk ln=some (lnR ty d xs x')) (hx':TkAt s' 3 (l'.map Snt.pv) c x' n') (hn:s.nxt≤s'.nxt) (hsame:∀ j,j<s.nxt→j≠ln→ns 4≠some j→s'.blk j=s.blk j) (hfr:∀ t,n'=some t→ns 4=some t∨s.nxt≤t) :
  Ln4 ty d ln c FS l' (upF ns 4 n') s'∧Fr4 0 0 ln ns (upF ns 4 n') s s':=by
 obtain ⟨ys,st2,h1,h2,h3,h4⟩:=h.row
 rw [hr] at h1
 have e1:=Option.some.inj h1
 unfold lnR at e1
 have e2:=(PV.agg.inj (List.cons.inj (Blk.row.inj e1).2).1)
 have e3:=(List.cons.inj e2).2
 obtain ⟨rfl,e4⟩:=List.append_inj' e3 rfl
 have hc:=h.hc
 have hx:=h.nx
 have hln:∀ i t,ns i=some t→t≠ln:=fun i t e=>by have:=(h.own i t e).1;omega
 refine ⟨⟨⟨xs,x',hb,h2,fun T hT=>?_,by rw [upF_at];exact hx'⟩,fun i j t hi hj=>?_,fun i t e=>?_,hc,Nat.le_trans hx hn,fun i hi=>by rw [upF_ne Y14];exact h.top i hi⟩,hn,fun j q1 q2 _ q3=>hsame j q1 q2 (q3 4),fun i t e=>?_⟩
 ·obtain ⟨x,k1,k2⟩:=h3 T hT
  refine ⟨x,k1,?_⟩
  rw [upF_ne Y14]
  exact k2.keep (fun t q=>hsame t (h.own _ _ q).2 (hln _ _ q) fun q'=>absurd (h.inj _ _ _ q q') Y14) hn
 ·by_cases e:i=4<;>by_cases e':j=4
  ·rw [e,e']
  ·exact Y224
  ·exact Y225
  ·rw [upF_ne e] at hi
   rw [upF_ne e'] at hj
   exact h.inj _ _ _ hi hj
 ·by_cases e':i=4
  ·rw [e',upF_at] at e
   subst e
   exact ⟨hx'.2.2.1,hx'.2.2.2⟩
  ·exact Y397
 ·by_cases e':i=4
  ·rw [e',upF_at] at e
   exact (hfr t e).imp (fun q=>⟨4,q⟩) id
  ·rw [upF_ne e'] at e
   exact .inl ⟨i,e⟩
def hurtB (FS:Nat→List Int) (tn F:Int):Bool:=decide ((0≤tn∧tn<4)∧(0≤F∧F≤4)∧(FS tn.toNat).length<1000)
def hurtFS (FS:Nat→List Int) (tn F:Int):Nat→List Int:=if hurtB FS tn F=true then upF FS tn.toNat (FS tn.toNat++[F]) else FS
def takeQ (FS:Nat→List Int) (tn:Int):Int:=if 0≤tn∧tn<4 then (FS tn.toNat).headD 0 else 0
def takeFS (FS:Nat→List Int) (tn:Int):Nat→List Int:=if 0≤tn∧tn<4 then upF FS tn.toNat (FS tn.toNat).tail else FS
def leftF (FS:Nat→List Int) (tn:Int):Nat:=if 0≤tn∧tn<4 then (FS tn.toNat).length else 0
theorem Y284 {p:Prop} (h:p:=by rw [blk_set_ne Y14,List.length_map];exact blk_set_self _ _ _):p:=h
theorem Y285 {p:Prop} (h:p:=by rw [blk_set_ne q2,blk_set_ne (fun e=>q3 (by rw [hn,e]))]):p:=h
theorem Y398 {p:Prop} (h:p:=by cases q;exact .inr (Nat.le_refl _)):p:=h
theorem line_HurtM {d ln c:Nat} {FS:Nat→List Int} {l:List Snt} {ns:Nat→Option Nat} {s:St} (h:Ln4 74 d ln c FS l ns s) (tn F:Int) :
  ∃ S9 ns',ACalls Tryz.prog 11 [.ptr ln 0 0,.int .i64 tn,.int .i64 F] s (fun r s'=>r=.bool (hurtB FS tn F)∧s'=S9)∧Ln4 74 d ln c (hurtFS FS tn F) l ns' S9∧Fr4 0 0 ln ns ns' s S9:=by
 have hno:hurtB FS tn F=false→ACalls Tryz.prog 11 [.ptr ln 0 0,.int .i64 tn,.int .i64 F] s (fun r s'=>r=.bool false∧s'=s)→∃ S9 ns',ACalls Tryz.prog 11 [.ptr ln 0 0,.int .i64 tn,.int .i64 F] s (fun r s'=>r=.bool (hurtB FS tn F)∧s'=S9)∧Ln4 74 d ln c (hurtFS FS tn F) l ns' S9∧Fr4 0 0 ln ns ns' s S9:=fun e q=>by
  refine ⟨s,ns,by rw [e];exact q,?_,Fr4.refl _ _ _ _ _⟩
  unfold hurtFS
  rw [e]
  exact h
 have hc:=h.hc
 have hx:=h.nx
 by_cases g1:0≤tn∧tn<4
 case neg=>exact hno (decide_eq_false fun q=>g1 q.1) (line_HurtB1 g1)
 by_cases g2:0≤F∧F≤4
 case neg =>
  refine hno (decide_eq_false fun q=>g2 q.2.1) ?_
  by_cases g3:F<0
  ·exact line_HurtB2 g1 g3
  ·exact line_HurtB3 g1 Y14
 obtain ⟨T,rfl⟩:∃ T:Nat,tn=T:=⟨tn.toNat,Y14⟩
 have hT:T<4:=Y14
 obtain ⟨xs,st,h1,h2,h3,h4⟩:=h.row
 obtain ⟨x,hxx,hk⟩:=h3 T hT
 by_cases g4:(FS T).length<1000
 case neg =>
  obtain ⟨k,rfl⟩:=hk.sl
  exact hno (decide_eq_false fun q=>g4 q.2.2) (line_HurtB4 hT g2 h2 Y14 hxx h1)
 have e:hurtB FS (T:Int) F=true:=decide_eq_true ⟨g1,g2,g4⟩
 have e2:hurtFS FS (T:Int) F=upF FS T (FS T++[F]):=by unfold hurtFS;rw [if_pos e];rfl
 rw [e,e2]
 have hown:=h.own T
 revert hk hown
 obtain ⟨n,hn⟩:∃ n,ns T=n:=⟨_,rfl⟩
 rw [hn]
 intro hk hown
 cases n with
 | none =>
   obtain ⟨hk1,hk2⟩:=hk
   have hL:FS T=[]:=by simpa using hk2
   rw [hL]
   obtain ⟨k,rfl,hkk⟩:∃ k,x=.sl k []∧(k=.nil∨k=.clip):=by rcases hk1 with q | q<;>exact ⟨_,q,Y67⟩
   refine ⟨_,_,line_HurtGN (L:=[]) hT g2 h2 hkk hxx h1,h.chT hT h1 (blk_set_self _ _ _) (n':=some s.nxt) ⟨rfl,?_,hx,Nat.lt_succ_self _⟩ (Nat.le_succ _) (fun j q1 q2 _=>?_) (fun t q=>?_)⟩
   ·rw [blk_set_ne Y14];exact blk_new_eq
   ·exact Y395
   ·exact Y398
 | some t =>
   obtain ⟨rfl,k2,k3,k4⟩:=hk
   rw [List.length_map] at k2
   refine ⟨_,_,line_HurtGT (k:=.nil) hT g2 h2 g4 hxx h1 k2 Y14,h.chT hT h1 (blk_set_self _ _ _) (n':=some t) ⟨rfl,?_,k3,k4⟩ (Nat.le_refl _) (fun j q1 q2 q3=>?_) (fun t' q=>?_)⟩
   ·exact Y284
   ·exact Y285
   ·cases q;exact .inl hn
theorem ref17_HurtM {d ln c:Nat} {FS:Nat→List Int} {l:List Snt} {ns:Nat→Option Nat} {s:St} (h:Ln4 63 d ln c FS l ns s) (tn F:Int) :
  ∃ S9 ns',ACalls Tryz.prog 23 [.ptr ln 0 0,.int .i64 tn,.int .i64 F] s (fun r s'=>r=.bool (hurtB FS tn F)∧s'=S9)∧Ln4 63 d ln c (hurtFS FS tn F) l ns' S9∧Fr4 0 0 ln ns ns' s S9:=by
 have hno:hurtB FS tn F=false→ACalls Tryz.prog 23 [.ptr ln 0 0,.int .i64 tn,.int .i64 F] s (fun r s'=>r=.bool false∧s'=s)→∃ S9 ns',ACalls Tryz.prog 23 [.ptr ln 0 0,.int .i64 tn,.int .i64 F] s (fun r s'=>r=.bool (hurtB FS tn F)∧s'=S9)∧Ln4 63 d ln c (hurtFS FS tn F) l ns' S9∧Fr4 0 0 ln ns ns' s S9:=fun e q=>by
  refine ⟨s,ns,by rw [e];exact q,?_,Fr4.refl _ _ _ _ _⟩
  unfold hurtFS
  rw [e]
  exact h
 have hc:=h.hc
 have hx:=h.nx
 by_cases g1:0≤tn∧tn<4
 case neg=>exact hno (decide_eq_false fun q=>g1 q.1) (if q:tn<0 then ref17_HurtB1a q else ref17_HurtB1b Y14)
 by_cases g2:0≤F∧F≤4
 case neg =>
  refine hno (decide_eq_false fun q=>g2 q.2.1) ?_
  by_cases g3:F<0
  ·exact ref17_HurtB2 g1 g3
  ·exact ref17_HurtB3 g1 Y14
 obtain ⟨T,rfl⟩:∃ T:Nat,tn=T:=⟨tn.toNat,Y14⟩
 have hT:T<4:=Y14
 obtain ⟨xs,st,h1,h2,h3,h4⟩:=h.row
 obtain ⟨x,hxx,hk⟩:=h3 T hT
 by_cases g4:(FS T).length<1000
 case neg =>
  obtain ⟨k,rfl⟩:=hk.sl
  exact hno (decide_eq_false fun q=>g4 q.2.2) (ref17_HurtB4 hT g2 h2 Y14 hxx h1)
 have e:hurtB FS (T:Int) F=true:=decide_eq_true ⟨g1,g2,g4⟩
 have e2:hurtFS FS (T:Int) F=upF FS T (FS T++[F]):=by unfold hurtFS;rw [if_pos e];rfl
 rw [e,e2]
 have hown:=h.own T
 revert hk hown
 obtain ⟨n,hn⟩:∃ n,ns T=n:=⟨_,rfl⟩
 rw [hn]
 intro hk hown
 cases n with
 | none =>
   obtain ⟨hk1,hk2⟩:=hk
   have hL:FS T=[]:=by simpa using hk2
   rw [hL]
   obtain ⟨k,rfl,hkk⟩:∃ k,x=.sl k []∧(k=.nil∨k=.clip):=by rcases hk1 with q | q<;>exact ⟨_,q,Y67⟩
   refine ⟨_,_,ref17_HurtGN (L:=[]) hT g2 h2 hkk hxx h1,h.chT hT h1 (blk_set_self _ _ _) (n':=some s.nxt) ⟨rfl,?_,hx,Nat.lt_succ_self _⟩ (Nat.le_succ _) (fun j q1 q2 _=>?_) (fun t q=>?_)⟩
   ·rw [blk_set_ne Y14];exact blk_new_eq
   ·exact Y395
   ·exact Y398
 | some t =>
   obtain ⟨rfl,k2,k3,k4⟩:=hk
   rw [List.length_map] at k2
   refine ⟨_,_,ref17_HurtGT (k:=.nil) hT g2 h2 g4 hxx h1 k2 Y14,h.chT hT h1 (blk_set_self _ _ _) (n':=some t) ⟨rfl,?_,k3,k4⟩ (Nat.le_refl _) (fun j q1 q2 q3=>?_) (fun t' q=>?_)⟩
   ·exact Y284
   ·exact Y285
   ·cases q;exact .inl hn
theorem line_LeftM {d ln c:Nat} {FS:Nat→List Int} {l:List Snt} {ns:Nat→Option Nat} {s:St} (h:Ln4 74 d ln c FS l ns s) (tn:Int):ACalls Tryz.prog 12 [.ptr ln 0 0,.int .i64 tn] s (fun r s'=>r=.int .i64 (leftF FS tn:Nat)∧s'=s):=by
 unfold leftF
 split
 ·rename_i g1
  obtain ⟨T,rfl⟩:∃ T:Nat,tn=T:=⟨tn.toNat,Y14⟩
  have hT:T<4:=Y14
  obtain ⟨xs,st,h1,h2,h3,h4⟩:=h.row
  obtain ⟨x,hxx,hk⟩:=h3 T hT
  obtain ⟨k,rfl⟩:=hk.sl
  exact line_LeftG hT h2 hxx h1
 ·rename_i g1
  exact line_LeftB g1
def FOk (FS:Nat→List Int):Prop:=∀ T,(FS T).length≤1000∧∀ f∈FS T,0≤f∧f≤4
theorem FOk.hurt {FS:Nat→List Int} (h:FOk FS) (tn F:Int):FOk (hurtFS FS tn F):=by
 unfold hurtFS
 split
 ·rename_i e
  have e:=of_decide_eq_true e
  intro T
  by_cases g:T=tn.toNat
  ·subst g
   rw [upF_at]
   refine ⟨Y110,fun f hf=>?_⟩
   rcases List.mem_append.1 hf with hf | hf
   ·exact (h _).2 f hf
   ·rw [List.mem_singleton.1 hf];exact e.2.1
  ·rw [upF_ne g];exact h T
 ·exact h
theorem FOk.take {FS:Nat→List Int} (h:FOk FS) (tn:Int):FOk (takeFS FS tn):=by
 unfold takeFS
 split
 ·intro T
  by_cases g:T=tn.toNat
  ·subst g
   rw [upF_at]
   exact ⟨by rw [List.length_tail];have:=(h tn.toNat).1;omega,fun f hf=>(h _).2 f (List.mem_of_mem_tail hf)⟩
  ·rw [upF_ne g];exact h T
 ·exact h
theorem FOk.q {FS:Nat→List Int} (h:FOk FS) (tn:Int):0≤takeQ FS tn∧takeQ FS tn≤4:=by
 unfold takeQ
 split
 ·cases hl:FS tn.toNat with
  | nil=>decide
  | cons f L=>exact (h tn.toNat).2 f (by rw [hl];simp)
 ·decide
theorem line_takeM {d ln c:Nat} {FS:Nat→List Int} {l:List Snt} {ns:Nat→Option Nat} {s:St} (h:Ln4 74 d ln c FS l ns s) (hF:FOk FS) (tn:Int) :
  ∃ S9 ns',ACalls Tryz.prog 37 [.ptr ln 0 0,.int .i64 tn] s (fun r s'=>r=.int .i64 (takeQ FS tn)∧s'=S9)∧Ln4 74 d ln c (takeFS FS tn) l ns' S9∧Fr4 0 0 ln ns ns' s S9:=by
 have hc:=h.hc
 have hx:=h.nx
 unfold takeQ takeFS
 by_cases g1:0≤tn∧tn<4
 case neg=>rw [if_neg g1,if_neg g1];exact ⟨s,ns,line_takeB g1,h,Fr4.refl _ _ _ _ _⟩
 rw [if_pos g1,if_pos g1]
 obtain ⟨T,rfl⟩:∃ T:Nat,tn=T:=⟨tn.toNat,Y14⟩
 have hT:T<4:=Y14
 show ∃ S9 ns',ACalls _ _ _ _ (fun r s'=>r=.int .i64 ((FS T).headD 0)∧s'=S9)∧Ln4 _ d ln c (upF FS T (FS T).tail) l ns' S9∧_
 obtain ⟨xs,st,h1,h2,h3,h4⟩:=h.row
 obtain ⟨x,hxx,hk⟩:=h3 T hT
 have hl1:=(hF T).1
 cases hL:FS T with
 | nil =>
   obtain ⟨k,rfl⟩:=hk.sl
   refine ⟨s,ns,line_takeG0 hT h2 hxx h1 hL,?_,Fr4.refl _ _ _ _ _⟩
   have e:upF FS T ([]:List Int).tail=FS:=by
    funext i
    by_cases e:i=T
    ·rw [e,upF_at,hL];rfl
    ·exact upF_ne e
   rw [e]
   exact h
 | cons f L =>
   rw [hL] at hk hl1
   revert hk
   obtain ⟨n,hn⟩:∃ n,ns T=n:=⟨_,rfl⟩
   rw [hn]
   intro hk
   cases n with
   | none=>exact absurd hk.2 Y67
   | some t =>
     obtain ⟨rfl,k2,k3,k4⟩:=hk
     rw [List.length_map] at k2
     refine ⟨_,_,line_takeGC hT h2 hxx (by simp at hl1;omega) h1 k2 Y14,h.chT hT h1 (blk_set_self _ _ _) (n':=some s.nxt) ⟨rfl,?_,hx,Nat.lt_succ_self _⟩ (Nat.le_succ _) (fun j q1 q2 q3=>?_) (fun t' q=>?_)⟩
     ·rw [blk_set_ne Y14,List.length_map];exact blk_new_eq
     ·rw [blk_set_ne q2,blk_new_ne (by show j≠s.nxt;omega),blk_set_ne (fun e=>q3 (by rw [hn,e]))]
     ·exact Y398
end Go.Proofs
namespace Go.Proofs
open Go.PM
set_option maxHeartbeats 2000000
theorem Y336 {p:Prop} (h:p:=by rw [e _ Y14 Y14];exact h.st):p:=h
theorem Y337 {p:Prop} (h:p:=by rw [e _ Y14 Y14];exact h.c0):p:=h
theorem Y338 {p:Prop} (h:p:=by rw [e _ Y14 Y14];exact h.c1):p:=h
theorem Y339 {p:Prop} (h:p:=by rw [e _ Y14 Y14];exact h.v0):p:=h
theorem Y340 {p:Prop} (h:p:=by rw [e _ Y14 Y14];exact h.v1):p:=h
theorem Y341 {p:Prop} (h:p:=by rw [e _ Y14 Y14];exact h.dv):p:=h
theorem DevAt.eq4 {b ln c ty d:Nat} {FS:Nat→List Int} {l:List Snt} {ns ns':Nat→Option Nat} {D:Dev} {s s':St} (h:DevAt b D s) (hl:Ln4 ty d ln c FS l ns s) (hb:b+5<ln) (f:Fr4 0 0 ln ns ns' s s'):DevAt b D s':=by
 have hc:=hl.hc
 have hx:=hl.nx
 have e:∀ j,b≤j→j≤b+5→s'.blk j=s.blk j:=fun j h1 h2=>f.same j Y14 Y14 Y14 fun i hi=>by have:=(hl.own i j hi).1;omega
 exact ⟨Y336,Y337,Y338,Y339,Y340,Y341⟩
theorem RefAt.eq4 {b ln c ty d:Nat} {FS:Nat→List Int} {l:List Snt} {ns ns':Nat→Option Nat} {D:Dev} {s s':St} (h:RefAt b D s) (hl:Ln4 ty d ln c FS l ns s) (hb:b+5<ln) (f:Fr4 0 0 ln ns ns' s s'):RefAt b D s':=by
 have hc:=hl.hc
 have hx:=hl.nx
 have e:∀ j,b≤j→j≤b+5→s'.blk j=s.blk j:=fun j h1 h2=>f.same j Y14 Y14 Y14 fun i hi=>by have:=(hl.own i j hi).1;omega
 exact ⟨Y336,Y337,Y338,Y339,Y340,Y341⟩
theorem Ln4.putDev {b ln c ty d:Nat} {FS:Nat→List Int} {l:List Snt} {ns:Nat→Option Nat} {D:Dev} {s:St} (hl:Ln4 ty d ln c FS l ns s) (hb:b+5<ln):Ln4 ty d ln c FS l ns (putDev b D s)∧Fr4 b (b+6) ln ns ns s (putDev b D s):=by
 have hc:=hl.hc
 refine ⟨hl.keep (Nat.le_refl _) fun j _ h=>?_,Nat.le_refl _,fun j q1 q2 q3 _=>?_,fun i t h=>.inl ⟨i,h⟩⟩
 ·rcases h with rfl | ⟨i,h⟩
  ·exact putDev_hi Y14
  ·exact putDev_hi (by have:=(hl.own i j h).1;omega)
 ·by_cases h:j<b
  ·exact putDev_lo Y14
  ·exact putDev_hi Y14
theorem Ln4.putRef {b ln c ty d:Nat} {FS:Nat→List Int} {l:List Snt} {ns:Nat→Option Nat} {D:Dev} {s:St} (hl:Ln4 ty d ln c FS l ns s) (hb:b+5<ln):Ln4 ty d ln c FS l ns (putRef b D s)∧Fr4 b (b+6) ln ns ns s (putRef b D s):=by
 have hc:=hl.hc
 refine ⟨hl.keep (Nat.le_refl _) fun j _ h=>?_,Nat.le_refl _,fun j q1 q2 q3 _=>?_,fun i t h=>.inl ⟨i,h⟩⟩
 ·rcases h with rfl | ⟨i,h⟩
  ·exact putRef_hi Y14
  ·exact putRef_hi (by have:=(hl.own i j h).1;omega)
 ·by_cases h:j<b
  ·exact putRef_lo Y14
  ·exact putRef_hi Y14
theorem line_SendM {b ln c:Nat} {FS:Nat→List Int} {l:List Snt} {ns:Nat→Option Nat} {D:Dev} {s:St} (h:Ln4 74 (b+5) ln c FS l ns s) (hA:DevAt b D s) (hD:D.ok) (hbl:b+5<ln) (hF:FOk FS) (hll:l.length≤100000) {fr:List Int} (hfo:OkB fr) (hfl:fr.length≤140737488350000) {tick tn:Int}
  {B:List Int} {D':Dev} (hs:sendF (takeQ FS tn) D fr=(B,D')) (hlen:D'.c0.length=D.c0.length) :
  ∃ S9 ns',ACalls Tryz.prog 17 [.ptr ln 0 0,.int .i64 tn,.int .i64 tick,.sl .unk (fr.map (PV.int .u8))] s (fun r s'=>r=.sl .unk (B.map (PV.int .u8))∧s'=S9)∧Ln4 74 (b+5) ln c (takeFS FS tn) (l++[(⟨tick,tn,fr⟩:Snt)]) ns' S9∧DevAt b D' S9∧Fr4 b (b+6) ln ns ns' s S9:=by
 have hc:=h.hc
 have hx:=h.nx
 have hq:=hF.q tn
 have e1:(sendF (takeQ FS tn) D fr).1=B:=by rw [hs]
 have e2:(sendF (takeQ FS tn) D fr).2=D':=by rw [hs]
 obtain ⟨xs,st,h1,h2,h3,h4⟩:=h.row
 have hown:=h.own 4
 revert h4 hown
 obtain ⟨n,hn⟩:∃ n,ns 4=n:=⟨_,rfl⟩
 rw [hn]
 intro h4 hown
 match xs,h2 with
 | [a0,a1,a2,a3],_ =>
 cases n with
 | none =>
   obtain ⟨rfl,hl0⟩:=h4
   have hl0:l=[]:=by simpa using hl0
   subst hl0
   obtain ⟨n1,f1⟩:=h.chS (l':=[(⟨tick,tn,fr⟩:Snt)]) (s':=(s.new (.tok [(⟨tick,tn,fr⟩:Snt)].length)).set ln (some (lnR 74 (b+5) [a0,a1,a2,a3] (.sl (.tok s.nxt 3) ([(⟨tick,tn,fr⟩:Snt)].map Snt.pv))))) (x':=(.sl (.tok s.nxt 3) ([(⟨tick,tn,fr⟩:Snt)].map Snt.pv))) (n':=some s.nxt) h1 (blk_set_self _ _ _) ⟨rfl,by rw [blk_set_ne Y14];exact blk_new_eq,hx,Nat.lt_succ_self _⟩ (Nat.le_succ _) (fun j q1 q2 q3=>by rw [blk_set_ne q2,blk_new_ne Y14]) (fun t' q=>by cases q;exact .inr (Nat.le_refl _))
   obtain ⟨S9,ns9,t1,t2,t3⟩:=line_takeM n1 hF tn
   have hA9:=(hA.eq4 h hbl f1).eq4 n1 hbl t3
   obtain ⟨ys,st9,r1,r2,_⟩:=t2.row
   obtain ⟨p1,p2⟩:=t2.putDev (D:=D') hbl
   have h9:=t2.nx
   match ys,r2,r1 with
   | [c0,c1,c2,c3],_,r1 =>
   refine ⟨_,ns9,(line_SendXN hq hfo hfl h1 hA hD hbl t1 r1 hA9 Y14).mono fun y s' ⟨q1,q2⟩=>⟨by rw [q1,e1],by rw [q2,e2]⟩,p1,hA9.put hlen,((f1.trans t3).wide b).trans p2⟩
 | some t =>
   obtain ⟨rfl,k2,k3,k4⟩:=h4
   rw [List.length_map] at k2
   obtain ⟨n1,f1⟩:=h.chS (l':=(l++[(⟨tick,tn,fr⟩:Snt)])) (s':=(s.set t (some (.tok (l++[(⟨tick,tn,fr⟩:Snt)]).length))).set ln (some (lnR 74 (b+5) [a0,a1,a2,a3] (.sl (.tok t 3) ((l++[(⟨tick,tn,fr⟩:Snt)]).map Snt.pv))))) (x':=(.sl (.tok t 3) ((l++[(⟨tick,tn,fr⟩:Snt)]).map Snt.pv))) (n':=some t) h1 (blk_set_self _ _ _) ⟨rfl,by rw [blk_set_ne Y14,List.length_map];exact blk_set_self _ _ _,k3,k4⟩ (Nat.le_refl _) (fun j q1 q2 q3=>by rw [blk_set_ne q2,blk_set_ne (fun e=>q3 (by rw [hn,e]))]) (fun t' q=>by cases q;exact .inl hn)
   obtain ⟨S9,ns9,t1,t2,t3⟩:=line_takeM n1 hF tn
   have hA9:=(hA.eq4 h hbl f1).eq4 n1 hbl t3
   obtain ⟨ys,st9,r1,r2,_⟩:=t2.row
   obtain ⟨p1,p2⟩:=t2.putDev (D:=D') hbl
   have h9:=t2.nx
   match ys,r2,r1 with
   | [c0,c1,c2,c3],_,r1 =>
   refine ⟨_,ns9,(line_SendXT hq hfo hfl hll h1 hA hD hbl k2 Y14 Y14 t1 r1 hA9 Y14).mono fun y s' ⟨q1,q2⟩=>⟨by rw [q1,e1],by rw [q2,e2]⟩,p1,hA9.put hlen,((f1.trans t3).wide b).trans p2⟩
theorem ref17_SendM {b ln c:Nat} {FS:Nat→List Int} {l:List Snt} {ns:Nat→Option Nat} {D:Dev} {s:St} (h:Ln4 63 (b+5) ln c FS l ns s) (hA:RefAt b D s) (hD:D.ok) (hbl:b+5<ln) (hF:FOk FS) (hll:l.length≤100000) {fr:List Int} (hfo:OkB fr) (hfl:fr.length≤140737488350000) {tick tn:Int}
  {B:List Int} {D':Dev} (hs:sendF (takeQ FS tn) D fr=(B,D')) (hlen:D'.c0.length=D.c0.length) :
  ∃ S9 ns',ACalls Tryz.prog 25 [.ptr ln 0 0,.int .i64 tn,.int .i64 tick,.sl .unk (fr.map (PV.int .u8))] s (fun r s'=>r=.sl .unk (B.map (PV.int .u8))∧s'=S9)∧Ln4 63 (b+5) ln c (takeFS FS tn) (l++[(⟨tick,tn,fr⟩:Snt)]) ns' S9∧RefAt b D' S9∧Fr4 b (b+6) ln ns ns' s S9:=by
 have hc:=h.hc
 have hx:=h.nx
 have hq:=hF.q tn
 obtain ⟨xs,st,h1,h2,h3,h4⟩:=h.row
 obtain ⟨k0,kv,ev,S1,rfl,hap,h1l,n1,f1⟩:∃ (k0 kv:SK) (ev:List PV) (S1:St),st=.sl k0 (l.map Snt.pv)∧aAppend Tryz.prog 80 k0 (l.map Snt.pv) [Snt.pv (⟨tick,tn,fr⟩:Snt)] s=some (.sl kv ev,S1)∧S1.blk ln=s.blk ln∧Ln4 63 (b+5) ln c FS (l++[(⟨tick,tn,fr⟩:Snt)]) (upF ns 4 (match ns 4 with | some t=>some t | none=>some s.nxt)) (S1.set ln (some (lnR 63 (b+5) xs (.sl kv ev))))∧Fr4 0 0 ln ns (upF ns 4 (match ns 4 with | some t=>some t | none=>some s.nxt)) s (S1.set ln (some (lnR 63 (b+5) xs (.sl kv ev)))):=by
  have hown:=h.own 4
  revert h4 hown
  obtain ⟨n,hn⟩:∃ n,ns 4=n:=⟨_,rfl⟩
  rw [hn]
  intro h4 hown
  cases n with
  | none =>
    obtain ⟨rfl,hl0⟩:=h4
    have hl0:l=[]:=by simpa using hl0
    subst hl0
    refine ⟨.nil,.tok s.nxt 3,[(⟨tick,tn,fr⟩:Snt)].map Snt.pv,(s.new (.tok [(⟨tick,tn,fr⟩:Snt)].length)),rfl,aAppend_nilL (f:=Snt.pv) (ys:=[(⟨tick,tn,fr⟩:Snt)]) Y67 (by rw [Tryz.cz80]),blk_new_ne Y14,h.chS h1 (blk_set_self _ _ _) (n':=some s.nxt) ⟨rfl,?_,hx,Nat.lt_succ_self _⟩ (Nat.le_succ _) (fun j q1 q2 q3=>?_) (fun t' q=>?_)⟩
    ·rw [blk_set_ne Y14];exact blk_new_eq
    ·exact Y395
    ·exact Y398
  | some t =>
    obtain ⟨rfl,k2,k3,k4⟩:=h4
    rw [List.length_map] at k2
    refine ⟨.tok t 3,.tok t 3,(l++[(⟨tick,tn,fr⟩:Snt)]).map Snt.pv,(s.set t (some (.tok (l++[(⟨tick,tn,fr⟩:Snt)]).length))),rfl,aAppend_tokL (f:=Snt.pv) (xs:=l) (ys:=[(⟨tick,tn,fr⟩:Snt)]) rfl Y67 k2 rfl (by rw [Tryz.cz80]),blk_set_ne Y14,h.chS h1 (blk_set_self _ _ _) (n':=some t) ⟨rfl,?_,k3,k4⟩ (Nat.le_refl _) (fun j q1 q2 q3=>?_) (fun t' q=>?_)⟩
    ·exact Y284
    ·exact Y285
    ·cases q;exact .inl hn
 obtain ⟨m1,hm1⟩:∃ m,upF ns 4 (match ns 4 with | some t=>some t | none=>some s.nxt)=m:=⟨_,rfl⟩
 rw [hm1] at n1 f1
 have hA1:=hA.eq4 h hbl f1
 have hx1:=n1.nx
 obtain ⟨f,hfe⟩:∃ y,takeQ FS tn=y:=⟨_,rfl⟩
 have hcase:∃ S3 m3,((f=0∧S3=S1.set ln (some (lnR 63 (b+5) xs (.sl kv ev)))∧(¬ (0≤tn∧tn<4)∨∃ (k:SK) (T:Nat),tn=(T:Int)∧T<4∧xs[T]? =some (.sl k []))) ∨
   ∃ (T t:Nat) (L:List Int) (kw:SK) (ew:List PV) (S2:St),tn=(T:Int)∧T<4∧xs[T]? =some (.sl (.tok t 1) ((f::L).map (PV.int .i64)))∧L.length≤1000∧aAppend Tryz.prog 3 .clip [] (L.map (PV.int .i64)) (S1.set ln (some (lnR 63 (b+5) xs (.sl kv ev))))=some (.sl kw ew,S2)∧S2.blk ln=some (lnR 63 (b+5) xs (.sl kv ev))∧S3=S2.set ln (some (lnR 63 (b+5) (xs.set T (.sl kw ew)) (.sl kv ev)))) ∧
   (∃ xs3:List PV,xs3.length=4∧S3.blk ln=some (lnR 63 (b+5) xs3 (.sl kv ev)))∧Ln4 63 (b+5) ln c (takeFS FS tn) (l++[(⟨tick,tn,fr⟩:Snt)]) m3 S3∧Fr4 0 0 ln m1 m3 (S1.set ln (some (lnR 63 (b+5) xs (.sl kv ev)))) S3:=by
  unfold takeQ at hfe
  unfold takeFS
  by_cases g1:0≤tn∧tn<4
  case neg =>
   rw [if_neg g1] at hfe
   rw [if_neg g1]
   exact ⟨_,m1,.inl ⟨hfe.symm,rfl,.inl g1⟩,⟨xs,h2,blk_set_self _ _ _⟩,n1,Fr4.refl _ _ _ _ _⟩
  rw [if_pos g1] at hfe
  rw [if_pos g1]
  obtain ⟨T,rfl⟩:∃ T:Nat,tn=T:=⟨tn.toNat,Y14⟩
  have hT:T<4:=Y14
  have hl1:=(hF T).1
  have hfe:(FS T).headD 0=f:=hfe
  show ∃ S3 m3,_∧_∧Ln4 _ _ ln c (upF FS T (FS T).tail) _ m3 S3∧_
  obtain ⟨x,hxx,hk⟩:=h3 T hT
  cases hL:FS T with
  | nil =>
    rw [hL] at hk hfe
    obtain ⟨k,rfl⟩:=hk.sl
    refine ⟨_,m1,.inl ⟨hfe.symm,rfl,.inr ⟨k,T,rfl,hT,hxx⟩⟩,⟨xs,h2,blk_set_self _ _ _⟩,?_,Fr4.refl _ _ _ _ _⟩
    have e:upF FS T ([]:List Int).tail=FS:=by
     funext i
     by_cases e:i=T
     ·rw [e,upF_at,hL];rfl
     ·exact upF_ne e
    rw [e]
    exact n1
  | cons g L =>
    rw [hL] at hk hl1 hfe
    obtain rfl:g=f:=hfe
    cases hn:ns T with
    | none=>rw [hn] at hk;exact absurd hk.2 Y67
    | some t =>
      rw [hn] at hk
      obtain ⟨rfl,k2,k3,k4⟩:=hk
      show ∃ S3 m3,_∧_∧Ln4 _ _ ln c (upF FS T L) _ m3 S3∧_
      by_cases hL0:L=[]
      ·subst hL0
       obtain ⟨r1,r2⟩:=n1.chT (x':=.sl .clip []) (L':=[]) (n':=none) (s':=(S1.set ln (some (lnR 63 (b+5) xs (.sl kv ev)))).set ln (some (lnR 63 (b+5) (xs.set T (.sl .clip [])) (.sl kv ev)))) hT (blk_set_self _ _ _) (blk_set_self _ _ _) ⟨.inr rfl,rfl⟩ (Nat.le_refl _) (fun j q1 q2 q3=>blk_set_ne q2) (fun t' q=>by cases q)
       exact ⟨_,_,.inr ⟨T,t,[],.clip,[],_,rfl,hT,hxx,Y67,by unfold aAppend;exact if_pos rfl,blk_set_self _ _ _,rfl⟩,⟨_,by rw [List.length_set];exact h2,blk_set_self _ _ _⟩,r1,r2⟩
      ·obtain ⟨r1,r2⟩:=n1.chT (x':=.sl (.tok S1.nxt 1) (L.map (PV.int .i64))) (L':=L) (n':=some S1.nxt) (s':=((S1.set ln (some (lnR 63 (b+5) xs (.sl kv ev)))).new (.tok L.length)).set ln (some (lnR 63 (b+5) (xs.set T (.sl (.tok S1.nxt 1) (L.map (PV.int .i64)))) (.sl kv ev)))) hT (blk_set_self _ _ _) (blk_set_self _ _ _) ⟨rfl,by rw [blk_set_ne (show S1.nxt≠ln by have:c≤S1.nxt:=hx1;omega),List.length_map];exact blk_new_eq,hx1,Nat.lt_succ_self _⟩ (Nat.le_succ _) (fun j q1 q2 q3=>by rw [blk_set_ne q2,blk_new_ne Y14]) (fun t' q=>by cases q;exact .inr (Nat.le_refl _))
       exact ⟨_,_,.inr ⟨T,t,L,.tok S1.nxt 1,L.map (PV.int .i64),_,rfl,hT,hxx,by simp at hl1;omega,app_new (f:=PV.int .i64) (.inr rfl) hL0 (by rw [Tryz.cz3]),by rw [blk_new_ne (by have:c≤S1.nxt:=hx1;show ln≠S1.nxt;omega)];exact blk_set_self _ _ _,rfl⟩,⟨_,by rw [List.length_set];exact h2,blk_set_self _ _ _⟩,r1,r2⟩
 obtain ⟨S3,m3,hcase,hl3,n3,f3⟩:=hcase
 have hA3:=hA1.eq4 n1 hbl f3
 rw [hfe] at hs hq
 have hx3:=n3.nx
 have hc3:=n3.hc
 by_cases hO:f=3∧((rtuF fr).2=0∧(rtuF fr).1.1=17)∧(pduF D (rtuF fr).1.2).1≠[]∧(pduF D (rtuF fr).1.2).1.length≤253
 ·obtain ⟨q1,q2,q3,q4⟩:=hO
  have hs':sendF f D fr=(flipL (frameF (pduF D (rtuF fr).1.2).1),(pduF D (rtuF fr).1.2).2):=by
   unfold sendF
   rw [if_pos q2,q1]
   rfl
  rw [hs'] at hs
  obtain ⟨e1,e2⟩:=Prod.mk.inj hs
  obtain ⟨p1,p2⟩:=n3.putRef (D:=D') hbl
  have hkp:∀ j,j<S3.nxt→((sealS (17::(pduF D (rtuF fr).1.2).1) ((putRef b D' S3).new (.tok (17::(pduF D (rtuF fr).1.2).1).length))).set (S3.nxt+2) none).blk j=(putRef b D' S3).blk j:=fun j hj=>by
   unfold sealS
   rw [blk_set_ne Y14,blk_new_ne (by show j≠S3.nxt+2;omega),blk_set_ne (by show j≠S3.nxt+1;omega),blk_new_ne (by show j≠S3.nxt+1;omega),blk_new_ne (by show j≠S3.nxt;omega)]
  have hnx:S3.nxt≤((sealS (17::(pduF D (rtuF fr).1.2).1) ((putRef b D' S3).new (.tok (17::(pduF D (rtuF fr).1.2).1).length))).set (S3.nxt+2) none).nxt:=by show S3.nxt≤S3.nxt+1+1+1;omega
  have hA9:=hA3.put (D':=D') hlen
  refine ⟨_,m3,(ref17_SendO hq hfo hfl hll h2 h1 hD hap (h1l.trans h1) hcase hl3 hA3 q1 q2 q3 q4).mono fun y s' ⟨z1,z2⟩=>⟨by rw [z1,hs',e1],by rw [z2,e2]⟩,p1.keep hnx fun j hj _=>hkp j hj,?_,?_⟩
  ·have e:∀ j,b≤j→j≤b+5→_:=fun j h1 h2=>hkp j Y14
   exact ⟨by rw [e _ Y14 Y14];exact hA9.st,by rw [e _ Y14 Y14];exact hA9.c0,by rw [e _ Y14 Y14];exact hA9.c1,by rw [e _ Y14 Y14];exact hA9.v0,by rw [e _ Y14 Y14];exact hA9.v1,by rw [e _ Y14 Y14];exact hA9.dv⟩
  ·refine ((f1.trans f3).wide b).trans (p2.trans ⟨hnx,fun j w1 _ _ _=>hkp j w1,fun i t h=>.inl ⟨i,h⟩⟩)
 ·have hv:f=3→(rtuF fr).2=0→(rtuF fr).1.1=17→frameF (pduF D (rtuF fr).1.2).1=[]:=fun q1 q2 q3=>by
   by_cases q4:(pduF D (rtuF fr).1.2).1=[]
   ·rw [q4];rfl
   ·have q5:¬ (pduF D (rtuF fr).1.2).1.length≤253:=fun q5=>hO ⟨q1,⟨q2,q3⟩,q4,q5⟩
    unfold frameF frameA
    rw [if_neg Y15,if_neg q4,if_pos Y14]
  obtain ⟨p1,p2⟩:=n3.putRef (D:=D') hbl
  have e1:(sendF f D fr).1=B:=by rw [hs]
  have e2:(sendF f D fr).2=D':=by rw [hs]
  exact ⟨_,m3,(ref17_SendW hq hfo hfl hll h2 h1 hD hap (h1l.trans h1) hcase hl3 hA3 hv).mono fun y s' ⟨z1,z2⟩=>⟨by rw [z1,e1],by rw [z2,e2]⟩,p1,hA3.put hlen,((f1.trans f3).wide b).trans p2⟩
end Go.Proofs
namespace Go.Proofs
open Go.PM
set_option maxHeartbeats 2000000
theorem DevAt.eqv5 {b:Nat} {D:Dev} {s s':St} (h:DevAt b D s) (e:∀ j,b≤j→j≤b+5→s'.blk j=s.blk j):DevAt b D s' :=
 ⟨Y336,Y337,Y338,Y339,Y340,Y341⟩
theorem RefAt.eqv5 {b:Nat} {D:Dev} {s s':St} (h:RefAt b D s) (e:∀ j,b≤j→j≤b+5→s'.blk j=s.blk j):RefAt b D s' :=
 ⟨Y336,Y337,Y338,Y339,Y340,Y341⟩
structure L2 (s0:St) (DA DW:Dev) (FA FW:Nat→List Int) (lA lW:List Snt) (nA nW:Nat→Option Nat) (S:St):Prop where
 A:Ln4 74 (s0.nxt+5) (s0.nxt+6) (s0.nxt+14) FA lA nA S
 W:Ln4 63 (s0.nxt+7+5) (s0.nxt+13) (s0.nxt+14) FW lW nW S
 dA:DevAt s0.nxt DA S
 dW:RefAt (s0.nxt+7) DW S
 dj:∀ i j t,nA i=some t→nW j≠some t
 low:∀ j,j<s0.nxt→S.blk j=s0.blk j
theorem L2.opA {s0 S S':St} {DA DA' DW:Dev} {FA FA' FW:Nat→List Int} {lA lA' lW:List Snt} {nA nA' nW:Nat→Option Nat} (h:L2 s0 DA DW FA FW lA lW nA nW S) (hA:Ln4 74 (s0.nxt+5) (s0.nxt+6) (s0.nxt+14) FA' lA' nA' S') (hd:DevAt s0.nxt DA' S') (f:Fr4 s0.nxt (s0.nxt+6) (s0.nxt+6) nA nA' S S'):L2 s0 DA' DW FA' FW lA' lW nA' nW S':=by
 have hx:=h.A.nx
 have own:∀ j,j<s0.nxt+14→∀ i,nA i≠some j:=fun j hj i hi=>by have:=(h.A.own i j hi).1;omega
 refine ⟨hA,h.W.keep f.nx fun j hj hc=>?_,hd,h.dW.eqv5 fun j h1 h2=>f.same j Y14 Y14 Y14 (own j Y14),fun i j t h1 h2=>?_,fun j hj=>?_⟩
 ·rcases hc with rfl | ⟨i,hi⟩
  ·exact f.same _ hj Y14 Y14 (own _ Y14)
  ·have:=(h.W.own i j hi).1
   exact f.same _ hj Y14 Y14 fun k hk=>h.dj k i j hk hi
 ·rcases f.new i t h1 with ⟨i',h'⟩ | h'
  ·exact h.dj i' j t h' h2
  ·have:=(h.W.own j t h2).2;omega
 ·rw [f.same j Y14 Y14 Y14 (own j Y14)];exact h.low j hj
theorem L2.opW {s0 S S':St} {DA DW DW':Dev} {FA FW FW':Nat→List Int} {lA lW lW':List Snt} {nA nW nW':Nat→Option Nat} (h:L2 s0 DA DW FA FW lA lW nA nW S) (hW:Ln4 63 (s0.nxt+7+5) (s0.nxt+13) (s0.nxt+14) FW' lW' nW' S') (hd:RefAt (s0.nxt+7) DW' S') (f:Fr4 (s0.nxt+7) (s0.nxt+7+6) (s0.nxt+13) nW nW' S S'):L2 s0 DA DW' FA FW' lA lW' nA nW' S':=by
 have hx:=h.W.nx
 have own:∀ j,j<s0.nxt+14→∀ i,nW i≠some j:=fun j hj i hi=>by have:=(h.W.own i j hi).1;omega
 refine ⟨h.A.keep f.nx fun j hj hc=>?_,hW,h.dA.eqv5 fun j h1 h2=>f.same j Y14 Y14 Y14 (own j Y14),hd,fun i j t h1 h2=>?_,fun j hj=>?_⟩
 ·rcases hc with rfl | ⟨i,hi⟩
  ·exact f.same _ hj Y14 Y14 (own _ Y14)
  ·have:=(h.A.own i j hi).1
   exact f.same _ hj Y14 Y14 fun k hk=>h.dj i k j hi hk
 ·rcases f.new j t h2 with ⟨i',h'⟩ | h'
  ·exact h.dj i i' t h1 h'
  ·have:=(h.A.own i t h1).2;omega
 ·rw [f.same j Y14 Y14 Y14 (own j Y14)];exact h.low j hj
theorem L2.keep {s0 S S':St} {DA DW:Dev} {FA FW:Nat→List Int} {lA lW:List Snt} {nA nW:Nat→Option Nat} (h:L2 s0 DA DW FA FW lA lW nA nW S) (hn:S.nxt≤S'.nxt) (e:∀ j,j<S.nxt→(j<s0.nxt+14∨(∃ i,nA i=some j)∨∃ i,nW i=some j)→S'.blk j=S.blk j):L2 s0 DA DW FA FW lA lW nA nW S':=by
 have hx:=h.A.nx
 exact ⟨h.A.keep hn fun j hj hc=>e j hj (hc.elim (fun q=>.inl Y14) fun q=>.inr (.inl q)),h.W.keep hn fun j hj hc=>e j hj (hc.elim (fun q=>.inl Y14) fun q=>.inr (.inr q)),h.dA.eqv5 fun j h1 h2=>e j Y14 (.inl Y14),h.dW.eqv5 fun j h1 h2=>e j Y14 (.inl Y14),h.dj,fun j hj=>by rw [e j Y14 (.inl Y14)];exact h.low j hj⟩
theorem L2.nw {s0 S:St} {DA DW:Dev} {FA FW:Nat→List Int} {lA lW:List Snt} {nA nW:Nat→Option Nat} (h:L2 s0 DA DW FA FW lA lW nA nW S) (x:Blk):L2 s0 DA DW FA FW lA lW nA nW (S.new x) :=
 h.keep (Nat.le_succ _) fun j hj _=>blk_new_ne Y14
theorem L2.frA {s0 S S':St} {DA DW:Dev} {FA FW:Nat→List Int} {lA lW:List Snt} {nA nA' nW:Nat→Option Nat} (h:L2 s0 DA DW FA FW lA lW nA nW S) (f:Fr4 s0.nxt (s0.nxt+6) (s0.nxt+6) nA nA' S S') {j t:Nat} {vs:List PV} (hj:S.blk j=some (.row t vs)) (h1:s0.nxt+14≤j) (h2:j<S.nxt):S'.blk j=some (.row t vs):=by
 rw [f.same j h2 Y14 Y14 fun i hi=>?_];exact hj
 exact absurd hj (h.A.notrow hi)
theorem L2.frW {s0 S S':St} {DA DW:Dev} {FA FW:Nat→List Int} {lA lW:List Snt} {nA nW nW':Nat→Option Nat} (h:L2 s0 DA DW FA FW lA lW nA nW S) (f:Fr4 (s0.nxt+7) (s0.nxt+7+6) (s0.nxt+13) nW nW' S S') {j t:Nat} {vs:List PV} (hj:S.blk j=some (.row t vs)) (h1:s0.nxt+14≤j) (h2:j<S.nxt):S'.blk j=some (.row t vs):=by
 rw [f.same j h2 Y14 Y14 fun i hi=>?_];exact hj
 exact absurd hj (h.W.notrow hi)
end Go.Proofs
namespace Go.Proofs
open Go.PM
set_option maxHeartbeats 2000000
theorem line_DevM {d ln c:Nat} {FS:Nat→List Int} {l:List Snt} {ns:Nat→Option Nat} {s:St} (h:Ln4 74 d ln c FS l ns s):ACalls Tryz.prog 22 [.ptr ln 0 0] s (fun r s'=>r=.ptr d 0 0∧s'=s):=by
 obtain ⟨xs,st,h1,h2,_⟩:=h.row
 match xs,h2,h1 with
 | [a0,a1,a2,a3],_,h1=>exact line_Device (a0:=a0) (a1:=a1) (a2:=a2) (a3:=a3) (st:=st) h1
theorem line_SentM {d ln c:Nat} {FS:Nat→List Int} {l:List Snt} {ns:Nat→Option Nat} {s:St} (h:Ln4 74 d ln c FS l ns s) (hll:l.length≤100000) (hld:∀ x∈l,x.data.length≤140737488350000):ACalls Tryz.prog 28 [.ptr ln 0 0] s (fun r s'=>r=.sl .unk (l.map Snt.pv)∧s'=s):=by
 obtain ⟨xs,st,h1,h2,_,h4⟩:=h.row
 obtain ⟨k,rfl⟩:∃ k,st=.sl k (l.map Snt.pv):=by
  cases hn:ns 4 with
  | none=>rw [hn] at h4;exact ⟨_,by rw [h4.1,h4.2]⟩
  | some t=>rw [hn] at h4;exact ⟨_,h4.1⟩
 match xs,h2,h1 with
 | [a0,a1,a2,a3],_,h1=>exact line_Sent hll hld (a0:=a0) (a1:=a1) (a2:=a2) (a3:=a3) h1
theorem sendF_okG {D:Dev} (hD:D.ok) {f:Int} {fr:List Int} (hf:OkB fr):(sendF f D fr).2.ok∧(sendF f D fr).2.c0.length=D.c0.length:=by
 unfold sendF
 split
 ·rename_i h
  have:=rtu_pdu h.1
  have hp:=pduF_ok hD (rtu_ok hf) (l:=(rtuF fr).1.2) Y14
  unfold lineF
  split
  ·exact hp
  split
  ·exact ⟨hD,rfl⟩
  split
  ·exact hp
  split
  ·exact hp
  ·exact ⟨hD,rfl⟩
 ·exact ⟨hD,rfl⟩
theorem frameA_okG {a:Int} {b:List Int} (h:OkB b):OkB (frameA a b).1∧(frameA a b).1.length≤140737488350000:=by
 unfold frameA
 split
 ·exact ⟨OkB.nil,Y67⟩
 split
 ·exact ⟨OkB.nil,Y67⟩
 split
 ·exact ⟨OkB.nil,Y67⟩
 ·exact ⟨sealB_ok (OkB.cons Y194 h),by simp only [sealB_len,List.length_cons];omega⟩
theorem bytesF_okM {q:Req} (hq:q.ok):OkB (bytesF q):=by
 unfold bytesF
 split
 ·rename_i h;exact writeF_ok hq h
 ·exact OkB.nil
theorem leftF_row {FS:Nat→List Int} {k:Int} (h:0≤k∧k<4):leftF FS k=(FS k.toNat).length:=if_pos h
end Go.Proofs

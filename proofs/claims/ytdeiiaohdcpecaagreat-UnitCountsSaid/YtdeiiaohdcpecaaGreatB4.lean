import Derived.Test.YtdeiiaohdcpecaaGreatB3
import Derived.Test.YtdeiiaohdcpecaaGreatB1
import Derived.Test.YtdeiiaohdcpecaaGreatB2
set_option linter.unusedVariables false
set_option linter.unusedSimpArgs false
namespace Go.Proofs
open Go.PM
set_option maxHeartbeats 2000000
structure QAt (s0:St) (tp:Nat) (T:Tp) (q:List PV) (S:St):Prop where
 nx:s0.nxt+2≤S.nxt
 tape:S.blk tp=some (.row 67 [T.pv])
 zero:S.blk s0.nxt=some (.row 47 [.agg [.int .i64 (0),.int .i64 (0),.int .i64 (0),.int .i64 (0),.int .i64 (0),.sl .nil [],.sl .nil [],.int .u16 (0),.int .u16 (0)]])
 row:S.blk (s0.nxt+1)=some (.row 47 [.agg q])
 rest:∀ j,j<s0.nxt→j≠tp→S.blk j=s0.blk j
theorem QAt.first {s0:St} {tp:Nat} {T:Tp} {q:List PV} {a:Option Blk} (h:tp<s0.nxt) {x:Blk}:QAt s0 tp T q ((((((s0.new (.row 47 [.agg [.int .i64 (0),.int .i64 (0),.int .i64 (0),.int .i64 (0),.int .i64 (0),.sl .nil [],.sl .nil [],.int .u16 (0),.int .u16 (0)]])).set tp a).new x).set (s0.nxt+1) (some (.row 47 [.agg q]))).set tp (some (.row 67 [T.pv])))):=by
 refine ⟨Nat.le_refl _,blk_set_self _ _ _,?_,?_,fun j hj hne=>?_⟩
 ·simp (disch:=first | omega |(simp only [nxt_set,nxt_new]<;>omega)) only [blk_set_ne,blk_new_ne,blk_new_eq]
 ·simp (disch:=first | omega |(simp only [nxt_set,nxt_new]<;>omega)) only [blk_set_ne,blk_new_ne,blk_set_self]
 ·simp (disch:=first | omega |(simp only [nxt_set,nxt_new]<;>omega)) only [blk_set_ne,blk_new_ne]
theorem Y327 {p:Prop} (h:p:=by rw [blk_set_ne Y21];exact h.zero):p:=h
theorem QAt.tp' {s0:St} {tp:Nat} {T T':Tp} {q:List PV} {S:St} (h:QAt s0 tp T q S) (hl:tp<s0.nxt):QAt s0 tp T' q (S.set tp (some (.row 67 [T'.pv]))) :=
 ⟨h.nx,blk_set_self _ _ _,Y327,by rw [blk_set_ne Y21];exact h.row,fun j hj hne=>by rw [blk_set_ne hne];exact h.rest j hj hne⟩
theorem QAt.rw' {s0:St} {tp:Nat} {T:Tp} {q q':List PV} {S:St} (h:QAt s0 tp T q S) (hl:tp<s0.nxt):QAt s0 tp T q' (S.set (s0.nxt+1) (some (.row 47 [.agg q']))) :=
 ⟨h.nx,by rw [blk_set_ne Y21];exact h.tape,Y327,blk_set_self _ _ _,fun j hj hne=>by rw [blk_set_ne Y21];exact h.rest j hj hne⟩
theorem QAt.nw {s0:St} {tp:Nat} {T:Tp} {q:List PV} {S:St} (h:QAt s0 tp T q S) (hl:tp<s0.nxt) (x:Blk):QAt s0 tp T q (S.new x):=by
 have:=h.nx
 exact ⟨Nat.le_succ_of_le h.nx,by rw [blk_new_ne Y21];exact h.tape,by rw [blk_new_ne Y21];exact h.zero,by rw [blk_new_ne Y21];exact h.row,fun j hj hne=>by rw [blk_new_ne Y21];exact h.rest j hj hne⟩
theorem QAt.tk {s0:St} {tp:Nat} {T:Tp} {q:List PV} {S:St} (h:QAt s0 tp T q S) (hl:tp<s0.nxt) {i:Nat} (hi:s0.nxt+2≤i) (x:Option Blk):QAt s0 tp T q (S.set i x) :=
 ⟨h.nx,by rw [blk_set_ne Y21];exact h.tape,Y327,by rw [blk_set_ne Y21];exact h.row,fun j hj hne=>by rw [blk_set_ne Y21];exact h.rest j hj hne⟩
theorem aAppend_nilL {P:Program} {e:TypeId} {α:Type} {f:α→PV} {ys:List α} {s:St} {z:Nat} (hy:ys≠[]) (hc:P.cellsOf e=z) :
  aAppend P e .nil [] (ys.map f) s=some (.sl (.tok s.nxt z) (ys.map f),s.new (.tok ys.length)):=by
 subst hc
 unfold aAppend
 rw [if_neg (by simpa using hy)]
 simp
def fnL:List Int:=[1,2,3,4,5,6,8,15,16,17,22,23]
def subL:List Int:=[0,10,11,12,13,14,2,300]
def vL:List Int:=[0,0,0,777]
theorem Y209 {p:Prop} (h:p:=by rw [List.getElem?_map,List.getElem?_eq_getElem this];rfl):p:=h
theorem fnL_get {u:Nat} (h:u≤11):∃ f,(fnL.map (PV.int .i64))[u]? =some (.int .i64 f)∧f∈fnL:=by
 have:u<fnL.length:=by show u<12;omega
 exact ⟨fnL[u],Y209,List.getElem_mem _⟩
theorem subL_get {u:Nat} (h:u≤7):∃ f,(subL.map (PV.int .i64))[u]? =some (.int .i64 f)∧U16 f:=by
 have:u<subL.length:=by show u<8;omega
 refine ⟨subL[u],Y209,?_⟩
 have h:∀ x∈subL,U16 x:=by unfold U16;decide
 exact h _ (List.getElem_mem _)
theorem vL_get {u:Nat} (h:u≤3):∃ f,(vL.map (PV.int .u16))[u]? =some (.int .u16 f)∧U16 f:=by
 have:u<vL.length:=by show u<4;omega
 refine ⟨vL[u],Y209,?_⟩
 have h:∀ x∈vL,U16 x:=by unfold U16;decide
 exact h _ (List.getElem_mem _)
theorem right5 {A:Int} (hA:0≤A∧A≤65535) (b:Bool):rightF ⟨5,A,0,0,0,[b],[],0,0⟩=0 :=
 right_of ⟨by show hasF 5=true;decide,decide_eq_true Y23,decide_eq_true hA,Y49,Y49,Y49,rfl,rfl,by show 1≤_;decide,Y78⟩
theorem right6 {A:Int} (hA:0≤A∧A≤65535) (v:Int):rightF ⟨6,A,0,0,0,[],[v],0,0⟩=0 :=
 right_of ⟨by show hasF 6=true;decide,decide_eq_true Y23,decide_eq_true hA,Y49,Y49,Y49,rfl,rfl,Y78,by show 1≤_;decide⟩
theorem right8 {A:Int} (hA:0≤A∧A≤65535) (v:Int):rightF ⟨8,0,0,0,A,[],[v],0,0⟩=0 :=
 right_of ⟨by show hasF 8=true;decide,decide_eq_true Y23,Y49,Y49,decide_eq_true hA,Y49,rfl,rfl,Y78,by show 1≤_;decide⟩
theorem right17:rightF ⟨17,0,0,0,0,[],[],0,0⟩=0:=Y22
theorem right23 {A C B:Int} {W:List Int} (hA:0≤A∧A≤65535) (hC:0≤C∧C≤65535) (hB:0≤B∧B≤65535) (hl:W.length≤127):rightF ⟨23,A,C,B,0,[],W,0,0⟩=0 :=
 right_of ⟨by show hasF 23=true;decide,decide_eq_true Y23,decide_eq_true hA,decide_eq_true hB,Y49,decide_eq_true hC,rfl,rfl,Y78,hl⟩
theorem req_okT {q:Req} (h1:0≤q.fn∧q.fn≤255) (h2:U16 q.at_) (h3:U16 q.count) (h4:U16 q.wat) (h5:U16 q.sub) (h6:OkW q.vals) (h7:U16 q.and_) (h8:U16 q.or_) (h9:q.bits.length≤2000) (h10:q.vals.length≤2000):q.ok:=by
 have lt:∀ {z:Int},U16 z→I64 z:=fun h=>by unfold U16 at h;constructor<;>omega
 exact ⟨Y77,lt h2,lt h3,lt h4,lt h5,h6,h7,h8,Y21,Y21⟩
theorem keep_Functions {s:St}:ACalls Tryz.prog 46 [] s (fun r s'=>r=.sl .unk (fnL.map (PV.int .i64))∧s'=s):=by
 refine go Tryz.func46 (k:=fun hwf H=>?_)
 refine rs (k:=rg [] (k:=rs (k:=rr (k:=rO (k:=rh [0] (k:=rR (k:=rP (by simp only [Tryz.f46,go_sem];rfl) hwf ⟨?_,rfl⟩)))))))
 rfl
attribute [local go_sem] weaks_bools set_set
theorem Y50 {p:Prop} (h:p:=by simp only [decide_eq_true_eq,decide_eq_false_iff_not] at *;omega):p:=h
theorem Y51 {p:Prop} (h:p:=by dsimp only;first | omega |(simp;done) |(simp<;>omega) |(simp at hr1 ⊢;omega)):p:=h
theorem Y52 {p:Prop} (h:p:=by repeat' first | assumption | omega | apply QAt.rw' | apply QAt.tp' | apply QAt.nw | apply QAt.tk):p:=h
theorem Y158 {p:Prop} (h:p:=by rw [Tryz.cz39];first | done | rfl):p:=h
theorem Y53 {p:Prop} (h:p:=by first | exact isEls_map (P:=Tryz.prog) (e:=39) (f:=(PV.int .u16)) (fun a=>⟨rfl,Y158⟩) _ |(intro p hp;cases hp)):p:=h
theorem Y100 {p:Prop} (h:p:=by simp (disch:=first | omega |(simp only [nxt_set,nxt_new]<;>omega)) only [blk_set_ne,blk_new_eq,nxt_set]<;>first | rfl | exact blk_new_eq):p:=h
theorem Y101 {p:Prop} (h:p:=by intro q hq;rw [List.mem_singleton.1 hq];simp only;rw [← hy6];exact tape_Next hT3 hQ3.tape):p:=h
theorem Y160 {p:Prop} (h:p:=by rw [Tryz.cz4];first | done | rfl):p:=h
theorem Y159 {p:Prop} (h:p:=by first | exact isEls_map (P:=Tryz.prog) (e:=4) (f:=PV.bool) (fun a=>⟨rfl,Y160⟩) _ |(intro p hp;cases hp)):p:=h
theorem Y161 {p:Prop} (h:p:=by intro q hq;rw [List.mem_singleton.1 hq];exact aAppend_tokL (f:=(PV.int .u16)) (xs:=L) (ys:=[y6]) rfl Y23 (by rw [blk_set_ne Y21];exact htb) rfl (by rw [Tryz.cz39])):p:=h
theorem Y210 {p:Prop} (h:p:=by simp only [Blk.blw,PV.blws];exact ⟨blw_tape _ _,trivial⟩):p:=h
theorem Y211 {p:Prop} (h:p:=by rw [u16_wrap];omega):p:=h
theorem Y212 {p:Prop} (h:p:=by simp at hr1 ⊢<;>omega):p:=h
theorem Y213 {p:Prop} (h:p:=by rw [Tryz.by39];simp<;>omega):p:=h
theorem Y214 {p:Prop} (h:p:=by intro q hq;rw [List.mem_singleton.1 hq];exact aAppend_nilL (f:=(PV.int .u16)) (ys:=[y6]) Y23 (by rw [Tryz.cz39])):p:=h
theorem Y215 {p:Prop} (h:p:=by intro y hy;rcases List.mem_append.1 hy with hy | hy;exact hLo y hy;rw [List.mem_singleton.1 hy];exact ⟨Y21,Y21⟩):p:=h
theorem Y265 {p:Prop} (h:p:=by intro q hq;rw [List.mem_singleton.1 hq];simp only;rw [← hy2];exact tape_Next hT3 hQ3.tape):p:=h
theorem Y328 {p:Prop} (h:p:=by rw [blk_set_ne Y21,blk_set_self]):p:=h
theorem Y329 {p:Prop} (h:p:=by intro y hy;rw [List.mem_singleton.1 hy];exact ⟨Y21,Y21⟩):p:=h
set_option maxRecDepth 100000 in
theorem tape_RequestL {T:Tp} (hT:T.ok) {s:St} {tp:Nat} (hb:s.blk tp=some (.row 67 [T.pv])):ACalls Tryz.prog 21 [.ptr tp 0 0] s (fun r s'=>∃ (q:Req) (T':Tp),r=q.pv∧s'=s.set tp (some (.row 67 [T'.pv]))∧T'.ok∧q.ok∧rightF q=0∧q.bits.length≤30∧q.vals.length≤30):=by
 refine go Tryz.func21 (k:=fun hwf H=>?_)
 have hlt:tp<s.nxt:=lt_blk hwf hb
 have hFt:(s.nxt=tp)=False:=eq_false Y21
 have htF:(tp=s.nxt)=False:=eq_false Y21
 have hRt:(s.nxt+1=tp)=False:=eq_false Y21
 have htR:(tp=s.nxt+1)=False:=eq_false Y21
 have zU:U16 0:=Y24
 have zW:OkW []:=fun x hx=>(List.not_mem_nil hx).elim
 have hv12:=T.val_bound (n:=12) Y22
 obtain ⟨u,hu,hue⟩:=T.val_nat (n:=12) Y22
 have hue:T.val 12=(u:Int):=hue
 obtain ⟨f,hfu,hfm⟩:=fnL_get (u:=u) Y21
 have hflen:(u<12)=True:=eq_true Y21
 have H:=aj hFt (aj htF (aj hRt (aj htR H)))
 refine rs (k:=rg [0,2] (k:=rs (k:=?_)))
 have H:=aj hue (aj hfu (aj hflen H))
 refine rr (k:=rC (h:=keep_Functions) (k:=ro (pre:=[_]) (k:=?_)))
 refine RunO.callw au au au Y26 ((tape_Next hT (n:=12) (by simp only [go_sem,htF,↓reduceIte];exact hb)).mono ?_)
 rintro r s9 ⟨rfl,hs⟩
 subst s9
 refine rh [0,2,3] (k:=rs (k:=rr (k:=ro (pre:=[_]) (k:=?_))))
 refine RunO.callw au au au Y26 ((tape_Next (hT.nx 12) (n:=70) (by simp only [go_sem,htR,htF,↓reduceIte])).mono ?_)
 rintro r s9 ⟨rfl,hs⟩
 subst s9
 refine rh [0,2,3,4] (k:=rs (k:=rs (k:=?_)))
 refine Run.genS fun S hS=>?_
 obtain ⟨T2,hT2e⟩:∃ y,(T.nx 12).nx 70=y:=⟨_,rfl⟩
 have hT2:T2.ok:=by rw [← hT2e];exact (hT.nx 12).nx 70
 have hab:=(T.nx 12).val_bound (n:=70) Y22
 obtain ⟨a,ha⟩:∃ y,(T.nx 12).val 70=y:=⟨_,rfl⟩
 rw [ha] at hab
 rw [ha]
 have hU:U16 a:=⟨Y21,Y21⟩
 have hQ:QAt s tp T2 [.int .i64 (f),.int .i64 (0),.int .i64 (0),.int .i64 (0),.int .i64 (0),.sl .nil [],.sl .nil [],.int .u16 (0),.int .u16 (0)] S:=by rw [hS,← hT2e];exact QAt.first hlt
 have hQr:=hQ.row
 have hQz:=hQ.zero
 clear hS
 have H:=aj hQr (aj hQz H)
 refine rg [0,2,3,4,17] (k:=?_)
 refine Run.join (fun e s'=>∃ (T':Tp) (q:Req) (kb kv:SK),e=[(2,.ptr s.nxt 0 0),(3,.ptr (s.nxt+1) 0 0)]∧T'.ok∧q.ok∧(rightF q=0∧q.bits.length≤30∧q.vals.length≤30)∧QAt s tp T' [.int .i64 q.fn,.int .i64 q.at_,.int .i64 q.count,.int .i64 q.wat,.int .i64 q.sub,.sl kb (q.bits.map PV.bool),.sl kv (q.vals.map (PV.int .u16)),.int .u16 q.and_,.int .u16 q.or_] s') ?_ ?_
 ·rintro e SJ ⟨TJ,q,kb,kv,rfl,hTJ,hq,hr,hQJ⟩
  have hJr:=hQJ.row
  have hJz:=hQJ.zero
  have H:=aj hJr (aj hJz H)
  refine rs (k:=rg [2] (k:=rR (k:=?_)))
  refine Ret.baseK (r':=q.pv) tp (.row 67 [TJ.pv]) hlt (by simp only [Tryz.f21,go_sem,↓reduceIte]<;>rfl) (by simp only [Req.pv,PV.weak,PV.weaks,weaks_bools,weaks_u16]) (blw_req _ _) Y210 hwf (fun i hi=>?_) ⟨q,TJ,rfl,rfl,hTJ,hq,hr⟩
  rw [blk_set_ne Y21,blk_set]
  split
  ·rename_i e;rw [e];exact hQJ.tape
  ·rename_i e;exact hQJ.rest i hi e
 intro hJb0
 refine rb (k:=rs (k:=rs (k:=rg [0,2,3,4,17,18] (k:=rc (ht:=fun hc0=>?_) (hf:=fun hc0=>?_)))))
 refine rk (k:=rc (ht:=fun hc3=>?_) (hf:=fun hc3=>?_))
 refine jO 1 ?_;rotate_left
 ·exact Y316
 refine rs (k:=rg [0,2,3,4,17,18] (k:=rc (ht:=fun hc1=>?_) (hf:=fun hc1=>?_)))
 refine rk (k:=rc (ht:=fun hc3=>?_) (hf:=fun hc3=>?_))
 refine jO 1 ?_;rotate_left
 ·exact Y317
 refine rs (k:=rg [0,2,3,4,17,18] (k:=rc (ht:=fun hc2=>?_) (hf:=fun hc2=>?_)))
 refine rk (k:=rc (ht:=fun hc3=>?_) (hf:=fun hc3=>?_))
 refine jO 1 ?_;rotate_left
 ·exact Y146
 refine rg [0,2,3,4,17,18] (k:=rc (ht:=fun hc3=>?_) (hf:=fun hc3=>?_))
 refine jO 1 ?_;rotate_left
 ·refine rs (k:=rg [0,2,3,4,17,28] (k:=rc (ht:=fun hc4=>?_) (hf:=fun hc4=>?_)))
  ·have hy2b:=(T2).val_bound (n:=2) Y22
   obtain ⟨y2,hy2⟩:∃ y,(T2).val 2=y:=⟨_,rfl⟩
   rw [hy2] at hy2b
   have H:=aj hy2 H
   refine rr (k:=ro (pre:=[_,_]) (k:=?_))
   refine RunO.callw au au au Y26 ((tape_Next hT2 (n:=2) hQ.tape).mono ?_)
   rintro r s9 ⟨rfl,hs⟩
   subst s9
   refine ro (pre:=[_]) (k:=rO (k:=rh [2,3] (k:=rB (k:=?_))))
   have hf5:f=5:=Y50
   subst hf5
   exact hJb0 _ _ ⟨T2.nx 2,⟨5,a,0,0,0,[decide (y2=1)],[],0,0⟩,.clip,.nil,rfl,hT2.nx 2,(req_okT Y23 hU zU zU zU zW zU zU Y23 Y23),⟨(right5 Y21 _),Y51,Y51⟩,Y52⟩
  ·refine rs (k:=rg [0,2,3,4,17,37] (k:=rc (ht:=fun hc5=>?_) (hf:=fun hc5=>?_)))
   ·have hy6b:=(T2).val_bound (n:=65536) Y22
    obtain ⟨y6,hy6⟩:∃ y,(T2).val 65536=y:=⟨_,rfl⟩
    rw [hy6] at hy6b
    have hw6:IntKind.u16.wrap y6=y6:=Y211
    have H:=aj hy6 (aj hw6 H)
    refine rr (k:=ro (pre:=[_,_]) (k:=?_))
    refine RunO.callw au au au Y26 ((tape_Next hT2 (n:=65536) hQ.tape).mono ?_)
    rintro r s9 ⟨rfl,hs⟩
    subst s9
    refine ro (pre:=[_]) (k:=rO (k:=rh [2,3] (k:=rB (k:=?_))))
    have hf5:f=6:=Y50
    subst hf5
    exact hJb0 _ _ ⟨T2.nx 65536,⟨6,a,0,0,0,[],[y6],0,0⟩,.nil,.clip,rfl,hT2.nx 65536,(req_okT Y23 hU zU zU zU (OkW.one (show U16 y6 from ⟨Y21,Y21⟩)) zU zU Y23 Y23),⟨(right6 Y21 _),Y51,Y51⟩,Y52⟩
   ·refine rs (k:=rg [0,2,3,4,17,46] (k:=rc (ht:=fun hc6=>?_) (hf:=fun hc6=>?_)))
    ·obtain ⟨x8,hx8,hx8e⟩:=T2.val_nat (n:=8) Y22
     have hx8e:T2.val 8=(x8:Int):=hx8e
     obtain ⟨sb,hsb,hsbU⟩:=subL_get (u:=x8) Y21
     obtain ⟨x4,hx4,hx4e⟩:=(T2.nx 8).val_nat (n:=4) Y22
     have hx4e:(T2.nx 8).val 4=(x4:Int):=hx4e
     obtain ⟨vv,hvv,hvvU⟩:=vL_get (u:=x4) Y21
     have hl8:(x8<8)=True:=eq_true Y21
     have hl4:(x4<4)=True:=eq_true Y21
     simp only [subL,vL,List.map_cons,List.map_nil] at hsb hvv
     have H:=aj hx8e (aj hsb (aj hx4e (aj hvv (aj hl8 (aj hl4 H)))))
     refine rH 15 [2,7,12,14] [[false,false,false,false],[true,false,false,false],[true,true,false,false],[true,true,true,false],[true,true,true,true]] [S,(S.set tp (some (.row 67 [(T2.nx 8).pv]))),((S.set tp (some (.row 67 [(T2.nx 8).pv]))).set tp (some (.row 67 [((T2.nx 8).nx 4).pv]))),(((S.set tp (some (.row 67 [(T2.nx 8).pv]))).set tp (some (.row 67 [((T2.nx 8).nx 4).pv]))).set (s.nxt+1) (some (.row 47 [.agg [.int .i64 (f),.int .i64 (0),.int .i64 (0),.int .i64 (0),.int .i64 (sb),.sl .nil [],.sl .nil [],.int .u16 (0),.int .u16 (0)]]))),((((S.set tp (some (.row 67 [(T2.nx 8).pv]))).set tp (some (.row 67 [((T2.nx 8).nx 4).pv]))).set (s.nxt+1) (some (.row 47 [.agg [.int .i64 (f),.int .i64 (0),.int .i64 (0),.int .i64 (0),.int .i64 (sb),.sl .nil [],.sl .nil [],.int .u16 (0),.int .u16 (0)]]))).set (s.nxt+1) (some (.row 47 [.agg [.int .i64 (f),.int .i64 (0),.int .i64 (0),.int .i64 (0),.int .i64 (sb),.sl .nil [],.sl .clip [.int .u16 vv],.int .u16 (0),.int .u16 (0)]])))] Tryz.mixed (k:=?_)
     refine dP [0,1,2] (pre:=[_,_]) (k:=?_)
     refine dX (v:=.int .i64 x8) [(0,1)] (h:=by intro q hq;rw [List.mem_singleton.1 hq];simp only;rw [← hx8e];exact tape_Next hT2 hQ.tape) (k:=?_)
     refine dP [0,1,2,3] (pre:=[_,_,_,_]) (k:=?_)
     refine dX (v:=.int .i64 x4) [(1,2)] (h:=by intro q hq;rw [List.mem_singleton.1 hq];simp only;rw [← hx4e];exact tape_Next (hT2.nx 8) (blk_set_self _ _ _)) (k:=?_)
     refine dP [1,2,3] (pre:=[_,_,_,_]) (k:=?_)
     refine dE [(2,3)] (k:=?_)
     refine dP [3] (pre:=[_]) (k:=?_)
     refine dE [(3,4)] (k:=?_)
     refine DetHC.nil ?_
     refine rl [2,3] (k:=rB (k:=?_))
     have hf5:f=8:=Y50
     subst hf5
     exact hJb0 _ _ ⟨(T2.nx 8).nx 4,⟨8,0,0,0,sb,[],[vv],0,0⟩,.nil,.clip,rfl,(hT2.nx 8).nx 4,(req_okT Y23 zU zU zU hsbU (OkW.one hvvU) zU zU Y23 Y23),⟨(right8 (by unfold U16 at hsbU;omega) _),Y51,Y51⟩,Y52⟩
    ·refine rs (k:=rg [0,2,3,4,17,61] (k:=rc (ht:=fun hc7=>?_) (hf:=fun hc7=>?_)))
     ·refine rs (k:=?_)
      have hf5:f=15:=Y50
      subst hf5
      have hy26b:=(T2).val_bound (n:=26) Y22
      obtain ⟨y26,hy26⟩:∃ y,(T2).val 26=y:=⟨_,rfl⟩
      rw [hy26] at hy26b
      have H:=aj hy26 H
      refine rr (k:=ro (pre:=[_,_]) (k:=?_))
      refine RunO.callw au au au Y26 ((tape_Next hT2 (n:=26) hQ.tape).mono ?_)
      rintro r s9 ⟨rfl,hs⟩
      subst s9
      refine rh [0,2,3] (k:=rs (k:=rg [0,2,3,5] (k:=rb (k:=?_))))
      refine Run.loop (fun e s'=>∃ (T3:Tp) (i:Nat) (L:List Bool) (k:SK),e=[(0,.ptr tp 0 0),(2,.ptr s.nxt 0 0),(3,.ptr (s.nxt+1) 0 0),(5,.int .i64 (i:Int))]∧T3.ok∧QAt s tp T3 [.int .i64 (15),.int .i64 (a),.int .i64 (y26),.int .i64 (0),.int .i64 (0),.sl k (L.map PV.bool),.sl .nil [],.int .u16 (0),.int .u16 (0)] s'∧L.length=i∧(i:Int)≤y26∧(k=.nil∧L=[]∨∃ t,k=.tok t 1∧s.nxt+2≤t∧s'.blk t=some (.tok L.length))) (fun e s'=>y26.toNat-ivar e 5) ?_ ?_
      ·exact ⟨T2.nx 26,0,[],.nil,rfl,hT2.nx 26,Y52,rfl,Y21,.inl ⟨rfl,rfl⟩⟩
      rintro e S3 ⟨T3,i,L,k,rfl,hT3,hQ3,hr1,hr2,hk⟩
      have h3r:=hQ3.row
      have h3t:=hQ3.tape
      have h3n:=hQ3.nx
      have hN1:(s.nxt+1=S3.nxt)=False:=eq_false Y21
      have hN2:(tp=S3.nxt)=False:=eq_false Y21
      have H:=aj h3r (aj h3t (aj hN1 (aj hN2 H)))
      rcases hk with ⟨rfl,rfl⟩ | ⟨t,rfl,htn,htb⟩
      ·simp only [List.length_nil] at hr1
       refine rs (k:=rs (k:=rg [0,2,3,5,71] (k:=rc (ht:=fun hc8=>?_) (hf:=fun hc8=>?_))))
       ·refine rk (k:=rs (k:=rb (k:=?_)))
        have hy2b:=(T3).val_bound (n:=2) Y22
        obtain ⟨y2,hy2⟩:∃ y,(T3).val 2=y:=⟨_,rfl⟩
        rw [hy2] at hy2b
        have hic:(i:Int)<y26:=of_decide_eq_true hc8
        refine rH 9 [3,6,8] [[false,false,false],[true,false,false],[true,true,false],[true,true,true]] [S3,(S3.set tp (some (.row 67 [(T3.nx 2).pv]))),((S3.set tp (some (.row 67 [(T3.nx 2).pv]))).new (.tok [decide (y2=1)].length)),(((S3.set tp (some (.row 67 [(T3.nx 2).pv]))).new (.tok [decide (y2=1)].length)).set (s.nxt+1) (some (.row 47 [.agg [.int .i64 (15),.int .i64 (a),.int .i64 (y26),.int .i64 (0),.int .i64 (0),.sl (.tok S3.nxt 1) ([decide (y2=1)].map PV.bool),.sl .nil [],.int .u16 (0),.int .u16 (0)]])))] Tryz.mixed (k:=?_)
        refine dP [0,1] (pre:=[_,_,_]) (k:=?_)
        refine dX (v:=.int .i64 y2) [(0,1)] (h:=Y265) (k:=?_)
        refine dP [1] (pre:=[_,_]) (k:=?_)
        refine DetHC.app (kx:=.nil) (xs:=[]) (ys:=[decide (y2=1)].map PV.bool) (v:=.sl (.tok S3.nxt 1) ([decide (y2=1)].map PV.bool)) [(1,2)] _ Y26 pq au au au Tryz.td45 Y256 Y159 (isEls_map (P:=Tryz.prog) (e:=4) (f:=PV.bool) (fun a=>⟨rfl,Y160⟩) _) Y257 (by rw [Tryz.by4];simp<;>omega) (by intro q hq;rw [List.mem_singleton.1 hq];exact aAppend_nilL (f:=PV.bool) (ys:=[decide (y2=1)]) Y23 (by rw [Tryz.cz4])) ?_
        refine dP [2] (pre:=[_]) (k:=?_)
        refine dE [(2,3)] (k:=?_)
        refine DetHC.nil ?_
        refine rl [0,2,3,5] (k:=rB (k:=?_))
        have hwi:IntKind.i64.wrap ((i:Int)+1)=((i+1:Nat):Int):=Y28
        have H:=aj hwi H
        refine rg [0,2,3,5] (k:=?_)
        refine Run.lp ⟨⟨T3.nx 2,i+1,[decide (y2=1)],(.tok S3.nxt 1),rfl,hT3.nx 2,Y52,Y212,Y21,.inr ⟨S3.nxt,rfl,hQ3.nx,Y100⟩⟩,?_⟩
        simp only [ivar,ivar1,go_sem,↓reduceIte,Nat.reduceEqDiff]
        omega
       ·refine rX (k:=rB (k:=?_))
        have hie:(0:Int)=y26:=Y50
        rw [← hie] at hQ3
        refine rp [2,3] (k:=?_)
        exact hJb0 _ _ ⟨T3,⟨15,a,0,0,0,[],[],0,0⟩,.nil,.nil,rfl,hT3,(req_okT Y23 hU zU zU zU zW zU zU Y23 Y23),⟨(right15 (W:=[]) Y21 Y23),Y51,Y51⟩,Y52⟩
      ·have hN3:(s.nxt+1=t)=False:=eq_false Y21
       have hN4:(tp=t)=False:=eq_false Y21
       have hN5:(t=tp)=False:=eq_false Y21
       have hN6:(t=s.nxt+1)=False:=eq_false Y21
       have H:=aj hN3 (aj hN4 (aj hN5 (aj hN6 H)))
       refine rs (k:=rs (k:=rg [0,2,3,5,71] (k:=rc (ht:=fun hc8=>?_) (hf:=fun hc8=>?_))))
       ·refine rk (k:=rs (k:=rb (k:=?_)))
        have hy2b:=(T3).val_bound (n:=2) Y22
        obtain ⟨y2,hy2⟩:∃ y,(T3).val 2=y:=⟨_,rfl⟩
        rw [hy2] at hy2b
        have hic:(i:Int)<y26:=of_decide_eq_true hc8
        refine rH 9 [3,6,8] [[false,false,false],[true,false,false],[true,true,false],[true,true,true]] [S3,(S3.set tp (some (.row 67 [(T3.nx 2).pv]))),((S3.set tp (some (.row 67 [(T3.nx 2).pv]))).set t (some (.tok (L++[decide (y2=1)]).length))),(((S3.set tp (some (.row 67 [(T3.nx 2).pv]))).set t (some (.tok (L++[decide (y2=1)]).length))).set (s.nxt+1) (some (.row 47 [.agg [.int .i64 (15),.int .i64 (a),.int .i64 (y26),.int .i64 (0),.int .i64 (0),.sl (.tok t 1) ((L++[decide (y2=1)]).map PV.bool),.sl .nil [],.int .u16 (0),.int .u16 (0)]])))] Tryz.mixed (k:=?_)
        refine dP [0,1] (pre:=[_,_,_]) (k:=?_)
        refine dX (v:=.int .i64 y2) [(0,1)] (h:=Y265) (k:=?_)
        refine dP [1] (pre:=[_,_]) (k:=?_)
        refine DetHC.app (kx:=(.tok t 1)) (xs:=L.map PV.bool) (ys:=[decide (y2=1)].map PV.bool) (v:=.sl (.tok t 1) ((L++[decide (y2=1)]).map PV.bool)) [(1,2)] _ Y26 pq au au au Tryz.td45 Y256 Y159 (isEls_map (P:=Tryz.prog) (e:=4) (f:=PV.bool) (fun a=>⟨rfl,Y160⟩) _) Y257 (by rw [Tryz.by4];simp<;>omega) (by intro q hq;rw [List.mem_singleton.1 hq];exact aAppend_tokL (f:=PV.bool) (xs:=L) (ys:=[decide (y2=1)]) rfl Y23 (by rw [blk_set_ne Y21];exact htb) rfl (by rw [Tryz.cz4])) ?_
        refine dP [2] (pre:=[_]) (k:=?_)
        refine dE [(2,3)] (k:=?_)
        refine DetHC.nil ?_
        refine rl [0,2,3,5] (k:=rB (k:=?_))
        have hwi:IntKind.i64.wrap ((i:Int)+1)=((i+1:Nat):Int):=Y28
        have H:=aj hwi H
        refine rg [0,2,3,5] (k:=?_)
        refine Run.lp ⟨⟨T3.nx 2,i+1,(L++[decide (y2=1)]),(.tok t 1),rfl,hT3.nx 2,Y52,Y212,Y21,.inr ⟨t,rfl,htn,Y328⟩⟩,?_⟩
        simp only [ivar,ivar1,go_sem,↓reduceIte,Nat.reduceEqDiff]
        omega
       ·refine rX (k:=rB (k:=?_))
        have hie:((L.length:Nat):Int)=y26:=Y50
        rw [← hie] at hQ3
        refine rp [2,3] (k:=?_)
        exact hJb0 _ _ ⟨T3,⟨15,a,L.length,0,0,L,[],0,0⟩,_,.nil,rfl,hT3,(req_okT Y23 hU (show U16 ((L.length:Nat):Int) from ⟨Y21,Y21⟩) zU zU zW zU zU (by simp<;>omega) Y23),⟨(right15 Y21 Y21),Y51,Y51⟩,Y52⟩
     ·refine rs (k:=rg [0,2,3,4,17,82] (k:=rc (ht:=fun hc9=>?_) (hf:=fun hc9=>?_)))
      ·refine rs (k:=?_)
       have hf5:f=16:=Y50
       subst hf5
       have hy26b:=(T2).val_bound (n:=26) Y22
       obtain ⟨y26,hy26⟩:∃ y,(T2).val 26=y:=⟨_,rfl⟩
       rw [hy26] at hy26b
       have H:=aj hy26 H
       refine rr (k:=ro (pre:=[_,_]) (k:=?_))
       refine RunO.callw au au au Y26 ((tape_Next hT2 (n:=26) hQ.tape).mono ?_)
       rintro r s9 ⟨rfl,hs⟩
       subst s9
       refine rh [0,2,3] (k:=rs (k:=rg [0,2,3,6] (k:=rb (k:=?_))))
       refine Run.loop (fun e s'=>∃ (T3:Tp) (i:Nat) (L:List Int) (k:SK),e=[(0,.ptr tp 0 0),(2,.ptr s.nxt 0 0),(3,.ptr (s.nxt+1) 0 0),(6,.int .i64 (i:Int))]∧T3.ok∧QAt s tp T3 [.int .i64 (16),.int .i64 (a),.int .i64 (y26),.int .i64 (0),.int .i64 (0),.sl .nil [],.sl k (L.map (PV.int .u16)),.int .u16 (0),.int .u16 (0)] s'∧L.length=i∧(i:Int)≤y26∧(k=.nil∧L=[]∨∃ t,k=.tok t 1∧s.nxt+2≤t∧s'.blk t=some (.tok L.length))∧OkW L) (fun e s'=>y26.toNat-ivar e 6) ?_ ?_
       ·exact ⟨T2.nx 26,0,[],.nil,rfl,hT2.nx 26,Y52,rfl,Y21,.inl ⟨rfl,rfl⟩,zW⟩
       rintro e S3 ⟨T3,i,L,k,rfl,hT3,hQ3,hr1,hr2,hk,hLo⟩
       have h3r:=hQ3.row
       have h3t:=hQ3.tape
       have h3n:=hQ3.nx
       have hN1:(s.nxt+1=S3.nxt)=False:=eq_false Y21
       have hN2:(tp=S3.nxt)=False:=eq_false Y21
       have H:=aj h3r (aj h3t (aj hN1 (aj hN2 H)))
       rcases hk with ⟨rfl,rfl⟩ | ⟨t,rfl,htn,htb⟩
       ·simp only [List.length_nil] at hr1
        refine rs (k:=rs (k:=rg [0,2,3,6,92] (k:=rc (ht:=fun hc10=>?_) (hf:=fun hc10=>?_))))
        ·refine rk (k:=rs (k:=rb (k:=?_)))
         have hy6b:=(T3).val_bound (n:=65536) Y22
         obtain ⟨y6,hy6⟩:∃ y,(T3).val 65536=y:=⟨_,rfl⟩
         rw [hy6] at hy6b
         have hic:(i:Int)<y26:=of_decide_eq_true hc10
         have hw6:IntKind.u16.wrap y6=y6:=Y211
         have H:=aj hw6 H
         refine rH 9 [3,6,8] [[false,false,false],[true,false,false],[true,true,false],[true,true,true]] [S3,(S3.set tp (some (.row 67 [(T3.nx 65536).pv]))),((S3.set tp (some (.row 67 [(T3.nx 65536).pv]))).new (.tok [y6].length)),(((S3.set tp (some (.row 67 [(T3.nx 65536).pv]))).new (.tok [y6].length)).set (s.nxt+1) (some (.row 47 [.agg [.int .i64 (16),.int .i64 (a),.int .i64 (y26),.int .i64 (0),.int .i64 (0),.sl .nil [],.sl (.tok S3.nxt 1) ([y6].map (PV.int .u16)),.int .u16 (0),.int .u16 (0)]])))] Tryz.mixed (k:=?_)
         refine dP [0,1] (pre:=[_,_,_]) (k:=?_)
         refine dX (v:=.int .i64 y6) [(0,1)] (h:=Y101) (k:=?_)
         refine dP [1] (pre:=[_,_]) (k:=?_)
         refine DetHC.app (kx:=.nil) (xs:=[]) (ys:=[y6].map (PV.int .u16)) (v:=.sl (.tok S3.nxt 1) ([y6].map (PV.int .u16))) [(1,2)] _ Y26 pq au au au Tryz.td23 Y143 Y53 (isEls_map (P:=Tryz.prog) (e:=39) (f:=(PV.int .u16)) (fun a=>⟨rfl,Y158⟩) _) Y144 Y213 Y214 ?_
         refine dP [2] (pre:=[_]) (k:=?_)
         refine dE [(2,3)] (k:=?_)
         refine DetHC.nil ?_
         refine rl [0,2,3,6] (k:=rB (k:=?_))
         have hwi:IntKind.i64.wrap ((i:Int)+1)=((i+1:Nat):Int):=Y28
         have H:=aj hwi H
         refine rg [0,2,3,6] (k:=?_)
         refine Run.lp ⟨⟨T3.nx 65536,i+1,[y6],(.tok S3.nxt 1),rfl,hT3.nx 65536,Y52,Y212,Y21,.inr ⟨S3.nxt,rfl,hQ3.nx,Y100⟩,Y329⟩,?_⟩
         simp only [ivar,ivar1,go_sem,↓reduceIte,Nat.reduceEqDiff]
         omega
        ·refine rX (k:=rB (k:=?_))
         have hie:(0:Int)=y26:=Y50
         rw [← hie] at hQ3
         refine rp [2,3] (k:=?_)
         exact hJb0 _ _ ⟨T3,⟨16,a,0,0,0,[],[],0,0⟩,.nil,.nil,rfl,hT3,(req_okT Y23 hU zU zU zU zW zU zU Y23 Y23),⟨(right16 (W:=[]) Y21 Y23),Y51,Y51⟩,Y52⟩
       ·have hN3:(s.nxt+1=t)=False:=eq_false Y21
        have hN4:(tp=t)=False:=eq_false Y21
        have hN5:(t=tp)=False:=eq_false Y21
        have hN6:(t=s.nxt+1)=False:=eq_false Y21
        have H:=aj hN3 (aj hN4 (aj hN5 (aj hN6 H)))
        refine rs (k:=rs (k:=rg [0,2,3,6,92] (k:=rc (ht:=fun hc10=>?_) (hf:=fun hc10=>?_))))
        ·refine rk (k:=rs (k:=rb (k:=?_)))
         have hy6b:=(T3).val_bound (n:=65536) Y22
         obtain ⟨y6,hy6⟩:∃ y,(T3).val 65536=y:=⟨_,rfl⟩
         rw [hy6] at hy6b
         have hic:(i:Int)<y26:=of_decide_eq_true hc10
         have hw6:IntKind.u16.wrap y6=y6:=Y211
         have H:=aj hw6 H
         refine rH 9 [3,6,8] [[false,false,false],[true,false,false],[true,true,false],[true,true,true]] [S3,(S3.set tp (some (.row 67 [(T3.nx 65536).pv]))),((S3.set tp (some (.row 67 [(T3.nx 65536).pv]))).set t (some (.tok (L++[y6]).length))),(((S3.set tp (some (.row 67 [(T3.nx 65536).pv]))).set t (some (.tok (L++[y6]).length))).set (s.nxt+1) (some (.row 47 [.agg [.int .i64 (16),.int .i64 (a),.int .i64 (y26),.int .i64 (0),.int .i64 (0),.sl .nil [],.sl (.tok t 1) ((L++[y6]).map (PV.int .u16)),.int .u16 (0),.int .u16 (0)]])))] Tryz.mixed (k:=?_)
         refine dP [0,1] (pre:=[_,_,_]) (k:=?_)
         refine dX (v:=.int .i64 y6) [(0,1)] (h:=Y101) (k:=?_)
         refine dP [1] (pre:=[_,_]) (k:=?_)
         refine DetHC.app (kx:=(.tok t 1)) (xs:=L.map (PV.int .u16)) (ys:=[y6].map (PV.int .u16)) (v:=.sl (.tok t 1) ((L++[y6]).map (PV.int .u16))) [(1,2)] _ Y26 pq au au au Tryz.td23 Y143 Y53 (isEls_map (P:=Tryz.prog) (e:=39) (f:=(PV.int .u16)) (fun a=>⟨rfl,Y158⟩) _) Y144 Y213 Y161 ?_
         refine dP [2] (pre:=[_]) (k:=?_)
         refine dE [(2,3)] (k:=?_)
         refine DetHC.nil ?_
         refine rl [0,2,3,6] (k:=rB (k:=?_))
         have hwi:IntKind.i64.wrap ((i:Int)+1)=((i+1:Nat):Int):=Y28
         have H:=aj hwi H
         refine rg [0,2,3,6] (k:=?_)
         refine Run.lp ⟨⟨T3.nx 65536,i+1,(L++[y6]),(.tok t 1),rfl,hT3.nx 65536,Y52,Y212,Y21,.inr ⟨t,rfl,htn,Y328⟩,Y215⟩,?_⟩
         simp only [ivar,ivar1,go_sem,↓reduceIte,Nat.reduceEqDiff]
         omega
        ·refine rX (k:=rB (k:=?_))
         have hie:((L.length:Nat):Int)=y26:=Y50
         rw [← hie] at hQ3
         refine rp [2,3] (k:=?_)
         exact hJb0 _ _ ⟨T3,⟨16,a,L.length,0,0,[],L,0,0⟩,.nil,_,rfl,hT3,(req_okT Y23 hU (show U16 ((L.length:Nat):Int) from ⟨Y21,Y21⟩) zU zU hLo zU zU Y23 (by simp<;>omega)),⟨(right16 Y21 Y21),Y51,Y51⟩,Y52⟩
      ·refine rs (k:=rg [0,2,3,4,17,103] (k:=rc (ht:=fun hc11=>?_) (hf:=fun hc11=>?_)))
       ·have hcab:=(T2).val_bound (n:=65536) Y22
        obtain ⟨ca,hca⟩:∃ y,(T2).val 65536=y:=⟨_,rfl⟩
        rw [hca] at hcab
        have hcob:=(T2.nx 65536).val_bound (n:=65536) Y22
        obtain ⟨co,hco⟩:∃ y,(T2.nx 65536).val 65536=y:=⟨_,rfl⟩
        rw [hco] at hcob
        have hwa:IntKind.u16.wrap ca=ca:=Y211
        have hwo:IntKind.u16.wrap co=co:=Y211
        have H:=aj hca (aj hco (aj hwa (aj hwo H)))
        refine rr (k:=ro (pre:=[_,_]) (k:=?_))
        refine RunO.callw au au au Y26 ((tape_Next hT2 (n:=65536) hQ.tape).mono ?_)
        rintro r s9 ⟨rfl,hs⟩
        subst s9
        refine ro (pre:=[_,_]) (k:=?_)
        refine RunO.callw au au au Y26 ((tape_Next (hT2.nx 65536) (n:=65536) (blk_set_self _ _ _)).mono ?_)
        rintro r s9 ⟨rfl,hs⟩
        subst s9
        refine rh [2,3] (k:=rB (k:=?_))
        have hf5:f=22:=Y50
        subst hf5
        exact hJb0 _ _ ⟨(T2.nx 65536).nx 65536,⟨22,a,0,0,0,[],[],ca,co⟩,.nil,.nil,rfl,(hT2.nx 65536).nx 65536,(req_okT Y23 hU zU zU zU zW (show U16 ca from ⟨Y21,Y21⟩) (show U16 co from ⟨Y21,Y21⟩) Y23 Y23),⟨(right22 Y21),Y51,Y51⟩,Y52⟩
       ·refine rs (k:=rg [0,2,3,4,115] (k:=rc (ht:=fun hc12=>?_) (hf:=fun hc12=>?_)))
        ·refine rs (k:=?_)
         have hf5:f=23:=Y50
         subst hf5
         have hy20b:=(T2).val_bound (n:=20) Y22
         obtain ⟨y20,hy20⟩:∃ y,(T2).val 20=y:=⟨_,rfl⟩
         rw [hy20] at hy20b
         have hy40b:=(T2.nx 20).val_bound (n:=40) Y22
         obtain ⟨y40,hy40⟩:∃ y,(T2.nx 20).val 40=y:=⟨_,rfl⟩
         rw [hy40] at hy40b
         have hm0b:=((T2.nx 20).nx 40).val_bound (n:=20) Y22
         obtain ⟨m0,hm0⟩:∃ y,((T2.nx 20).nx 40).val 20=y:=⟨_,rfl⟩
         rw [hm0] at hm0b
         have H:=aj hy20 (aj hy40 (aj hm0 H))
         refine rr (k:=ro (pre:=[_,_]) (k:=?_))
         refine RunO.callw au au au Y26 ((tape_Next hT2 (n:=20) hQ.tape).mono ?_)
         rintro r s9 ⟨rfl,hs⟩
         subst s9
         refine ro (pre:=[_]) (k:=?_)
         refine RunO.callw au au au Y26 ((tape_Next (hT2.nx 20) (n:=40) (blk_set_self _ _ _)).mono ?_)
         rintro r s9 ⟨rfl,hs⟩
         subst s9
         refine rh [0,2,3] (k:=rs (k:=rr (k:=ro (pre:=[_]) (k:=?_))))
         refine RunO.callw au au au Y26 ((tape_Next ((hT2.nx 20).nx 40) (n:=20) (by first | exact blk_set_self _ _ _ |(simp (disch:=omega) only [blk_set_ne,blk_set_self]))).mono ?_)
         rintro r s9 ⟨rfl,hs⟩
         subst s9
         refine rh [0,2,3,7] (k:=rb (k:=?_))
         refine Run.loop (fun e s'=>∃ (T3:Tp) (m:Int) (L:List Int) (k:SK),e=[(0,.ptr tp 0 0),(2,.ptr s.nxt 0 0),(3,.ptr (s.nxt+1) 0 0),(7,.int .i64 m)]∧T3.ok∧QAt s tp T3 [.int .i64 (23),.int .i64 (a),.int .i64 (y20),.int .i64 (y40),.int .i64 (0),.sl .nil [],.sl k (L.map (PV.int .u16)),.int .u16 (0),.int .u16 (0)] s'∧L.length+m=m0∧0≤m∧(k=.nil∧L=[]∨∃ t,k=.tok t 1∧s.nxt+2≤t∧s'.blk t=some (.tok L.length))∧OkW L) (fun e s'=>ivar1 e 7) ?_ ?_
         ·exact ⟨((T2.nx 20).nx 40).nx 20,m0,[],.nil,rfl,((hT2.nx 20).nx 40).nx 20,Y52,Y23,Y21,.inl ⟨rfl,rfl⟩,zW⟩
         rintro e S3 ⟨T3,m,L,k,rfl,hT3,hQ3,hr1,hr2,hk,hLo⟩
         have h3r:=hQ3.row
         have h3t:=hQ3.tape
         have h3n:=hQ3.nx
         have hN1:(s.nxt+1=S3.nxt)=False:=eq_false Y21
         have hN2:(tp=S3.nxt)=False:=eq_false Y21
         have H:=aj h3r (aj h3t (aj hN1 (aj hN2 H)))
         rcases hk with ⟨rfl,rfl⟩ | ⟨t,rfl,htn,htb⟩
         ·simp only [List.length_nil] at hr1
          refine rs (k:=rs (k:=rg [0,2,3,7,128] (k:=rc (ht:=fun hc13=>?_) (hf:=fun hc13=>?_))))
          ·refine rk (k:=rs (k:=rb (k:=?_)))
           have hy6b:=(T3).val_bound (n:=65536) Y22
           obtain ⟨y6,hy6⟩:∃ y,(T3).val 65536=y:=⟨_,rfl⟩
           rw [hy6] at hy6b
           have hw6:IntKind.u16.wrap y6=y6:=Y211
           have H:=aj hw6 H
           refine rH 9 [3,6,8] [[false,false,false],[true,false,false],[true,true,false],[true,true,true]] [S3,(S3.set tp (some (.row 67 [(T3.nx 65536).pv]))),((S3.set tp (some (.row 67 [(T3.nx 65536).pv]))).new (.tok [y6].length)),(((S3.set tp (some (.row 67 [(T3.nx 65536).pv]))).new (.tok [y6].length)).set (s.nxt+1) (some (.row 47 [.agg [.int .i64 (23),.int .i64 (a),.int .i64 (y20),.int .i64 (y40),.int .i64 (0),.sl .nil [],.sl (.tok S3.nxt 1) ([y6].map (PV.int .u16)),.int .u16 (0),.int .u16 (0)]])))] Tryz.mixed (k:=?_)
           refine dP [0,1] (pre:=[_,_,_]) (k:=?_)
           refine dX (v:=.int .i64 y6) [(0,1)] (h:=Y101) (k:=?_)
           refine dP [1] (pre:=[_,_]) (k:=?_)
           refine DetHC.app (kx:=.nil) (xs:=[]) (ys:=[y6].map (PV.int .u16)) (v:=.sl (.tok S3.nxt 1) ([y6].map (PV.int .u16))) [(1,2)] _ Y26 pq au au au Tryz.td23 Y143 Y53 (isEls_map (P:=Tryz.prog) (e:=39) (f:=(PV.int .u16)) (fun a=>⟨rfl,Y158⟩) _) Y144 Y213 Y214 ?_
           refine dP [2] (pre:=[_]) (k:=?_)
           refine dE [(2,3)] (k:=?_)
           refine DetHC.nil ?_
           refine rl [0,2,3,7] (k:=rB (k:=?_))
           have hm1:0<m:=by have:=of_decide_eq_true hc13;omega
           have hwi:IntKind.i64.wrap (m-1)=m-1:=wrap_i64 Y21
           have H:=aj hwi H
           refine rg [0,2,3,7] (k:=?_)
           refine Run.lp ⟨⟨T3.nx 65536,m-1,[y6],(.tok S3.nxt 1),rfl,hT3.nx 65536,Y52,Y212,Y21,.inr ⟨S3.nxt,rfl,hQ3.nx,Y100⟩,Y329⟩,?_⟩
           simp only [ivar,ivar1,go_sem,↓reduceIte,Nat.reduceEqDiff]
           omega
          ·refine rX (k:=rB (k:=rp [2,3] (k:=?_)))
           exact hJb0 _ _ ⟨T3,⟨23,a,y20,y40,0,[],([]:List Int),0,0⟩,.nil,_,rfl,hT3,(req_okT Y23 hU (show U16 y20 from ⟨Y21,Y21⟩) (show U16 y40 from ⟨Y21,Y21⟩) zU hLo zU zU Y23 (by simp<;>omega)),⟨(right23 Y21 Y21 Y21 (by first | omega |(simp at hr1 ⊢<;>omega))),Y51,Y51⟩,Y52⟩
         ·have hN3:(s.nxt+1=t)=False:=eq_false Y21
          have hN4:(tp=t)=False:=eq_false Y21
          have hN5:(t=tp)=False:=eq_false Y21
          have hN6:(t=s.nxt+1)=False:=eq_false Y21
          have H:=aj hN3 (aj hN4 (aj hN5 (aj hN6 H)))
          refine rs (k:=rs (k:=rg [0,2,3,7,128] (k:=rc (ht:=fun hc13=>?_) (hf:=fun hc13=>?_))))
          ·refine rk (k:=rs (k:=rb (k:=?_)))
           have hy6b:=(T3).val_bound (n:=65536) Y22
           obtain ⟨y6,hy6⟩:∃ y,(T3).val 65536=y:=⟨_,rfl⟩
           rw [hy6] at hy6b
           have hw6:IntKind.u16.wrap y6=y6:=Y211
           have H:=aj hw6 H
           refine rH 9 [3,6,8] [[false,false,false],[true,false,false],[true,true,false],[true,true,true]] [S3,(S3.set tp (some (.row 67 [(T3.nx 65536).pv]))),((S3.set tp (some (.row 67 [(T3.nx 65536).pv]))).set t (some (.tok (L++[y6]).length))),(((S3.set tp (some (.row 67 [(T3.nx 65536).pv]))).set t (some (.tok (L++[y6]).length))).set (s.nxt+1) (some (.row 47 [.agg [.int .i64 (23),.int .i64 (a),.int .i64 (y20),.int .i64 (y40),.int .i64 (0),.sl .nil [],.sl (.tok t 1) ((L++[y6]).map (PV.int .u16)),.int .u16 (0),.int .u16 (0)]])))] Tryz.mixed (k:=?_)
           refine dP [0,1] (pre:=[_,_,_]) (k:=?_)
           refine dX (v:=.int .i64 y6) [(0,1)] (h:=Y101) (k:=?_)
           refine dP [1] (pre:=[_,_]) (k:=?_)
           refine DetHC.app (kx:=(.tok t 1)) (xs:=L.map (PV.int .u16)) (ys:=[y6].map (PV.int .u16)) (v:=.sl (.tok t 1) ((L++[y6]).map (PV.int .u16))) [(1,2)] _ Y26 pq au au au Tryz.td23 Y143 Y53 (isEls_map (P:=Tryz.prog) (e:=39) (f:=(PV.int .u16)) (fun a=>⟨rfl,Y158⟩) _) Y144 Y213 Y161 ?_
           refine dP [2] (pre:=[_]) (k:=?_)
           refine dE [(2,3)] (k:=?_)
           refine DetHC.nil ?_
           refine rl [0,2,3,7] (k:=rB (k:=?_))
           have hm1:0<m:=by have:=of_decide_eq_true hc13;omega
           have hwi:IntKind.i64.wrap (m-1)=m-1:=wrap_i64 Y21
           have H:=aj hwi H
           refine rg [0,2,3,7] (k:=?_)
           refine Run.lp ⟨⟨T3.nx 65536,m-1,(L++[y6]),(.tok t 1),rfl,hT3.nx 65536,Y52,Y212,Y21,.inr ⟨t,rfl,htn,Y328⟩,Y215⟩,?_⟩
           simp only [ivar,ivar1,go_sem,↓reduceIte,Nat.reduceEqDiff]
           omega
          ·refine rX (k:=rB (k:=rp [2,3] (k:=?_)))
           exact hJb0 _ _ ⟨T3,⟨23,a,y20,y40,0,[],L,0,0⟩,.nil,_,rfl,hT3,(req_okT Y23 hU (show U16 y20 from ⟨Y21,Y21⟩) (show U16 y40 from ⟨Y21,Y21⟩) zU hLo zU zU Y23 (by simp<;>omega)),⟨(right23 Y21 Y21 Y21 (by first | omega |(simp at hr1 ⊢<;>omega))),Y51,Y51⟩,Y52⟩
        ·refine rk (k:=rB (k:=?_))
         have hf5:f=17:=by simp only [decide_eq_true_eq,decide_eq_false_iff_not] at *;simp only [fnL,List.mem_cons,List.not_mem_nil,or_false] at hfm;omega
         subst hf5
         refine rp [2,3] (k:=?_)
         exact hJb0 _ _ ⟨T2,⟨17,0,0,0,0,[],[],0,0⟩,.nil,.nil,rfl,hT2,(req_okT Y23 zU zU zU zU zW zU zU Y23 Y23),⟨right17,Y51,Y51⟩,Y52⟩
 any_goals
  refine jI 1 ?_
  have hy26b:=(T2).val_bound (n:=26) Y22
  refine jO 2 ?_;rotate_left
 any_goals
  refine jI 2 ?_
  obtain ⟨y26,hy26⟩:∃ y,(T2).val 26=y:=⟨_,rfl⟩
  refine jO 3 ?_;rotate_left
 any_goals
  refine jI 3 ?_
  rw [hy26] at hy26b
  refine jO 4 ?_;rotate_left
 any_goals
  refine jI 4 ?_
  have H:=aj hy26 H
  refine jO 5 ?_;rotate_left
 any_goals
  refine jI 5 ?_
  refine rr (k:=ro (pre:=[_,_]) (k:=?_))
  refine jO 6 ?_;rotate_left
 any_goals
  refine jI 6 ?_
  refine RunO.callw au au au Y26 ((tape_Next hT2 (n:=26) hQ.tape).mono ?_)
  refine jO 7 ?_;rotate_left
 any_goals
  refine jI 7 ?_
  rintro r s9 ⟨rfl,hs⟩
  refine jO 8 ?_;rotate_left
 any_goals
  refine jI 8 ?_
  subst s9
  refine jO 9 ?_;rotate_left
 any_goals
  refine jI 9 ?_
  refine rh [2,3] (k:=rB (k:=?_))
  refine jO 10 ?_;rotate_left
 any_goals
  refine jI 10 ?_
  have hf4:1≤f∧f≤4:=Y50
  refine jO 11 ?_;rotate_left
 any_goals
  refine jI 11 ?_
  exact hJb0 _ _ ⟨T2.nx 26,⟨f,a,y26,0,0,[],[],0,0⟩,.nil,.nil,rfl,hT2.nx 26,(req_okT (by simp<;>omega) hU (show U16 y26 from ⟨Y21,Y21⟩) zU zU zW zU zU Y23 Y23),⟨(order_right Y21 Y21 Y21),Y51,Y51⟩,Y52⟩
theorem tape_Request {T:Tp} (hT:T.ok) {s:St} {tp:Nat} (hb:s.blk tp=some (.row 67 [T.pv])):ACalls Tryz.prog 21 [.ptr tp 0 0] s (fun r s'=>∃ (q:Req) (T':Tp),r=q.pv∧s'=s.set tp (some (.row 67 [T'.pv]))∧T'.ok∧q.ok∧rightF q=0) :=
 (tape_RequestL hT hb).mono fun r s' ⟨q,T',h1,h2,h3,h4,h5,_⟩=>⟨q,T',h1,h2,h3,h4,h5⟩
end Go.Proofs
namespace Go.Proofs
open Go.PM
set_option maxHeartbeats 2000000
theorem has127 {q:Req} (hr:rightF q=0):1≤q.fn∧q.fn≤127:=by
 have:=has_cases (right0 hr).has
 omega
theorem body_fits {D:Dev} (hD:D.ok) {q:Req} (hq:q.ok) (hr:rightF q=0) (hc:countF q=true):Fits (bodyF D q).1 q:=by
 have hR:=right0 hr
 have wa:=u16_word hR.wa
 have wsb:=u16_word hR.ws
 have wc:=u16_word hR.wc
 have hcc:=(of_decide_eq_true hc).2
 have h127:=has127 hr
 have no:Fits (whereF q) q:=fits_refuse h127 Y22
 have h3:=hD.c1;have h4:=hD.v0;have h5:=hD.v1
 have hv0:U16 ((q.vals[0]?).getD 0):=head_ok hq.vals
 unfold bodyF
 by_cases e1:q.fn=1
 ·rw [if_pos (.inl e1)] at hcc
  rw [if_pos e1]
  split
  ·rename_i ht
   have:=cutF_size D.c0 ht
   exact fits_bits (.inl e1) this Y21
  ·exact no
 rw [if_neg e1]
 by_cases e2:q.fn=2
 ·rw [if_pos (.inr e2)] at hcc
  rw [if_pos e2]
  split
  ·rename_i ht
   have:=cutF_size D.c1 (by rw [h3];exact ht)
   exact fits_bits (.inr e2) this Y21
  ·exact no
 rw [if_neg e2]
 rw [if_neg Y21] at hcc
 by_cases e3:q.fn=3
 ·rw [if_pos (.inl e3)] at hcc
  rw [if_pos e3]
  split
  ·rename_i ht
   have:=cutF_size D.v1 (by rw [h5];exact ht)
   exact fits_vals (.inl e3) (cutF_ok hD.w1 _ _) this Y21
  ·exact no
 rw [if_neg e3]
 by_cases e4:q.fn=4
 ·rw [if_pos (.inr e4)] at hcc
  rw [if_pos e4]
  split
  ·rename_i ht
   have:=cutF_size D.v0 (by rw [h4];exact ht)
   exact fits_vals (.inr (.inl e4)) (cutF_ok hD.w0 _ _) this Y21
  ·exact no
 rw [if_neg e4]
 rw [if_neg Y21] at hcc
 by_cases e5:q.fn=5∨q.fn=15
 ·rw [if_pos e5]
  split
  ·by_cases e15:q.fn=15
   ·rw [if_pos e15];exact fits_15 (.inl e15) wa wc
   ·rw [if_neg e15];exact fits_5 Y21 wa _
  ·exact no
 rw [if_neg e5]
 by_cases e6:q.fn=6∨q.fn=16
 ·rw [if_pos e6]
  split
  ·by_cases e15:q.fn=16
   ·rw [if_pos e15];exact fits_15 (.inr e15) wa wc
   ·rw [if_neg e15];exact fits_6 Y21 wa hv0
  ·exact no
 rw [if_neg e6]
 by_cases e8:q.fn=8
 ·rw [if_pos e8]
  unfold diagF
  dsimp only
  split
  ·exact fits_8 e8 wsb hv0
  ·split
   ·exact fits_8 e8 wsb hv0
   ·split
    ·split
     ·exact fits_refuse h127 Y22
     ·exact fits_8 e8 wsb (u16_wrap_ok _)
    ·exact fits_refuse h127 Y22
 rw [if_neg e8]
 by_cases e17:q.fn=17
 ·rw [if_pos e17];exact fits_17 e17 _ _
 rw [if_neg e17]
 by_cases e22:q.fn=22
 ·rw [if_pos e22]
  split
  ·exact fits_22 e22 wa hq.and_ hq.or_
  ·exact no
 rw [if_neg e22]
 have e23:q.fn=23:=by have:=has_cases hR.has;omega
 rw [if_neg Y21,if_neg Y21,if_pos e23] at hcc
 split
 ·rename_i ht
  have hl:=there_len ht.2
  have:=cutF_size (overF D.v1 q.wat.toNat q.vals) (a:=q.at_) (m:=q.count) (by rw [overF_len Y21,h5];exact ht.1)
  exact fits_vals (.inr (.inr e23)) (cutF_ok (overF_ok hD.w1 hq.vals _) _ _) this Y21
 ·exact no
theorem do_fits {D:Dev} (hD:D.ok) {q:Req} (hq:q.ok) (hr:rightF q=0):Fits (doF D q).1 q:=by
 have h127:=has127 hr
 cases hc:countF q with
 | false =>
   have hh:¬ hasF q.fn=false:=by rw [(right0 hr).has];decide
   unfold doF
   dsimp only
   rw [if_neg hh,if_pos (.inr hc)]
   exact fits_refuse h127 Y22
 | true =>
   rw [doF_base hr hc]
   have hb:=body_fits (inc_ok hD) hq hr hc
   split
   ·rename_i hne
    have hg:=goodC hb.good hne
    exact fits_refuse h127 ⟨hg.1,hg.2.1⟩
   ·exact hb
theorem pdu_write {D:Dev} {q:Req} (hq:q.ok) (hr:rightF q=0):pduF D (writeF q)=(repF (doF D q).1,(doF D q).2):=by
 unfold pduF
 rw [read_write hq hr]
 rfl
theorem and127 {a:Int} (h:U8 a):ibits .and .u8 a 127=a%128:=by
 obtain ⟨n,rfl⟩:∃ n:Nat,a=n:=⟨a.toNat,(Int.toNat_of_nonneg h.1).symm⟩
 have hn:n<256:=by unfold U8 at h;omega
 have:∀ m:Fin 256,ibits .and .u8 ((m.val:Nat):Int) 127=((m.val:Nat):Int)%128:=by decide +kernel
 exact this ⟨n,hn⟩
theorem lay_two {R:Rep} (h:goodF R=0):2≤(layF R).length:=by
 unfold layF
 split
 ·exact Nat.le_refl _
 ·repeat' split
  all_goals simp only [List.length_cons,List.length_append,show ∀ n,(num2 n).length=2 from fun _=>rfl];omega
theorem fit_head {R:Rep} {q:Req} (h:Fits R q) (hq:1≤q.fn∧q.fn≤127):∃ x l,repF R=x::l∧1≤l.length∧x%128=q.fn:=by
 unfold repF
 rw [if_pos h.good]
 have h2:=lay_two h.good
 have h3:=lay_head (R:=R)
 have h4:=h.fn
 cases hl:layF R with
 | nil=>rw [hl] at h2;simp at h2
 | cons x l =>
   rw [hl] at h2 h3
   simp only [List.length_cons] at h2
   refine ⟨x,l,rfl,Y21,?_⟩
   have h3:x=if ¬ R.code=0 then R.fn+128 else R.fn:=h3
   rw [h3]
   split<;>omega
end Go.Proofs
namespace Go.Proofs
open Go.PM
set_option maxHeartbeats 2000000
end Go.Proofs
namespace Go.Proofs
open Go.PM
set_option maxHeartbeats 2000000
end Go.Proofs
namespace Go.Proofs
open Go.PM
set_option maxHeartbeats 2000000
end Go.Proofs
namespace Go.Proofs
open Go.PM
set_option maxHeartbeats 2000000
end Go.Proofs
namespace Go.Proofs
open Go.PM
set_option maxHeartbeats 2000000
theorem Y216 {p:Prop} (h:p:=by rw [List.length_map,List.length_drop];omega):p:=h
theorem Y266 {p:Prop} (h:p:=by simp only [PV.blw,PV.blws,and_true,true_and];exact ⟨fun t z e=>Y20,blws_u8 _ _⟩):p:=h
theorem rtu_Read {b:List Int} (hb:OkB b) (hl:b.length≤140737488350000) {s:St}:ACalls Tryz.prog 132 [.sl .unk (b.map (PV.int .u8))] s (fun r s'=>r=.tuple [.int .i64 (rtuF b).1.1,.sl .unk ((rtuF b).1.2.map (PV.int .u8)),.int .i64 (rtuF b).2]∧s'=s):=by
 refine go Tryz.func132 (k:=fun hwf H=>?_)
 refine rs (k:=rg [0] (k:=rs (k:=rr (k:=ro (pre:=[_]) (k:=rC (h:=crc_Open hb hl) (k:=rh [0,5,6] (k:=rs (k:=rb (k:=rs (k:=rg [0,5,6,12] (k:=rc (ht:=fun hc0=>?_) (hf:=fun hc0=>?_))))))))))))
 refine jO 1 ?_;rotate_left
 refine rs (k:=rg [5,6,16] (k:=rc (ht:=fun hc1=>?_) (hf:=fun hc1=>?_)))
 refine jO 1 ?_;rotate_left
 refine rs (k:=rg [5,20] (k:=rc (ht:=fun hc2=>?_) (hf:=fun hc2=>?_)))
 refine jO 1 ?_;rotate_left
 refine rs (k:=?_)
 obtain ⟨x,ho⟩:∃ x,openB b=some x:=Option.isSome_iff_exists.1 (by simpa using hc2)
 have hxl:x.length=b.length-2:=by
  unfold openB at ho
  split at ho
  ·cases ho;rw [List.length_take];omega
  ·cases ho
 have hbl:4≤b.length:=Y33
 have hxo:=open_ok hb ho
 have hx0:0<x.length:=Y21
 obtain ⟨y,hy⟩:∃ y,x[0]? =some y:=⟨x[0],List.getElem?_eq_getElem hx0⟩
 have hyy:(x.map (PV.int .u8))[0]? =some (.int .u8 y):=by rw [List.getElem?_map,hy];rfl
 have hxT:(0<x.length)=True:=eq_true hx0
 have hxT1:((1:Int)≤(x.length:Int))=True:=eq_true Y21
 have hgd:(openB b).getD []=x:=by rw [ho];rfl
 have hy8:U8 y:=hxo y (List.mem_of_getElem? hy)
 have hyw:IntKind.i64.wrap y=y:=wrap_i64 (by unfold U8 at hy8;omega)
 have hh0:hd0 x=y:=by unfold hd0;rw [hy];rfl
 have hln:((x.length:Int)-1).toNat=x.length-1:=Y21
 have htk:((x.map (PV.int .u8)).drop 1).take (x.length-1)=(x.drop 1).map (PV.int .u8):=by rw [← List.map_drop,List.take_of_length_le Y216]
 have h1n:Int.toNat 1=1:=rfl
 have H:=aj hyy (aj hxT (aj hxT1 (aj hgd (aj hyw (aj hln (aj htk (aj h1n H)))))))
 refine rg [5,23] (k:=rc (ht:=fun hc3=>?_) (hf:=fun hc3=>?_))
 refine jO 1 ?_;rotate_left
 refine rk (k:=rB (k:=rs (k:=?_)))
 refine Run.drawC [] [2,3,4] Tryz.mixed Y26 ?_
 refine DetC.pre (pre:=[_,_,_,_,_,_]) au ?_
 refine DetC.call au au au Y26 (clip_u8 (xs:=x.drop 1)) ?_
 refine DetC.all au ?_
 refine re (k:=rR (k:=?_))
 refine jO 2 ?_;rotate_left
 any_goals
  refine jI 1 ?_
  refine rs (k:=rg [2,3,4] (k:=rR (k:=?_)))
  refine jO 2 ?_;rotate_left
 any_goals
  refine jI 2 ?_
  refine Ret.pure (r':=.tuple [.int .i64 (rtuF b).1.1,.sl .unk ((rtuF b).1.2.map (PV.int .u8)),.int .i64 (rtuF b).2]) (by simp only [Tryz.f132,go_sem,↓reduceIte]<;>rfl) ?_ Y266 hwf Y36 ⟨rfl,rfl⟩
  refine jO 3 ?_;rotate_left
 any_goals
  refine jI 3 ?_
  simp only [PV.weak,PV.weaks,weaks_u8]
  refine jO 4 ?_;rotate_left
 any_goals
  refine jI 4 ?_
  first
   |(have e:rtuF b=((0,[]),13):=by unfold rtuF;rw [if_pos Y83]
     rw [e];rfl)
   |(have e:rtuF b=((0,[]),3):=by unfold rtuF;rw [if_neg Y33,if_pos Y79]
     rw [e];rfl)
   |(have ho:openB b=none:=by cases hq:openB b with | none=>rfl | some x=>rw [hq] at hc2;simp at hc2
     have e:rtuF b=((0,[]),14):=by unfold rtuF;rw [if_neg Y33,if_neg Y85,ho]
     rw [e];rfl)
   |(have h3:hd0 x<1∨247<hd0 x:=by rw [hh0];simpa using hc3
     have e:rtuF b=((0,[]),1):=by unfold rtuF;rw [if_neg Y21,if_neg Y85,ho];exact if_pos h3
     rw [e];rfl)
   |(have h3:¬ (hd0 x<1∨247<hd0 x):=by rw [hh0];simp at hc3;omega
     have e:rtuF b=((y,x.drop 1),0):=by unfold rtuF;rw [if_neg Y21,if_neg Y85,ho];exact (if_neg h3).trans (by rw [hh0])
     rw [e];first | done | simp only [weaks_u8,List.map_drop] | rfl)
theorem rtu_Frame {a:Int} {b:List Int} (hb:OkB b) (hl:b.length≤140737488350000) {s:St}:ACalls Tryz.prog 131 [.int .i64 a,.sl .unk (b.map (PV.int .u8))] s (fun r s'=>r=.tuple [.sl .unk ((frameA a b).1.map (PV.int .u8)),.int .i64 (frameA a b).2]∧s'=s):=by
 refine go Tryz.func131 (k:=fun hwf H=>?_)
 refine rs (k:=rg [0,1] (k:=rs (k:=rb (k:=rs (k:=rg [0,1,6] (k:=rc (ht:=fun hc0=>?_) (hf:=fun hc0=>?_)))))))
 refine jO 1 ?_;rotate_left
 refine rs (k:=rg [0,1,13] (k:=rc (ht:=fun hc1=>?_) (hf:=fun hc1=>?_)))
 refine jO 1 ?_;rotate_left
 refine rs (k:=rg [0,1,17] (k:=rc (ht:=fun hc2=>?_) (hf:=fun hc2=>?_)))
 refine jO 1 ?_;rotate_left
 refine rk (k:=rB (k:=rs (k:=?_)))
 have haw:IntKind.u8.wrap a=a:=by simp only [Bool.or_eq_false_iff,decide_eq_false_iff_not] at hc0;rw [u8_wrap];omega
 have hao:OkB (a::b):=OkB.cons (by simp only [Bool.or_eq_false_iff,decide_eq_false_iff_not] at hc0;constructor<;>omega) hb
 have H:=aj haw H
 refine rr (k:=ro (pre:=[_,_]) (k:=rO (k:=ro (pre:=[_]) (k:=?_))))
 refine RunO.growL (f:=PV.int .u8) [a] b (a::b) (ky:=.unk) au au au rfl Tryz.td41 Y80 (fun a=>⟨rfl,Y30⟩) Y31 Y81 (fun k' S hlo hnx=>?_)
 refine rC (h:=crc_Seal (l:=a::b) hao Y192) (k:=rh [4,5] (k:=rR (k:=?_)))
 refine jO 2 ?_;rotate_left
 any_goals
  refine jI 1 ?_
  refine rs (k:=rg [4,5] (k:=rR (k:=?_)))
  refine jO 2 ?_;rotate_left
 any_goals
  refine jI 2 ?_
  refine Ret.pure (r':=.tuple [.sl .unk ((frameA a b).1.map (PV.int .u8)),.int .i64 (frameA a b).2]) (by simp only [Tryz.f131,go_sem,↓reduceIte]<;>rfl) ?_ Y266 hwf (fun i hi=>by first | rfl | exact hlo i hi |(have h0:=ltn hi;have h1:=lte hi;simp only [go_sem,Nat.add_assoc,Nat.reduceAdd,↓reduceIte,h0,h1])) ⟨rfl,rfl⟩
  refine jO 3 ?_;rotate_left
 any_goals
  refine jI 3 ?_
  simp only [PV.weak,PV.weaks,weaks_u8]
  refine jO 4 ?_;rotate_left
 any_goals
  refine jI 4 ?_
  simp only [Bool.or_eq_true,Bool.or_eq_false_iff,decide_eq_true_eq,decide_eq_false_iff_not] at *
  refine jO 5 ?_;rotate_left
 any_goals
  refine jI 5 ?_
  have hbn:b=[]↔(b.length:Int)=0:=⟨fun e=>by rw [e];rfl,fun e=>List.length_eq_zero_iff.1 Y21⟩
  refine jO 6 ?_;rotate_left
 any_goals
  refine jI 6 ?_
  first
   |(have e:frameA a b=([],1):=by unfold frameA;rw [if_pos hc0]
     rw [e];rfl)
   |(have e:frameA a b=([],13):=by unfold frameA;rw [if_neg Y21,if_pos (hbn.2 Y21)]
     rw [e];rfl)
   |(have e:frameA a b=([],3):=by unfold frameA;rw [if_neg Y21,if_neg (fun h=>absurd (hbn.1 h) Y21),if_pos Y21]
     rw [e];rfl)
   |(have e:frameA a b=(sealB (a::b),0):=by unfold frameA;rw [if_neg Y21,if_neg (fun h=>absurd (hbn.1 h) Y21),if_neg Y21]
     rw [e])
end Go.Proofs
namespace Go.Proofs
open Go.PM
set_option maxHeartbeats 2000000
def lnRow (d:Nat) (a0 a1 a2 a3 st:PV):Blk:=.row 86 [.agg [.ptr d 0 0,a0,a1,a2,a3,st]]
theorem line_New {d:Nat} {s:St}:ACalls Tryz.prog 7 [.ptr d 0 0] s (fun r s'=>r=.ptr s.nxt 0 0∧s'=s.new (lnRow d (.sl .nil []) (.sl .nil []) (.sl .nil []) (.sl .nil []) (.sl .nil []))):=by
 refine go Tryz.func7 (k:=fun hwf H=>?_)
 refine rs (k:=rg [0] (k:=rs (k:=rs (k:=rg [0,4] (k:=rc (ht:=fun hc0=>?_) (hf:=fun hc0=>?_))))))
 ·cases hc0
 ·refine rk (k:=rs (k:=rg [2] (k:=rR (k:=?_))))
  exact Ret.all (by simp only [Tryz.f7,go_sem,↓reduceIte]<;>rfl) ⟨rfl,by unfold lnRow;rfl⟩
theorem line_is {t:Int} {s:St}:ACalls Tryz.prog 45 [.int .i64 t] s (fun r s'=>r=.bool (decide (0≤t)&&decide (t<4))∧s'=s):=by
 refine go Tryz.func45 (k:=fun hwf H=>?_)
 refine rs (k:=rg [0] (k:=rs (k:=rg [2] (k:=rR (k:=rP (by simp only [Tryz.f45,go_sem];rfl) hwf ⟨?_,rfl⟩)))))
 rfl
end Go.Proofs
namespace Go.Proofs
open Go.PM
set_option maxHeartbeats 2000000
theorem crc_SealO {l:List Int} (hb:OkB l) (hl:l.length+2≤140737488355328) {s:St}:ACalls Tryz.prog 144 [.sl .unk (l.map (PV.int .u8))] s (fun r s'=>r=.own s.nxt 0 (l.length+2)∧s'=s.new (.row 5 ((sealB l).map (PV.int .u8)))):=by
 refine go Tryz.func144 (k:=fun hwf H=>?_)
 refine rs (k:=rg [0] (k:=rs (k:=rr (k:=ro (pre:=[_]) (k:=?_)))))
 refine RunO.call au au Y26 ((crc_Of hb Y21).mono ?_)
 rintro r s1 ⟨rfl,hs⟩
 subst s1
 refine rh [0,3] (k:=rs (k:=rr (k:=ro (pre:=[_]) (k:=?_))))
 refine RunO.call au au Y26 ((clip_u8 (xs:=l)).mono ?_)
 rintro r s1 ⟨rfl,hs⟩
 subst s1
 refine ro (pre:=[_,_,_,_,_]) (k:=rO (k:=?_))
 refine RunO.appendFirst au au au Tryz.td41 Y80 (isEls_map (P:=Tryz.prog) (e:=5) (f:=PV.int .u8) (fun a=>⟨rfl,Y30⟩) _) (isEls_map (P:=Tryz.prog) (e:=5) (f:=PV.int .u8) (fun a=>⟨rfl,Y30⟩) [_,_]) Y31 Y81 (by unfold aAppendFirst;dsimp only;rw [if_pos Y23]) ?_
 refine rh [2] (k:=rR (k:=?_))
 refine Ret.all (r:=.own s.nxt 0 (l.length+2)) (by simp only [Tryz.f144,go_sem,↓reduceIte]<;>simp) ⟨rfl,?_⟩
 congr 2
 simp [sealB,crc_hi,crc_hi']
theorem rtu_FrameO {b:List Int} (hb:OkB b) (h1:b≠[]) (h2:b.length≤253) {s:St}:ACalls Tryz.prog 131 [.int .i64 17,.sl .unk (b.map (PV.int .u8))] s (fun r s'=>r=.tuple [.own (s.nxt+1) 0 (b.length+3),.int .i64 0]∧s'=(s.new (.tok (17::b).length)).new (.row 5 ((sealB (17::b)).map (PV.int .u8)))):=by
 refine go Tryz.func131 (k:=fun hwf H=>?_)
 have g0:decide ((17:Int)<1)=false:=Y22
 have g1:decide ((247:Int)<17)=false:=Y22
 have hp:0<b.length:=List.length_pos_iff.2 h1
 have g2:decide ((b.length:Int)=0)=false:=decide_eq_false Y21
 have g3:decide ((253:Int)<(b.length:Int))=false:=decide_eq_false Y21
 have gw:IntKind.u8.wrap 17=17:=Y22
 have hao:OkB (17::b):=OkB.cons Y24 hb
 have H:=aj g0 (aj g1 (aj g2 (aj g3 (aj gw H))))
 refine rs (k:=rg [0,1] (k:=rs (k:=rb (k:=rs (k:=rg [0,1,6] (k:=rc (ht:=fun hc0=>?_) (hf:=fun hc0=>?_)))))))
 ·cases hc0
 ·refine rs (k:=rg [0,1,13] (k:=rc (ht:=fun hc1=>?_) (hf:=fun hc1=>?_)))
  ·cases hc1
  ·refine rs (k:=rg [0,1,17] (k:=rc (ht:=fun hc2=>?_) (hf:=fun hc2=>?_)))
   ·cases hc2
   ·refine rk (k:=rB (k:=rs (k:=rr (k:=ro (pre:=[_,_]) (k:=rO (k:=ro (pre:=[_]) (k:=?_)))))))
    refine RunO.append (v:=.sl (.tok s.nxt 1) ((17::b).map (PV.int .u8))) (s':=s.new (.tok (17::b).length)) au au au Tryz.td41 Y80 (isEls_map (P:=Tryz.prog) (e:=5) (f:=PV.int .u8) (fun a=>⟨rfl,Y30⟩) [_]) (isEls_map (P:=Tryz.prog) (e:=5) (f:=PV.int .u8) (fun a=>⟨rfl,Y30⟩) b) Y31 Y81 (by unfold aAppend;rw [if_neg Y313,Tryz.cz5];simp [Nat.add_comm]) ?_
    refine RunO.callw au au au Y26 ((crc_SealO (l:=17::b) hao Y192).mono ?_)
    rintro r s1 ⟨rfl,rfl⟩
    refine rh [4,5] (k:=rR (k:=?_))
    exact Ret.all (by simp only [Tryz.f131,go_sem,↓reduceIte]<;>rfl) ⟨by simp [nxt_new],rfl⟩
theorem line_frame {b:List Int} (hb:OkB b) (hl:b.length≤140737488350000) {s:St}:ACalls Tryz.prog 157 [.sl .unk (b.map (PV.int .u8))] s (fun r s'=>r=.sl .unk ((frameF b).map (PV.int .u8))∧s'=s):=by
 refine go Tryz.func157 (k:=fun hwf H=>?_)
 refine rs (k:=rg [0] (k:=rs (k:=rr (k:=ro (pre:=[_]) (k:=rC (h:=rtu_Frame (a:=17) hb hl) (k:=rh [3] (k:=rs (k:=rg [2] (k:=rR (k:=?_))))))))))
 exact Ret.all (by simp only [Tryz.f157,go_sem,↓reduceIte]<;>rfl) ⟨rfl,rfl⟩
theorem line_frameO {b:List Int} (hb:OkB b) (h1:b≠[]) (h2:b.length≤253) {s:St}:ACalls Tryz.prog 157 [.sl .unk (b.map (PV.int .u8))] s (fun r s'=>r=.own (s.nxt+1) 0 (b.length+3)∧s'=(s.new (.tok (17::b).length)).new (.row 5 ((sealB (17::b)).map (PV.int .u8)))):=by
 refine go Tryz.func157 (k:=fun hwf H=>?_)
 refine rs (k:=rg [0] (k:=rs (k:=rr (k:=ro (pre:=[_]) (k:=?_)))))
 refine RunO.callw au au au Y26 ((rtu_FrameO hb h1 h2).mono ?_)
 rintro r s1 ⟨rfl,rfl⟩
 refine rh [3] (k:=rs (k:=rg [2] (k:=rR (k:=?_))))
 exact Ret.all (by simp only [Tryz.f157,go_sem,↓reduceIte]<;>rfl) ⟨rfl,rfl⟩
theorem pduF_len {D:Dev} (hD:D.ok) {p:List Int} (hp:OkB p) (hpl:p.length≤253):(pduF D p).1.length≤140737488350000:=by
 have h:∀ R:Rep,(repF R).length≤300:=fun R=>by
  unfold repF
  split
  ·exact layF_len ‹_›
  ·simp
 unfold pduF
 split
 ·simp
 ·dsimp only
  exact Nat.le_trans (h _) Y21
theorem refuse_mod (x:Int):refuseP x 4=refuseP (x%128) 4:=by
 unfold refuseP
 rw [show x%128%128=x%128 from Y21]
theorem line_fine {ln b:Nat} {a0 a1 a2 a3 st:PV} {D:Dev} {s:St} (hl:s.blk ln=some (lnRow (b+5) a0 a1 a2 a3 st)) (hA:DevAt b D s) (hD:D.ok) {p:List Int} (hp:OkB p) (hpl:p.length≤253):ACalls Tryz.prog 148 [.ptr ln 0 0,.sl .unk (p.map (PV.int .u8))] s (fun r s'=>r=.sl .unk ((lineF 0 D p).1.map (PV.int .u8))∧s'=putDev b (lineF 0 D p).2 s):=by
 refine go Tryz.func148 (k:=fun hwf H=>?_)
 unfold lnRow at hl
 obtain ⟨⟨x,D'⟩,hX⟩:∃ Z,pduF D p=Z:=⟨_,rfl⟩
 have hxo:OkB x:=by have:=pduF_okB hD hp Y21;rwa [hX] at this
 have hxl:x.length≤140737488350000:=by have:=pduF_len hD hp hpl;rw [hX] at this;exact this
 have hpd:∀ s,DevAt b D s→ACalls Tryz.prog 158 [.ptr (b+5) 0 0,.sl .unk (p.map (PV.int .u8))] s (fun r s'=>r=.sl .unk (x.map (PV.int .u8))∧s'=putDev b D' s):=fun s hA=>by
  have:=device_Pdu hA hD hp (s:=s) Y21
  rwa [hX] at this
 have H:=aj hl H
 refine rs (k:=rg [0,1] (k:=rs (k:=rr (k:=ro (pre:=[_,_,_,_,_]) (k:=?_)))))
 refine RunO.callw au au au Y26 ((hpd _ hA).mono ?_)
 rintro r s1 ⟨rfl,rfl⟩
 refine rC (h:=line_frame hxo hxl) (k:=rh [4] (k:=rR (k:=?_)))
 exact Ret.all (by simp only [Tryz.f148,go_sem,↓reduceIte]<;>rfl) ⟨by show _=PV.sl .unk ((frameF (pduF D p).1).map _);rw [hX],by show _=putDev b (pduF D p).2 s;rw [hX]⟩
theorem line_fineO {ln b:Nat} {a0 a1 a2 a3 st:PV} {D:Dev} {s:St} (hl:s.blk ln=some (lnRow (b+5) a0 a1 a2 a3 st)) (hA:DevAt b D s) (hD:D.ok) {p:List Int} (hp:OkB p) (hpl:p.length≤253) (h1:(pduF D p).1≠[]) (h2:(pduF D p).1.length≤253):ACalls Tryz.prog 148 [.ptr ln 0 0,.sl .unk (p.map (PV.int .u8))] s (fun r s'=>r=.own (s.nxt+1) 0 ((pduF D p).1.length+3)∧s'=((putDev b (pduF D p).2 s).new (.tok (17::(pduF D p).1).length)).new (.row 5 ((sealB (17::(pduF D p).1)).map (PV.int .u8)))):=by
 refine go Tryz.func148 (k:=fun hwf H=>?_)
 unfold lnRow at hl
 obtain ⟨⟨x,D'⟩,hX⟩:∃ Z,pduF D p=Z:=⟨_,rfl⟩
 have hxo:OkB x:=by have:=pduF_okB hD hp Y21;rwa [hX] at this
 have hxl:x.length≤140737488350000:=by have:=pduF_len hD hp hpl;rw [hX] at this;exact this
 have hpd:∀ s,DevAt b D s→ACalls Tryz.prog 158 [.ptr (b+5) 0 0,.sl .unk (p.map (PV.int .u8))] s (fun r s'=>r=.sl .unk (x.map (PV.int .u8))∧s'=putDev b D' s):=fun s hA=>by
  have:=device_Pdu hA hD hp (s:=s) Y21
  rwa [hX] at this
 rw [hX] at h1 h2 ⊢
 have H:=aj hl H
 refine rs (k:=rg [0,1] (k:=rs (k:=rr (k:=ro (pre:=[_,_,_,_,_]) (k:=?_)))))
 refine RunO.callw au au au Y26 ((hpd _ hA).mono ?_)
 rintro r s1 ⟨rfl,rfl⟩
 refine RunO.callw au au au Y26 ((line_frameO hxo h1 h2).mono ?_)
 rintro r s1 ⟨rfl,rfl⟩
 refine rh [4] (k:=rR (k:=?_))
 exact Ret.all (by simp only [Tryz.f148,go_sem,↓reduceIte]<;>rfl) ⟨rfl,rfl⟩
theorem line_lost {ln b:Nat} {a0 a1 a2 a3 st:PV} {D:Dev} {s:St} (hl:s.blk ln=some (lnRow (b+5) a0 a1 a2 a3 st)) (hA:DevAt b D s) (hD:D.ok) {p:List Int} (hp:OkB p) (hpl:p.length≤253):ACalls Tryz.prog 149 [.ptr ln 0 0,.sl .unk (p.map (PV.int .u8))] s (fun r s'=>r=.sl .unk ((lineF 1 D p).1.map (PV.int .u8))∧s'=putDev b (lineF 1 D p).2 s):=by
 refine go Tryz.func149 (k:=fun hwf H=>?_)
 refine rs (k:=rg [] (k:=rs (k:=rg [4] (k:=rR (k:=?_)))))
 refine Ret.pure (r':=.sl .unk []) (by simp only [Tryz.f149,go_sem,↓reduceIte]<;>rfl) rfl Y34 hwf (fun _ _=>rfl) ⟨rfl,(putDev_self hA).symm⟩
theorem line_mute {ln b:Nat} {a0 a1 a2 a3 st:PV} {D:Dev} {s:St} (hl:s.blk ln=some (lnRow (b+5) a0 a1 a2 a3 st)) (hA:DevAt b D s) (hD:D.ok) {p:List Int} (hp:OkB p) (hpl:p.length≤253):ACalls Tryz.prog 150 [.ptr ln 0 0,.sl .unk (p.map (PV.int .u8))] s (fun r s'=>r=.sl .unk ((lineF 2 D p).1.map (PV.int .u8))∧s'=putDev b (lineF 2 D p).2 s):=by
 refine go Tryz.func150 (k:=fun hwf H=>?_)
 refine rs (k:=rg [0,1] (k:=rs (k:=rr (k:=ro (pre:=[_,_]) (k:=?_)))))
 refine RunO.callw au au au Y26 ((line_fine hl hA hD hp hpl).mono ?_)
 rintro r s1 ⟨rfl,rfl⟩
 refine rl [] (k:=rs (k:=rg [4] (k:=rR (k:=?_))))
 exact Ret.dev (lineF 2 D p).2 hA (r':=.sl .unk []) (by simp only [Tryz.f150,go_sem,↓reduceIte]<;>rfl) rfl Y34 hwf (fun _ _=>rfl) ⟨rfl,rfl⟩
attribute [local go_sem] weaks_bools Rep.pv
theorem line_refuse {ln b:Nat} {a0 a1 a2 a3 st:PV} {D:Dev} {s:St} (hl:s.blk ln=some (lnRow (b+5) a0 a1 a2 a3 st)) (hA:DevAt b D s) (hD:D.ok) {p:List Int} (hp:OkB p) (hpl:p.length≤253) (hne:p≠[]):ACalls Tryz.prog 152 [.ptr ln 0 0,.sl .unk (p.map (PV.int .u8))] s (fun r s'=>r=.sl .unk ((lineF 4 D p).1.map (PV.int .u8))∧s'=putDev b (lineF 4 D p).2 s):=by
 refine go Tryz.func152 (k:=fun hwf H=>?_)
 have hll:0<p.length:=List.length_pos_iff.2 hne
 obtain ⟨x,hx⟩:∃ x,p[0]? =some x:=⟨p[0],List.getElem?_eq_getElem hll⟩
 have hxx:(p.map (PV.int .u8))[0]? =some (.int .u8 x):=Y148
 have hlT:(0<p.length)=True:=eq_true hll
 have hx8:U8 x:=hp x (List.mem_of_getElem? hx)
 have hx0:(p[0]?).getD 0=x:=by rw [hx];rfl
 have ha127:ibits .and .u8 x 127=x%128:=u8_and127 hx8
 have hw:IntKind.i64.wrap (x%128)=x%128:=wrap_i64 Y21
 have hx64:I64 (x%128):=Y77
 have h4:I64 4:=Y24
 have hrl:(repF (refuseP (x%128) 4)).length≤140737488350000:=by
  unfold repF
  split
  ·exact Nat.le_trans (layF_len ‹_›) Y21
  ·simp
 have H:=aj hxx (aj hlT (aj ha127 (aj hw H)))
 refine rs (k:=rg [1] (k:=rs (k:=rr (k:=ro (pre:=[_,_,_,_,_]) (k:=rC (h:=reply_Refuse (fn:=x%128) (code:=4) hx64 h4) (k:=rC (h:=reply_Bytes (refuseP_ok _ _)) (k:=rh [5] (k:=rs (k:=rr (k:=ro (pre:=[_]) (k:=rC (h:=line_frame (repF_ok (refuseP_ok _ _)) hrl) (k:=rh [4] (k:=rR (k:=?_))))))))))))))
 exact Ret.all (by simp only [Tryz.f152,go_sem,↓reduceIte]<;>rfl) ⟨by show _=PV.sl .unk ((frameF (repF (refuseP ((p[0]?).getD 0) 4))).map _);rw [hx0,refuse_mod x],(putDev_self hA).symm⟩
end Go.Proofs
namespace Go.Proofs
open Go.PM
set_option maxHeartbeats 2000000
theorem line_brokenN {ln b:Nat} {a0 a1 a2 a3 st:PV} {D:Dev} {s:St} (hl:s.blk ln=some (lnRow (b+5) a0 a1 a2 a3 st)) (hA:DevAt b D s) (hD:D.ok) {p:List Int} (hp:OkB p) (hpl:p.length≤253) (hz:frameF (pduF D p).1=[]):ACalls Tryz.prog 151 [.ptr ln 0 0,.sl .unk (p.map (PV.int .u8))] s (fun r s'=>r=.sl .unk ((lineF 3 D p).1.map (PV.int .u8))∧s'=putDev b (lineF 3 D p).2 s):=by
 refine go Tryz.func151 (k:=fun hwf H=>?_)
 have hz2:(lineF 0 D p).1=[]:=hz
 have hzl:(((lineF 0 D p).1.length:Nat):Int)=0:=by rw [hz2];rfl
 have H:=aj hzl H
 refine rs (k:=rg [0,1] (k:=rs (k:=rr (k:=ro (pre:=[_,_]) (k:=?_)))))
 refine RunO.callw au au au Y26 ((line_fine hl hA hD hp hpl).mono ?_)
 rintro r s1 ⟨rfl,rfl⟩
 refine rh [5] (k:=rs (k:=rs (k:=rg [5,6] (k:=rs (k:=rg [5,6,13] (k:=rc (ht:=fun hc0=>?_) (hf:=fun hc0=>?_)))))))
 ·cases hc0
 ·refine rk (k:=rs (k:=rg [4] (k:=rR (k:=?_))))
  exact Ret.all (by simp only [Tryz.f151,go_sem,↓reduceIte]<;>rfl) ⟨by rw [hz2];show _=PV.sl .unk ((flipL (frameF (pduF D p).1)).map _);rw [hz];rfl,rfl⟩
attribute [local go_sem] set_set putDev_hi putDev_nxt
theorem line_brokenO {ln b:Nat} {a0 a1 a2 a3 st:PV} {D:Dev} {s:St} (hl:s.blk ln=some (lnRow (b+5) a0 a1 a2 a3 st)) (hA:DevAt b D s) (hD:D.ok) {p:List Int} (hp:OkB p) (hpl:p.length≤253) (h1:(pduF D p).1≠[]) (h2:(pduF D p).1.length≤253):ACalls Tryz.prog 151 [.ptr ln 0 0,.sl .unk (p.map (PV.int .u8))] s (fun r s'=>r=.sl .unk ((lineF 3 D p).1.map (PV.int .u8))∧s'=putDev b (lineF 3 D p).2 s):=by
 refine go Tryz.func151 (k:=fun hwf H=>?_)
 obtain ⟨Z,hZ⟩:∃ Z,Z=sealB (17::(pduF D p).1):=⟨_,rfl⟩
 have hZl:Z.length=(pduF D p).1.length+3:=by rw [hZ,sealB_len,List.length_cons]
 have hlt:=hA.lt hwf
 obtain ⟨m,hm⟩:∃ m,m+1=Z.length:=⟨(pduF D p).1.length+2,Y21⟩
 have hml:m<Z.length:=Y21
 obtain ⟨z,hz⟩:∃ z,Z[m]'hml=z:=⟨_,rfl⟩
 have hzz:(Z.map (PV.int .u8))[m]? =some (.int .u8 z):=by rw [map_get hml,hz]
 have hT1:((0:Int)<(((pduF D p).1.length+3:Nat):Int))=True:=eq_true Y21
 have hw:IntKind.i64.wrap ((((pduF D p).1.length+3:Nat):Int)-1)=(m:Int):=Y28
 have hmT:(m<(pduF D p).1.length+3)=True:=eq_true Y21
 have hmT2:((m:Int)<(((pduF D p).1.length+3:Nat):Int))=True:=eq_true Y21
 have hset:(Z.map (PV.int .u8)).set m (.int .u8 (ibits .xor .u8 z 1))=(Z.set m (ibits .xor .u8 z 1)).map (PV.int .u8):=by rw [List.map_set]
 have hfl:Z.set m (ibits .xor .u8 z 1)=flipL (frameF (pduF D p).1):=by
  rw [frameF_eq h1 h2,← hZ]
  unfold flipL
  rw [show Z.length-1=m from Y21,List.getElem?_eq_getElem hml,hz];rfl
 have H:=aj hzz (aj hT1 (aj hw (aj hmT (aj hmT2 (aj hset H)))))
 refine rs (k:=rg [0,1] (k:=rs (k:=rr (k:=ro (pre:=[_,_]) (k:=?_)))))
 refine RunO.callw au au au Y26 ((line_fineO hl hA hD hp hpl h1 h2).mono ?_)
 rintro r s1 ⟨rfl,rfl⟩
 rw [← hZ]
 refine rh [5] (k:=rs (k:=rs (k:=rg [5,6] (k:=rs (k:=rg [5,6,13] (k:=rc (ht:=fun hc0=>?_) (hf:=fun hc0=>?_)))))))
 ·refine rg [5] (k:=rs (k:=rr (k:=?_)))
  refine RunO.thaw 5 (s.nxt+1) 2 (v:=.sl .unk ((flipL (frameF (pduF D p).1)).map (PV.int .u8))) (by simp (disch:=omega) only [go_sem,↓reduceIte];rw [← hfl];exact frz_own_ints (t:=5) (by rw [List.length_set];omega) Y23 (by simp (disch:=first | omega |(simp only [nxt_set,nxt_new,putDev_nxt]<;>omega) | fail) only [go_sem,putDev_nxt,↓reduceIte,H]<;>rfl)) (by simp only [PV.blw,blws_u8T];exact ⟨fun t z e=>Y20,trivial⟩) ?_
  refine ro (pre:=[_]) (k:=rh [4] (k:=rR (k:=?_)))
  exact Ret.dev (lineF 3 D p).2 hA (r':=.sl .unk ((flipL (frameF (pduF D p).1)).map (PV.int .u8))) (by simp only [Tryz.f151,go_sem,↓reduceIte]<;>rfl) (by simp only [PV.weak,weaks_u8]) Y27 hwf (fun i hi=>by first | rfl |(have h0:=ltn hi;have h1:=lte hi;simp (disch:=first | omega |(simp only [nxt_set,nxt_new,putDev_nxt]<;>omega) | fail) only [go_sem,putDev_nxt,Nat.add_assoc,Nat.reduceAdd,↓reduceIte,h0,h1]<;>rfl)) ⟨rfl,rfl⟩
 ·cases hc0
theorem line_broken {ln b:Nat} {a0 a1 a2 a3 st:PV} {D:Dev} {s:St} (hl:s.blk ln=some (lnRow (b+5) a0 a1 a2 a3 st)) (hA:DevAt b D s) (hD:D.ok) {p:List Int} (hp:OkB p) (hpl:p.length≤253):ACalls Tryz.prog 151 [.ptr ln 0 0,.sl .unk (p.map (PV.int .u8))] s (fun r s'=>r=.sl .unk ((lineF 3 D p).1.map (PV.int .u8))∧s'=putDev b (lineF 3 D p).2 s):=by
 by_cases h1:(pduF D p).1=[]
 ·exact line_brokenN hl hA hD hp hpl (by rw [h1];rfl)
 ·by_cases h2:(pduF D p).1.length≤253
  ·exact line_brokenO hl hA hD hp hpl h1 h2
  ·refine line_brokenN hl hA hD hp hpl ?_
   unfold frameF frameA
   rw [if_neg Y22,if_neg h1,if_pos Y21]
theorem Y102 {p:Prop} (h:p:=by simp only [Tryz.f134,go_sem,↓reduceIte]<;>rfl):p:=h
theorem Y162 {p:Prop} (h:p:=by simp only [PV.blw,PV.blws,and_true];exact hln):p:=h
theorem line_does0 {ln:Nat} {s:St} (hln:ln<s.nxt):ACalls Tryz.prog 134 [.ptr ln 0 0,.int .i64 0] s (fun r s'=>r=.fn (.func 148) [.ptr ln 0 0] []∧s'=s):=by
 refine go Tryz.func134 (k:=fun hwf H=>?_)
 have f0:((0:Int)<((5:Nat):Int))=True:=eq_true Y22
 have f1:((0:Int)≤0)=True:=eq_true Y22
 have f2:Int.toNat 0=0:=rfl
 have H:=aj f0 (aj f1 (aj f2 H))
 refine rs (k:=rg [0,1] (k:=rs (k:=rg [1,5] (k:=rs (k:=rg [4] (k:=rR (k:=?_)))))))
 exact Ret.pure (r':=.fn (.func 148) [.ptr ln 0 0] []) Y102 (by rfl) Y162 hwf Y36 ⟨rfl,rfl⟩
theorem line_does1 {ln:Nat} {s:St} (hln:ln<s.nxt):ACalls Tryz.prog 134 [.ptr ln 0 0,.int .i64 1] s (fun r s'=>r=.fn (.func 149) [.ptr ln 0 0] []∧s'=s):=by
 refine go Tryz.func134 (k:=fun hwf H=>?_)
 have f0:((1:Int)<((5:Nat):Int))=True:=eq_true Y22
 have f1:((0:Int)≤1)=True:=eq_true Y22
 have f2:Int.toNat 1=1:=rfl
 have H:=aj f0 (aj f1 (aj f2 H))
 refine rs (k:=rg [0,1] (k:=rs (k:=rg [1,5] (k:=rs (k:=rg [4] (k:=rR (k:=?_)))))))
 exact Ret.pure (r':=.fn (.func 149) [.ptr ln 0 0] []) Y102 (by rfl) Y162 hwf Y36 ⟨rfl,rfl⟩
theorem line_does2 {ln:Nat} {s:St} (hln:ln<s.nxt):ACalls Tryz.prog 134 [.ptr ln 0 0,.int .i64 2] s (fun r s'=>r=.fn (.func 150) [.ptr ln 0 0] []∧s'=s):=by
 refine go Tryz.func134 (k:=fun hwf H=>?_)
 have f0:((2:Int)<((5:Nat):Int))=True:=eq_true Y22
 have f1:((0:Int)≤2)=True:=eq_true Y22
 have f2:Int.toNat 2=2:=rfl
 have H:=aj f0 (aj f1 (aj f2 H))
 refine rs (k:=rg [0,1] (k:=rs (k:=rg [1,5] (k:=rs (k:=rg [4] (k:=rR (k:=?_)))))))
 exact Ret.pure (r':=.fn (.func 150) [.ptr ln 0 0] []) Y102 (by rfl) Y162 hwf Y36 ⟨rfl,rfl⟩
theorem line_does3 {ln:Nat} {s:St} (hln:ln<s.nxt):ACalls Tryz.prog 134 [.ptr ln 0 0,.int .i64 3] s (fun r s'=>r=.fn (.func 151) [.ptr ln 0 0] []∧s'=s):=by
 refine go Tryz.func134 (k:=fun hwf H=>?_)
 have f0:((3:Int)<((5:Nat):Int))=True:=eq_true Y22
 have f1:((0:Int)≤3)=True:=eq_true Y22
 have f2:Int.toNat 3=3:=rfl
 have H:=aj f0 (aj f1 (aj f2 H))
 refine rs (k:=rg [0,1] (k:=rs (k:=rg [1,5] (k:=rs (k:=rg [4] (k:=rR (k:=?_)))))))
 exact Ret.pure (r':=.fn (.func 151) [.ptr ln 0 0] []) Y102 (by rfl) Y162 hwf Y36 ⟨rfl,rfl⟩
theorem line_does4 {ln:Nat} {s:St} (hln:ln<s.nxt):ACalls Tryz.prog 134 [.ptr ln 0 0,.int .i64 4] s (fun r s'=>r=.fn (.func 152) [.ptr ln 0 0] []∧s'=s):=by
 refine go Tryz.func134 (k:=fun hwf H=>?_)
 have f0:((4:Int)<((5:Nat):Int))=True:=eq_true Y22
 have f1:((0:Int)≤4)=True:=eq_true Y22
 have f2:Int.toNat 4=4:=rfl
 have H:=aj f0 (aj f1 (aj f2 H))
 refine rs (k:=rg [0,1] (k:=rs (k:=rg [1,5] (k:=rs (k:=rg [4] (k:=rR (k:=?_)))))))
 exact Ret.pure (r':=.fn (.func 152) [.ptr ln 0 0] []) Y102 (by rfl) Y162 hwf Y36 ⟨rfl,rfl⟩
end Go.Proofs
namespace Go.Proofs
open Go.PM
set_option maxHeartbeats 2000000
theorem Ret.allW {P:Program} {fn:Func} {args:List PV} {s0 s:St} {Q:PV→St→Prop} {e:Env} {r r':PV} (hr:retv P fn.results.toList e s=some r) (hr':r'=r.weak) (h:Q r' s):Ret P fn args s0 Q e s:=by
 subst hr'
 exact ⟨r,hr,r.weak,s,h,fun g0 w0 g w _ hX hI v hv=>⟨g,hI,R_weak r v hv,hX⟩⟩
structure Snt where
 tick:Int
 tenant:Int
 data:List Int
def Snt.pv (x:Snt):PV:=.agg [.int .i64 x.tick,.int .i64 x.tenant,.sl .unk (x.data.map (PV.int .u8))]
theorem line_body {f:Int} (hf:0≤f∧f≤4):∃ N:Nat,(∀ {ln:Nat} {s:St},ln<s.nxt→ACalls Tryz.prog 134 [.ptr ln 0 0,.int .i64 f] s (fun r s'=>r=.fn (.func N) [.ptr ln 0 0] []∧s'=s))∧callable Tryz.prog N=true ∧
  ∀ {ln b:Nat} {a0 a1 a2 a3 st:PV} {D:Dev} {s:St},s.blk ln=some (lnRow (b+5) a0 a1 a2 a3 st)→DevAt b D s→D.ok→∀ {p:List Int},OkB p→p.length≤253→p≠[]→ACalls Tryz.prog N [.ptr ln 0 0,.sl .unk (p.map (PV.int .u8))] s (fun r s'=>r=.sl .unk ((lineF f D p).1.map (PV.int .u8))∧s'=putDev b (lineF f D p).2 s):=by
 obtain rfl | rfl | rfl | rfl | rfl:f=0∨f=1∨f=2∨f=3∨f=4:=Y21
 ·exact ⟨148,fun h=>line_does0 h,Y26,fun hl hA hD _ hp hpl _=>line_fine hl hA hD hp hpl⟩
 ·exact ⟨149,fun h=>line_does1 h,Y26,fun hl hA hD _ hp hpl _=>line_lost hl hA hD hp hpl⟩
 ·exact ⟨150,fun h=>line_does2 h,Y26,fun hl hA hD _ hp hpl _=>line_mute hl hA hD hp hpl⟩
 ·exact ⟨151,fun h=>line_does3 h,Y26,fun hl hA hD _ hp hpl _=>line_broken hl hA hD hp hpl⟩
 ·exact ⟨152,fun h=>line_does4 h,Y26,fun hl hA hD _ hp hpl hne=>line_refuse hl hA hD hp hpl hne⟩
attribute [local go_sem] set_set putDev_hi putDev_nxt
attribute [local go_sem] set_set putDev_hi putDev_nxt
end Go.Proofs
namespace Go.Proofs
open Go.PM
set_option maxHeartbeats 2000000
structure ElsAt (c:Nat) (s0 s':St) (kk:SK) (els ws:List PV):Prop where
 wk:PV.weaks els=ws
 el:∀ p∈els,p.ok=true∧p.cells.length=c
 fr:Fr s0 s'
 gr:Grows s' kk els.length c
 tk:∀ t z,kk=.tok t z→s0.nxt≤t∧t<s'.nxt
theorem weaks_snocP {a b:List PV}:PV.weaks (a++b)=PV.weaks a++PV.weaks b:=by
 induction a with
 | nil=>rfl
 | cons x l ih=>simp only [List.cons_append,PV.weaks,ih]
theorem ElsAt.snoc {c:Nat} {s0 s1 s2 s3:St} {kk k':SK} {els ws:List PV} {el w:PV} (h:ElsAt c s0 s1 kk els ws) (h1:el.ok=true) (h2:el.cells.length=c) (hw:el.weak=w) (h12:s1.nxt≤s2.nxt) (f2:Fr s0 s2)
  (hg:Grows s3 k' (els.length+[el].length) c) (htm:TMoves s2 s3 kk k'):ElsAt c s0 s3 k' (els++[el]) (ws++[w]):=by
 refine ⟨by rw [weaks_snocP,h.wk];simp only [PV.weaks,hw],fun p hp=>?_,f2.tm htm (fun t z e=>(h.tk t z e).1),by rw [List.length_append];exact hg,fun t z e=>?_⟩
 ·rcases List.mem_append.1 hp with hp | hp
  ·exact h.el p hp
  ·rw [List.mem_singleton.1 hp];exact ⟨h1,h2⟩
 ·have h9:=htm.nxt
  have h8:=f2.nxt
  rcases htm.fresh t z e with ⟨z',h'⟩ | ⟨h1,h2⟩
  ·have:=h.tk t z' h';omega
  ·omega
attribute [local go_sem] set_set
theorem Y103 {p:Prop} (h:p:=by have:=hE.tk _ _ e;simp (disch:=first | omega |(simp only [nxt_set,nxt_new]<;>omega) | fail) only [go_sem]):p:=h
theorem Y163 {p:Prop} (h:p:=by rw [map_get hil,hxe];rfl):p:=h
theorem Y217 {p:Prop} (h:p:=by exact (fun p hp=>by cases hp)):p:=h
theorem Y267 {p:Prop} (h:p:=by rw [List.length_append,hel];rfl):p:=h
set_option maxRecDepth 100000 in
theorem line_Sent {ln d:Nat} {a0 a1 a2 a3:PV} {k:SK} {l:List Snt} (hll:l.length≤100000) (hld:∀ x∈l,x.data.length≤140737488350000) {s:St} (hl:s.blk ln=some (lnRow d a0 a1 a2 a3 (.sl k (l.map Snt.pv)))):ACalls Tryz.prog 23 [.ptr ln 0 0] s (fun r s'=>r=.sl .unk (l.map Snt.pv)∧s'=s):=by
 refine go Tryz.func23 (k:=fun hwf H=>?_)
 unfold lnRow at hl
 have hlt:=lt_blk hwf hl
 have n1:(ln=s.nxt)=False:=eq_false Y21
 have H:=aj n1 H
 have H:=aj hl H
 refine rs (k:=rg [0] (k:=rs (k:=rr (k:=ro (pre:=[_,_,_,_,_]) (k:=?_)))))
 refine RunO.makeCap (n:=l.length) au au au Tryz.td75 (by rw [Tryz.zp78]) Y21 (by rw [Tryz.by78];omega) ?_
 refine rh [0,3] (k:=rs (k:=rs (k:=rg [3,15,16,17] (k:=rb (k:=?_)))))
 refine Run.loop (fun e s'=>∃ (i:Nat) (els:List PV) (kk:SK),e=[(3,.sl kk els),(15,.sl k (l.map Snt.pv)),(16,.int .i64 (l.length:Int)),(17,.int .i64 (i:Int))]∧i≤l.length∧els.length=i∧ElsAt 3 s s' kk els ((l.take i).map Snt.pv)) (fun e s'=>l.length-ivar e 17) ?_ ?_
 ·exact ⟨0,[],.tok s.nxt 3,rfl,Nat.zero_le _,rfl,rfl,Y217,(Fr.refl hwf).new _,.inr (.inr ⟨s.nxt,rfl,blk_new_eq⟩),fun t z e=>by cases e;exact ⟨Nat.le_refl _,Nat.lt_succ_self _⟩⟩
 rintro e s1 ⟨i,els,kk,rfl,hi,hel,hE⟩
 have hFn:=hE.fr.nxt
 refine rs (k:=rg [3,15,16,17,18] (k:=rs (k:=rc (ht:=fun hc0=>?_) (hf:=fun hc0=>?_))))
 ·refine rk (k:=rs (k:=rb (k:=rs (k:=?_))))
  have hil:i<l.length:=Y83
  obtain ⟨x,hxe⟩:∃ z_,l[i]'hil=z_:=⟨_,rfl⟩
  have hxx:(l.map Snt.pv)[i]? =some (.agg [.int .i64 x.tick,.int .i64 x.tenant,.sl .unk (x.data.map (PV.int .u8))]):=Y163
  have hilT:(i<l.length)=True:=eq_true hil
  have hxd:x.data.length≤140737488350000:=hld x Y84
  have hw:IntKind.i64.wrap ((i:Int)+1)=((i+1:Nat):Int):=Y28
  have H:=aj hxx (aj hilT (aj hw H))
  refine rg [3,5,15,16,17] (k:=rs (k:=rr (k:=ro (pre:=[_,_]) (k:=rC (h:=clone_u8 (xs:=x.data) Y21) (k:=rC (h:=clip_u8 (xs:=x.data)) (k:=rh [3,5,15,16,17] (k:=rr (k:=ro (pre:=[_,_]) (k:=rO (k:=?_))))))))))
  refine RunO.grow (xs:=els) (ys:=[_]) au au au Tryz.td75 (by rw [Tryz.zp78];rfl) (by unfold isEls;rw [Tryz.cz78];exact hE.el) (by intro p hp;rw [List.mem_singleton.1 hp,Tryz.cz78];exact ⟨rfl,rfl⟩) (by rw [Tryz.by78];decide) (by rw [Tryz.by78];simp;omega) (by rw [Tryz.cz78];exact hE.gr.mono fun t e=>Y103) Y23 ?_
  intro k' s3 hgr' htm
  rw [Tryz.cz78] at hgr'
  refine rh [3,15,16,17] (k:=rB (k:=rg [3,15,16,17] (k:=?_)))
  refine Run.lp ⟨⟨i+1,_,k',rfl,Y21,Y267,?_⟩,?_⟩
  ·rw [take_get hil,hxe,List.map_append]
   exact hE.snoc rfl rfl (by simp only [PV.weak,PV.weaks,weaks_u8,Snt.pv]) (Nat.le_succ _) (hE.fr.new _) hgr' htm
  ·exact Y32
 ·refine rX (k:=rs (k:=rg [2] (k:=rR (k:=?_))))
  have hi2:i=l.length:=Y33
  refine Ret.pure (r':=.sl .unk (l.map Snt.pv)) (by simp only [Tryz.f23,go_sem,↓reduceIte]<;>rfl) (by rw [PV.weak,hE.wk,hi2,List.take_length]) (by simp only [PV.blw];exact ⟨fun t z e=>Y20,blws_map Snt.pv _ (fun a=>by simp only [Snt.pv,PV.blw,PV.blws,and_true,true_and];exact ⟨fun t z e=>Y20,blws_u8 _ _⟩) _⟩) hwf hE.fr.blk ⟨rfl,rfl⟩
end Go.Proofs
namespace Go.Proofs
open Go.PM
set_option maxHeartbeats 2000000
def TkAt (s:St) (z:Nat) (els:List PV) (c:Nat) (x:PV):Option Nat→Prop
 | none=>x=.sl .nil []∧els=[]
 | some t=>x=.sl (.tok t z) els∧s.blk t=some (.tok els.length)∧c≤t∧t<s.nxt
theorem TkAt.keep {s s':St} {z:Nat} {els:List PV} {c:Nat} {x:PV} {n:Option Nat} (h:TkAt s z els c x n) (hb:∀ t,n=some t→t<s.nxt→s'.blk t=s.blk t) (hx:s.nxt≤s'.nxt):TkAt s' z els c x n:=by
 cases n with
 | none=>exact h
 | some t=>exact ⟨h.1,by rw [hb t rfl h.2.2.2];exact h.2.1,h.2.2.1,Nat.lt_of_lt_of_le h.2.2.2 hx⟩
structure LnAt (b ln c:Nat) (D:Dev) (F:List Int) (l:List Snt) (a1 a2 a3:PV) (s:St):Prop where
 row:∃ x st n m,s.blk ln=some (lnRow (b+5) x a1 a2 a3 st)∧TkAt s 1 (F.map (PV.int .i64)) c x n∧TkAt s 3 (l.map Snt.pv) c st m∧(n=none∨n≠m)
 dev:DevAt b D s
 lt:b+5<ln
 hc:ln<c
 nx:c≤s.nxt
structure Out (b ln c:Nat) (s s':St):Prop where
 nx:s.nxt≤s'.nxt
 same:∀ j,j<s.nxt→(j<c∨∀ L,s.blk j≠some (.tok L))→j≠ln→¬ (b≤j∧j≤b+5)→s'.blk j=s.blk j
theorem Out.refl (b ln c:Nat) (s:St):Out b ln c s s:=⟨Nat.le_refl _,fun _ _ _ _ _=>rfl⟩
theorem Out.trans {b ln c:Nat} {s s1 s2:St} (h:Out b ln c s s1) (k:Out b ln c s1 s2):Out b ln c s s2:=⟨Nat.le_trans h.nx k.nx,fun j h1 h2 h3 h4=>(k.same j (Nat.lt_of_lt_of_le h1 h.nx) (by rw [h.same j h1 h2 h3 h4];exact h2) h3 h4).trans (h.same j h1 h2 h3 h4)⟩
theorem LnAt.put {b ln c:Nat} {D D':Dev} {F:List Int} {l:List Snt} {a1 a2 a3:PV} {s:St} (h:LnAt b ln c D F l a1 a2 a3 s) (hl:D'.c0.length=D.c0.length):LnAt b ln c D' F l a1 a2 a3 (putDev b D' s)∧Out b ln c s (putDev b D' s):=by
 have h1:=h.lt
 have h2:=h.hc
 obtain ⟨x,st,n,m,r1,r2,r3,r4⟩:=h.row
 refine ⟨⟨⟨x,st,n,m,by rw [putDev_hi Y21];exact r1,?_,?_,r4⟩,DevAt.put h.dev hl,h1,h2,h.nx⟩,Nat.le_refl _,fun j _ _ _ h3=>?_⟩
 ·refine r2.keep (fun t e ht=>?_) (Nat.le_refl _)
  subst e
  have:=r2.2.2.1
  exact putDev_hi Y21
 ·refine r3.keep (fun t e ht=>?_) (Nat.le_refl _)
  subst e
  have:=r3.2.2.1
  exact putDev_hi Y21
 ·by_cases hj:j<b
  ·exact putDev_lo Y21
  ·exact putDev_hi Y21
theorem LnAt.nw {b ln c:Nat} {D:Dev} {F:List Int} {l:List Snt} {a1 a2 a3:PV} {s:St} (h:LnAt b ln c D F l a1 a2 a3 s) (x:Blk):LnAt b ln c D F l a1 a2 a3 (s.new x):=by
 have h1:=h.lt
 have h2:=h.hc
 have h3:=h.nx
 obtain ⟨y,st,n,m,r1,r2,r3,r4⟩:=h.row
 exact ⟨⟨y,st,n,m,by rw [blk_new_ne Y21];exact r1,r2.keep (fun t e ht=>blk_new_ne Y21) (Nat.le_succ _),r3.keep (fun t e ht=>blk_new_ne Y21) (Nat.le_succ _),r4⟩,h.dev.nw Y21 _,h1,h2,Nat.le_succ_of_le h3⟩
theorem LnAt.hi {b ln c r:Nat} {D:Dev} {F:List Int} {l:List Snt} {a1 a2 a3:PV} {s:St} (h:LnAt b ln c D F l a1 a2 a3 s) (hr:c≤r) (hb:∀ L,s.blk r≠some (.tok L)) (x:Option Blk):LnAt b ln c D F l a1 a2 a3 (s.set r x):=by
 have h1:=h.lt
 have h2:=h.hc
 obtain ⟨y,st,n,m,r1,r2,r3,r4⟩:=h.row
 refine ⟨⟨y,st,n,m,by rw [blk_set_ne Y21];exact r1,r2.keep (fun t e ht=>?_) (Nat.le_refl _),r3.keep (fun t e ht=>?_) (Nat.le_refl _),r4⟩,h.dev.sv Y21 _,h1,h2,h.nx⟩
 ·subst e
  exact blk_set_ne (by rintro rfl;exact hb _ r2.2.1)
 ·subst e
  exact blk_set_ne (by rintro rfl;exact hb _ r3.2.1)
theorem Out.nw {b ln c:Nat} {s s':St} (h:Out b ln c s s') (x:Blk):Out b ln c s (s'.new x) :=
 ⟨Nat.le_succ_of_le h.nx,fun j q1 q2 q3 q4=>by rw [blk_new_ne (by have:=h.nx;omega)];exact h.same j q1 q2 q3 q4⟩
theorem Out.hi {b ln c r:Nat} {s s':St} (h:Out b ln c s s') (hr:s.nxt≤r) (x:Option Blk):Out b ln c s (s'.set r x) :=
 ⟨h.nx,fun j q1 q2 q3 q4=>by rw [blk_set_ne Y21];exact h.same j q1 q2 q3 q4⟩
theorem LnAt.newF {b ln c:Nat} {D:Dev} {F:List Int} {l:List Snt} {a1 a2 a3 st:PV} {m:Option Nat} {s:St} (hd:DevAt b D s) (h1:b+5<ln) (h2:ln<c) (h3:c≤s.nxt) (hm:TkAt s 3 (l.map Snt.pv) c st m) :
  LnAt b ln c D F l a1 a2 a3 ((s.new (.tok F.length)).set ln (some (lnRow (b+5) (.sl (.tok s.nxt 1) (F.map (PV.int .i64))) a1 a2 a3 st)))∧Out b ln c s ((s.new (.tok F.length)).set ln (some (lnRow (b+5) (.sl (.tok s.nxt 1) (F.map (PV.int .i64))) a1 a2 a3 st))):=by
 refine ⟨⟨⟨_,st,some s.nxt,m,blk_set_self _ _ _,⟨rfl,?_,h3,Nat.lt_succ_self _⟩,hm.keep (fun t e ht=>?_) (Nat.le_succ _),.inr ?_⟩,(hd.nw Y21 _).sv Y21 _,h1,h2,Nat.le_succ_of_le h3⟩,Nat.le_succ _,fun j q1 _ q2 _=>?_⟩
 ·rw [blk_set_ne Y21,List.length_map];exact blk_new_eq
 ·subst e
  have:=hm.2.2.1
  rw [blk_set_ne Y21,blk_new_ne Y21]
 ·rintro rfl
  have:=hm.2.2.2
  omega
 ·rw [blk_set_ne q2,blk_new_ne Y21]
theorem LnAt.cutF {b ln c t k:Nat} {D:Dev} {F:List Int} {l:List Snt} {a1 a2 a3 st:PV} {m:Option Nat} {s:St} (hd:DevAt b D s) (h1:b+5<ln) (h2:ln<c) (h3:c≤s.nxt) (ht:c≤t) (htx:t<s.nxt) {L0:Nat} (hb:s.blk t=some (.tok L0)) (hm:TkAt s 3 (l.map Snt.pv) c st m) (hne:some t≠m) (hk:k=F.length) :
  LnAt b ln c D F l a1 a2 a3 (((s.set t none).new (.tok k)).set ln (some (lnRow (b+5) (.sl (.tok s.nxt 1) (F.map (PV.int .i64))) a1 a2 a3 st)))∧Out b ln c s (((s.set t none).new (.tok k)).set ln (some (lnRow (b+5) (.sl (.tok s.nxt 1) (F.map (PV.int .i64))) a1 a2 a3 st))):=by
 subst hk
 have ho:Out b ln c s (s.set t none):=⟨Nat.le_refl _,fun j q1 qt q2 _=>blk_set_ne (by rintro rfl;rcases qt with h | h;omega;exact h _ hb)⟩
 have hm':TkAt (s.set t none) 3 (l.map Snt.pv) c st m:=hm.keep (fun t' e ht'=>blk_set_ne (fun e'=>hne (by rw [e,e']))) (Nat.le_refl _)
 obtain ⟨k1,k2⟩:=LnAt.newF (F:=F) (a1:=a1) (a2:=a2) (a3:=a3) (hd.sv Y21 none) h1 h2 h3 hm'
 exact ⟨k1,ho.trans k2⟩
attribute [local go_sem] set_set putDev_hi putDev_nxt
theorem Y104 {p:Prop} (h:p:=by first | exact isEls_map (P:=Tryz.prog) (e:=78) (f:=Snt.pv) (fun a=>⟨rfl,by rw [Tryz.cz78];first | done | rfl⟩) _ |(intro p hp;cases hp)):p:=h
theorem Y164 {p:Prop} (h:p:=by simp only [Tryz.f118,go_sem,↓reduceIte]<;>rfl):p:=h
theorem Y268 {p:Prop} (h:p:=by simp only [go_sem,List.map_cons,List.map_nil,Snt.pv,↓reduceIte,Nat.reduceEqDiff,H]<;>rfl):p:=h
set_option maxRecDepth 100000 in
theorem line_SendXN {ln b:Nat} {a0 a1 a2 a3 c0 c1 c2 c3 st9:PV} {S9:St} {D:Dev} {tn tick f:Int} (hf:0≤f∧f≤4) {fr:List Int} (hfo:OkB fr) (hfl:fr.length≤140737488350000) {s:St} (hl:s.blk ln=some (lnRow (b+5) a0 a1 a2 a3 (.sl .nil []))) (hA:DevAt b D s) (hD:D.ok) (hbl:b+5<ln)
  (htake:ACalls Tryz.prog 135 [.ptr ln 0 0,.int .i64 tn] ((s.new (.tok [(⟨tick,tn,fr⟩:Snt)].length)).set ln (some (lnRow (b+5) a0 a1 a2 a3 (.sl (.tok s.nxt 3) ([(⟨tick,tn,fr⟩:Snt)].map Snt.pv))))) (fun r s'=>r=.int .i64 f∧s'=S9)) (hl9:S9.blk ln=some (lnRow (b+5) c0 c1 c2 c3 st9)) (hA9:DevAt b D S9) (hx9:ln<S9.nxt) :
  ACalls Tryz.prog 118 [.ptr ln 0 0,.int .i64 tn,.int .i64 tick,.sl .unk (fr.map (PV.int .u8))] s (fun r s'=>r=.sl .unk ((sendF f D fr).1.map (PV.int .u8))∧s'=putDev b (sendF f D fr).2 S9):=by
 refine go Tryz.func118 (k:=fun hwf H=>?_)
 unfold lnRow at hl
 have hlt:=lt_blk hwf hl
 obtain ⟨Nf,hdoes,hcal,hbody⟩:=line_body hf
 have n1:(ln=s.nxt)=False:=eq_false Y21
 have hfl2:fr.length*1≤140737488355328:=Y21
 have H:=aj n1 H
 have H:=aj hl H
 refine rs (k:=rg [0,1,2,3] (k:=rs (k:=rH 15 [11,14] [[false,false],[true,false],[true,true]] [s,(s.new (.tok [(⟨tick,tn,fr⟩:Snt)].length)),((s.new (.tok [(⟨tick,tn,fr⟩:Snt)].length)).set ln (some (.row 86 [.agg [.ptr (b+5) 0 0,a0,a1,a2,a3,.sl (.tok s.nxt 3) ([(⟨tick,tn,fr⟩:Snt)].map Snt.pv)]])))] Tryz.mixed (k:=?_))))
 refine dP [0,1] (pre:=[_,_,_,_,_,_,_,_]) (k:=?_)
 refine dC [0] (h:=fun s _=>clone_u8 (xs:=fr) hfl2) (k:=?_)
 refine dP [0] (pre:=[_,_]) (k:=?_)
 refine DetHC.app (kx:=.nil) (xs:=[]) (ys:=[(⟨tick,tn,fr⟩:Snt)].map Snt.pv) (v:=.sl (.tok s.nxt 3) ([(⟨tick,tn,fr⟩:Snt)].map Snt.pv)) [(0,1)] _ Y26 pq au au Y268 Tryz.td75 (by rw [Tryz.zp78];rfl) Y104 Y104 (by rw [Tryz.by78];decide) (by rw [Tryz.by78];simp<;>omega) (by intro q hq;rw [List.mem_singleton.1 hq];exact aAppend_nilL (f:=Snt.pv) (ys:=[(⟨tick,tn,fr⟩:Snt)]) Y23 (by rw [Tryz.cz78])) ?_
 refine dP [1] (pre:=[_,_]) (k:=?_)
 refine dE [(1,2)] (k:=?_)
 refine DetHC.nil ?_
 refine rl [0,1,3] (k:=rs (k:=rr (k:=ro (pre:=[_,_,_]) (k:=?_))))
 refine RunO.callw au au au Y26 ((htake).mono ?_)
 rintro r s1 ⟨rfl,hs⟩
 subst s1
 refine rC (h:=hdoes hx9) (k:=rh [3,9] (k:=rs (k:=rr (k:=ro (pre:=[_]) (k:=rC (h:=rtu_Read hfo hfl) (k:=rh [9,10,11,12] (k:=rs (k:=rs (k:=rg [9,11,43] (k:=rc (ht:=fun hc0=>?_) (hf:=fun hc0=>?_)))))))))))
 refine rs (k:=rg [8] (k:=rR (k:=?_)))
 refine jO 1 ?_;rotate_left
 refine rk (k:=rs (k:=?_))
 have hrt:(rtuF fr).2=0∧(rtuF fr).1.1=17:=Y86
 have hpd:=rtu_pdu hrt.1
 have hso:sendF f D fr=lineF f D (rtuF fr).1.2:=if_pos hrt
 refine rr (k:=ro (pre:=[_,_]) (k:=?_))
 refine RunO.callw au au au hcal ((hbody hl9 hA9 hD (rtu_ok hfo) hpd.2.1 hpd.1).mono ?_)
 rintro r s1 ⟨rfl,hs⟩
 subst s1
 refine rC (h:=clip_u8 (xs:=(lineF f D (rtuF fr).1.2).1)) (k:=rh [8] (k:=rR (k:=?_)))
 refine jO 1 ?_;rotate_left
 any_goals
  refine jI 1 ?_
  first
   |(have hso:sendF f D fr=([],D):=if_neg (by rintro ⟨e1,e2⟩;rw [e1,e2] at hc0;cases hc0)
     refine Ret.allW (r':=.sl .unk []) Y164 (by rfl) ⟨by rw [hso];rfl,?_⟩
     rw [hso]
     exact (putDev_self hA9).symm)
   |(refine Ret.allW (r':=.sl .unk ((sendF f D fr).1.map (PV.int .u8))) Y164 ?_ ⟨rfl,?_⟩
     ·rw [hso];simp only [PV.weak,weaks_u8]
     ·rw [hso]<;>rfl)
attribute [local go_sem] set_set putDev_hi putDev_nxt
set_option maxRecDepth 100000 in
theorem line_SendXT {ln b t:Nat} {a0 a1 a2 a3 c0 c1 c2 c3 st9:PV} {S9:St} {D:Dev} {tn tick f:Int} (hf:0≤f∧f≤4) {fr:List Int} (hfo:OkB fr) (hfl:fr.length≤140737488350000) {l:List Snt} (hL:l.length≤100000) {s:St} (hl:s.blk ln=some (lnRow (b+5) a0 a1 a2 a3 (.sl (.tok t 3) (l.map Snt.pv)))) (hA:DevAt b D s) (hD:D.ok) (hbl:b+5<ln) (ht:s.blk t=some (.tok l.length)) (hne:t≠ln) (hbt:b+5<t)
  (htake:ACalls Tryz.prog 135 [.ptr ln 0 0,.int .i64 tn] ((s.set t (some (.tok (l++[(⟨tick,tn,fr⟩:Snt)]).length))).set ln (some (lnRow (b+5) a0 a1 a2 a3 (.sl (.tok t 3) ((l++[(⟨tick,tn,fr⟩:Snt)]).map Snt.pv))))) (fun r s'=>r=.int .i64 f∧s'=S9)) (hl9:S9.blk ln=some (lnRow (b+5) c0 c1 c2 c3 st9)) (hA9:DevAt b D S9) (hx9:ln<S9.nxt) :
  ACalls Tryz.prog 118 [.ptr ln 0 0,.int .i64 tn,.int .i64 tick,.sl .unk (fr.map (PV.int .u8))] s (fun r s'=>r=.sl .unk ((sendF f D fr).1.map (PV.int .u8))∧s'=putDev b (sendF f D fr).2 S9):=by
 refine go Tryz.func118 (k:=fun hwf H=>?_)
 unfold lnRow at hl
 have hlt:=lt_blk hwf hl
 obtain ⟨Nf,hdoes,hcal,hbody⟩:=line_body hf
 have n1:(ln=s.nxt)=False:=eq_false Y21
 have hfl2:fr.length*1≤140737488355328:=Y21
 have H:=aj n1 H
 have htl:=lt_blk hwf ht
 have n2:(ln=t)=False:=eq_false Y21
 have n3:(t=ln)=False:=eq_false Y21
 have H:=aj n2 (aj n3 H)
 have H:=aj hl H
 refine rs (k:=rg [0,1,2,3] (k:=rs (k:=rH 15 [11,14] [[false,false],[true,false],[true,true]] [s,(s.set t (some (.tok (l++[(⟨tick,tn,fr⟩:Snt)]).length))),((s.set t (some (.tok (l++[(⟨tick,tn,fr⟩:Snt)]).length))).set ln (some (.row 86 [.agg [.ptr (b+5) 0 0,a0,a1,a2,a3,.sl (.tok t 3) ((l++[(⟨tick,tn,fr⟩:Snt)]).map Snt.pv)]])))] Tryz.mixed (k:=?_))))
 refine dP [0,1] (pre:=[_,_,_,_,_,_,_,_]) (k:=?_)
 refine dC [0] (h:=fun s _=>clone_u8 (xs:=fr) hfl2) (k:=?_)
 refine dP [0] (pre:=[_,_]) (k:=?_)
 refine DetHC.app (kx:=.tok t 3) (xs:=l.map Snt.pv) (ys:=[(⟨tick,tn,fr⟩:Snt)].map Snt.pv) (v:=.sl (.tok t 3) ((l++[(⟨tick,tn,fr⟩:Snt)]).map Snt.pv)) [(0,1)] _ Y26 pq au au Y268 Tryz.td75 (by rw [Tryz.zp78];rfl) Y104 Y104 (by rw [Tryz.by78];decide) (by rw [Tryz.by78];simp<;>omega) (by intro q hq;rw [List.mem_singleton.1 hq];exact aAppend_tokL (f:=Snt.pv) (xs:=l) (ys:=[(⟨tick,tn,fr⟩:Snt)]) rfl Y23 ht rfl (by rw [Tryz.cz78])) ?_
 refine dP [1] (pre:=[_,_]) (k:=?_)
 refine dE [(1,2)] (k:=?_)
 refine DetHC.nil ?_
 refine rl [0,1,3] (k:=rs (k:=rr (k:=ro (pre:=[_,_,_]) (k:=?_))))
 refine RunO.callw au au au Y26 ((htake).mono ?_)
 rintro r s1 ⟨rfl,hs⟩
 subst s1
 refine rC (h:=hdoes hx9) (k:=rh [3,9] (k:=rs (k:=rr (k:=ro (pre:=[_]) (k:=rC (h:=rtu_Read hfo hfl) (k:=rh [9,10,11,12] (k:=rs (k:=rs (k:=rg [9,11,43] (k:=rc (ht:=fun hc0=>?_) (hf:=fun hc0=>?_)))))))))))
 refine rs (k:=rg [8] (k:=rR (k:=?_)))
 refine jO 1 ?_;rotate_left
 refine rk (k:=rs (k:=?_))
 have hrt:(rtuF fr).2=0∧(rtuF fr).1.1=17:=Y86
 have hpd:=rtu_pdu hrt.1
 have hso:sendF f D fr=lineF f D (rtuF fr).1.2:=if_pos hrt
 refine rr (k:=ro (pre:=[_,_]) (k:=?_))
 refine RunO.callw au au au hcal ((hbody hl9 hA9 hD (rtu_ok hfo) hpd.2.1 hpd.1).mono ?_)
 rintro r s1 ⟨rfl,hs⟩
 subst s1
 refine rC (h:=clip_u8 (xs:=(lineF f D (rtuF fr).1.2).1)) (k:=rh [8] (k:=rR (k:=?_)))
 refine jO 1 ?_;rotate_left
 any_goals
  refine jI 1 ?_
  first
   |(have hso:sendF f D fr=([],D):=if_neg (by rintro ⟨e1,e2⟩;rw [e1,e2] at hc0;cases hc0)
     refine Ret.allW (r':=.sl .unk []) Y164 (by rfl) ⟨by rw [hso];rfl,?_⟩
     rw [hso]
     exact (putDev_self hA9).symm)
   |(refine Ret.allW (r':=.sl .unk ((sendF f D fr).1.map (PV.int .u8))) Y164 ?_ ⟨rfl,?_⟩
     ·rw [hso];simp only [PV.weak,weaks_u8]
     ·rw [hso]<;>rfl)
theorem new_set {s:St} {r:Nat} (hr:r<s.nxt) (v:Option Blk) (x:Blk):(s.set r v).new x=(s.new x).set r v:=by
 refine St.eq_of rfl fun i=>?_
 rw [blk_new,blk_set,blk_set,blk_new]
 show (if i=s.nxt then _ else _)=_
 by_cases h1:i=s.nxt
 ·rw [if_pos h1,if_neg Y21,if_pos h1]
 ·rw [if_neg h1,if_neg h1]
theorem set_same {s:St} {r:Nat} {v:Option Blk} (h:s.blk r=v):s.set r v=s:=by
 refine St.eq_of rfl fun i=>?_
 rw [blk_set]
 split
 ·rename_i e;rw [e];exact h.symm
 ·rfl
end Go.Proofs
namespace Go.Proofs
open Go.PM
set_option maxHeartbeats 2000000
def lnR (ty d:Nat) (xs:List PV) (st:PV):Blk:=.row ty [.agg (.ptr d 0 0::(xs++[st]))]
theorem drop_one {xs:List PV} {st x p:PV} {T:Nat} (h:xs[T]? =some x):List.drop (1+T) (p::(xs++[st]))=x::List.drop (T+1) (xs++[st]):=by
 have ht:T<xs.length:=(List.getElem?_eq_some_iff.1 h).1
 rw [Nat.add_comm,List.drop_succ_cons,List.drop_eq_getElem_cons (by rw [List.length_append];omega),List.getElem_append_left ht]
 rw [List.getElem?_eq_getElem ht] at h
 rw [Option.some.inj h]
theorem set_one {xs:List PV} {st p v:PV} {T:Nat} (ht:T<xs.length):(p::(xs++[st])).set (1+T) v=p::(xs.set T v++[st]):=by
 rw [Nat.add_comm 1 T,List.set_cons_succ,List.set_append_left _ _ ht]
theorem app_new {P:Program} {e:TypeId} {k:SK} {f:Int→PV} {ys:List Int} {s:St} {z:Nat} (hk:k=.nil∨k=.clip) (hy:ys≠[]) (hc:P.cellsOf e=z):aAppend P e k [] (ys.map f) s=some (.sl (.tok s.nxt z) (ys.map f),s.new (.tok ys.length)):=by
 unfold aAppend
 rw [if_neg (by simpa using hy),hc]
 rcases hk with rfl | rfl<;>simp
theorem Y330 {p:Prop} (h:p:=by rw [Tryz.cz3];first | done | rfl):p:=h
theorem Y165 {p:Prop} (h:p:=by first | exact isEls_map (P:=Tryz.prog) (e:=3) (f:=PV.int .i64) (fun a=>⟨rfl,Y330⟩) _ |(intro p hp;cases hp)):p:=h
theorem Y218 {p:Prop} (h:p:=by rw [List.length_append];simp;omega):p:=h
theorem line_HurtGN {ln d T:Nat} {xs:List PV} {st:PV} {L:List Int} {k:SK} {F:Int} (hT:T<4) (hF:0≤F∧F≤4) (hxl:xs.length=4) (hk:k=.nil∨k=.clip) (hx:xs[T]? =some (.sl k [])) {s:St} (hl:s.blk ln=some (lnR 86 d xs st)):ACalls Tryz.prog 20 [.ptr ln 0 0,.int .i64 (T:Int),.int .i64 F] s (fun r s'=>r=.bool true∧s'=((s.new (.tok [F].length)).set ln (some (lnR 86 d (xs.set T (.sl (.tok s.nxt 1) ([F].map (PV.int .i64)))) st)))):=by
 refine go Tryz.func20 (k:=fun hwf H=>?_)
 unfold lnR at hl
 have ht4:((T:Int)<((4:Nat):Int))=True:=eq_true Y21
 have ht0:decide ((0:Int)≤(T:Int))=true:=decide_eq_true Y21
 have ht5:decide ((T:Int)<4)=true:=decide_eq_true Y21
 have hdr:=drop_one (st:=st) (p:=.ptr d 0 0) hx
 have hst:=fun v=>set_one (st:=st) (p:=.ptr d 0 0) (v:=v) (show T<xs.length from Y21)
 have H:=aj ht4 (aj ht0 (aj ht5 (aj hdr (aj hst H))))
 have hlt:=lt_blk hwf hl
 have g1:decide (F<0)=false:=decide_eq_false Y21
 have g2:decide (4<F)=false:=decide_eq_false Y21
 have g6:decide ((T:Int)<0)=false:=decide_eq_false Y21
 have g7:decide (4≤(T:Int))=false:=decide_eq_false Y21
 have g8:(1+T≤(xs++[st]).length)=True:=eq_true Y218
 have H:=aj g1 (aj g2 (aj g6 (aj g7 (aj g8 H))))
 have g3:decide ((1000:Int)≤0)=false:=Y22
 have H:=aj g3 H
 have n1:(ln=s.nxt)=False:=eq_false Y21
 have H:=aj n1 H
 have H:=aj hl H
 refine rs (k:=rg [0,1,2] (k:=rs (k:=rs (k:=rr (k:=ro (pre:=[_]) (k:=rC (h:=(line_is (t:=(T:Int)))) (k:=rh [0,1,2,27] (k:=rc (ht:=fun hc0=>?_) (hf:=fun hc0=>?_)))))))))
 ·cases hc0
 ·refine rk (k:=rs (k:=rH 15 [10,14] [[false,false],[true,false],[true,true]] [s,(s.new (.tok [F].length)),((s.new (.tok [F].length)).set ln (some (.row 86 [.agg (.ptr d 0 0::(xs.set T (.sl (.tok s.nxt 1) ([F].map (PV.int .i64)))++[st]))])))] Tryz.mixed (k:=?_)))
  refine dP [0,1] (pre:=[_,_,_,_,_,_,_,_,_,_]) (k:=?_)
  refine DetHC.app (kx:=k) (xs:=[]) (ys:=[F].map (PV.int .i64)) (v:=(.sl (.tok s.nxt 1) ([F].map (PV.int .i64)))) [(0,1)] _ Y26 pq au au au Tryz.td22 (by rw [Tryz.zp3];rfl) Y165 (isEls_map (P:=Tryz.prog) (e:=3) (f:=PV.int .i64) (fun a=>⟨rfl,Y330⟩) _) (by rw [Tryz.by3];decide) (by rw [Tryz.by3];simp<;>omega) (by intro q hq;rw [List.mem_singleton.1 hq];exact app_new (f:=PV.int .i64) (ys:=[F]) hk Y23 (by rw [Tryz.cz3])) ?_
  refine dP [0,1] (pre:=[_,_,_]) (k:=?_)
  refine dE [(1,2)] (k:=?_)
  refine DetHC.nil ?_
  refine rl [] (k:=rs (k:=rg [6] (k:=rR (k:=?_))))
  exact Ret.all (by simp only [Tryz.f20,go_sem,↓reduceIte]<;>rfl) ⟨rfl,by unfold lnR;rfl⟩
theorem line_HurtGT {ln d T t:Nat} {xs:List PV} {st:PV} {L:List Int} {k:SK} {F:Int} (hT:T<4) (hF:0≤F∧F≤4) (hxl:xs.length=4) (hL:L.length<1000) (hx:xs[T]? =some (.sl (.tok t 1) (L.map (PV.int .i64)))) {s:St} (hl:s.blk ln=some (lnR 86 d xs st)) (ht:s.blk t=some (.tok L.length)) (hne:t≠ln):ACalls Tryz.prog 20 [.ptr ln 0 0,.int .i64 (T:Int),.int .i64 F] s (fun r s'=>r=.bool true∧s'=((s.set t (some (.tok (L++[F]).length))).set ln (some (lnR 86 d (xs.set T (.sl (.tok t 1) ((L++[F]).map (PV.int .i64)))) st)))):=by
 refine go Tryz.func20 (k:=fun hwf H=>?_)
 unfold lnR at hl
 have ht4:((T:Int)<((4:Nat):Int))=True:=eq_true Y21
 have ht0:decide ((0:Int)≤(T:Int))=true:=decide_eq_true Y21
 have ht5:decide ((T:Int)<4)=true:=decide_eq_true Y21
 have hdr:=drop_one (st:=st) (p:=.ptr d 0 0) hx
 have hst:=fun v=>set_one (st:=st) (p:=.ptr d 0 0) (v:=v) (show T<xs.length from Y21)
 have H:=aj ht4 (aj ht0 (aj ht5 (aj hdr (aj hst H))))
 have hlt:=lt_blk hwf hl
 have g1:decide (F<0)=false:=decide_eq_false Y21
 have g2:decide (4<F)=false:=decide_eq_false Y21
 have g6:decide ((T:Int)<0)=false:=decide_eq_false Y21
 have g7:decide (4≤(T:Int))=false:=decide_eq_false Y21
 have g8:(1+T≤(xs++[st]).length)=True:=eq_true Y218
 have H:=aj g1 (aj g2 (aj g6 (aj g7 (aj g8 H))))
 have g3:decide ((1000:Int)≤(L.length:Int))=false:=decide_eq_false Y21
 have H:=aj g3 H
 have n1:(ln=s.nxt)=False:=eq_false Y21
 have H:=aj n1 H
 have n2:(ln=t)=False:=eq_false Y21
 have n3:(t=ln)=False:=eq_false hne
 have H:=aj n2 (aj n3 H)
 have H:=aj hl H
 refine rs (k:=rg [0,1,2] (k:=rs (k:=rs (k:=rr (k:=ro (pre:=[_]) (k:=rC (h:=(line_is (t:=(T:Int)))) (k:=rh [0,1,2,27] (k:=rc (ht:=fun hc0=>?_) (hf:=fun hc0=>?_)))))))))
 ·cases hc0
 ·refine rk (k:=rs (k:=rH 15 [10,14] [[false,false],[true,false],[true,true]] [s,(s.set t (some (.tok (L++[F]).length))),((s.set t (some (.tok (L++[F]).length))).set ln (some (.row 86 [.agg (.ptr d 0 0::(xs.set T (.sl (.tok t 1) ((L++[F]).map (PV.int .i64)))++[st]))])))] Tryz.mixed (k:=?_)))
  refine dP [0,1] (pre:=[_,_,_,_,_,_,_,_,_,_]) (k:=?_)
  refine DetHC.app (kx:=.tok t 1) (xs:=L.map (PV.int .i64)) (ys:=[F].map (PV.int .i64)) (v:=(.sl (.tok t 1) ((L++[F]).map (PV.int .i64)))) [(0,1)] _ Y26 pq au au au Tryz.td22 (by rw [Tryz.zp3];rfl) Y165 (isEls_map (P:=Tryz.prog) (e:=3) (f:=PV.int .i64) (fun a=>⟨rfl,Y330⟩) _) (by rw [Tryz.by3];decide) (by rw [Tryz.by3];simp<;>omega) (by intro q hq;rw [List.mem_singleton.1 hq];exact aAppend_tokL (f:=PV.int .i64) (xs:=L) (ys:=[F]) rfl Y23 ht rfl (by rw [Tryz.cz3])) ?_
  refine dP [0,1] (pre:=[_,_,_]) (k:=?_)
  refine dE [(1,2)] (k:=?_)
  refine DetHC.nil ?_
  refine rl [] (k:=rs (k:=rg [6] (k:=rR (k:=?_))))
  exact Ret.all (by simp only [Tryz.f20,go_sem,↓reduceIte]<;>rfl) ⟨rfl,by unfold lnR;rfl⟩
theorem Y219 {p:Prop} (h:p:=by
 refine rs (k:=rg [4] (k:=rR (k:=rP (by simp only [Tryz.f135,go_sem];rfl) hwf ⟨?_,rfl⟩)))
 simp [PV.weak,go_sem]):p:=h
theorem Y269 {p:Prop} (h:p:=by rw [Bool.and_eq_false_iff,decide_eq_false_iff_not,decide_eq_false_iff_not];omega):p:=h
theorem line_takeB {ln:Nat} {tn:Int} (hb:¬ (0≤tn∧tn<4)) {s:St}:ACalls Tryz.prog 135 [.ptr ln 0 0,.int .i64 tn] s (fun r s'=>r=.int .i64 0∧s'=s):=by
 refine go Tryz.func135 (k:=fun hwf H=>?_)
 have f3:(decide ((0:Int)≤tn)&&decide (tn<4))=false:=Y269
 have H:=aj f3 H
 refine rs (k:=rg [0,1] (k:=rs (k:=rs (k:=rr (k:=ro (pre:=[_]) (k:=rC (h:=(line_is (t:=tn))) (k:=ro (pre:=[_,_]) (k:=rg0 (k:=rg0 (k:=rg0 (k:=rg0 (k:=rg0 (k:=rg0 (k:=rg0 (k:=rg0 (k:=rh [0,1,18] (k:=rc (ht:=fun hc0=>?_) (hf:=fun hc0=>?_))))))))))))))))))
 ·exact Y219
 ·cases hc0
theorem Y105 {p:Prop} (h:p:=by
 refine rs (k:=rg [6] (k:=rR (k:=rP (by simp only [Tryz.f20,go_sem];rfl) hwf ⟨?_,rfl⟩)))
 simp [PV.weak,go_sem]):p:=h
theorem line_HurtB1 {ln:Nat} {tn F:Int} {s:St} (hb:¬ (0≤tn∧tn<4)):ACalls Tryz.prog 20 [.ptr ln 0 0,.int .i64 tn,.int .i64 F] s (fun r s'=>r=.bool false∧s'=s):=by
 refine go Tryz.func20 (k:=fun hwf H=>?_)
 have f3:(decide ((0:Int)≤tn)&&decide (tn<4))=false:=Y269
 have H:=aj f3 H
 refine rs (k:=rg [0,1,2] (k:=rs (k:=rs (k:=rr (k:=ro (pre:=[_]) (k:=rC (h:=(line_is (t:=tn))) (k:=ro (pre:=[_,_]) (k:=rg0 (k:=rg0 (k:=ro (pre:=[_,_]) (k:=rg0 (k:=rg0 (k:=ro (pre:=[_,_]) (k:=rg0 (k:=rg0 (k:=rg0 (k:=rg0 (k:=rg0 (k:=rg0 (k:=rg0 (k:=rg0 (k:=rh [0,1,2,27] (k:=rc (ht:=fun hc0=>?_) (hf:=fun hc0=>?_))))))))))))))))))))))))
 ·exact Y105
 ·cases hc0
theorem line_HurtB2 {ln:Nat} {tn F:Int} {s:St} (hb:0≤tn∧tn<4) (hF:F<0):ACalls Tryz.prog 20 [.ptr ln 0 0,.int .i64 tn,.int .i64 F] s (fun r s'=>r=.bool false∧s'=s):=by
 refine go Tryz.func20 (k:=fun hwf H=>?_)
 have f3:decide ((0:Int)≤tn)=true:=decide_eq_true Y21
 have f4:decide (tn<4)=true:=decide_eq_true Y21
 have f5:decide (tn<0)=false:=decide_eq_false Y21
 have f6:decide (4≤tn)=false:=decide_eq_false Y21
 have H:=aj f3 (aj f4 (aj f5 (aj f6 H)))
 have f7:decide (F<0)=true:=decide_eq_true Y21
 have H:=aj f7 H
 refine rs (k:=rg [0,1,2] (k:=rs (k:=rs (k:=rr (k:=ro (pre:=[_]) (k:=rC (h:=(line_is (t:=tn))) (k:=ro (pre:=[_,_]) (k:=rg1 (k:=rg1 (k:=ro (pre:=[_,_]) (k:=rg0 (k:=rg0 (k:=ro (pre:=[_,_]) (k:=rg0 (k:=rg0 (k:=rg0 (k:=rg0 (k:=rg0 (k:=rg0 (k:=rg0 (k:=rg0 (k:=rh [0,1,2,27] (k:=rc (ht:=fun hc0=>?_) (hf:=fun hc0=>?_))))))))))))))))))))))))
 ·exact Y105
 ·cases hc0
theorem line_HurtB3 {ln:Nat} {tn F:Int} {s:St} (hb:0≤tn∧tn<4) (hF:4<F):ACalls Tryz.prog 20 [.ptr ln 0 0,.int .i64 tn,.int .i64 F] s (fun r s'=>r=.bool false∧s'=s):=by
 refine go Tryz.func20 (k:=fun hwf H=>?_)
 have f3:decide ((0:Int)≤tn)=true:=decide_eq_true Y21
 have f4:decide (tn<4)=true:=decide_eq_true Y21
 have f5:decide (tn<0)=false:=decide_eq_false Y21
 have f6:decide (4≤tn)=false:=decide_eq_false Y21
 have H:=aj f3 (aj f4 (aj f5 (aj f6 H)))
 have f7:decide (F<0)=false:=decide_eq_false Y21
 have f8:decide (4<F)=true:=decide_eq_true Y21
 have H:=aj f7 (aj f8 H)
 refine rs (k:=rg [0,1,2] (k:=rs (k:=rs (k:=rr (k:=ro (pre:=[_]) (k:=rC (h:=(line_is (t:=tn))) (k:=ro (pre:=[_,_]) (k:=rg1 (k:=rg1 (k:=ro (pre:=[_,_]) (k:=rg1 (k:=rg1 (k:=ro (pre:=[_,_]) (k:=rg0 (k:=rg0 (k:=rg0 (k:=rg0 (k:=rg0 (k:=rg0 (k:=rg0 (k:=rg0 (k:=rh [0,1,2,27] (k:=rc (ht:=fun hc0=>?_) (hf:=fun hc0=>?_))))))))))))))))))))))))
 ·exact Y105
 ·cases hc0
theorem line_HurtB4 {ln d T:Nat} {xs:List PV} {st:PV} {L:List Int} {k:SK} {F:Int} (hT:T<4) (hF:0≤F∧F≤4) (hxl:xs.length=4) (hL:1000≤L.length) (hx:xs[T]? =some (.sl k (L.map (PV.int .i64)))) {s:St} (hl:s.blk ln=some (lnR 86 d xs st)):ACalls Tryz.prog 20 [.ptr ln 0 0,.int .i64 (T:Int),.int .i64 F] s (fun r s'=>r=.bool false∧s'=s):=by
 refine go Tryz.func20 (k:=fun hwf H=>?_)
 unfold lnR at hl
 have ht4:((T:Int)<((4:Nat):Int))=True:=eq_true Y21
 have ht0:decide ((0:Int)≤(T:Int))=true:=decide_eq_true Y21
 have ht5:decide ((T:Int)<4)=true:=decide_eq_true Y21
 have hdr:=drop_one (st:=st) (p:=.ptr d 0 0) hx
 have hst:=fun v=>set_one (st:=st) (p:=.ptr d 0 0) (v:=v) (show T<xs.length from Y21)
 have H:=aj ht4 (aj ht0 (aj ht5 (aj hdr (aj hst H))))
 have g1:decide (F<0)=false:=decide_eq_false Y21
 have g2:decide (4<F)=false:=decide_eq_false Y21
 have g6:decide ((T:Int)<0)=false:=decide_eq_false Y21
 have g7:decide (4≤(T:Int))=false:=decide_eq_false Y21
 have g3:decide ((1000:Int)≤(L.length:Int))=true:=decide_eq_true Y21
 have H:=aj g1 (aj g2 (aj g6 (aj g7 (aj g3 H))))
 have H:=aj hl H
 refine rs (k:=rg [0,1,2] (k:=rs (k:=rs (k:=rr (k:=ro (pre:=[_]) (k:=rC (h:=(line_is (t:=(T:Int)))) (k:=ro (pre:=[_,_]) (k:=rg1 (k:=rg1 (k:=ro (pre:=[_,_]) (k:=rg1 (k:=rg1 (k:=ro (pre:=[_,_]) (k:=rg1 (k:=rg1 (k:=rg1 (k:=rg1 (k:=rg1 (k:=rg1 (k:=rg1 (k:=rg1 (k:=rh [0,1,2,27] (k:=?_)))))))))))))))))))))))
 refine rc (ht:=fun hc0=>?_) (hf:=fun hc0=>?_)
 ·exact Y105
 ·cases hc0
theorem line_takeG0 {ln d T:Nat} {xs:List PV} {st:PV} {L:List Int} {k:SK} (hT:T<4) (hxl:xs.length=4) (hx:xs[T]? =some (.sl k (L.map (PV.int .i64)))) {s:St} (hl:s.blk ln=some (lnR 86 d xs st)) (hL:L=[]):ACalls Tryz.prog 135 [.ptr ln 0 0,.int .i64 (T:Int)] s (fun r s'=>r=.int .i64 0∧s'=s):=by
 refine go Tryz.func135 (k:=fun hwf H=>?_)
 subst hL
 unfold lnR at hl
 have ht4:((T:Int)<((4:Nat):Int))=True:=eq_true Y21
 have ht0:decide ((0:Int)≤(T:Int))=true:=decide_eq_true Y21
 have ht5:decide ((T:Int)<4)=true:=decide_eq_true Y21
 have hdr:=drop_one (st:=st) (p:=.ptr d 0 0) hx
 have hst:=fun v=>set_one (st:=st) (p:=.ptr d 0 0) (v:=v) (show T<xs.length from Y21)
 have H:=aj ht4 (aj ht0 (aj ht5 (aj hdr (aj hst H))))
 have H:=aj hl H
 refine rs (k:=rg [0,1] (k:=rs (k:=rs (k:=rr (k:=ro (pre:=[_]) (k:=rC (h:=(line_is (t:=(T:Int)))) (k:=ro (pre:=[_,_]) (k:=rg1 (k:=rg1 (k:=rg1 (k:=rg1 (k:=rg1 (k:=rg1 (k:=rg1 (k:=rg1 (k:=rh [0,1,18] (k:=rc (ht:=fun hc0=>?_) (hf:=fun hc0=>?_))))))))))))))))))
 ·exact Y219
 ·cases hc0
theorem line_takeGC {ln d T t:Nat} {xs:List PV} {st:PV} {x:Int} {L:List Int} (hT:T<4) (hxl:xs.length=4) (hx:xs[T]? =some (.sl (.tok t 1) ((x::L).map (PV.int .i64)))) (hL:L.length<1000) {s:St} (hl:s.blk ln=some (lnR 86 d xs st)) (ht:s.blk t=some (.tok (x::L).length)) (hne:t≠ln):ACalls Tryz.prog 135 [.ptr ln 0 0,.int .i64 (T:Int)] s (fun r s'=>r=.int .i64 x∧s'=(((s.set t none).new (.tok L.length)).set ln (some (lnR 86 d (xs.set T (.sl (.tok s.nxt 1) (L.map (PV.int .i64)))) st)))):=by
 refine go Tryz.func135 (k:=fun hwf H=>?_)
 unfold lnR at hl
 have ht4:((T:Int)<((4:Nat):Int))=True:=eq_true Y21
 have ht0:decide ((0:Int)≤(T:Int))=true:=decide_eq_true Y21
 have ht5:decide ((T:Int)<4)=true:=decide_eq_true Y21
 have hdr:=drop_one (st:=st) (p:=.ptr d 0 0) hx
 have hst:=fun v=>set_one (st:=st) (p:=.ptr d 0 0) (v:=v) (show T<xs.length from Y21)
 have H:=aj ht4 (aj ht0 (aj ht5 (aj hdr (aj hst H))))
 have hlt:=lt_blk hwf hl
 have htl:=lt_blk hwf ht
 have g0:decide (((L.length+1:Nat):Int)=0)=false:=decide_eq_false Y21
 have n1:(ln=s.nxt)=False:=eq_false Y21
 have n2:(ln=t)=False:=eq_false (fun e=>hne e.symm)
 have g4:(0<L.length+1)=True:=eq_true Y21
 have h1n:Int.toNat 1=1:=rfl
 have h10:((1:Int)=0)=False:=eq_false Y22
 have g8:(1+T≤(xs++[st]).length)=True:=eq_true Y218
 have H:=aj g0 (aj n1 (aj n2 (aj g4 (aj h1n (aj h10 (aj g8 H))))))
 have H:=aj hl H
 refine rs (k:=rg [0,1] (k:=rs (k:=rs (k:=rr (k:=ro (pre:=[_]) (k:=rC (h:=(line_is (t:=(T:Int)))) (k:=rh [0,1,18] (k:=rc (ht:=fun hc0=>?_) (hf:=fun hc0=>?_)))))))))
 ·cases hc0
 ·refine rk (k:=rs (k:=rg [0,1,5] (k:=rs (k:=rH 13 [8,12] [[false,false],[true,false],[true,true]] [s,((s.set t none).new (.tok L.length)),(((s.set t none).new (.tok L.length)).set ln (some (.row 86 [.agg (.ptr d 0 0::(xs.set T (.sl (.tok s.nxt 1) (L.map (PV.int .i64)))++[st]))])))] Tryz.mixed (k:=?_)))))
  refine dP [0,1] (pre:=[_,_,_,_,_,_,_,_]) (k:=?_)
  refine DetHC.cut (tk:=t) (lo:=1) (el:=3) (xs:=(x::L).map (PV.int .i64)) (v:=(.sl (.tok s.nxt 1) (L.map (PV.int .i64)))) [(0,1)] _ Y26 pq au au au Tryz.td22 Tryz.cz3 Y22 Y22 Y23 (by intro q hq;rw [List.mem_singleton.1 hq];exact ⟨by rw [List.length_map];exact ht,rfl,by rw [List.length_map];rfl⟩) ?_
  refine dP [0,1] (pre:=[_,_,_]) (k:=?_)
  refine dE [(1,2)] (k:=?_)
  refine DetHC.nil ?_
  refine rl [5] (k:=rs (k:=rg [4] (k:=rR (k:=?_))))
  exact Ret.all (by simp only [Tryz.f135,go_sem,↓reduceIte]<;>rfl) ⟨rfl,by unfold lnR;rfl⟩
end Go.Proofs
namespace Go.Proofs
open Go.PM
set_option maxHeartbeats 2000000
end Go.Proofs
namespace Go.Proofs
open Go.PM
set_option maxHeartbeats 2000000
def TkB (s:St) (z:Nat) (els:List PV) (c:Nat) (x:PV):Option Nat→Prop
 | none=>(x=.sl .nil []∨x=.sl .clip [])∧els=[]
 | some t=>x=.sl (.tok t z) els∧s.blk t=some (.tok els.length)∧c≤t∧t<s.nxt
theorem TkB.keep {s s':St} {z:Nat} {els:List PV} {c:Nat} {x:PV} {n:Option Nat} (h:TkB s z els c x n) (hb:∀ t,n=some t→s'.blk t=s.blk t) (hx:s.nxt≤s'.nxt):TkB s' z els c x n:=by
 cases n with
 | none=>exact h
 | some t=>exact ⟨h.1,by rw [hb t rfl];exact h.2.1,h.2.2.1,Nat.lt_of_lt_of_le h.2.2.2 hx⟩
theorem TkB.sl {s:St} {z:Nat} {els:List PV} {c:Nat} {x:PV} {n:Option Nat} (h:TkB s z els c x n):∃ k,x=.sl k els:=by
 cases n with
 | none=>obtain ⟨h1 | h1,rfl⟩:=h<;>exact ⟨_,h1⟩
 | some t=>exact ⟨_,h.1⟩
def upF {α:Type} (F:Nat→α) (k:Nat) (L:α):Nat→α:=fun i=>if i=k then L else F i
theorem upF_at {α:Type} {F:Nat→α} {k:Nat} {L:α}:upF F k L k=L:=if_pos rfl
theorem upF_ne {α:Type} {F:Nat→α} {k i:Nat} {L:α} (h:i≠k):upF F k L i=F i:=if_neg h
structure Ln4 (ty d ln c:Nat) (FS:Nat→List Int) (l:List Snt) (ns:Nat→Option Nat) (s:St):Prop where
 row:∃ xs st,s.blk ln=some (lnR ty d xs st)∧xs.length=4∧(∀ T,T<4→∃ x,xs[T]? =some x∧TkB s 1 ((FS T).map (PV.int .i64)) c x (ns T))∧TkAt s 3 (l.map Snt.pv) c st (ns 4)
 inj:∀ i j t,ns i=some t→ns j=some t→i=j
 own:∀ i t,ns i=some t→c≤t∧t<s.nxt
 hc:ln<c
 nx:c≤s.nxt
 top:∀ i,4<i→ns i=none
structure Fr4 (b n ln:Nat) (ns ns':Nat→Option Nat) (s s':St):Prop where
 nx:s.nxt≤s'.nxt
 same:∀ j,j<s.nxt→j≠ln→¬ (b≤j∧j<n)→(∀ i,ns i≠some j)→s'.blk j=s.blk j
 new:∀ i t,ns' i=some t→(∃ i',ns i'=some t)∨s.nxt≤t
theorem Fr4.refl (b n ln:Nat) (ns:Nat→Option Nat) (s:St):Fr4 b n ln ns ns s s:=⟨Nat.le_refl _,fun _ _ _ _ _=>rfl,fun i t h=>.inl ⟨i,h⟩⟩
theorem Fr4.wide {n ln:Nat} {ns ns':Nat→Option Nat} {s s':St} (h:Fr4 0 0 ln ns ns' s s') (b:Nat):Fr4 b n ln ns ns' s s':=⟨h.nx,fun j h1 h2 _ h4=>h.same j h1 h2 Y21 h4,h.new⟩
theorem Y270 {p:Prop} (h:p:=by
 rcases k.new i t ht with ⟨i',h'⟩ | h'
 ·exact h.new i' t h'
 ·exact .inr (Nat.le_trans h.nx h')):p:=h
theorem Y331 {p:Prop} (h:p:=by
 rcases h.new i j hi with ⟨i',h'⟩ | h'
 ·exact h4 i' h'
 ·omega):p:=h
theorem Fr4.trans {b n ln:Nat} {ns n1 n2:Nat→Option Nat} {s s1 s2:St} (h:Fr4 b n ln ns n1 s s1) (k:Fr4 b n ln n1 n2 s1 s2):Fr4 b n ln ns n2 s s2:=by
 refine ⟨Nat.le_trans h.nx k.nx,fun j h1 h2 h3 h4=>?_,fun i t ht=>?_⟩
 ·rw [k.same j (Nat.lt_of_lt_of_le h1 h.nx) h2 h3 fun i hi=>?_]
  ·exact h.same j h1 h2 h3 h4
  ·exact Y331
 ·exact Y270
theorem Ln4.keep {ty d ln c:Nat} {FS:Nat→List Int} {l:List Snt} {ns:Nat→Option Nat} {s s':St} (h:Ln4 ty d ln c FS l ns s) (hn:s.nxt≤s'.nxt) (he:∀ j,j<s.nxt→(j=ln∨∃ i,ns i=some j)→s'.blk j=s.blk j):Ln4 ty d ln c FS l ns s':=by
 obtain ⟨xs,st,h1,h2,h3,h4⟩:=h.row
 have hc:=h.hc
 have hx:=h.nx
 refine ⟨⟨xs,st,by rw [he ln Y21 (.inl rfl)];exact h1,h2,fun T hT=>?_,h4.keep (fun t e _=>he t (h.own _ _ e).2 (.inr ⟨_,e⟩)) hn⟩,h.inj,fun i t e=>⟨(h.own i t e).1,Nat.lt_of_lt_of_le (h.own i t e).2 hn⟩,hc,Nat.le_trans hx hn,h.top⟩
 obtain ⟨x,k1,k2⟩:=h3 T hT
 exact ⟨x,k1,k2.keep (fun t e=>he t (h.own _ _ e).2 (.inr ⟨_,e⟩)) hn⟩
theorem Ln4.nw {ty d ln c:Nat} {FS:Nat→List Int} {l:List Snt} {ns:Nat→Option Nat} {s:St} (h:Ln4 ty d ln c FS l ns s) (x:Blk):Ln4 ty d ln c FS l ns (s.new x) :=
 h.keep (Nat.le_succ _) fun j hj _=>blk_new_ne Y21
theorem Y271 {p:Prop} (h:p:=by
 by_cases g4:i=4
 ·rw [← g4,hi] at h4
  exact ⟨_,h4.2.1⟩
 ·rw [h.top i Y21] at hi;cases hi):p:=h
theorem Ln4.notrow {ty d ln c i j t:Nat} {vs:List PV} {FS:Nat→List Int} {l:List Snt} {ns:Nat→Option Nat} {s:St} (h:Ln4 ty d ln c FS l ns s) (hi:ns i=some j):s.blk j≠some (.row t vs):=by
 obtain ⟨xs,st,h1,h2,h3,h4⟩:=h.row
 have e:∃ L,s.blk j=some (.tok L):=by
  by_cases g:i<4
  ·obtain ⟨x,_,k⟩:=h3 i g
   rw [hi] at k
   exact ⟨_,k.2.1⟩
  ·exact Y271
 obtain ⟨L,e⟩:=e
 rw [e]
 intro q;cases q
theorem Y220 {p:Prop} (h:p:=by
 rw [e,upF_at] at hi
 rw [upF_ne e'] at hj
 rcases hfr t hi with q | q
 ·rw [e];exact h.inj _ _ _ q hj
 ·have:=(h.own _ _ hj).2;omega):p:=h
theorem Y221 {p:Prop} (h:p:=by
 rw [e',upF_at] at hj
 rw [upF_ne e] at hi
 rcases hfr t hj with q | q
 ·rw [e'];exact h.inj _ _ _ hi q
 ·have:=(h.own _ _ hi).2;omega):p:=h
theorem Y332 {p:Prop} (h:p:=by
 rw [upF_ne e'] at e
 exact ⟨(h.own _ _ e).1,Nat.lt_of_lt_of_le (h.own _ _ e).2 hn⟩):p:=h
theorem Ln4.chT {ty d ln c k:Nat} {FS:Nat→List Int} {l:List Snt} {ns:Nat→Option Nat} {s s':St} (h:Ln4 ty d ln c FS l ns s) (hk:k<4) {xs:List PV} {st x':PV} {L':List Int} {n':Option Nat} (hr:s.blk ln=some (lnR ty d xs st))
  (hb:s'.blk ln=some (lnR ty d (xs.set k x') st)) (hx':TkB s' 1 (L'.map (PV.int .i64)) c x' n') (hn:s.nxt≤s'.nxt) (hsame:∀ j,j<s.nxt→j≠ln→ns k≠some j→s'.blk j=s.blk j) (hfr:∀ t,n'=some t→ns k=some t∨s.nxt≤t) :
  Ln4 ty d ln c (upF FS k L') l (upF ns k n') s'∧Fr4 0 0 ln ns (upF ns k n') s s':=by
 obtain ⟨ys,st2,h1,h2,h3,h4⟩:=h.row
 rw [hr] at h1
 have e1:=Option.some.inj h1
 unfold lnR at e1
 have e2:=(PV.agg.inj (List.cons.inj (Blk.row.inj e1).2).1)
 have e3:=(List.cons.inj e2).2
 obtain ⟨rfl,e4⟩:=List.append_inj' e3 rfl
 have e5:=(List.cons.inj e4).1
 subst e5
 have hc:=h.hc
 have hx:=h.nx
 have hln:∀ i t,ns i=some t→t≠ln:=fun i t e=>by have:=(h.own i t e).1;omega
 refine ⟨⟨⟨xs.set k x',st,hb,by rw [List.length_set];exact h2,fun T hT=>?_,?_⟩,fun i j t hi hj=>?_,fun i t e=>?_,hc,Nat.le_trans hx hn,fun i hi=>by rw [upF_ne Y21];exact h.top i hi⟩,hn,fun j q1 q2 _ q3=>hsame j q1 q2 (q3 k),fun i t e=>?_⟩
 ·by_cases e:T=k
  ·subst e
   exact ⟨x',List.getElem?_set_self Y21,by rw [upF_at,upF_at];exact hx'⟩
  ·obtain ⟨x,k1,k2⟩:=h3 T hT
   refine ⟨x,by rw [List.getElem?_set_ne (Ne.symm e)];exact k1,?_⟩
   rw [upF_ne e,upF_ne e]
   exact k2.keep (fun t q=>hsame t (h.own _ _ q).2 (hln _ _ q) fun q'=>e (h.inj _ _ _ q q')) hn
 ·rw [upF_ne Y21]
  exact h4.keep (fun t q _=>hsame t (h.own _ _ q).2 (hln _ _ q) fun q'=>absurd (h.inj _ _ _ q q') Y21) hn
 ·by_cases e:i=k<;>by_cases e':j=k
  ·rw [e,e']
  ·exact Y220
  ·exact Y221
  ·rw [upF_ne e] at hi
   rw [upF_ne e'] at hj
   exact h.inj _ _ _ hi hj
 ·by_cases e':i=k
  ·rw [e',upF_at] at e
   subst e
   exact ⟨hx'.2.2.1,hx'.2.2.2⟩
  ·exact Y332
 ·by_cases e':i=k
  ·rw [e',upF_at] at e
   exact (hfr t e).imp (fun q=>⟨k,q⟩) id
  ·rw [upF_ne e'] at e
   exact .inl ⟨i,e⟩
theorem Ln4.chS {ty d ln c:Nat} {FS:Nat→List Int} {l l':List Snt} {ns:Nat→Option Nat} {s s':St} (h:Ln4 ty d ln c FS l ns s) {xs:List PV} {st x':PV} {n':Option Nat} (hr:s.blk ln=some (lnR ty d xs st))
  (hb:s'.blk ln=some (lnR ty d xs x')) (hx':TkAt s' 3 (l'.map Snt.pv) c x' n') (hn:s.nxt≤s'.nxt) (hsame:∀ j,j<s.nxt→j≠ln→ns 4≠some j→s'.blk j=s.blk j) (hfr:∀ t,n'=some t→ns 4=some t∨s.nxt≤t) :
  Ln4 ty d ln c FS l' (upF ns 4 n') s'∧Fr4 0 0 ln ns (upF ns 4 n') s s':=by
 obtain ⟨ys,st2,h1,h2,h3,h4⟩:=h.row
 rw [hr] at h1
 have e1:=Option.some.inj h1
 unfold lnR at e1
 have e2:=(PV.agg.inj (List.cons.inj (Blk.row.inj e1).2).1)
 have e3:=(List.cons.inj e2).2
 obtain ⟨rfl,e4⟩:=List.append_inj' e3 rfl
 have hc:=h.hc
 have hx:=h.nx
 have hln:∀ i t,ns i=some t→t≠ln:=fun i t e=>by have:=(h.own i t e).1;omega
 refine ⟨⟨⟨xs,x',hb,h2,fun T hT=>?_,by rw [upF_at];exact hx'⟩,fun i j t hi hj=>?_,fun i t e=>?_,hc,Nat.le_trans hx hn,fun i hi=>by rw [upF_ne Y21];exact h.top i hi⟩,hn,fun j q1 q2 _ q3=>hsame j q1 q2 (q3 4),fun i t e=>?_⟩
 ·obtain ⟨x,k1,k2⟩:=h3 T hT
  refine ⟨x,k1,?_⟩
  rw [upF_ne Y21]
  exact k2.keep (fun t q=>hsame t (h.own _ _ q).2 (hln _ _ q) fun q'=>absurd (h.inj _ _ _ q q') Y21) hn
 ·by_cases e:i=4<;>by_cases e':j=4
  ·rw [e,e']
  ·exact Y220
  ·exact Y221
  ·rw [upF_ne e] at hi
   rw [upF_ne e'] at hj
   exact h.inj _ _ _ hi hj
 ·by_cases e':i=4
  ·rw [e',upF_at] at e
   subst e
   exact ⟨hx'.2.2.1,hx'.2.2.2⟩
  ·exact Y332
 ·by_cases e':i=4
  ·rw [e',upF_at] at e
   exact (hfr t e).imp (fun q=>⟨4,q⟩) id
  ·rw [upF_ne e'] at e
   exact .inl ⟨i,e⟩
def hurtB (FS:Nat→List Int) (tn F:Int):Bool:=decide ((0≤tn∧tn<4)∧(0≤F∧F≤4)∧(FS tn.toNat).length<1000)
def hurtFS (FS:Nat→List Int) (tn F:Int):Nat→List Int:=if hurtB FS tn F=true then upF FS tn.toNat (FS tn.toNat++[F]) else FS
def takeQ (FS:Nat→List Int) (tn:Int):Int:=if 0≤tn∧tn<4 then (FS tn.toNat).headD 0 else 0
def takeFS (FS:Nat→List Int) (tn:Int):Nat→List Int:=if 0≤tn∧tn<4 then upF FS tn.toNat (FS tn.toNat).tail else FS
theorem line_HurtM {d ln c:Nat} {FS:Nat→List Int} {l:List Snt} {ns:Nat→Option Nat} {s:St} (h:Ln4 86 d ln c FS l ns s) (tn F:Int) :
  ∃ S9 ns',ACalls Tryz.prog 20 [.ptr ln 0 0,.int .i64 tn,.int .i64 F] s (fun r s'=>r=.bool (hurtB FS tn F)∧s'=S9)∧Ln4 86 d ln c (hurtFS FS tn F) l ns' S9∧Fr4 0 0 ln ns ns' s S9:=by
 have hno:hurtB FS tn F=false→ACalls Tryz.prog 20 [.ptr ln 0 0,.int .i64 tn,.int .i64 F] s (fun r s'=>r=.bool false∧s'=s)→∃ S9 ns',ACalls Tryz.prog 20 [.ptr ln 0 0,.int .i64 tn,.int .i64 F] s (fun r s'=>r=.bool (hurtB FS tn F)∧s'=S9)∧Ln4 86 d ln c (hurtFS FS tn F) l ns' S9∧Fr4 0 0 ln ns ns' s S9:=fun e q=>by
  refine ⟨s,ns,by rw [e];exact q,?_,Fr4.refl _ _ _ _ _⟩
  unfold hurtFS
  rw [e]
  exact h
 have hc:=h.hc
 have hx:=h.nx
 by_cases g1:0≤tn∧tn<4
 case neg=>exact hno (decide_eq_false fun q=>g1 q.1) (line_HurtB1 g1)
 by_cases g2:0≤F∧F≤4
 case neg =>
  refine hno (decide_eq_false fun q=>g2 q.2.1) ?_
  by_cases g3:F<0
  ·exact line_HurtB2 g1 g3
  ·exact line_HurtB3 g1 Y21
 obtain ⟨T,rfl⟩:∃ T:Nat,tn=T:=⟨tn.toNat,Y21⟩
 have hT:T<4:=Y21
 obtain ⟨xs,st,h1,h2,h3,h4⟩:=h.row
 obtain ⟨x,hxx,hk⟩:=h3 T hT
 by_cases g4:(FS T).length<1000
 case neg =>
  obtain ⟨k,rfl⟩:=hk.sl
  exact hno (decide_eq_false fun q=>g4 q.2.2) (line_HurtB4 hT g2 h2 Y21 hxx h1)
 have e:hurtB FS (T:Int) F=true:=decide_eq_true ⟨g1,g2,g4⟩
 have e2:hurtFS FS (T:Int) F=upF FS T (FS T++[F]):=by unfold hurtFS;rw [if_pos e];rfl
 rw [e,e2]
 have hown:=h.own T
 revert hk hown
 obtain ⟨n,hn⟩:∃ n,ns T=n:=⟨_,rfl⟩
 rw [hn]
 intro hk hown
 cases n with
 | none =>
   obtain ⟨hk1,hk2⟩:=hk
   have hL:FS T=[]:=by simpa using hk2
   rw [hL]
   obtain ⟨k,rfl,hkk⟩:∃ k,x=.sl k []∧(k=.nil∨k=.clip):=by rcases hk1 with q | q<;>exact ⟨_,q,Y23⟩
   refine ⟨_,_,line_HurtGN (L:=[]) hT g2 h2 hkk hxx h1,h.chT hT h1 (blk_set_self _ _ _) (n':=some s.nxt) ⟨rfl,?_,hx,Nat.lt_succ_self _⟩ (Nat.le_succ _) (fun j q1 q2 _=>?_) (fun t q=>?_)⟩
   ·rw [blk_set_ne Y21];exact blk_new_eq
   ·rw [blk_set_ne q2,blk_new_ne Y21]
   ·cases q;exact .inr (Nat.le_refl _)
 | some t =>
   obtain ⟨rfl,k2,k3,k4⟩:=hk
   rw [List.length_map] at k2
   refine ⟨_,_,line_HurtGT (k:=.nil) hT g2 h2 g4 hxx h1 k2 Y21,h.chT hT h1 (blk_set_self _ _ _) (n':=some t) ⟨rfl,?_,k3,k4⟩ (Nat.le_refl _) (fun j q1 q2 q3=>?_) (fun t' q=>?_)⟩
   ·rw [blk_set_ne Y21,List.length_map];exact blk_set_self _ _ _
   ·rw [blk_set_ne q2,blk_set_ne (fun e=>q3 (by rw [hn,e]))]
   ·cases q;exact .inl hn
def FOk (FS:Nat→List Int):Prop:=∀ T,(FS T).length≤1000∧∀ f∈FS T,0≤f∧f≤4
theorem FOk.hurt {FS:Nat→List Int} (h:FOk FS) (tn F:Int):FOk (hurtFS FS tn F):=by
 unfold hurtFS
 split
 ·rename_i e
  have e:=of_decide_eq_true e
  intro T
  by_cases g:T=tn.toNat
  ·subst g
   rw [upF_at]
   refine ⟨Y218,fun f hf=>?_⟩
   rcases List.mem_append.1 hf with hf | hf
   ·exact (h _).2 f hf
   ·rw [List.mem_singleton.1 hf];exact e.2.1
  ·rw [upF_ne g];exact h T
 ·exact h
theorem FOk.take {FS:Nat→List Int} (h:FOk FS) (tn:Int):FOk (takeFS FS tn):=by
 unfold takeFS
 split
 ·intro T
  by_cases g:T=tn.toNat
  ·subst g
   rw [upF_at]
   exact ⟨by rw [List.length_tail];have:=(h tn.toNat).1;omega,fun f hf=>(h _).2 f (List.mem_of_mem_tail hf)⟩
  ·rw [upF_ne g];exact h T
 ·exact h
theorem FOk.q {FS:Nat→List Int} (h:FOk FS) (tn:Int):0≤takeQ FS tn∧takeQ FS tn≤4:=by
 unfold takeQ
 split
 ·cases hl:FS tn.toNat with
  | nil=>decide
  | cons f L=>exact (h tn.toNat).2 f (by rw [hl];simp)
 ·decide
end Go.Proofs
namespace Go.Proofs
open Go.PM
set_option maxHeartbeats 2000000
theorem DevAt.eq4 {b ln c ty d:Nat} {FS:Nat→List Int} {l:List Snt} {ns ns':Nat→Option Nat} {D:Dev} {s s':St} (h:DevAt b D s) (hl:Ln4 ty d ln c FS l ns s) (hb:b+5<ln) (f:Fr4 0 0 ln ns ns' s s'):DevAt b D s':=by
 have hc:=hl.hc
 have hx:=hl.nx
 have e:∀ j,b≤j→j≤b+5→s'.blk j=s.blk j:=fun j h1 h2=>f.same j Y21 Y21 Y21 fun i hi=>by have:=(hl.own i j hi).1;omega
 exact ⟨by rw [e _ Y21 Y21];exact h.st,by rw [e _ Y21 Y21];exact h.c0,by rw [e _ Y21 Y21];exact h.c1,by rw [e _ Y21 Y21];exact h.v0,by rw [e _ Y21 Y21];exact h.v1,by rw [e _ Y21 Y21];exact h.dv⟩
theorem Ln4.putDev {b ln c ty d:Nat} {FS:Nat→List Int} {l:List Snt} {ns:Nat→Option Nat} {D:Dev} {s:St} (hl:Ln4 ty d ln c FS l ns s) (hb:b+5<ln):Ln4 ty d ln c FS l ns (putDev b D s)∧Fr4 b (b+6) ln ns ns s (putDev b D s):=by
 have hc:=hl.hc
 refine ⟨hl.keep (Nat.le_refl _) fun j _ h=>?_,Nat.le_refl _,fun j q1 q2 q3 _=>?_,fun i t h=>.inl ⟨i,h⟩⟩
 ·rcases h with rfl | ⟨i,h⟩
  ·exact putDev_hi Y21
  ·exact putDev_hi (by have:=(hl.own i j h).1;omega)
 ·by_cases h:j<b
  ·exact putDev_lo Y21
  ·exact putDev_hi Y21
end Go.Proofs
namespace Go.Proofs
open Go.PM
set_option maxHeartbeats 2000000
end Go.Proofs
namespace Go.Proofs
open Go.PM
set_option maxHeartbeats 2000000
theorem line_SentM {d ln c:Nat} {FS:Nat→List Int} {l:List Snt} {ns:Nat→Option Nat} {s:St} (h:Ln4 86 d ln c FS l ns s) (hll:l.length≤100000) (hld:∀ x∈l,x.data.length≤140737488350000):ACalls Tryz.prog 23 [.ptr ln 0 0] s (fun r s'=>r=.sl .unk (l.map Snt.pv)∧s'=s):=by
 obtain ⟨xs,st,h1,h2,_,h4⟩:=h.row
 obtain ⟨k,rfl⟩:∃ k,st=.sl k (l.map Snt.pv):=by
  cases hn:ns 4 with
  | none=>rw [hn] at h4;exact ⟨_,by rw [h4.1,h4.2]⟩
  | some t=>rw [hn] at h4;exact ⟨_,h4.1⟩
 match xs,h2,h1 with
 | [a0,a1,a2,a3],_,h1=>exact line_Sent hll hld (a0:=a0) (a1:=a1) (a2:=a2) (a3:=a3) h1
theorem TkB.nres {s:St} {z:Nat} {els:List PV} {c:Nat} {x:PV} {t r:Nat} (h:TkB s z els c x (some t)) (hr:s.blk r=some .res):t≠r:=by
 rintro rfl
 rw [h.2.1] at hr;cases hr
theorem line_takeMV {d ln c r:Nat} {FS:Nat→List Int} {l:List Snt} {ns:Nat→Option Nat} {s:St} (h:Ln4 86 d ln c FS l ns s) (hF:FOk FS) (tn:Int) (hr:c≤r) (hrx:r<s.nxt) (hrb:s.blk r=some .res) :
  ∃ S9 ns',(∀ v,ACalls Tryz.prog 135 [.ptr ln 0 0,.int .i64 tn] (s.set r v) (fun x s'=>x=.int .i64 (takeQ FS tn)∧s'=S9.set r v))∧Ln4 86 d ln c (takeFS FS tn) l ns' S9∧Fr4 0 0 ln ns ns' s S9∧S9.blk r=some .res:=by
 have hc:=h.hc
 have hx:=h.nx
 unfold takeQ takeFS
 by_cases g1:0≤tn∧tn<4
 case neg=>rw [if_neg g1,if_neg g1];exact ⟨s,ns,fun v=>line_takeB g1,h,Fr4.refl _ _ _ _ _,hrb⟩
 rw [if_pos g1,if_pos g1]
 obtain ⟨T,rfl⟩:∃ T:Nat,tn=T:=⟨tn.toNat,Y21⟩
 have hT:T<4:=Y21
 show ∃ S9 ns',(∀ v,ACalls _ _ _ _ (fun r' s'=>r'=.int .i64 ((FS T).headD 0)∧s'=S9.set r v))∧Ln4 _ d ln c (upF FS T (FS T).tail) l ns' S9∧_
 obtain ⟨xs,st,h1,h2,h3,h4⟩:=h.row
 obtain ⟨x,hxx,hk⟩:=h3 T hT
 have h1':∀ v,(s.set r v).blk ln=some (lnR 86 d xs st):=fun v=>by rw [blk_set_ne Y21];exact h1
 have hl1:=(hF T).1
 cases hL:FS T with
 | nil =>
   obtain ⟨k,rfl⟩:=hk.sl
   refine ⟨s,ns,fun v=>line_takeG0 hT h2 hxx (h1' v) hL,?_,Fr4.refl _ _ _ _ _,hrb⟩
   have e:upF FS T ([]:List Int).tail=FS:=by
    funext i
    by_cases e:i=T
    ·rw [e,upF_at,hL];rfl
    ·exact upF_ne e
   rw [e]
   exact h
 | cons f L =>
   rw [hL] at hk hl1
   revert hk
   obtain ⟨n,hn⟩:∃ n,ns T=n:=⟨_,rfl⟩
   rw [hn]
   intro hk
   cases n with
   | none=>exact absurd hk.2 Y23
   | some t =>
     have htr:=hk.nres hrb
     obtain ⟨rfl,k2,k3,k4⟩:=hk
     rw [List.length_map] at k2
     obtain ⟨p1,p2⟩:=h.chT (L':=L) (x':=.sl (.tok s.nxt 1) (L.map (PV.int .i64))) (s':=((s.set t none).new (.tok L.length)).set ln (some (lnR 86 d (xs.set T (.sl (.tok s.nxt 1) (L.map (PV.int .i64)))) st))) hT h1 (blk_set_self _ _ _) (n':=some s.nxt) ⟨rfl,by rw [blk_set_ne Y21,List.length_map];exact blk_new_eq,hx,Nat.lt_succ_self _⟩ (Nat.le_succ _) (fun j q1 q2 q3=>by rw [blk_set_ne q2,blk_new_ne (by show j≠s.nxt;omega),blk_set_ne (fun e=>q3 (by rw [hn,e]))]) (fun t' q=>by cases q;exact .inr (Nat.le_refl _))
     refine ⟨_,_,fun v=>?_,p1,p2,by rw [blk_set_ne Y21,blk_new_ne (by show r≠s.nxt;omega),blk_set_ne (Ne.symm htr)];exact hrb⟩
     refine (line_takeGC hT h2 hxx (by simp at hl1;omega) (h1' v) (by rw [blk_set_ne htr];exact k2) Y21).mono fun y s' ⟨e1,e2⟩=>⟨e1,?_⟩
     rw [e2,set_comm _ (Ne.symm htr),new_set (by show r<s.nxt;omega),set_comm _ (show r≠ln from Y21)]
     first | done | rfl
theorem line_SendMV {b ln c r:Nat} {FS:Nat→List Int} {l:List Snt} {ns:Nat→Option Nat} {D:Dev} {s:St} (h:Ln4 86 (b+5) ln c FS l ns s) (hA:DevAt b D s) (hD:D.ok) (hbl:b+5<ln) (hF:FOk FS) (hll:l.length≤100000) {fr:List Int} (hfo:OkB fr) (hfl:fr.length≤140737488350000) {tick tn:Int}
  (hr:c≤r) (hrx:r<s.nxt) (hrb:s.blk r=some .res) {B:List Int} {D':Dev} (hs:sendF (takeQ FS tn) D fr=(B,D')) (hlen:D'.c0.length=D.c0.length) :
  ∃ S9 ns',(∀ v,ACalls Tryz.prog 118 [.ptr ln 0 0,.int .i64 tn,.int .i64 tick,.sl .unk (fr.map (PV.int .u8))] (s.set r v) (fun x s'=>x=.sl .unk (B.map (PV.int .u8))∧s'=S9.set r v))∧Ln4 86 (b+5) ln c (takeFS FS tn) (l++[(⟨tick,tn,fr⟩:Snt)]) ns' S9∧DevAt b D' S9∧Fr4 b (b+6) ln ns ns' s S9∧S9.blk r=some .res:=by
 have hc:=h.hc
 have hx:=h.nx
 have hq:=hF.q tn
 have e1:(sendF (takeQ FS tn) D fr).1=B:=by rw [hs]
 have e2:(sendF (takeQ FS tn) D fr).2=D':=by rw [hs]
 have hdv:∀ v,DevAt b D (s.set r v):=fun v=>hA.sv Y21 _
 obtain ⟨xs,st,h1,h2,h3,h4⟩:=h.row
 revert h4
 obtain ⟨n,hn⟩:∃ n,ns 4=n:=⟨_,rfl⟩
 rw [hn]
 intro h4
 match xs,h2 with
 | [a0,a1,a2,a3],_ =>
 cases n with
 | none =>
   obtain ⟨rfl,hl0⟩:=h4
   have hl0:l=[]:=by simpa using hl0
   subst hl0
   obtain ⟨n1,f1⟩:=h.chS (l':=[(⟨tick,tn,fr⟩:Snt)]) (s':=(s.new (.tok [(⟨tick,tn,fr⟩:Snt)].length)).set ln (some (lnR 86 (b+5) [a0,a1,a2,a3] (.sl (.tok s.nxt 3) ([(⟨tick,tn,fr⟩:Snt)].map Snt.pv))))) (x':=(.sl (.tok s.nxt 3) ([(⟨tick,tn,fr⟩:Snt)].map Snt.pv))) (n':=some s.nxt) h1 (blk_set_self _ _ _) ⟨rfl,by rw [blk_set_ne Y21];exact blk_new_eq,hx,Nat.lt_succ_self _⟩ (Nat.le_succ _) (fun j q1 q2 q3=>by rw [blk_set_ne q2,blk_new_ne Y21]) (fun t' q=>by cases q;exact .inr (Nat.le_refl _))
   obtain ⟨S9,ns9,t1,t2,t3,t4⟩:=line_takeMV n1 hF tn hr (Nat.lt_succ_of_lt hrx) (by rw [blk_set_ne Y21,blk_new_ne Y21];exact hrb)
   have hA9:=(hA.eq4 h hbl f1).eq4 n1 hbl t3
   obtain ⟨ys,st9,r1,r2,_⟩:=t2.row
   obtain ⟨p1,p2⟩:=t2.putDev (D:=D') hbl
   have h9:=t2.nx
   match ys,r2,r1 with
   | [c0,c1,c2,c3],_,r1 =>
   refine ⟨_,ns9,fun v=>?_,p1,hA9.put hlen,((f1.trans t3).wide b).trans p2,by rw [putDev_hi Y21];exact t4⟩
   have ht:=t1 v
   rw [← set_comm _ (show r≠ln from Y21),← new_set hrx] at ht
   refine (line_SendXN hq hfo hfl (by rw [blk_set_ne Y21];exact h1) (hdv v) hD hbl ht (by rw [blk_set_ne Y21];exact r1) (hA9.sv Y21 _) (by show ln<S9.nxt;omega)).mono fun y s' ⟨q1,q2⟩=>⟨by rw [q1,e1],?_⟩
   rw [q2,e2]
   exact putDev_set Y21 v
 | some t =>
   obtain ⟨rfl,k2,k3,k4⟩:=h4
   rw [List.length_map] at k2
   have htr:t≠r:=by rintro rfl;rw [hrb] at k2;cases k2
   obtain ⟨n1,f1⟩:=h.chS (l':=(l++[(⟨tick,tn,fr⟩:Snt)])) (s':=(s.set t (some (.tok (l++[(⟨tick,tn,fr⟩:Snt)]).length))).set ln (some (lnR 86 (b+5) [a0,a1,a2,a3] (.sl (.tok t 3) ((l++[(⟨tick,tn,fr⟩:Snt)]).map Snt.pv))))) (x':=(.sl (.tok t 3) ((l++[(⟨tick,tn,fr⟩:Snt)]).map Snt.pv))) (n':=some t) h1 (blk_set_self _ _ _) ⟨rfl,by rw [blk_set_ne Y21,List.length_map];exact blk_set_self _ _ _,k3,k4⟩ (Nat.le_refl _) (fun j q1 q2 q3=>by rw [blk_set_ne q2,blk_set_ne (fun e=>q3 (by rw [hn,e]))]) (fun t' q=>by cases q;exact .inl hn)
   obtain ⟨S9,ns9,t1,t2,t3,t4⟩:=line_takeMV n1 hF tn hr (hrx) (by rw [blk_set_ne Y21,blk_set_ne (Ne.symm htr)];exact hrb)
   have hA9:=(hA.eq4 h hbl f1).eq4 n1 hbl t3
   obtain ⟨ys,st9,r1,r2,_⟩:=t2.row
   obtain ⟨p1,p2⟩:=t2.putDev (D:=D') hbl
   have h9:=t2.nx
   match ys,r2,r1 with
   | [c0,c1,c2,c3],_,r1 =>
   refine ⟨_,ns9,fun v=>?_,p1,hA9.put hlen,((f1.trans t3).wide b).trans p2,by rw [putDev_hi Y21];exact t4⟩
   have ht:=t1 v
   rw [← set_comm _ (show r≠ln from Y21),← set_comm _ (Ne.symm htr)] at ht
   refine (line_SendXT hq hfo hfl hll (by rw [blk_set_ne Y21];exact h1) (hdv v) hD hbl (by rw [blk_set_ne htr];exact k2) Y21 Y21 ht (by rw [blk_set_ne Y21];exact r1) (hA9.sv Y21 _) (by show ln<S9.nxt;omega)).mono fun y s' ⟨q1,q2⟩=>⟨by rw [q1,e1],?_⟩
   rw [q2,e2]
   exact putDev_set Y21 v
end Go.Proofs
namespace Go.Proofs
open Go.PM
set_option maxHeartbeats 2000000
def triesF (q:Req):Nat→List Int→Dev→Rep × Nat × Dev × List Int
 | 0,F,D=>(refuseP q.fn 11,0,D,F)
 | k+1,F,D=>if F.headD 0=0 then ((doF D q).1,0,(doF D q).2,F.tail) else if F.headD 0=4 then (refuseP q.fn 4,0,D,F.tail)
   else ((triesF q k F.tail (if F.headD 0=1 then D else (doF D q).2)).1,(triesF q k F.tail (if F.headD 0=1 then D else (doF D q).2)).2.1+1,(triesF q k F.tail (if F.headD 0=1 then D else (doF D q).2)).2.2)
structure Tried (q:Req) (D:Dev) (f:Int) (B:List Int) (D':Dev) (g:Option Rep):Prop where
 snd:sendF f D (frameF (bytesF q))=(B,D')
 ok:D'.ok
 len:D'.c0.length=D.c0.length
 b:OkB B
 bl:B.length≤256
 g:(g=none∧¬ (rtuF B).2=0∧¬ f=0∧¬ f=4∧D'=if f=1 then D else (doF D q).2)∨(∃ R,g=some R∧Fits R q∧R.ok∧B=frameF (repF R)∧(repF R).length≤253∧(f=0∧R=(doF D q).1∧D'=(doF D q).2∨f=4∧R=refuseP q.fn 4∧D'=D))
theorem right_bytes {q:Req} (hr:rightF q=0):bytesF q=writeF q:=if_pos hr
theorem pack_len2 (l:List Bool):(packB l).length≤(l.length+7)/8:=by
 have:=packB_len l
 omega
theorem do_len {D:Dev} (hD:D.ok) {q:Req} (hq:q.ok) (hr:rightF q=0):(repF (doF D q).1).length≤253:=by
 have hf:=do_fits hD hq hr
 have hcc:(doF D q).1.code=0→countF q=true:=fun h0=>by
  cases hc:countF q with
  | true=>rfl
  | false =>
    exfalso
    have hh:¬ hasF q.fn=false:=by rw [(right0 hr).has];decide
    unfold doF at h0
    dsimp only at h0
    rw [if_neg hh,if_pos (.inr hc)] at h0
    exact absurd h0 (by show ¬ (3:Int)%256=0;decide)
 obtain ⟨R,hR⟩:∃ R,(doF D q).1=R:=⟨_,rfl⟩
 rw [hR] at hf hcc ⊢
 have hfn:=hf.fn
 have e2:∀ n,(num2 n).length=2:=fun _=>rfl
 have fl:∀ l:List Int,(l.flatMap num2).length=2*l.length:=fun l=>by
  induction l with
  | nil=>rfl
  | cons x l ih=>rw [List.flatMap_cons,List.length_append,ih,e2,List.length_cons];omega
 unfold repF
 rw [if_pos hf.good]
 unfold layF
 by_cases hc:R.code=0
 ·rw [if_neg (fun n=>n hc)]
  have hcnt:=hf.cnt hc
  have hg:=good0 hf.good hc
  have hk:=(of_decide_eq_true (hcc hc)).2
  have h6:=hg.v6
  have hmd:=hg.md
  simp only [List.length_cons]
  split
  ·rename_i e
   rw [if_pos Y21] at hk
   have hb:(R.bits.length:Int)=q.count:=Y21
   have:=pack_len2 R.bits
   simp only [List.length_cons];omega
  split
  ·rename_i n1 e
   rw [if_neg Y21] at hk
   have hv:(R.vals.length:Int)=q.count:=Y21
   have hq125:q.count≤125:=by
    by_cases e34:q.fn=3∨q.fn=4
    ·rw [if_pos e34] at hk;exact hk.2
    ·rw [if_neg e34,if_neg Y21,if_neg Y21,if_pos Y21] at hk;exact hk.2.1
   simp only [List.length_cons,fl];omega
  repeat' split
  all_goals simp only [List.length_append,List.length_cons,e2,fl]
  all_goals first | omega |(have:=h6 Y21;omega)
 ·rw [if_pos hc];show 2≤253;decide
theorem try_law {q:Req} (hq:q.ok) (hr:rightF q=0) {D:Dev} (hD:D.ok) {f:Int} (hf:0≤f∧f≤4) (hln:(writeF q).length≤253):∃ B D' g,Tried q D f B D' g:=by
 have hne:writeF q≠[]:=List.cons_ne_nil _ _
 have e:∀ f,sendF f D (frameF (bytesF q))=lineF f D (writeF q):=fun f=>by
  rw [right_bytes hr]
  unfold sendF
  rw [rtu_frame hne hln]
  exact if_pos ⟨rfl,rfl⟩
 have hp:=pdu_write (D:=D) hq hr
 have hdk:=doF_ok hD hq
 have hft:=do_fits hD hq hr
 have h127:=has127 hr
 have hbo:OkB (repF (doF D q).1):=repF_ok (doF_rep hD hq)
 have hbl:(repF (doF D q).1).length≤253:=do_len hD hq hr
 have hbn:repF (doF D q).1≠[]:=by
  obtain ⟨x,l,h,_⟩:=fit_head hft h127
  rw [h];exact List.cons_ne_nil _ _
 obtain rfl | rfl | rfl | rfl | rfl:f=0∨f=1∨f=2∨f=3∨f=4:=Y21
 ·exact ⟨frameF (repF (doF D q).1),(doF D q).2,some (doF D q).1,by rw [e];show (frameF (pduF _ _).1,(pduF _ _).2)=_;rw [hp],hdk.1,hdk.2,frameF_ok hbo,frameF_len _,.inr ⟨_,rfl,hft,doF_rep hD hq,rfl,hbl,.inl ⟨rfl,rfl,rfl⟩⟩⟩
 ·exact ⟨[],D,none,by rw [e];rfl,hD,rfl,OkB.nil,Y22,.inl ⟨rfl,Y22,Y22,Y22,rfl⟩⟩
 ·exact ⟨[],(doF D q).2,none,by rw [e];show ([],(pduF _ _).2)=_;rw [hp],hdk.1,hdk.2,OkB.nil,Y22,.inl ⟨rfl,Y22,Y22,Y22,rfl⟩⟩
 ·exact ⟨flipL (frameF (repF (doF D q).1)),(doF D q).2,none,by rw [e];show (flipL (frameF (pduF _ _).1),(pduF _ _).2)=_;rw [hp],hdk.1,hdk.2,flip_ok (frameF_ok hbo),by rw [flip_len];exact frameF_len _,.inl ⟨rfl,by rw [rtu_broken hbo hbn hbl];decide,Y22,Y22,rfl⟩⟩
 ·have hfr:Fits (refuseP q.fn 4) q:=fits_refuse h127 Y22
  obtain ⟨x,l,hx,_⟩:=fit_head hfr h127
  have hlen:(repF (refuseP q.fn 4)).length≤253:=by
   unfold repF
   rw [if_pos hfr.good]
   unfold layF
   rw [if_pos (by show ¬ (4:Int)%256=0;decide)]
   show 2≤253
   decide
  exact ⟨frameF (repF (refuseP q.fn 4)),D,some (refuseP q.fn 4),by rw [e];rfl,hD,rfl,frameF_ok (repF_ok (refuseP_ok _ _)),frameF_len _,.inr ⟨_,rfl,hfr,refuseP_ok _ _,rfl,hlen,.inr ⟨rfl,rfl,rfl⟩⟩⟩
end Go.Proofs
namespace Go.Proofs
open Go.PM
set_option maxHeartbeats 2000000
theorem reply_num {b:List Int} (hb:OkB b) (hl:b.length≤140737488351232) {i:Int} {a:Int} (ha:1+2*i=a) (hi:0≤i∧i≤100) {s:St}:ACalls Tryz.prog 156 [.sl .unk (b.map (PV.int .u8)),.int .i64 i] s (fun r s'=>r=.int .i64 (num1 b a)∧s'=s):=by
 refine go Tryz.func156 (k:=fun hwf H=>?_)
 have hw1:IntKind.i64.wrap (2*i)=2*i:=wrap_i64 Y21
 have hw2:IntKind.i64.wrap (1+2*i)=a:=by rw [wrap_i64 Y21,ha]
 have H:=aj hw1 (aj hw2 H)
 refine rs (k:=rg [0,1] (k:=rs (k:=rr (k:=ro (pre:=[_,_,_,_]) (k:=rC (h:=octet_Get hb (a:=a) Y77 Y21) (k:=rh [5] (k:=rs (k:=rg [4] (k:=rR (k:=rP (by simp only [Tryz.f156,go_sem];rfl) hwf ⟨?_,rfl⟩))))))))))
 rfl
attribute [local go_sem] weaks_bools Req.pv Rep.pv
set_option maxRecDepth 100000 in
theorem reply_guess {b:List Int} (hb:OkB b) (hl:b.length≤10000000) {x:Int} (hx:b[0]? =some x) {q:Req} (hq:I64 q.count) {s:St}:ACalls Tryz.prog 146 [.sl .unk (b.map (PV.int .u8)),q.pv] s (fun r s'=>r=(gessF b q).pv∧s'=s):=by
 refine go Tryz.func146 (k:=fun hwf H=>?_)
 have hlt:0<b.length:=by cases b with | nil=>cases hx | cons _ _=>simp
 have hxx:(b.map (PV.int .u8))[0]? =some (.int .u8 x):=Y148
 have hlT:(0<b.length)=True:=eq_true hlt
 have hx8:U8 x:=hb x (List.mem_of_getElem? hx)
 have hxw:IntKind.i64.wrap x=x:=wrap_i64 Y199
 have hxs:IntKind.i64.wrap (x-128)=x-128:=wrap_i64 Y199
 have hn3:IntKind.u16.wrap (num1 b 3)=num1 b 3:=Y319
 have hn5:IntKind.u16.wrap (num1 b 5)=num1 b 5:=Y320
 have hg0:(b[0]?).getD 0=x:=by rw [hx];rfl
 have hbl:b.length≤140737488351232:=Y21
 have H:=aj hxx (aj hlT (aj hxw (aj hxs (aj hn3 (aj hn5 H)))))
 refine rs (k:=rg [0,3,4] (k:=rs (k:=rg [0,3,4] (k:=rs (k:=rs (k:=rg [0,3,4,13] (k:=rc (ht:=fun hc0=>?_) (hf:=fun hc0=>?_))))))))
 refine rs (k:=rg [0,4] (k:=rs (k:=rs (k:=rg [0,4,20] (k:=rc (ht:=fun hc1=>?_) (hf:=fun hc1=>?_))))))
 have hl1:1<b.length:=Y79
 obtain ⟨y,hy⟩:∃ y,b[1]? =some y:=⟨b[1],List.getElem?_eq_getElem hl1⟩
 have hyy:(b.map (PV.int .u8))[Int.toNat 1]? =some (.int .u8 y):=by show (b.map (PV.int .u8))[1]? =_;rw [List.getElem?_map,hy];rfl
 have hlT1:((1:Int)<(b.length:Int))=True:=eq_true Y21
 have hy8:U8 y:=hb y (List.mem_of_getElem? hy)
 have hyw:IntKind.i64.wrap y=y:=wrap_i64 (by unfold U8 at hy8;omega)
 have hy0:(b[1]?).getD 0=y:=by rw [hy];rfl
 have H:=aj hyy (aj hlT1 (aj hyw H))
 refine rg [4] (k:=rs (k:=rg [4] (k:=rR (k:=?_))))
 refine jO 1 ?_;rotate_left
 refine rk (k:=rs (k:=rg [4] (k:=rR (k:=?_))))
 refine jO 1 ?_;rotate_left
 refine rk (k:=rs (k:=?_))
 obtain ⟨m,hm,hmle,hmd⟩:∃ m:Nat,(if (2:Int)<(b.length:Int) then (2:Int) else (b.length:Int))=(m:Int)∧m≤b.length∧b.drop m=b.drop 2:=by
  by_cases h:(2:Int)<(b.length:Int)
  ·exact ⟨2,by rw [if_pos h];rfl,Y21,rfl⟩
  ·exact ⟨b.length,by rw [if_neg h],Nat.le_refl _,by rw [List.drop_eq_nil_of_le (Nat.le_refl _),List.drop_eq_nil_of_le Y21]⟩
 have hd1:((m:Int)≤(b.length:Int))=True:=eq_true Y21
 have hd2:((0:Int)≤(m:Int))=True:=eq_true Y21
 have htk:((b.length:Int)-(m:Int)).toNat=b.length-m:=Y21
 have hlm:((b.map (PV.int .u8)).drop m).take (b.length-m)=((b.drop 2).map (PV.int .u8)):=by rw [← hmd,List.map_drop,List.take_of_length_le Y23]
 have H:=aj hm (aj hd1 (aj hd2 (aj htk (aj hlm H))))
 refine rg [0,3,4,5] (k:=rs (k:=rs (k:=rg [0,3,4,5,33] (k:=rb (k:=rs (k:=rs (k:=rg [0,3,4,5,33,34] (k:=rc (ht:=fun hc2=>?_) (hf:=fun hc2=>?_)))))))))
 refine rk (k:=rc (ht:=fun hc3=>?_) (hf:=fun hc3=>?_))
 refine jO 2 ?_;rotate_left
 ·exact Y146
 refine rg [0,3,4,5,33,34] (k:=rc (ht:=fun hc3=>?_) (hf:=fun hc3=>?_))
 refine jO 2 ?_;rotate_left
 refine rs (k:=rs (k:=rg [0,4,5,33,45] (k:=rc (ht:=fun hc4=>?_) (hf:=fun hc4=>?_))))
 refine rk (k:=rc (ht:=fun hc6=>?_) (hf:=fun hc6=>?_))
 refine jO 3 ?_;rotate_left
 ·exact Bool.noConfusion (hc4.symm.trans hc6)
 refine rs (k:=rg [0,4,5,33,45] (k:=rc (ht:=fun hc5=>?_) (hf:=fun hc5=>?_)))
 refine rk (k:=rc (ht:=fun hc6=>?_) (hf:=fun hc6=>?_))
 refine jO 3 ?_;rotate_left
 ·exact Bool.noConfusion (hc5.symm.trans hc6)
 refine rg [0,4,5,33,45] (k:=rc (ht:=fun hc6=>?_) (hf:=fun hc6=>?_))
 refine jO 3 ?_;rotate_left
 refine rs (k:=rg [0,4,5,33,55] (k:=rc (ht:=fun hc7=>?_) (hf:=fun hc7=>?_)))
 refine jO 4 ?_;rotate_left
 refine rs (k:=rg [0,4,5,33,65] (k:=rc (ht:=fun hc8=>?_) (hf:=fun hc8=>?_)))
 refine jO 4 ?_;rotate_left
 refine rs (k:=rg [0,4,5,33,75] (k:=rc (ht:=fun hc9=>?_) (hf:=fun hc9=>?_)))
 refine jO 4 ?_;rotate_left
 refine rs (k:=rs (k:=rg [0,4,5,33,85] (k:=rc (ht:=fun hc10=>?_) (hf:=fun hc10=>?_))))
 refine rk (k:=rc (ht:=fun hc11=>?_) (hf:=fun hc11=>?_))
 refine jO 5 ?_;rotate_left
 ·exact Bool.noConfusion (hc10.symm.trans hc11)
 refine rg [0,4,5,33,85] (k:=rc (ht:=fun hc11=>?_) (hf:=fun hc11=>?_))
 refine jO 5 ?_;rotate_left
 refine rs (k:=rg [0,4,5,33,94] (k:=rc (ht:=fun hc12=>?_) (hf:=fun hc12=>?_)))
 refine rr (k:=ro (pre:=[_]) (k:=rC (h:=reply_num (b:=b) hb hbl (i:=0) (a:=1) Y22 Y22) (k:=ro (pre:=[_]) (k:=rC (h:=reply_num (b:=b) hb hbl (i:=1) (a:=3) Y22 Y22) (k:=ro (pre:=[_,_]) (k:=rC (h:=reply_num (b:=b) hb hbl (i:=2) (a:=5) Y22 Y22) (k:=rh [4] (k:=rB (k:=rs (k:=rr (k:=?_)))))))))))
 refine rh [4] (k:=rR (k:=?_))
 refine jO 1 ?_;rotate_left
 refine rs (k:=rg [4,5,107] (k:=rc (ht:=fun hc13=>?_) (hf:=fun hc13=>?_)))
 refine rr (k:=ro (pre:=[_]) (k:=rC (h:=clone_u8 (xs:=b.drop 2) Y192) (k:=rh [4] (k:=rB (k:=rs (k:=rg [4] (k:=rR (k:=?_))))))))
 refine jO 1 ?_;rotate_left
 refine rk (k:=rB (k:=rs (k:=rg [4] (k:=rR (k:=?_)))))
 refine jO 1 ?_;rotate_left
 any_goals
  refine jI 4 ?_
  refine rr (k:=ro (pre:=[_]) (k:=rC (h:=reply_num (b:=b) hb hbl (i:=0) (a:=1) Y22 Y22) (k:=ro (pre:=[_]) (k:=rC (h:=reply_num (b:=b) hb hbl (i:=1) (a:=3) Y22 Y22) (k:=ro (pre:=[_]) (k:=rO (k:=rh [4] (k:=rB (k:=rs (k:=rg [4] (k:=rR (k:=?_))))))))))))
  refine jO 1 ?_;rotate_left
 any_goals
  refine jI 5 ?_
  refine rr (k:=ro (pre:=[_]) (k:=rC (h:=reply_num (b:=b) hb hbl (i:=0) (a:=1) Y22 Y22) (k:=ro (pre:=[_]) (k:=rC (h:=reply_num (b:=b) hb hbl (i:=1) (a:=3) Y22 Y22) (k:=rh [4] (k:=rB (k:=rs (k:=rg [4] (k:=rR (k:=?_))))))))))
  refine jO 1 ?_;rotate_left
 any_goals
  refine jI 2 ?_
  refine rr (k:=ro (pre:=[_,_,_]) (k:=rC (h:=octet_Open (b:=b.drop 2) (hb.drop 2) Y192 hq (.inr Y192)) (k:=rh [4] (k:=rB (k:=rs (k:=rg [4] (k:=rR (k:=?_))))))))
  refine jO 1 ?_;rotate_left
 any_goals
  refine jI 3 ?_
  refine rr (k:=ro (pre:=[_]) (k:=rC (h:=octet_Words (b:=b.drop 2) (hb.drop 2) Y192) (k:=rh [4] (k:=rB (k:=rs (k:=rg [4] (k:=rR (k:=?_))))))))
  refine jO 1 ?_;rotate_left
 any_goals
  refine jI 1 ?_
  refine Ret.pure (r':=(gessF b q).pv) (by simp only [Tryz.f146,go_sem,↓reduceIte]<;>rfl) ?_ (blw_rep _ _) hwf Y36 ⟨rfl,rfl⟩
  refine jO 6 ?_;rotate_left
 any_goals
  refine jI 6 ?_
  simp only [PV.weak,PV.weaks,weaks_u16,weaks_bools,weaks_u8]
  refine jO 7 ?_;rotate_left
 any_goals
  refine jI 7 ?_
  clear hxx hlT hxw hxs hn3 hn5 H hwf hb hl hbl hx8 hx
  refine jO 8 ?_;rotate_left
 any_goals
  refine jI 8 ?_
  simp only [decide_eq_true_eq,decide_eq_false_iff_not] at *
  refine jO 9 ?_;rotate_left
 any_goals
  refine jI 9 ?_
  first
   |(exfalso;omega)
   |(simp only [gessF,hg0,Rep.pv,hy0,if_pos hc0,if_pos hl1];rfl)
   |(simp only [gessF,hg0,Rep.pv];simp [*,wordsO];done)
   |(have n0:¬ 128≤x:=by omega
     simp only [gessF,hg0,Rep.pv];simp [*,wordsO];done)
   |(have n1:1<b.length:=by omega
     simp only [gessF,hg0,Rep.pv];simp [*,wordsO];done)
   |(have n1:¬ 1<b.length:=by omega
     simp only [gessF,hg0,Rep.pv];simp [*,wordsO];done)
   | skip
attribute [local go_sem] weaks_bools Req.pv Rep.pv
set_option maxRecDepth 100000 in
theorem reply_asked {R:Rep} {q:Req} (hA:R.code=0→¬ (R.fn≤2∧¬ (R.bits.length:Int)=q.count∨(R.fn=3∨R.fn=4∨R.fn=23)∧¬ (R.vals.length:Int)=q.count)) {s:St}:ACalls Tryz.prog 147 [R.pv,q.pv] s (fun r s'=>r=.bool true∧s'=s):=by
 refine go Tryz.func147 (k:=fun hwf H=>?_)
 refine rs (k:=rg [2,3] (k:=rs (k:=rs (k:=rg [2,3,7] (k:=rc (ht:=fun hc0=>?_) (hf:=fun hc0=>?_))))))
 refine jO 1 ?_;rotate_left
 refine rk (k:=rs (k:=rs (k:=rg [2,3,9] (k:=rb (k:=rs (k:=rs (k:=rg [2,3,9,10] (k:=rc (ht:=fun hc1=>?_) (hf:=fun hc1=>?_)))))))))
 refine rk (k:=rc (ht:=fun hc2=>?_) (hf:=fun hc2=>?_))
 refine jO 1 ?_;rotate_left
 ·exact Y197
 refine rg [2,3,9,10] (k:=rc (ht:=fun hc2=>?_) (hf:=fun hc2=>?_))
 refine jO 1 ?_;rotate_left
 refine rs (k:=rs (k:=rg [2,3,9,19] (k:=rc (ht:=fun hc3=>?_) (hf:=fun hc3=>?_))))
 refine rk (k:=rc (ht:=fun hc5=>?_) (hf:=fun hc5=>?_))
 refine jO 1 ?_;rotate_left
 ·exact Bool.noConfusion (hc3.symm.trans hc5)
 refine rs (k:=rg [2,3,9,19] (k:=rc (ht:=fun hc4=>?_) (hf:=fun hc4=>?_)))
 refine rk (k:=rc (ht:=fun hc5=>?_) (hf:=fun hc5=>?_))
 refine jO 1 ?_;rotate_left
 ·exact Bool.noConfusion (hc4.symm.trans hc5)
 refine rg [2,3,19] (k:=rc (ht:=fun hc5=>?_) (hf:=fun hc5=>?_))
 refine jO 1 ?_;rotate_left
 refine rk (k:=rB (k:=rs (k:=rg [4] (k:=rR (k:=rP (by simp only [Tryz.f147,go_sem];rfl) hwf ⟨?_,rfl⟩)))))
 refine jO 2 ?_;rotate_left
 any_goals
  refine jI 1 ?_
  refine rs (k:=rg [4] (k:=rR (k:=rP (by simp only [Tryz.f147,go_sem];rfl) hwf ⟨?_,rfl⟩)))
  refine jO 2 ?_;rotate_left
 any_goals
  refine jI 2 ?_
  refine congrArg PV.bool ?_
  refine jO 3 ?_;rotate_left
 any_goals
  refine jI 3 ?_
  first
   | rfl
   |(simp only [Bool.not_eq_true',Bool.not_eq_false',Bool.or_eq_true,Bool.or_eq_false_iff,decide_eq_true_eq,decide_eq_false_iff_not] at *
     have:=hA Y21
     first
     | omega
     |(clear H;omega))
attribute [local go_sem] weaks_bools Req.pv
theorem Y222 {p:Prop} (h:p:=by simp only [PV.blw,PV.blws,and_true,true_and];exact blw_rep _ _):p:=h
theorem Y333 {p:Prop} (h:p:=by simp only [PV.weak,PV.weaks,Rep.pv,weaks_u16,weaks_bools,weaks_u8]):p:=h
set_option maxRecDepth 100000 in
theorem reply_ReadFits {R:Rep} {q:Req} (hf:Fits R q) (h127:1≤q.fn∧q.fn≤127) (hR:R.ok) (hq:q.ok) {s:St}:ACalls Tryz.prog 133 [.sl .unk ((repF R).map (PV.int .u8)),q.pv] s (fun r s'=>r=.tuple [R.pv,.int .i64 0]∧s'=s):=by
 refine go Tryz.func133 (k:=fun hwf H=>?_)
 have hgd:=hf.good
 have hbe:repF R=layF R:=if_pos hgd
 have hgs:gessF (repF R) q=R:=by rw [hbe];exact gess_lay hf h127 hR.vals
 have hbo:OkB (repF R):=repF_ok hR
 have hbl:(repF R).length≤300:=by rw [hbe];exact layF_len hgd
 obtain ⟨x,l,hxl,_,_⟩:=fit_head hf h127
 have hx0:(repF R)[0]? =some x:=by rw [hxl];rfl
 have hxh:x=if ¬ R.code=0 then R.fn+128 else R.fn:=by have:=lay_head (R:=R);rw [← hbe,hx0] at this;exact this
 have hfn:=hf.fn
 have hlt:0<(repF R).length:=by rw [hxl];simp
 have hxx:((repF R).map (PV.int .u8))[0]? =some (.int .u8 x):=by rw [List.getElem?_map,hx0];rfl
 have hlT:(0<(repF R).length)=True:=eq_true hlt
 have hx8:U8 x:=hbo x (List.mem_of_getElem? hx0)
 have hxw:IntKind.i64.wrap x=x:=wrap_i64 Y199
 have hxs:IntKind.i64.wrap (x-128)=x-128:=wrap_i64 Y199
 have hl0:decide (((repF R).length:Int)=0)=false:=decide_eq_false Y21
 have hf0:decide (q.fn<0)=false:=decide_eq_false Y21
 have hgz:decide (goodF R=0)=true:=decide_eq_true hgd
 have hbl2:(repF R).length<140737488355328:=Y21
 have H:=aj hxx (aj hlT (aj hxw (aj hxs (aj hl0 (aj hf0 (aj hgz H))))))
 refine rs (k:=rg [0,3,4] (k:=rs (k:=rb (k:=rs (k:=rg [0,3,4,9] (k:=rc (ht:=fun hc0=>?_) (hf:=fun hc0=>?_)))))))
 ·cases hc0
 refine rs (k:=?_)
 refine Run.drawC [] [0,3,4,14] Tryz.mixed Y26 ?_
 refine DetC.pre (pre:=[_,_,_,_]) au ?_
 refine DetC.gdo au au ?_
 refine DetC.gdo au au ?_
 refine DetC.gdo au au ?_
 refine DetC.gdo au au ?_
 refine DetC.gdo au au ?_
 refine DetC.gdo au au ?_
 refine DetC.gdo au au ?_
 refine DetC.gdo au au ?_
 rcases hd11:(!decide (x=q.fn)) with _ | _
 have H:=aj hd11 H
 refine DetC.gskip' au ?_
 refine DetC.gskip' au ?_
 refine DetC.gskip' au ?_
 refine DetC.gskip' au ?_
 refine DetC.gskip' au ?_
 refine DetC.gskip' au ?_
 refine DetC.gskip' au ?_
 refine DetC.gskip' au ?_
 refine jO 1 ?_;rotate_left
 have H:=aj hd11 H
 have hx1:decide (x-128=q.fn)=true:=decide_eq_true (by have h0:¬ x=q.fn:=(by simpa using hd11);split at hxh<;>omega)
 have H:=aj hx1 H
 refine DetC.gdo au au ?_
 refine DetC.gdo au au ?_
 refine DetC.gdo au au ?_
 refine DetC.gdo au au ?_
 refine DetC.gdo au au ?_
 refine DetC.gdo au au ?_
 refine DetC.gdo au au ?_
 refine DetC.gdo au au ?_
 refine jO 1 ?_;rotate_left
 any_goals
  refine jI 1 ?_
  refine DetC.gdo au au ?_
  refine jO 2 ?_;rotate_left
 any_goals
  refine jI 2 ?_
  refine DetC.all au ?_
  refine jO 3 ?_;rotate_left
 any_goals
  refine jI 3 ?_
  refine re (k:=rc (ht:=fun hc1=>?_) (hf:=fun hc1=>?_))
  ·cases hc1
  refine jO 4 ?_;rotate_left
 any_goals
  refine jI 4 ?_
  refine rk (k:=rB (k:=rs (k:=rr (k:=ro (pre:=[_,_]) (k:=?_)))))
  refine jO 5 ?_;rotate_left
 any_goals
  refine jI 5 ?_
  refine RunO.callw au au au Y26 ((reply_guess hbo Y21 hx0 hq.count).mono ?_)
  refine jO 6 ?_;rotate_left
 any_goals
  refine jI 6 ?_
  rintro r s9 ⟨rfl,hs⟩
  refine jO 7 ?_;rotate_left
 any_goals
  refine jI 7 ?_
  subst s9
  refine jO 8 ?_;rotate_left
 any_goals
  refine jI 8 ?_
  rw [hgs]
  refine jO 9 ?_;rotate_left
 any_goals
  refine jI 9 ?_
  refine rh [0,3,4,6] (k:=rs (k:=rs (k:=rr (k:=ro (pre:=[_]) (k:=rC (h:=reply_Bytes hR) (k:=rh [0,3,4,6,7,8] (k:=rs (k:=rr (k:=ro (pre:=[_,_,_]) (k:=rg1 (k:=rg1 (k:=rC (h:=equal_u8 (xs:=repF R) (ys:=repF R) hbl2) (k:=rg1 (k:=ro (pre:=[_,_]) (k:=rg1 (k:=rg1 (k:=rC (h:=reply_asked hf.cnt) (k:=rg1 (k:=?_)))))))))))))))))))
  refine jO 10 ?_;rotate_left
 any_goals
  refine jI 10 ?_
  refine rh [4,6,59] (k:=rc (ht:=fun hc2=>?_) (hf:=fun hc2=>?_))
  ·cases hc2
  refine jO 11 ?_;rotate_left
 any_goals
  refine jI 11 ?_
  refine rk (k:=rs (k:=rg [4,5] (k:=rR (k:=?_))))
  refine jO 12 ?_;rotate_left
 any_goals
  refine jI 12 ?_
  exact Ret.pure (r':=.tuple [R.pv,.int .i64 0]) (by simp only [Tryz.f133,go_sem,↓reduceIte]<;>rfl) Y333 Y222 hwf Y36 ⟨rfl,rfl⟩
end Go.Proofs
namespace Go.Proofs
open Go.PM
set_option maxHeartbeats 2000000
attribute [local go_sem] weaks_bools Req.pv
theorem master_Frame {q:Req} (hq:q.ok) {s:St}:ACalls Tryz.prog 116 [q.pv] s (fun r s'=>r=.sl .unk ((frameF (bytesF q)).map (PV.int .u8))∧s'=s):=by
 refine go Tryz.func116 (k:=fun hwf H=>?_)
 have hbo:OkB (bytesF q):=by unfold bytesF;split;exact writeF_ok hq ‹_›;exact OkB.nil
 have hbl:(bytesF q).length≤140737488350000:=by
  unfold bytesF
  split
  ·have:=writeF_len ‹_›;omega
  ·simp
 refine rs (k:=rg [1] (k:=rs (k:=rr (k:=ro (pre:=[_]) (k:=rC (h:=pdu_Bytes hq) (k:=rh [3] (k:=rs (k:=rr (k:=ro (pre:=[_]) (k:=rC (h:=rtu_Frame (a:=17) hbo hbl) (k:=rh [5] (k:=rs (k:=rg [2] (k:=rR (k:=?_)))))))))))))))
 refine Ret.pure (r':=.sl .unk ((frameF (bytesF q)).map (PV.int .u8))) (by simp only [Tryz.f116,go_sem,↓reduceIte]<;>rfl) ?_ Y27 hwf Y36 ⟨rfl,rfl⟩
 simp only [PV.weak,weaks_u8]
 rfl
attribute [local go_sem] weaks_bools Req.pv Rep.pv
theorem Y272 {p:Prop} (h:p:=by simp only [PV.weak,PV.weaks,Rep.pv,zeroP,List.map_nil,weaks_u16,weaks_bools,weaks_u8]<;>rfl):p:=h
theorem master_goodN {B:List Int} (hB:OkB B) (hl:B.length≤256) {q:Req} (h:¬ (rtuF B).2=0) {s:St}:ACalls Tryz.prog 117 [.sl .unk (B.map (PV.int .u8)),q.pv] s (fun r s'=>r=.tuple [zeroP.pv,.bool false]∧s'=s):=by
 refine go Tryz.func117 (k:=fun hwf H=>?_)
 have h0:decide ((rtuF B).2=0)=false:=decide_eq_false h
 have H:=aj h0 H
 refine rs (k:=rg [0,3,4] (k:=rs (k:=rr (k:=ro (pre:=[_]) (k:=rC (h:=rtu_Read hB Y21) (k:=rh [3,4,6,7,8] (k:=rs (k:=rs (k:=rr (k:=ro (pre:=[_,_,_]) (k:=rg0 (k:=rg0 (k:=rh [3,4,7,22] (k:=rc (ht:=fun hc0=>?_) (hf:=fun hc0=>?_)))))))))))))))
 ·refine rs (k:=rg [4,5] (k:=rR (k:=?_)))
  exact Ret.pure (r':=.tuple [zeroP.pv,.bool false]) (by simp only [Tryz.f117,go_sem,↓reduceIte]<;>rfl) Y272 Y222 hwf Y36 ⟨rfl,rfl⟩
 ·cases hc0
attribute [local go_sem] weaks_bools Req.pv Rep.pv
theorem master_goodY {R:Rep} {q:Req} (hf:Fits R q) (h127:1≤q.fn∧q.fn≤127) (hR:R.ok) (hq:q.ok) (hl:(repF R).length≤253) {s:St}:ACalls Tryz.prog 117 [.sl .unk ((frameF (repF R)).map (PV.int .u8)),q.pv] s (fun r s'=>r=.tuple [R.pv,.bool true]∧s'=s):=by
 refine go Tryz.func117 (k:=fun hwf H=>?_)
 have hbn:repF R≠[]:=by
  obtain ⟨x,l,h,_⟩:=fit_head hf h127
  rw [h];exact List.cons_ne_nil _ _
 have hrt:rtuF (frameF (repF R))=((17,repF R),0):=rtu_frame hbn hl
 have hB:OkB (frameF (repF R)):=frameF_ok (repF_ok hR)
 have hBl:=frameF_len (repF R)
 refine rs (k:=rg [0,3,4] (k:=rs (k:=rr (k:=ro (pre:=[_]) (k:=?_)))))
 refine RunO.callw au au au Y26 ((rtu_Read hB Y21).mono ?_)
 rintro r s9 ⟨rfl,hs⟩
 subst s9
 rw [hrt]
 refine rh [3,4,6,7,8] (k:=rs (k:=rs (k:=rr (k:=ro (pre:=[_,_,_]) (k:=rg1 (k:=rg1 (k:=rh [3,4,7,22] (k:=rc (ht:=fun hc0=>?_) (hf:=fun hc0=>?_)))))))))
 ·cases hc0
 ·refine rk (k:=rs (k:=rr (k:=ro (pre:=[_,_]) (k:=rC (h:=reply_ReadFits hf h127 hR hq) (k:=rh [4,9,10] (k:=rs (k:=rg [4,5] (k:=rR (k:=?_)))))))))
  exact Ret.pure (r':=.tuple [R.pv,.bool true]) (by simp only [Tryz.f117,go_sem,↓reduceIte]<;>rfl) Y272 Y222 hwf Y36 ⟨rfl,rfl⟩
theorem master_good {q:Req} (h127:1≤q.fn∧q.fn≤127) (hq:q.ok) {D D':Dev} {f:Int} {B:List Int} {g:Option Rep} (h:Tried q D f B D' g) {s:St}:ACalls Tryz.prog 117 [.sl .unk (B.map (PV.int .u8)),q.pv] s (fun r s'=>r=.tuple [(g.getD zeroP).pv,.bool g.isSome]∧s'=s):=by
 rcases h.g with ⟨rfl,h1,_⟩ | ⟨R,rfl,h1,h2,h4,h3,_⟩
 ·exact master_goodN h.b h.bl h1
 ·rw [h4]
  exact master_goodY h1 h127 h2 hq h3
theorem triesF_ok {q:Req} (hq:q.ok) (hr:rightF q=0):∀ (k:Nat) (F:List Int) (D:Dev),D.ok→(triesF q k F D).2.2.1.ok∧(triesF q k F D).2.2.1.c0.length=D.c0.length∧(triesF q k F D).1.ok
 | 0,F,D,h=>⟨h,rfl,refuseP_ok _ _⟩
 | k+1,F,D,h=>by
   have hd:=doF_ok h hq
   unfold triesF
   split
   ·exact ⟨hd.1,hd.2,doF_rep h hq⟩
   ·split
    ·exact ⟨h,rfl,refuseP_ok _ _⟩
    ·split
     ·exact triesF_ok hq hr k F.tail D h
     ·have:=triesF_ok hq hr k F.tail (doF D q).2 hd.1
      exact ⟨this.1,this.2.1.trans hd.2,this.2.2⟩
structure Trying (q:Req) (F0:List Int) (D0:Dev) (i:Nat) (F:List Int) (D:Dev):Prop where
 le:i≤3
 ok:D.ok
 ff:∀ f∈F,0≤f∧f≤4
 ln:F.length≤1000
 rep:(triesF q 3 F0 D0).1=(triesF q (3-i) F D).1
 bad:(triesF q 3 F0 D0).2.1=(triesF q (3-i) F D).2.1+i
 dev:(triesF q 3 F0 D0).2.2=(triesF q (3-i) F D).2.2
 len:D.c0.length=D0.c0.length
theorem headD_ff {F:List Int} (h:∀ f∈F,0≤f∧f≤4):0≤F.headD 0∧F.headD 0≤4:=by
 cases F with
 | nil=>decide
 | cons f L=>exact h f Y23
theorem Trying.next {q:Req} {F0:List Int} {D0:Dev} {i:Nat} {F:List Int} {D:Dev} (h:Trying q F0 D0 i F D) (hi:i<3) {B:List Int} {D':Dev} {g:Option Rep} (ht:Tried q D (F.headD 0) B D' g) :
  (g=none→Trying q F0 D0 (i+1) F.tail D')∧(∀ R,g=some R→(triesF q 3 F0 D0)=(R,i,D',F.tail)):=by
 obtain ⟨k,hk⟩:∃ k,3-i=k+1:=⟨2-i,Y21⟩
 have h1:=h.rep
 have h2:=h.bad
 have h3:=h.dev
 rw [hk] at h1 h2 h3
 have hff:∀ f∈F.tail,0≤f∧f≤4:=fun f hf=>h.ff f (List.mem_of_mem_tail hf)
 have hln:F.tail.length≤1000:=by rw [List.length_tail];have:=h.ln;omega
 rcases ht.g with ⟨rfl,_,e0,e4,hD'⟩ | ⟨R,rfl,_,_,_,_,hc⟩
 ·refine ⟨fun _=>?_,fun R e=>Y20⟩
  have e:triesF q (k+1) F D=((triesF q k F.tail D').1,(triesF q k F.tail D').2.1+1,(triesF q k F.tail D').2.2):=by
   show (if F.headD 0=0 then _ else if F.headD 0=4 then _ else _)=_
   rw [if_neg e0,if_neg e4,← hD']
  rw [e] at h1 h2 h3
  have hk2:3-(i+1)=k:=Y21
  exact ⟨Y21,ht.ok,hff,hln,by rw [hk2];exact h1,by rw [hk2];rw [h2];dsimp only;omega,by rw [hk2];exact h3,ht.len.trans h.len⟩
 ·refine ⟨fun e=>Y20,fun R' e=>?_⟩
  cases e
  have e:triesF q (k+1) F D=(R,0,D',F.tail):=by
   show (if F.headD 0=0 then _ else if F.headD 0=4 then _ else _)=_
   rcases hc with ⟨c1,c2,c3⟩ | ⟨c1,c2,c3⟩
   ·rw [if_pos c1,c2,c3]
   ·rw [if_neg (by rw [c1];decide),if_pos c1,c2,c3]
  rw [e] at h1 h2 h3
  exact Prod.ext h1 (Prod.ext (by rw [h2];dsimp only;omega) h3)
attribute [local go_sem] weaks_bools set_set Rep.pv
end Go.Proofs
namespace Go.Proofs
open Go.PM
set_option maxHeartbeats 2000000
def sentG (fr:List Int) (tn tick:Int) (i k:Nat):List Snt:=(List.range' i k).map fun (j:Nat)=>⟨tick+4*(j:Int),tn,fr⟩
theorem sentG_snoc (fr:List Int) (tn tick:Int) (k:Nat):sentG fr tn tick 0 (k+1)=sentG fr tn tick 0 k++[⟨tick+4*(k:Int),tn,fr⟩]:=by
 unfold sentG
 rw [List.range'_concat,List.map_append,Nat.zero_add,Nat.one_mul]
 rfl
theorem sentG_len (fr:List Int) (tn tick:Int) (k:Nat):(sentG fr tn tick 0 k).length=k:=by simp [sentG]
theorem sentG_data {fr:List Int} {tn tick:Int} {k:Nat} {x:Snt} (h:x∈sentG fr tn tick 0 k):x.data=fr:=by
 simp only [sentG,List.mem_map] at h
 obtain ⟨_,_,rfl⟩:=h
 rfl
theorem Fr4.nw {b n ln:Nat} {ns ns':Nat→Option Nat} {s s':St} (h:Fr4 b n ln ns ns' s s') (x:Blk):Fr4 b n ln ns ns' s (s'.new x):=by
 have:=h.nx
 exact ⟨Nat.le_succ_of_le h.nx,fun j q1 q2 q3 q4=>by rw [blk_new_ne Y21];exact h.same j q1 q2 q3 q4,h.new⟩
theorem Fr4.hi {b n ln r:Nat} {ns ns':Nat→Option Nat} {s s':St} (h:Fr4 b n ln ns ns' s s') (hr:s.nxt≤r) (x:Option Blk):Fr4 b n ln ns ns' s (s'.set r x) :=
 ⟨h.nx,fun j q1 q2 q3 q4=>by rw [blk_set_ne Y21];exact h.same j q1 q2 q3 q4,h.new⟩
theorem Ln4.istok {ty d ln c i j:Nat} {FS:Nat→List Int} {l:List Snt} {ns:Nat→Option Nat} {s:St} (h:Ln4 ty d ln c FS l ns s) (hi:ns i=some j):∃ L,s.blk j=some (.tok L):=by
 obtain ⟨xs,st,h1,h2,h3,h4⟩:=h.row
 by_cases g:i<4
 ·obtain ⟨x,_,k⟩:=h3 i g
  rw [hi] at k
  exact ⟨_,k.2.1⟩
 ·exact Y271
theorem Ln4.hi {ty d ln c r:Nat} {FS:Nat→List Int} {l:List Snt} {ns:Nat→Option Nat} {s:St} (h:Ln4 ty d ln c FS l ns s) (hr:c≤r) (hb:∀ L,s.blk r≠some (.tok L)) (x:Option Blk):Ln4 ty d ln c FS l ns (s.set r x) :=
 h.keep (Nat.le_refl _) fun j _ hj=>blk_set_ne (by
  have:=h.hc
  rcases hj with rfl | ⟨i,hi⟩
  ·omega
  ·rintro rfl
   obtain ⟨L,e⟩:=h.istok hi
   exact hb L e)
theorem Ln4.other {ty d ln c b n j t:Nat} {vs:List PV} {FS:Nat→List Int} {l:List Snt} {ns n':Nat→Option Nat} {s s':St} (h:Ln4 ty d ln c FS l ns s) (f:Fr4 b n ln ns n' s s') (hb:s.blk j=some (.row t vs)) (h1:j<s.nxt) (h2:j≠ln) (h3:¬ (b≤j∧j<n)):s'.blk j=some (.row t vs):=by
 rw [f.same j h1 h2 h3 fun i hi=>absurd hb (h.notrow hi)];exact hb
theorem upF_self {α:Type} (F:Nat→α) (k:Nat):upF F k (F k)=F:=by
 funext i
 by_cases e:i=k
 ·rw [e,upF_at]
 ·exact upF_ne e
theorem takeQ_up {FS:Nat→List Int} {T:Nat} (hT:T<4) (F:List Int):takeQ (upF FS T F) (T:Int)=F.headD 0:=by
 unfold takeQ
 rw [if_pos Y21]
 show (upF FS T F T).headD 0=_
 rw [upF_at]
theorem takeFS_up {FS:Nat→List Int} {T:Nat} (hT:T<4) (F:List Int):takeFS (upF FS T F) (T:Int)=upF FS T F.tail:=by
 unfold takeFS
 rw [if_pos Y21]
 show upF (upF FS T F) T (upF FS T F T).tail=_
 rw [upF_at]
 funext i
 by_cases e:i=T
 ·rw [e,upF_at,upF_at]
 ·rw [upF_ne e,upF_ne e,upF_ne e]
theorem FOk.up {FS:Nat→List Int} (h:FOk FS) (T:Nat) {F:List Int} (h1:F.length≤1000) (h2:∀ f∈F,0≤f∧f≤4):FOk (upF FS T F):=by
 intro i
 by_cases e:i=T
 ·rw [e,upF_at];exact ⟨h1,h2⟩
 ·rw [upF_ne e];exact h i
def askX (q:Req) (FS:Nat→List Int) (T:Nat) (l:List Snt) (tick:Int) (D:Dev):Rep × Nat × Dev × (Nat→List Int) × List Snt :=
 if rightF q=0 then ((triesF q 3 (FS T) D).1,(triesF q 3 (FS T) D).2.1,(triesF q 3 (FS T) D).2.2.1,upF FS T (triesF q 3 (FS T) D).2.2.2,l++sentG (frameF (bytesF q)) T tick 0 (min ((triesF q 3 (FS T) D).2.1+1) 3)) else (refuseP q.fn 3,0,D,FS,l)
attribute [local go_sem] weaks_bools set_set Req.pv Rep.pv
theorem Y223 {p:Prop} (h:p:=by simp (disch:=first | omega |(simp only [nxt_set,nxt_new]<;>omega) | fail) only [go_sem]<;>rfl):p:=h
set_option maxRecDepth 100000 in
theorem master_AskM {b ln c T:Nat} {FS:Nat→List Int} {l:List Snt} {ns:Nat→Option Nat} {D:Dev} {s:St} (h:Ln4 86 (b+5) ln c FS l ns s) (hA:DevAt b D s) (hD:D.ok) (hbl:b+5<ln) (hF:FOk FS) (hT4:T<4) (hl:l.length≤90000) {q:Req} (hq:q.ok) (hr:rightF q=0) (hln:(writeF q).length≤253) {tick:Int} (ht:0≤tick∧tick≤1099511627776) :
  ACalls Tryz.prog 98 [.ptr ln 0 0,.int .i64 (T:Int),.int .i64 tick,q.pv] s (fun r s'=>r=.tuple [(askX q FS T l tick D).1.pv,.int .i64 (askX q FS T l tick D).2.1]∧∃ ns',Ln4 86 (b+5) ln c (askX q FS T l tick D).2.2.2.1 (askX q FS T l tick D).2.2.2.2 ns' s'∧DevAt b (askX q FS T l tick D).2.2.1 s'∧Fr4 b (b+6) ln ns ns' s s'):=by
 refine go Tryz.func98 (k:=fun hwf H=>?_)
 have hne:writeF q≠[]:=List.cons_ne_nil _ _
 have hbw:bytesF q=writeF q:=right_bytes hr
 have hfo:OkB (frameF (bytesF q)):=frameF_ok (by rw [hbw];exact writeF_ok hq hr)
 have hfl:=frameF_len (bytesF q)
 have hfp:0<(frameF (bytesF q)).length:=by rw [hbw,frameF_eq hne hln,sealB_len];omega
 obtain ⟨fr,hfr⟩:∃ y,frameF (bytesF q)=y:=⟨_,rfl⟩
 rw [hfr] at hfo hfl hfp
 have h127:=has127 hr
 have hz:decide ((fr.length:Int)=0)=false:=decide_eq_false Y21
 have hc1:=h.hc
 have hc2:=h.nx
 have hFT:=hF T
 have H:=aj hz H
 refine rs (k:=rg [0,1,2,7,8] (k:=rs (k:=rr (k:=ro (pre:=[_]) (k:=?_)))))
 refine RunO.callw au au au Y26 ((master_Frame hq).mono ?_)
 rintro r s9 ⟨rfl,hs⟩
 subst s9
 rw [hfr]
 refine rh [0,1,2,7,8,10] (k:=rs (k:=rs (k:=rr (k:=ro (pre:=[_,_,_]) (k:=rg1 (k:=rg1 (k:=rg1 (k:=rh [0,1,2,7,8,10,22] (k:=rc (ht:=fun hc0=>?_) (hf:=fun hc0=>?_))))))))))
 ·cases hc0
 ·have hc:=hc0
  refine rk (k:=rs (k:=rs (k:=rg [0,1,2,7,8,10,26] (k:=rb (k:=?_)))))
  refine Run.loop (fun e s'=>∃ (i:Nat) (D1:Dev) (F1:List Int) (l1:List Snt) (n1:Nat→Option Nat),e=[(0,.ptr ln 0 0),(1,.int .i64 (T:Int)),(2,.int .i64 tick),(7,.ptr s.nxt 0 0),(8,.ptr (s.nxt+1) 0 0),(10,.sl .unk (fr.map (PV.int .u8))),(26,.int .i64 (i:Int))]∧Trying q (FS T) D i F1 D1∧l1=l++sentG fr T tick 0 i∧Ln4 86 (b+5) ln c (upF FS T F1) l1 n1 s'∧DevAt b D1 s'∧Fr4 b (b+6) ln ns n1 s s'∧s.nxt+2≤s'.nxt∧s'.blk s.nxt=some (.row 47 [q.pv])∧s'.blk (s.nxt+1)=some (.row 52 [.agg [.int .i64 0,.int .i64 0,.int .i64 0,.int .i64 0,.int .i64 0,.sl .nil [],.sl .nil [],.int .u16 0,.int .u16 0,.sl .nil []]])) (fun e s'=>3-ivar e 26) ?_ ?_
  ·exact ⟨0,D,FS T,_,ns,rfl,⟨Y22,hD,hFT.2,hFT.1,rfl,rfl,rfl,rfl⟩,(List.append_nil _).symm,by rw [upF_self];exact (h.nw _).nw _,(hA.nw Y21 _).nw Y95 _,((Fr4.refl _ _ _ _ _).nw _).nw _,Nat.le_refl _,Y223,Y223⟩
  rintro e S0 ⟨i,D1,F1,l1,n1,rfl,hTr,hl1,hL,hA1,hO,hx0,hq0,hz0⟩
  have hll1:l1.length=l.length+i:=by rw [hl1,List.length_append,sentG_len]
  have hi3':=hTr.le
  have hF1:=hF.up T hTr.ln hTr.ff
  have H:=aj hq0 (aj hz0 H)
  refine rs (k:=rg [0,1,2,7,8,10,26,27] (k:=rs (k:=rc (ht:=fun hc1=>?_) (hf:=fun hc1=>?_))))
  ·have hc:=hc1
   refine rk (k:=rs (k:=rb (k:=rs (k:=rg [0,1,2,7,8,10,11,26] (k:=rs (k:=?_))))))
   have hi3:i<3:=Y79
   obtain ⟨B,D',g,hT⟩:=try_law hq hr hTr.ok (headD_ff hTr.ff) hln
   have hN:=hTr.next hi3 hT
   have hsd:=hT.snd
   rw [hfr,← takeQ_up (FS:=FS) hT4] at hsd
   have hw4:IntKind.i64.wrap ((i:Int)*4)=(i:Int)*4:=wrap_i64 Y21
   have hwt:IntKind.i64.wrap (tick+(i:Int)*4)=tick+4*(i:Int):=Y28
   have hwi:IntKind.i64.wrap ((i:Int)+1)=((i+1:Nat):Int):=Y28
   refine Run.reserve ?_
   obtain ⟨r9,hr9⟩:∃ r,r=S0.nxt:=⟨_,rfl⟩
   obtain ⟨S,hS⟩:∃ S,S=S0.new .res:=⟨_,rfl⟩
   have hSr:S.blk r9=some .res:=by rw [hS,hr9];exact blk_new_eq
   have hSx:S.nxt=r9+1:=by rw [hS,hr9];rfl
   have hSL:Ln4 86 (b+5) ln c (upF FS T F1) l1 n1 S:=by rw [hS];exact hL.nw _
   have hSD:DevAt b D1 S:=by rw [hS];exact hA1.nw Y21 _
   have hSO:Fr4 b (b+6) ln ns n1 s S:=by rw [hS];exact hO.nw _
   have hSq:S.blk s.nxt=some (.row 47 [q.pv]):=by rw [hS,blk_new_ne Y21];exact hq0
   have hSz:S.blk (s.nxt+1)=some (.row 52 [.agg [.int .i64 0,.int .i64 0,.int .i64 0,.int .i64 0,.int .i64 0,.sl .nil [],.sl .nil [],.int .u16 0,.int .u16 0,.sl .nil []]]):=by rw [hS,blk_new_ne Y21];exact hz0
   rw [← hS]
   clear hS
   obtain ⟨S9,n9',hsnd,hL9,hD9,hO9,hr99⟩:=line_SendMV (r:=r9) (tick:=tick+4*(i:Int)) hSL hSD hTr.ok hbl hF1 Y21 hfo Y21 Y21 Y21 hSr hsd hT.len
   rw [takeFS_up hT4] at hL9
   have h9x:=hO9.nx
   have h9q:=hSL.other hO9 hSq Y21 Y21 Y21
   have h9z:=hSL.other hO9 hSz Y21 Y21 Y21
   have hsn0:=hsnd (some .res)
   rw [set_same hSr,set_same hr99] at hsn0
   have nr1:(s.nxt=r9)=False:=eq_false Y21
   have nr2:(s.nxt+1=r9)=False:=eq_false Y21
   have nr3:(r9=s.nxt+1)=False:=eq_false Y21
   have H:=aj hw4 (aj hwt (aj hwi (aj hSq (aj hSz (aj h9q (aj h9z (aj nr1 (aj nr2 (aj nr3 H)))))))))
   refine rH 16 [7,13,14] [[false,false,false],[true,false,false],[false,true,false],[true,true,false],[true,true,true]] [S,S9,(S.set r9 (some (.row 52 [.agg [.int .i64 0,.int .i64 0,.int .i64 0,.int .i64 0,.int .i64 0,.sl .nil [],.sl .nil [],.int .u16 0,.int .u16 0,.sl .nil []]]))),(S9.set r9 (some (.row 52 [.agg [.int .i64 0,.int .i64 0,.int .i64 0,.int .i64 0,.int .i64 0,.sl .nil [],.sl .nil [],.int .u16 0,.int .u16 0,.sl .nil []]]))),(S9.set r9 (some (.row 52 [(g.getD zeroP).pv])))] Tryz.mixed (k:=?_)
   refine dP [0,2] (pre:=[_,_,_,_,_,_,_]) (k:=?_)
   refine dX (v:=.sl .unk (B.map (PV.int .u8))) [(0,1),(2,3)] (h:=by intro q hq;simp only [List.mem_cons,List.not_mem_nil,or_false] at hq;rcases hq with rfl | rfl;exact hsn0;exact hsnd _) (k:=?_)
   refine dP [0,1,2,3] (pre:=[_]) (k:=?_)
   refine dC [1,3] (h:=fun s _=>master_good h127 hq hT) (k:=?_)
   refine dP [1,3,4] (pre:=[_,_,_]) (k:=?_)
   refine DetHC.resAlloc (id:=r9) [(0,2),(1,3)] _ Y26 pq au rfl (by rw [Tryz.zp52]<;>rfl) (by intro q hq;simp only [List.mem_cons,List.not_mem_nil,or_false] at hq;rcases hq with rfl | rfl<;>exact ⟨by assumption,rfl⟩) ?_
   refine dE [(3,4)] (k:=?_)
   refine dA [4] (k:=rl [0,1,2,7,8,10,11,12,13,26] (k:=rs (k:=rg [0,1,2,7,8,10,11,12,26,42] (k:=rc (ht:=fun hc2=>?_) (hf:=fun hc2=>?_)))))
   ·have hc:=hc2
    refine rs (k:=rg [8,9] (k:=rR (k:=?_)))
    obtain ⟨R,hgR⟩:∃ R,g=some R:=by cases g with | none=>simp at hc2 | some R=>exact ⟨R,rfl⟩
    have hN2:=hN.2 R hgR
    have hm3:min (i+1) 3=i+1:=Y21
    have n9:∀ L,S9.blk r9≠some (.tok L):=fun L=>by rw [hr99];intro e;cases e
    refine Ret.allW (r':=.tuple [R.pv,.int .i64 (i:Int)]) (by simp only [Tryz.f98,go_sem,↓reduceIte]<;>rfl) (by rw [hgR];simp only [Option.getD_some,PV.weak,PV.weaks,Rep.pv,weaks_u16,weaks_bools,weaks_u8]) ?_
    unfold askX
    rw [if_pos hr,hN2]
    dsimp only
    refine ⟨rfl,n9',?_,(hD9.sv Y21 _).sv Y21 _,((hSO.trans hO9).hi Y21 _).hi Y21 _⟩
    rw [hm3,sentG_snoc,← List.append_assoc,hfr,← hl1]
    exact (hL9.hi Y21 n9 _).hi Y21 (fun L=>by rw [blk_set_ne Y21,h9z];intro e;cases e) _
   ·have hc:=hc2
    refine rk (k:=rB (k:=rg [0,1,2,7,8,10,26] (k:=?_)))
    have hgn:g=none:=by cases g with | none=>rfl | some R=>simp at hc2
    refine Run.lp ⟨⟨i+1,D',F1.tail,_,n9',rfl,hN.1 hgn,by rw [sentG_snoc,← List.append_assoc,← hl1],(hL9.hi Y21 (fun L=>by rw [hr99];intro e;cases e) _),hD9.sv Y21 _,((hSO.trans hO9).hi Y21 _),by show s.nxt+2≤S9.nxt;omega,?_,?_⟩,?_⟩
    ·rw [blk_set_ne Y21];exact h9q
    ·rw [blk_set_ne Y21];exact h9z
    ·exact Y32
  ·have hc:=hc1
   refine rX (k:=rs (k:=rr (k:=ro (pre:=[_,_]) (k:=rC (h:=reply_Refuse hq.fn Y24) (k:=rh [8,9] (k:=rR (k:=?_)))))))
   obtain rfl:i=3:=Y85
   have k1:(triesF q 3 (FS T) D).1=refuseP q.fn 11:=hTr.rep
   have k2:(triesF q 3 (FS T) D).2.1=0+3:=hTr.bad
   have k3:(triesF q 3 (FS T) D).2.2=(D1,F1):=hTr.dev
   refine Ret.allW (r':=.tuple [(refuseP q.fn 11).pv,.int .i64 3]) (by simp only [Tryz.f98,go_sem,↓reduceIte]<;>rfl) Y333 ?_
   unfold askX
   rw [if_pos hr,k1,k2,k3]
   dsimp only
   refine ⟨rfl,n1,?_,hA1.sv Y21 _,hO.hi Y21 _⟩
   rw [show min (0+3+1) 3=3 from rfl,hfr,← hl1]
   exact hL.hi Y21 (fun L=>by rw [hz0];intro e;cases e) _
attribute [local go_sem] weaks_bools set_set Req.pv Rep.pv
end Go.Proofs
namespace Go.Proofs
open Go.PM
set_option maxHeartbeats 2000000
theorem window_virtual {w:Win} {s:St}:ACalls Tryz.prog 124 [w.pv] s (fun r s'=>r=w.v.pv∧s'=s):=by
 refine go Tryz.func124 (k:=fun hwf H=>?_)
 refine rs (k:=rg [1,2] (k:=rs (k:=rg [2] (k:=rR (k:=rP (by simp only [Tryz.f124,go_sem];rfl) hwf ⟨?_,rfl⟩)))))
 rfl
theorem window_physical {w:Win} {s:St}:ACalls Tryz.prog 154 [w.pv] s (fun r s'=>r=w.p.pv∧s'=s):=by
 refine go Tryz.func154 (k:=fun hwf H=>?_)
 refine rs (k:=rg [1,2] (k:=rs (k:=rg [2] (k:=rR (k:=rP (by simp only [Tryz.f154,go_sem];rfl) hwf ⟨?_,rfl⟩)))))
 rfl
theorem Win.ok.v {w:Win} (h:w.ok):w.v.ok:=⟨h.virt,h.cnt⟩
theorem Win.ok.p {w:Win} (h:w.ok):w.p.ok:=⟨h.phys,h.cnt⟩
theorem window_Right {w:Win} (hw:w.ok) {s:St}:ACalls Tryz.prog 136 [w.pv] s (fun r s'=>r=.bool (winRight w)∧s'=s):=by
 refine go Tryz.func136 (k:=fun hwf H=>?_)
 refine rs (k:=rg [1] (k:=rs (k:=rr (k:=ro (pre:=[_,_,_,_,_,_,_,_,_]) (k:=rQ 11 (ht:=fun hg8=>?_) (hf:=fun hg8=>?_))))))
 refine rg1 (k:=rC (h:=window_virtual (w:=w)) (k:=rC (h:=span_Right (a:=w.v) (most:=65536) hw.v Y22) (k:=ro (pre:=[_,_]) (k:=rQ 16 (ht:=fun hg13=>?_) (hf:=fun hg13=>?_)))))
 refine rg1 (k:=rC (h:=window_physical (w:=w)) (k:=rC (h:=span_Right (a:=w.p) (most:=512) hw.p Y22) (k:=rh [2] (k:=rR (k:=rP (by simp only [Tryz.f136,go_sem];rfl) hwf ⟨?_,rfl⟩)))))
 refine jO 1 ?_;rotate_left
 refine jO 2 ?_;rotate_left
 refine rg0 (k:=rg0 (k:=rg0 (k:=ro (pre:=[_,_]) (k:=rQ 16 (ht:=fun hg13=>?_) (hf:=fun hg13=>?_)))))
 ·cases hg13
 refine jO 2 ?_;rotate_left
 any_goals
  refine jI 2 ?_
  refine rg0 (k:=rg0 (k:=rg0 (k:=rh [2] (k:=rR (k:=rP (by simp only [Tryz.f136,go_sem];rfl) hwf ⟨?_,rfl⟩)))))
  refine jO 1 ?_;rotate_left
 any_goals
  refine jI 1 ?_
  have e:winRight w=(decide (0≤w.space)&&decide (w.space≤3)&&spRight w.v 65536&&spRight w.p 512):=by simp [winRight]
  refine jO 3 ?_;rotate_left
 any_goals
  refine jI 3 ?_
  rw [e]
  refine jO 4 ?_;rotate_left
 any_goals
  refine jI 4 ?_
  first
   |(rw [show (decide (0≤w.space)&&decide (w.space≤3))=true from hg8,show spRight w.v 65536=true from hg13];simp [PV.weak])
   |(rw [show (decide (0≤w.space)&&decide (w.space≤3))=true from hg8,show spRight w.v 65536=false from hg13];rfl)
   |(rw [show (decide (0≤w.space)&&decide (w.space≤3))=false from hg8];rfl)
end Go.Proofs
namespace Go.Proofs
open Go.PM
set_option maxHeartbeats 2000000
theorem Slt.ok.sp {s:Slt} (h:s.ok):s.sp.ok:=⟨h.pos,h.len⟩
theorem Y224 {p:Prop} (h:p:=by simp only [PV.blw];exact ⟨fun t z e=>Y20,blws_wins _ _⟩):p:=h
theorem clip_Win {xs:List Win} {s:St}:ACalls Tryz.prog 77 [.sl .unk (xs.map Win.pv)] s (fun r s'=>r=.sl .unc (xs.map Win.pv)∧s'=s):=by
 refine go Tryz.func77 (k:=fun hwf H=>?_)
 have hfull:(xs.map Win.pv).take xs.length=xs.map Win.pv:=by rw [← List.length_map (f:=Win.pv),List.take_length]
 have H:=aj hfull H
 refine rs (k:=rg [0] (k:=rs (k:=rg [2] (k:=rR (k:=?_)))))
 refine Ret.pureK (r:=.sl .unc (xs.map Win.pv)) au Y224 hwf (fun _ _=>rfl) ⟨rfl,rfl⟩
theorem Y334 {p:Prop} (h:p:=by simp only [PV.blw];exact ⟨fun t z e=>Y20,blws_slts _ _⟩):p:=h
theorem clip_Slt {xs:List Slt} {s:St}:ACalls Tryz.prog 79 [.sl .unk (xs.map Slt.pv)] s (fun r s'=>r=.sl .unc (xs.map Slt.pv)∧s'=s):=by
 refine go Tryz.func79 (k:=fun hwf H=>?_)
 have hfull:(xs.map Slt.pv).take xs.length=xs.map Slt.pv:=by rw [← List.length_map (f:=Slt.pv),List.take_length]
 have H:=aj hfull H
 refine rs (k:=rg [0] (k:=rs (k:=rg [2] (k:=rR (k:=?_)))))
 refine Ret.pureK (r:=.sl .unc (xs.map Slt.pv)) au Y334 hwf (fun _ _=>rfl) ⟨rfl,rfl⟩
theorem clip_Ten {xs:List Ten} {s:St}:ACalls Tryz.prog 81 [.sl .unk (xs.map Ten.pv)] s (fun r s'=>r=.sl .unc (xs.map Ten.pv)∧s'=s):=by
 refine go Tryz.func81 (k:=fun hwf H=>?_)
 have hfull:(xs.map Ten.pv).take xs.length=xs.map Ten.pv:=by rw [← List.length_map (f:=Ten.pv),List.take_length]
 have H:=aj hfull H
 refine rs (k:=rg [0] (k:=rs (k:=rg [2] (k:=rR (k:=?_)))))
 refine Ret.pureK (r:=.sl .unc (xs.map Ten.pv)) au (by simp only [PV.blw];exact ⟨fun t z e=>Y20,blws_tens _ _⟩) hwf (fun _ _=>rfl) ⟨rfl,rfl⟩
theorem clone_Win_nil {s:St}:ACalls Tryz.prog 78 [.sl .nil []] s (fun r s'=>r=.sl .unk []∧s'=s):=by
 refine go Tryz.func78 (k:=fun hwf H=>?_)
 refine rs (k:=rg [0] (k:=rs (k:=rs (k:=rg [0,4] (k:=rc (ht:=fun hc0=>?_) (hf:=fun hc0=>?_))))))
 ·refine rs (k:=rg [2] (k:=rR (k:=rP (by simp only [Tryz.f78,go_sem];rfl) hwf ⟨?_,rfl⟩)))
  rfl
 ·cases hc0
theorem clone_Win_any {xs:List Win} (hb:xs.length*32≤140737488355328) {s:St}:ACalls Tryz.prog 78 [.sl .any (xs.map Win.pv)] s (fun r s'=>r=.sl .unk (xs.map Win.pv)∧s'=s):=by
 refine go Tryz.func78 (k:=fun hwf H=>?_)
 refine rs (k:=rg [0] (k:=rs (k:=rs (k:=rg [0,4] (k:=rc (ht:=fun hc0=>?_) (hf:=fun hc0=>?_))))))
 ·cases hc0
 ·refine rk (k:=rs (k:=rr (k:=rO (k:=ro (pre:=[_]) (k:=?_)))))
  refine RunO.grow' au au au Tryz.td25 (by rw [Tryz.zp59];rfl) Y141 (isEls_map (P:=Tryz.prog) (e:=59) (f:=Win.pv) (fun a=>⟨rfl,by rw [Tryz.cz59];rfl⟩) _) (by rw [Tryz.by59];decide) (by rw [Tryz.by59];simp;omega) (.inr (.inl (.inl rfl))) ?_
  intro k1 s1 hgr htm
  refine rh [2] (k:=rR (k:=?_))
  refine Ret.pure (by simp only [Tryz.f78,go_sem]<;>rfl) (r':=.sl .unk (xs.map Win.pv)) (by rw [PV.weak,weaks_wins]) Y224 hwf Y82 ⟨?_,rfl⟩
  ·rfl
theorem clone_Win {xs:List Win} (hb:xs.length*32≤140737488355328) {s:St}:ACalls Tryz.prog 78 [.sl .unk (xs.map Win.pv)] s (fun r s'=>r=.sl .unk (xs.map Win.pv)∧s'=s) :=
 ACalls.unk1 (fun h=>by rw [h];exact clone_Win_nil) (clone_Win_any hb)
theorem clone_Slt_nil {s:St}:ACalls Tryz.prog 80 [.sl .nil []] s (fun r s'=>r=.sl .unk []∧s'=s):=by
 refine go Tryz.func80 (k:=fun hwf H=>?_)
 refine rs (k:=rg [0] (k:=rs (k:=rs (k:=rg [0,4] (k:=rc (ht:=fun hc0=>?_) (hf:=fun hc0=>?_))))))
 ·refine rs (k:=rg [2] (k:=rR (k:=rP (by simp only [Tryz.f80,go_sem];rfl) hwf ⟨?_,rfl⟩)))
  rfl
 ·cases hc0
theorem clone_Slt_any {xs:List Slt} (hb:xs.length*16≤140737488355328) {s:St}:ACalls Tryz.prog 80 [.sl .any (xs.map Slt.pv)] s (fun r s'=>r=.sl .unk (xs.map Slt.pv)∧s'=s):=by
 refine go Tryz.func80 (k:=fun hwf H=>?_)
 refine rs (k:=rg [0] (k:=rs (k:=rs (k:=rg [0,4] (k:=rc (ht:=fun hc0=>?_) (hf:=fun hc0=>?_))))))
 ·cases hc0
 ·refine rk (k:=rs (k:=rr (k:=rO (k:=ro (pre:=[_]) (k:=?_)))))
  refine RunO.grow' au au au Tryz.td26 (by rw [Tryz.zp117];rfl) Y141 (isEls_map (P:=Tryz.prog) (e:=117) (f:=Slt.pv) (fun a=>⟨rfl,by rw [Tryz.cz117];rfl⟩) _) (by rw [Tryz.by117];decide) (by rw [Tryz.by117];simp;omega) (.inr (.inl (.inl rfl))) ?_
  intro k1 s1 hgr htm
  refine rh [2] (k:=rR (k:=?_))
  refine Ret.pure (by simp only [Tryz.f80,go_sem]<;>rfl) (r':=.sl .unk (xs.map Slt.pv)) (by rw [PV.weak,weaks_slts]) Y334 hwf Y82 ⟨?_,rfl⟩
  ·rfl
theorem clone_Slt {xs:List Slt} (hb:xs.length*16≤140737488355328) {s:St}:ACalls Tryz.prog 80 [.sl .unk (xs.map Slt.pv)] s (fun r s'=>r=.sl .unk (xs.map Slt.pv)∧s'=s) :=
 ACalls.unk1 (fun h=>by rw [h];exact clone_Slt_nil) (clone_Slt_any hb)
attribute [local go_sem] weaks_tensc
theorem Y106 {p:Prop} (h:p:=by simp only [go_sem,↓reduceIte]):p:=h
theorem Y166 {p:Prop} (h:p:=by rw [nxt_set];omega):p:=h
theorem table_Copy {t:Tab} (ht:t.ok) {s:St}:ACalls Tryz.prog 51 [t.pv] s (fun r s'=>r=t.pv∧s'=s):=by
 refine go Tryz.func51 (k:=fun hwf H=>?_)
 refine rs (k:=rg [1,2] (k:=rs (k:=rg [1,2,3] (k:=rs (k:=rs (k:=rg [2,3,10,11,12] (k:=rb (k:=?_))))))))
 refine Run.loop (fun e s'=>Fr s s'∧∃ (i:Nat) (k:SK),e=[(2,.ptr (s.nxt+1) 0 0),(3,.ptr (s.nxt+2) 0 0),(10,.sl .unk (t.tens.map Ten.pv)),(11,.int .i64 t.tens.length),(12,.int .i64 i)]∧i≤t.tens.length∧s.nxt+2<s'.nxt∧s'.blk (s.nxt+1)=some (.row 82 [.agg [.int .i64 0,.sl .nil []]])∧s'.blk (s.nxt+2)=some (.row 82 [.agg [.int .i64 t.frame,.sl k ((t.tens.take i).map Ten.pvc)]])∧Grows s' k i (Tryz.prog.cellsOf 28)∧(∀ t z,k=.tok t z→s.nxt+2<t∧t<s'.nxt)) (fun e s'=>t.tens.length-ivar e 12) ?_ ?_
 ·exact ⟨(((Fr.refl hwf).new _).new _).newset _ _ rfl,0,.nil,rfl,Y21,by simp only [go_sem];omega,Y106,by simp only [go_sem,↓reduceIte,Nat.add_assoc,Nat.reduceAdd],.inl ⟨rfl,rfl⟩,Y23⟩
 rintro e s1 ⟨F1,i,k,rfl,hi,hsn,hR,hO,hgr,htk⟩
 refine rs (k:=rg [2,3,10,11,12,13] (k:=rs (k:=rc (ht:=fun hc0=>?_) (hf:=fun hc0=>?_))))
 ·refine rk (k:=rs (k:=rb (k:=rs (k:=?_))))
  have hil:i<t.tens.length:=Y83
  have hbt:=ht.bt
  obtain ⟨x,hxe⟩:∃ z_,t.tens[i]'hil=z_:=⟨_,rfl⟩
  have hxx:(t.tens.map Ten.pv)[i]? =some (.agg [.int .i64 (x).unit,.int .u32 (x).fns,.int .i64 (x).queue,.sl .unk ((x).wins.map Win.pv),.sl .unk ((x).slts.map Slt.pv)]):=Y163
  have hw:IntKind.i64.wrap ((i:Int)+1)=((i+1:Nat):Int):=Y28
  have hxok:x.ok:=by rw [← hxe];exact ht.tens _ (List.getElem_mem _)
  have hXn:(s.nxt+2=s1.nxt)=False:=eq_false Y21
  have hXn1:(s.nxt+1=s1.nxt)=False:=eq_false Y21
  have htl:(t.tens.take i).length=i:=Y192
  have H:=aj hxx (aj hw (aj hO (aj hXn (aj hXn1 H))))
  refine rg [2,3,5,10,11,12] (k:=rs (k:=?_))
  refine Run.drawC [9,11] [2,3,5,10,11,12] Tryz.mixed Y26 ?_
  refine DetC.pre (pre:=[_,_]) au ?_
  refine DetC.call au au au Y26 (clone_Win (xs:=x.wins) (by have:=hxok.bw;omega)) ?_
  refine DetC.call au au au Y26 (clip_Win (xs:=x.wins)) ?_
  refine DetC.pre (pre:=[_,_]) au ?_
  refine DetC.call au au au Y26 (clone_Slt (xs:=x.slts) (by have:=hxok.bs;omega)) ?_
  refine DetC.call au au au Y26 (clip_Slt (xs:=x.slts)) ?_
  refine DetC.pre (pre:=[_]) au ?_
  refine DetC.eff Y22 au au ?_
  refine DetC.pre (pre:=[_]) au ?_
  refine DetC.eff Y22 au au ?_
  refine DetC.nil ?_
  refine re (k:=?_)
  have hgr2:Grows (s1.new (.row 28 [.agg [.int .i64 (x).unit,.int .u32 (x).fns,.int .i64 (x).queue,.sl .unc ((x).wins.map Win.pv),.sl .unc ((x).slts.map Slt.pv)]])) k (t.tens.take i).length (Tryz.prog.cellsOf 28):=by
   rw [htl]
   exact hgr.mono fun t ht=>by
    rw [blk_new,if_neg (by have:=(htk t _ ht).2;omega)]
  refine rr (k:=ro (pre:=[_,_,_]) (k:=rO (k:=?_)))
  refine RunO.grow au au au Tryz.td80 (by rw [Tryz.zp28];rfl) (isEls_map (fun a=>⟨rfl,by rw [Tryz.cz28];rfl⟩) _) (isEls_map (f:=Ten.pvc) (fun a=>⟨rfl,by rw [Tryz.cz28];rfl⟩) [x]) (by rw [Tryz.by28];decide) (by rw [Tryz.by28];simp;omega) (by rw [List.length_map];exact hgr2) Y23 ?_
  intro k' s2 hgr' htm
  have hn2:=htm.nxt
  rw [nxt_new] at hn2
  have hO2:s2.blk (s.nxt+2)=some (.row 82 [.agg [.int .i64 t.frame,.sl k ((t.tens.take i).map Ten.pvc)]]):=by
   rw [htm.rest _ (by rw [nxt_new];omega) (fun z e=>hgr.ne e _ hO Y23 rfl),blk_new,if_neg Y21];exact hO
  have hR2:s2.blk (s.nxt+1)=some (.row 82 [.agg [.int .i64 0,.sl .nil []]]):=by
   rw [htm.rest _ (by rw [nxt_new];omega) (fun z e=>hgr.ne e _ hR Y23 rfl),blk_new,if_neg Y21];exact hR
  have H:=aj hO2 (aj hR2 H)
  refine rh [2,3,10,11,12] (k:=rB (k:=rg [2,3,10,11,12] (k:=?_)))
  rw [List.length_map,htl] at hgr'
  refine Run.lp ⟨⟨((F1.new _).tm htm (fun t z e=>by have:=htk t z e;omega)).set Y21 Y21 _,i+1,k',rfl,Y21,Y166,?_,?_,?_,fun t' z e=>?_⟩,?_⟩
  ·rw [blk_set,if_neg Y21];exact hR2
  ·rw [blk_set,if_pos rfl,take_get hil,hxe,List.map_append];rfl
  ·refine (show Grows s2 k' (i+1) _ from hgr').mono fun t' ht=>?_
   rw [blk_set,if_neg (hgr'.ne ht _ hO2 Y23)]
  ·rw [nxt_set]
   rcases htm.fresh t' z e with ⟨z2,h⟩ | ⟨h1,h2⟩
   ·have:=htk t' z2 h;omega
   ·rw [nxt_new] at h1;omega
  ·exact Y32
 ·refine rX (k:=rs (k:=?_))
  have hi2:i=t.tens.length:=Y33
  have htl:t.tens.take i=t.tens:=by rw [hi2,List.take_length]
  have H:=aj hO (aj hR H)
  refine rr (k:=ro (pre:=[_,_]) (k:=rC (h:=clip_Ten (xs:=t.tens.take i)) (k:=rh [2,3] (k:=rs (k:=rg [2] (k:=rR (k:=?_)))))))
  refine Ret.pure (r':=t.pv) (by simp only [Tryz.f51,go_sem,↓reduceIte,htl]<;>rfl) ?_ (blw_tab _ _) hwf ((F1.set Y21 Y21 _).set Y21 Y166 _).blk ⟨rfl,rfl⟩
  simp only [Tab.pv,PV.weak,PV.weaks,weaks_tens]
end Go.Proofs
namespace Go.Proofs
open Go.PM
set_option maxHeartbeats 2000000
attribute [local go_sem] gD_set_map
theorem Y167 {p:Prop} (h:p:=by simp only [List.forall_mem_cons];exact ⟨Y21,Y21,Y23⟩):p:=h
theorem Y273 {p:Prop} (h:p:=by rw [K1.fr.blk tp hlt,blk_set,if_pos rfl]):p:=h
theorem Y335 {p:Prop} (h:p:=by simp only [go_sem,↓reduceIte,htN]):p:=h
set_option maxRecDepth 100000 in
theorem tape_windows {T:Tp} (hT:T.ok) {i:Nat} (hi:i≤3) {s:St} {tp:Nat} (hb:s.blk tp=some (.row 67 [T.pv])):ACalls Tryz.prog 50 [.ptr tp 0 0,.int .i64 i] s (fun r s'=>∃ (ws:List Win) (T':Tp),r=.sl .unk (ws.map Win.pv)∧s'=s.set tp (some (.row 67 [T'.pv]))∧T'.ok∧WGood i ws):=by
 refine go Tryz.func50 (k:=fun hwf H=>?_)
 have hlt:tp<s.nxt:=lt_blk hwf hb
 have hs0:s.set tp (some (.row 67 [T.pv]))=s:=St.set_self hb
 have hw128:IntKind.i64.wrap (128*(i:Int))=128*(i:Int):=wrap_i64 Y21
 have hFt:(s.nxt=tp)=False:=eq_false Y21
 have hVt:(s.nxt+1=tp)=False:=eq_false Y21
 have htF:(tp=s.nxt)=False:=eq_false Y21
 have htV:(tp=s.nxt+1)=False:=eq_false Y21
 have H:=aj hw128 (aj hFt (aj hVt (aj htF (aj htV H))))
 refine rs (k:=rg [0,1] (k:=rs (k:=rg [0,1,5] (k:=rs (k:=rg [0,5,6] (k:=rs (k:=rg [0,5,6,7] (k:=rs (k:=rs (k:=rr (k:=ro (pre:=[_]) (k:=?_))))))))))))
 refine RunO.callw au au au Y26 ((tape_Next hT (n:=6) (by simp only [go_sem,htF,htV,↓reduceIte];exact hb)).mono ?_)
 rintro r s2 ⟨rfl,hs⟩
 subst s2
 refine rh [0,5,6,7,8] (k:=rb (k:=?_))
 refine Run.loop (fun e s'=>∃ (T1:Tp) (c:Nat) (m:Int) (ws:List Win) (fr vi:List Int) (kk:SK),e=[(0,.ptr tp 0 0),(5,.sl kk (ws.map Win.pv)),(6,.ptr s.nxt 0 0),(7,.ptr (s.nxt+1) 0 0),(8,.int .i64 m)]∧T1.ok∧Kp (s.set tp (some (.row 67 [T1.pv]))) s' [(s.nxt+1,.row 145 [.agg ((vi).map (PV.int .i64))]),(s.nxt,.row 145 [.agg ((fr).map (PV.int .i64))])]∧WInv i c ws fr vi∧Grows s' kk ws.length 4∧(∀ t z,kk=.tok t z→s.nxt+1<t∧t<s'.nxt)∧ -1≤m∧c+m≤5) (fun e s'=>ivar1 e 8) ?_ ?_
 ·have K0:Kp (s.set tp (some (.row 67 [(T.nx 6).pv]))) ((((s.new (.row 145 [.agg [.int .i64 (128*(i:Int)),.int .i64 (128*(i:Int)),.int .i64 (128*(i:Int)),.int .i64 (128*(i:Int))]])).new (.row 145 [.agg [.int .i64 0,.int .i64 0,.int .i64 0,.int .i64 0]])).set (s.nxt+1) (some (.row 145 [.agg [.int .i64 0,.int .i64 0,.int .i64 0,.int .i64 0]]))).set tp (some (.row 67 [(T.nx 6).pv]))) [(s.nxt+1,.row 145 [.agg [.int .i64 0,.int .i64 0,.int .i64 0,.int .i64 0]]),(s.nxt,.row 145 [.agg [.int .i64 (128*(i:Int)),.int .i64 (128*(i:Int)),.int .i64 (128*(i:Int)),.int .i64 (128*(i:Int))]])]:=by
   have h0:Kp (s.set tp (some (.row 67 [T.pv]))) (((s.new (.row 145 [.agg [.int .i64 (128*(i:Int)),.int .i64 (128*(i:Int)),.int .i64 (128*(i:Int)),.int .i64 (128*(i:Int))]])).new (.row 145 [.agg [.int .i64 0,.int .i64 0,.int .i64 0,.int .i64 0]])).set (s.nxt+1) (some (.row 145 [.agg [.int .i64 0,.int .i64 0,.int .i64 0,.int .i64 0]]))) [(s.nxt+1,.row 145 [.agg [.int .i64 0,.int .i64 0,.int .i64 0,.int .i64 0]]),(s.nxt,.row 145 [.agg [.int .i64 (128*(i:Int)),.int .i64 (128*(i:Int)),.int .i64 (128*(i:Int)),.int .i64 (128*(i:Int))]])]:=by
    rw [hs0]
    exact ((Kp.nil (Fr.refl hwf)).push _).pushset _ _ rfl
   exact h0.setbase hlt Y167 _
  have hv6:=T.val_bound (n:=6) Y22
  have hgr0:Grows s .nil 0 4:=.inl ⟨rfl,rfl⟩
  refine ⟨T.nx 6,0,T.val 6,[],[128*(i:Int),128*i,128*i,128*i],[0,0,0,0],.nil,rfl,hT.nx 6,K0,WInv.first i,.inl ⟨rfl,rfl⟩,fun t z e=>Y20,Y21,Y21⟩
 rintro e s1 ⟨T1,c,m,ws,fr,vi,kk,rfl,hT1,K1,WI,hgr,htk,hm1,hcm⟩
 refine rs (k:=rs (k:=rg [0,5,6,7,8,24] (k:=rc (ht:=fun hc0=>?_) (hf:=fun hc0=>?_))))
 ·refine rk (k:=rs (k:=rb (k:=rs (k:=?_))))
  have hT1b:s1.blk tp=some (.row 67 [T1.pv]):=Y273
  have hm0:0≤m:=of_decide_eq_true hc0
  obtain ⟨u,hu,hue⟩:=T1.val_nat (n:=6) Y22
  have hue:T1.val 6=(u:Int):=hue
  obtain ⟨hsp,hk4⟩:=spL_get (v:=u) Y21
  obtain ⟨k,hke⟩:∃ k,spL u=k:=⟨_,rfl⟩
  rw [hke] at hsp hk4
  have H:=aj hue (aj hsp H)
  refine rr (k:=rO (k:=ro (pre:=[_]) (k:=?_)))
  refine RunO.callw au au au Y26 ((tape_Next hT1 (n:=6) hT1b).mono ?_)
  rintro r s2 ⟨rfl,hs⟩
  subst s2
  refine rh [0,5,6,7,8,9] (k:=rs (k:=?_))
  obtain ⟨x,hx,hxe⟩:=(T1.nx 6).val_nat (n:=4) Y22
  have hxe:(T1.nx 6).val 4=(x:Int):=hxe
  obtain ⟨hg4,hg0,hg5⟩:=g4_get (u:=x) Y21
  obtain ⟨n3,hn3e⟩:∃ y,((T1.nx 6).nx 4).val 3=y:=⟨_,rfl⟩
  have hn3:=((T1.nx 6).nx 4).val_bound (n:=3) Y22
  rw [hn3e] at hn3
  obtain ⟨n18,hn18e⟩:∃ y,(((T1.nx 6).nx 4).nx 3).val 18=y:=⟨_,rfl⟩
  have hn18:=(((T1.nx 6).nx 4).nx 3).val_bound (n:=18) Y22
  rw [hn18e] at hn18
  have hfb:=WI.fb k hk4
  have hvb:=WI.vb k hk4
  have hfl:=WI.fl
  have hvl:=WI.vl
  have hd:∀ p∈([(s.nxt+1,.row 145 [.agg ((vi).map (PV.int .i64))]),(s.nxt,.row 145 [.agg ((fr).map (PV.int .i64))])]:List (Nat × Blk)),p.1≠tp:=by
   intro p hp
   simp only [List.mem_cons,List.not_mem_nil,or_false] at hp
   rcases hp with rfl | rfl<;>simp only<;>omega
  have hdV:((vi.map (PV.int .i64)).drop k).head? =some (.int .i64 (gD vi k)):=gD_drop Y21
  have hdF:((fr.map (PV.int .i64)).drop k).head? =some (.int .i64 (gD fr k)):=gD_drop Y21
  have hw1:IntKind.i64.wrap (gD vi k+g4 x)=gD vi k+g4 x:=wrap_i64 Y21
  have hw2:IntKind.i64.wrap (gD fr k+n3)=gD fr k+n3:=wrap_i64 Y21
  have hw3:IntKind.i64.wrap (1+n18)=1+n18:=wrap_i64 Y21
  have hk40:((k:Int)<4)=True:=eq_true Y21
  have hV:s1.blk (s.nxt+1)=some (.row 145 [.agg ((vi).map (PV.int .i64))]):=K1.hd
  have hF:s1.blk s.nxt=some (.row 145 [.agg ((fr).map (PV.int .i64))]):=K1.tl.hd
  have htN':tp≠s1.nxt:=by have:=K1.tl.lt;simp only at this;omega
  have htN:(tp=s1.nxt)=False:=eq_false htN'
  have hFs:(s.nxt=s1.nxt)=False:=eq_false (by have:=K1.tl.lt;omega)
  have hVs:(s.nxt+1=s1.nxt)=False:=K1.ne 0
  have H:=aj hxe (aj hg4 (aj hn3e (aj hn18e (aj hfl (aj hvl (aj hdV (aj hdF (aj hw1 (aj hw2 (aj hw3 (aj hk40 (aj hk4 (aj hV (aj hF (aj hFs (aj hVs (aj htN H)))))))))))))))))
  refine Run.drawG 21 [6,14,17] 20 (fun s=>s.new (.row 59 [.agg [.int .i64 0,.int .i64 0,.int .i64 0,.int .i64 0]])) [(s1.set tp (some (.row 67 [(T1.nx 6).pv]))),((s1.set tp (some (.row 67 [(T1.nx 6).pv]))).set tp (some (.row 67 [((T1.nx 6).nx 4).pv]))),(((s1.set tp (some (.row 67 [(T1.nx 6).pv]))).set tp (some (.row 67 [((T1.nx 6).nx 4).pv]))).set tp (some (.row 67 [(((T1.nx 6).nx 4).nx 3).pv]))),((((s1.set tp (some (.row 67 [(T1.nx 6).pv]))).set tp (some (.row 67 [((T1.nx 6).nx 4).pv]))).set tp (some (.row 67 [(((T1.nx 6).nx 4).nx 3).pv]))).set tp (some (.row 67 [((((T1.nx 6).nx 4).nx 3).nx 18).pv])))] Tryz.mixed Y26 Y26 Y22 Y22 ?_
  refine DetGC.pre (pre:=[_,_,_,_,_,_]) Y22 List.mem_cons_self au ?_
  refine DetGC.callE Y22 List.mem_cons_self au au au Y26 (tape_Next (hT1.nx 6) (n:=4) Y106) ((tape_Next (hT1.nx 6) (n:=4) Y335).new_set (by simp only [go_sem];exact htN')) ?_
  refine DetGC.pre (pre:=[_,_,_,_,_,_,_]) Y22 (List.mem_cons_of_mem _ List.mem_cons_self) au ?_
  refine DetGC.callE Y22 (List.mem_cons_of_mem _ List.mem_cons_self) au au au Y26 (tape_Next ((hT1.nx 6).nx 4) (n:=3) Y106) ((tape_Next ((hT1.nx 6).nx 4) (n:=3) Y335).new_set (by simp only [go_sem];exact htN')) ?_
  refine DetGC.pre (pre:=[_,_]) Y22 (List.mem_cons_of_mem _ (List.mem_cons_of_mem _ List.mem_cons_self)) au ?_
  refine DetGC.callE Y22 (List.mem_cons_of_mem _ (List.mem_cons_of_mem _ List.mem_cons_self)) au au au Y26 (tape_Next (((hT1.nx 6).nx 4).nx 3) (n:=18) Y106) ((tape_Next (((hT1.nx 6).nx 4).nx 3) (n:=18) Y335).new_set (by simp only [go_sem];exact htN')) ?_
  refine DetGC.pre (pre:=[_,_]) Y22 (List.mem_cons_of_mem _ (List.mem_cons_of_mem _ (List.mem_cons_of_mem _ List.mem_cons_self))) au ?_
  refine DetGC.alloc (v:=.ptr s1.nxt 0 0) Y22 (List.mem_cons_of_mem _ (List.mem_cons_of_mem _ (List.mem_cons_of_mem _ List.mem_cons_self))) au au ?_
  refine DetGC.nil (List.mem_cons_of_mem _ (List.mem_cons_of_mem _ (List.mem_cons_of_mem _ List.mem_cons_self))) ?_
  refine rh [0,5,6,7,8,9,10] (k:=rs (k:=?_))
  obtain ⟨sB,hsB⟩:∃ y,((((((s1.set tp (some (.row 67 [(T1.nx 6).pv]))).set tp (some (.row 67 [((T1.nx 6).nx 4).pv]))).set tp (some (.row 67 [(((T1.nx 6).nx 4).nx 3).pv]))).set tp (some (.row 67 [((((T1.nx 6).nx 4).nx 3).nx 18).pv]))).new (.row 59 [.agg [.int .i64 0,.int .i64 0,.int .i64 0,.int .i64 0]])).set s1.nxt (some (.row 59 [.agg [.int .i64 (k:Int),.int .i64 (gD vi k+g4 x),.int .i64 (gD fr k+n3),.int .i64 (1+n18)]])))=y:=⟨_,rfl⟩
  have KA:=(((K1.setbase (b':=(some (.row 67 [(T1.nx 6).pv]))) hlt hd).setbase (b':=(some (.row 67 [((T1.nx 6).nx 4).pv]))) hlt hd).setbase (b':=(some (.row 67 [(((T1.nx 6).nx 4).nx 3).pv]))) hlt hd).setbase (b':=(some (.row 67 [((((T1.nx 6).nx 4).nx 3).nx 18).pv]))) hlt hd
  have KB:Kp (s.set tp (some (.row 67 [((((T1.nx 6).nx 4).nx 3).nx 18).pv]))) sB [(s1.nxt,.row 59 [.agg [.int .i64 (k:Int),.int .i64 (gD vi k+g4 x),.int .i64 (gD fr k+n3),.int .i64 (1+n18)]]),(s.nxt+1,.row 145 [.agg ((vi).map (PV.int .i64))]),(s.nxt,.row 145 [.agg ((fr).map (PV.int .i64))])]:=by
   rw [← hsB]
   exact KA.pushset _ _ rfl
  rw [hsB]
  have hBV:sB.blk (s.nxt+1)=some (.row 145 [.agg ((vi).map (PV.int .i64))]):=KB.tl.hd
  have hBF:sB.blk s.nxt=some (.row 145 [.agg ((fr).map (PV.int .i64))]):=KB.tl.tl.hd
  have hBW:sB.blk s1.nxt=some (.row 59 [.agg [.int .i64 (k:Int),.int .i64 (gD vi k+g4 x),.int .i64 (gD fr k+n3),.int .i64 (1+n18)]]):=KB.hd
  have hWV:(s1.nxt=s.nxt+1)=False:=eq_false (by have:=K1.lt;omega)
  have hWF:(s1.nxt=s.nxt)=False:=eq_false (by have:=K1.lt;omega)
  have hw4:IntKind.i64.wrap (gD vi k+g4 x+(1+n18))=gD vi k+g4 x+(1+n18):=wrap_i64 Y21
  have hw5:IntKind.i64.wrap (gD fr k+n3+(1+n18))=gD fr k+n3+(1+n18):=wrap_i64 Y21
  have hk1:(k+1≤4)=True:=eq_true Y21
  have H:=aj hBV (aj hBF (aj hBW (aj hWV (aj hWF (aj hw4 (aj hw5 (aj hk1 H)))))))
  refine Run.drawM 16 [13,15] [sB,(sB.set (s.nxt+1) (some (.row 145 [.agg ((vi.set k (gD vi k+g4 x+(1+n18))).map (PV.int .i64))]))),((sB.set (s.nxt+1) (some (.row 145 [.agg ((vi.set k (gD vi k+g4 x+(1+n18))).map (PV.int .i64))]))).set s.nxt (some (.row 145 [.agg ((fr.set k (gD fr k+n3+(1+n18))).map (PV.int .i64))])))] Tryz.mixed Y26 Y26 ?_
  refine DetBC.pre (pre:=[_,_,_,_,_,_,_,_,_,_,_,_,_]) Y22 List.mem_cons_self au ?_
  refine DetBC.eff Y22 List.mem_cons_self au au ?_
  refine DetBC.pre (pre:=[_]) Y22 (List.mem_cons_of_mem _ List.mem_cons_self) au ?_
  refine DetBC.eff Y22 (List.mem_cons_of_mem _ List.mem_cons_self) au au ?_
  refine DetBC.nil (List.mem_cons_of_mem _ (List.mem_cons_of_mem _ List.mem_cons_self)) ?_
  refine rl [0,5,6,7,8,10] (k:=?_)
  have hwl:=WI.len
  have hc5:c≤5:=Y21
  have hlt1:s.nxt+1<s1.nxt:=K1.lt
  have hnB:sB.nxt=s1.nxt+1:=by rw [← hsB];rfl
  have KC:Kp (s.set tp (some (.row 67 [((((T1.nx 6).nx 4).nx 3).nx 18).pv]))) ((sB.set (s.nxt+1) (some (.row 145 [.agg ((vi.set k (gD vi k+g4 x+(1+n18))).map (PV.int .i64))]))).set s.nxt (some (.row 145 [.agg ((fr.set k (gD fr k+n3+(1+n18))).map (PV.int .i64))]))) [(s.nxt+1,.row 145 [.agg ((vi.set k (gD vi k+g4 x+(1+n18))).map (PV.int .i64))]),(s.nxt,.row 145 [.agg ((fr.set k (gD fr k+n3+(1+n18))).map (PV.int .i64))])]:=((KB.tl.setset (b':=.row 145 [.agg ((vi.set k (gD vi k+g4 x+(1+n18))).map (PV.int .i64))]) Y23 Y166).swap.setset (b':=.row 145 [.agg ((fr.set k (gD fr k+n3+(1+n18))).map (PV.int .i64))]) Y23 Y166).swap
  obtain ⟨sC,hsC⟩:∃ y,((sB.set (s.nxt+1) (some (.row 145 [.agg ((vi.set k (gD vi k+g4 x+(1+n18))).map (PV.int .i64))]))).set s.nxt (some (.row 145 [.agg ((fr.set k (gD fr k+n3+(1+n18))).map (PV.int .i64))])))=y:=⟨_,rfl⟩
  have hnC:sC.nxt=s1.nxt+1:=by rw [← hsC];exact hnB
  have hgr2:Grows sC kk ws.length 4:=by
   refine hgr.mono fun t ht=>?_
   have ht:=htk t 4 ht
   have a1:(t=s.nxt)=False:=eq_false Y21
   have a2:(t=s.nxt+1)=False:=eq_false Y21
   have a3:(t=tp)=False:=eq_false Y21
   have a4:(t=s1.nxt)=False:=eq_false Y21
   rw [← hsC,← hsB]
   simp only [go_sem,a1,a2,a3,a4,↓reduceIte]
  have hCW:sC.blk s1.nxt=some (.row 59 [.agg [.int .i64 (k:Int),.int .i64 (gD vi k+g4 x),.int .i64 (gD fr k+n3),.int .i64 (1+n18)]]):=by rw [← hsC];simp only [go_sem,hWV,hWF,↓reduceIte];exact hBW
  rw [hsC] at KC
  rw [hsC]
  have hwm:IntKind.i64.wrap (m-1)=m-1:=wrap_i64 Y21
  have H:=aj hCW (aj hwm H)
  refine rr (k:=ro (pre:=[_,_]) (k:=rO (k:=?_)))
  refine RunO.grow au au au Tryz.td25 (by rw [Tryz.zp59];rfl) (isEls_map (fun a=>⟨rfl,by rw [Tryz.cz59];rfl⟩) _) (isEls_map (f:=Win.pv) (fun a=>⟨rfl,by rw [Tryz.cz59];rfl⟩) [⟨(k:Int),gD vi k+g4 x,gD fr k+n3,1+n18⟩]) (by rw [Tryz.by59];decide) (by rw [Tryz.by59];simp;omega) (by rw [Tryz.cz59,List.length_map];exact hgr2) Y23 ?_
  intro k' s2 hgr' htm
  refine rh [0,5,6,7,8] (k:=rB (k:=rg [0,5,6,7,8] (k:=?_)))
  rw [List.length_map,Tryz.cz59] at hgr'
  refine Run.lp ⟨⟨_,c+1,m-1,ws++[⟨(k:Int),gD vi k+g4 x,gD fr k+n3,1+n18⟩],fr.set k (gD fr k+n3+(1+n18)),vi.set k (gD vi k+g4 x+(1+n18)),k',by rw [List.map_append];rfl,(((hT1.nx 6).nx 4).nx 3).nx 18,KC.tm htm (fun t z e=>?_) (fun p hp z e=>?_),WI.step hk4 ⟨hg0,hg5⟩ ⟨hn3.1,Y21⟩ ⟨hn18.1,Y21⟩,by rw [List.length_append];exact hgr',fun t z e=>?_,Y21,Y21⟩,?_⟩
  ·have:=htk t z e
   rw [nxt_set];omega
  ·have:=htk _ z e
   simp only [List.mem_cons,List.not_mem_nil,or_false] at hp
   rcases hp with rfl | rfl<;>simp only at this<;>omega
  ·have h9:=htm.nxt
   rcases htm.fresh t z e with ⟨z',h⟩ | ⟨h1,h2⟩
   ·have:=htk t z' h;omega
   ·omega
  ·simp only [ivar1,go_sem,↓reduceIte,Nat.reduceEqDiff]
   omega
 ·refine rX (k:=rs (k:=rg [4] (k:=rR (k:=?_))))
  refine Ret.baseK (r':=.sl .unk (ws.map Win.pv)) tp (.row 67 [T1.pv]) hlt (by simp only [Tryz.f50,go_sem,↓reduceIte]<;>rfl) (by simp only [PV.weak,weaks_wins]) (blw_wins _ _) Y210 hwf K1.fr.blk ⟨ws,T1,rfl,rfl,hT1,WI.good hi Y21⟩
end Go.Proofs
namespace Go.Proofs
open Go.PM
set_option maxHeartbeats 2000000
theorem Y107 {p:Prop} (h:p:=by simp only [List.forall_mem_cons];exact ⟨Y21,Y23⟩):p:=h
set_option maxRecDepth 100000 in
theorem tape_Table {T:Tp} (hT:T.ok) {s:St} {tp:Nat} (hb:s.blk tp=some (.row 67 [T.pv])):ACalls Tryz.prog 24 [.ptr tp 0 0] s (fun r s'=>∃ (t:Tab) (T':Tp),r=t.pv∧s'=s.set tp (some (.row 67 [T'.pv]))∧T'.ok∧tabRight t=true∧t.few 6):=by
 refine go Tryz.func24 (k:=fun hwf H=>?_)
 have hlt:tp<s.nxt:=lt_blk hwf hb
 have hs0:s.set tp (some (.row 67 [T.pv]))=s:=St.set_self hb
 have hFt:(s.nxt=tp)=False:=eq_false Y21
 have hVt:(s.nxt+1=tp)=False:=eq_false Y21
 have htF:(tp=s.nxt)=False:=eq_false Y21
 have htV:(tp=s.nxt+1)=False:=eq_false Y21
 have hv4:=T.val_bound (n:=4) Y22
 obtain ⟨n,hne⟩:∃ y,1+T.val 4=y:=⟨_,rfl⟩
 have hwn:IntKind.i64.wrap (1+T.val 4)=n:=by rw [wrap_i64 Y21,hne]
 have H:=aj hFt (aj hVt (aj htF (aj htV H)))
 refine rs (k:=rg [0,2] (k:=rs (k:=rr (k:=ro (pre:=[_]) (k:=?_)))))
 refine RunO.callw au au au Y26 ((tape_Next hT (n:=4) (by simp only [go_sem,htF,↓reduceIte];exact hb)).mono ?_)
 rintro r s9 ⟨rfl,hs⟩
 subst s9
 have H:=aj hwn H
 refine rh [0,2,3] (k:=rs (k:=rg [0,2,3,4] (k:=rs (k:=rr (k:=ro (pre:=[_]) (k:=?_))))))
 refine RunO.callw au au au Y26 ((tape_Next (hT.nx 4) (n:=5) (by simp only [go_sem,htV,↓reduceIte])).mono ?_)
 rintro r s9 ⟨rfl,hs⟩
 subst s9
 refine rh [0,2,3,4,5] (k:=rs (k:=rs (k:=rg [0,2,3,4,5,6] (k:=rb (k:=?_)))))
 refine Run.loop (fun e s'=>∃ (T1:Tp) (i:Nat) (lo:Int) (tens:List Ten) (kk:SK),e=[(0,.ptr tp 0 0),(2,.ptr s.nxt 0 0),(3,.int .i64 n),(4,.ptr (s.nxt+1) 0 0),(5,.int .i64 lo),(6,.int .i64 (i:Int))]∧T1.ok∧Kp (s.set tp (some (.row 67 [(T1).pv]))) s' [(s.nxt+1,.row 82 [.agg [.int .i64 0,.sl kk (tens.map Ten.pv)]]),(s.nxt,.row 82 [.agg [.int .i64 0,.sl .nil []]])]∧TInv i lo tens∧Grows s' kk tens.length (Tryz.prog.cellsOf 28)∧(∀ t z,kk=.tok t z→s.nxt+1<t∧t<s'.nxt)∧(i:Int)≤n) (fun e s'=>n.toNat-ivar e 6) ?_ ?_
 ·have K0:Kp (s.set tp (some (.row 67 [(T.nx 4).pv]))) ((s.new (.row 82 [.agg [.int .i64 0,.sl .nil []]])).set tp (some (.row 67 [(T.nx 4).pv]))) [(s.nxt,.row 82 [.agg [.int .i64 0,.sl .nil []]])]:=by
   have h0:Kp (s.set tp (some (.row 67 [(T).pv]))) (s.new (.row 82 [.agg [.int .i64 0,.sl .nil []]])) [(s.nxt,.row 82 [.agg [.int .i64 0,.sl .nil []]])]:=by rw [hs0];exact (Kp.nil (Fr.refl hwf)).push _
   exact h0.setbase hlt Y107 _
  have K00:=(K0.push (.row 82 [.agg [.int .i64 0,.sl .nil []]])).setbase (b':=(some (.row 67 [((T.nx 4).nx 5).pv]))) hlt (by simp only [List.forall_mem_cons];exact ⟨by simp only [go_sem];omega,Y21,Y23⟩)
  have hv5:=(T.nx 4).val_bound (n:=5) Y22
  refine ⟨(T.nx 4).nx 5,0,(T.nx 4).val 5,[],.nil,rfl,(hT.nx 4).nx 5,K00,TInv.first Y21,.inl ⟨rfl,rfl⟩,fun t z e=>Y20,Y21⟩
 rintro e s1 ⟨T1,i,lo,tens,kk,rfl,hT1,K1,TI,hgr,htk,hin⟩
 refine rs (k:=rs (k:=rg [0,2,3,4,5,6,17] (k:=rc (ht:=fun hc0=>?_) (hf:=fun hc0=>?_))))
 refine rk (k:=rs (k:=rb (k:=rs (k:=?_))))
 have hin:(i:Int)<n:=of_decide_eq_true hc0
 have hi3:i≤3:=Y21
 have hT1b:s1.blk tp=some (.row 67 [T1.pv]):=Y273
 have hv3:=T1.val_bound (n:=3) Y22
 have hv2:=(T1.nx 3).val_bound (n:=2) Y22
 have hq4:=((T1.nx 3).nx 2).val_bound (n:=4) Y22
 obtain ⟨u,hu⟩:∃ y,1+T1.val 3+(i:Int)=y:=⟨_,rfl⟩
 have hwu1:IntKind.i64.wrap (1+T1.val 3)=1+T1.val 3:=wrap_i64 Y21
 have hwu:IntKind.i64.wrap (1+T1.val 3+(i:Int))=u:=by rw [wrap_i64 Y21,hu]
 obtain ⟨q4,hq⟩:∃ y,1+((T1.nx 3).nx 2).val 4=y:=⟨_,rfl⟩
 have hwq:IntKind.i64.wrap (1+((T1.nx 3).nx 2).val 4)=q4:=by rw [wrap_i64 Y21,hq]
 have hlt1:s.nxt+1<s1.nxt:=K1.lt
 have htN:(tp=s1.nxt)=False:=eq_false Y21
 have hNt:(s1.nxt=tp)=False:=eq_false Y21
 have htl1:tp<s1.nxt:=Y21
 have hs1:s1.set tp (some (.row 67 [T1.pv]))=s1:=St.set_self hT1b
 have H:=aj hwu1 (aj hwu (aj hwq (aj htN (aj hNt H))))
 refine rr (k:=ro (pre:=[_]) (k:=?_))
 refine RunO.callw au au au Y26 ((tape_Next hT1 (n:=3) hT1b).mono ?_)
 rintro r s9 ⟨rfl,hs⟩
 subst s9
 refine ro (pre:=[_,_,_,_]) (k:=?_)
 refine RunO.callw au au au Y26 ((tape_Next (hT1.nx 3) (n:=2) Y106).mono ?_)
 rintro r s9 ⟨rfl,hs⟩
 subst s9
 rw [set_set]
 refine ro (pre:=[_,_,_,_]) (k:=?_)
 refine RunO.callw au au au Y26 ((tape_Next ((hT1.nx 3).nx 2) (n:=4) Y106).mono ?_)
 rintro r s9 ⟨rfl,hs⟩
 subst s9
 rw [set_set]
 refine ro (pre:=[_,_,_]) (k:=?_)
 refine RunO.callw au au au Y26 ((tape_windows (((hT1.nx 3).nx 2).nx 4) (i:=i) Y21 Y106).mono ?_)
 rintro r s9 ⟨wins,T2,rfl,hs,hT2,WG⟩
 subst s9
 rw [set_set]
 refine rh [0,2,3,4,5,6,7] (k:=rs (k:=rs (k:=?_)))
 obtain ⟨F0,hF0⟩:∃ y,ibits BinOp.or IntKind.u32 12812798 (IntKind.u32.wrap (IntKind.u32.wrap ((T1.nx 3).val 2)*2 ^ min (Int.toNat 9) 32))=y:=⟨_,rfl⟩
 have hU0:U32 F0:=by rw [← hF0];exact U32_ibits _ _ _
 rw [hF0]
 have K8:Kp (s1.set tp (some (.row 67 [(T2).pv]))) (((s1.set tp (some (.row 67 [(T2).pv]))).new (.row 28 [.agg [.int .i64 0,.int .u32 0,.int .i64 0,.sl .nil [],.sl .nil []]])).set s1.nxt (some (.row 28 [.agg [.int .i64 u,.int .u32 F0,.int .i64 q4,.sl .unk (wins.map Win.pv),.sl .nil []]]))) [(s1.nxt,.row 28 [.agg [.int .i64 u,.int .u32 F0,.int .i64 q4,.sl .unk (wins.map Win.pv),.sl .nil []]])] :=
  (Kp.nil (show Fr (s1.set tp (some (.row 67 [(T2).pv]))) (s1.set tp (some (.row 67 [(T2).pv]))) from Fr.refl (K1.setbase hlt Y167 _).fr.wf)).pushset _ _ rfl
 refine rr (k:=ro (pre:=[_]) (k:=?_))
 refine RunO.callw au au au Y26 ((tape_Next hT2 (n:=5) (by simp only [go_sem,htN,↓reduceIte])).mono ?_)
 rintro r s9 ⟨rfl,hs⟩
 subst s9
 refine rh [0,2,3,4,5,6,7,39] (k:=?_)
 refine Run.join (fun e s'=>∃ (T2:Tp) (F:Int),e=[(0,.ptr tp 0 0),(2,.ptr s.nxt 0 0),(3,.int .i64 n),(4,.ptr (s.nxt+1) 0 0),(5,.int .i64 lo),(6,.int .i64 (i:Int)),(7,.ptr s1.nxt 0 0)]∧T2.ok∧U32 F∧Kp (s1.set tp (some (.row 67 [(T2).pv]))) s' [(s1.nxt,.row 28 [.agg [.int .i64 u,.int .u32 F,.int .i64 q4,.sl .unk (wins.map Win.pv),.sl .nil []]])]) ?_ ?_
 rintro e s2 ⟨T3,F,rfl,hT3,hF,K2⟩
 refine rs (k:=rs (k:=?_))
 have hT3b:s2.blk tp=some (.row 67 [T3.pv]):=by rw [K2.fr.blk tp Y166,blk_set,if_pos rfl]
 have hv2':=T3.val_bound (n:=2) Y22
 refine rr (k:=ro (pre:=[_]) (k:=?_))
 refine RunO.callw au au au Y26 ((tape_Next hT3 (n:=2) hT3b).mono ?_)
 rintro r s9 ⟨rfl,hs⟩
 subst s9
 refine rh [0,2,3,4,5,6,7,8] (k:=rb (k:=?_))
 refine Run.loop (fun e s'=>∃ (T4:Tp) (c:Nat) (m q:Int) (slts:List Slt) (k:SK),e=[(0,.ptr tp 0 0),(2,.ptr s.nxt 0 0),(3,.int .i64 n),(4,.ptr (s.nxt+1) 0 0),(5,.int .i64 q),(6,.int .i64 (i:Int)),(7,.ptr s1.nxt 0 0),(8,.int .i64 m)]∧T4.ok∧Kp (s1.set tp (some (.row 67 [(T4).pv]))) s' [(s1.nxt,.row 28 [.agg [.int .i64 u,.int .u32 F,.int .i64 q4,.sl .unk (wins.map Win.pv),.sl k (slts.map Slt.pv)]])]∧SInv lo q slts∧Grows s' k slts.length (Tryz.prog.cellsOf 117)∧(∀ t z,k=.tok t z→s1.nxt<t∧t<s'.nxt)∧slts.length=c∧ -1≤m∧c+m≤1∧0≤c+m) (fun e s'=>ivar1 e 8) ?_ ?_
 ·refine ⟨T3.nx 2,0,T3.val 2,lo,[],.nil,rfl,hT3.nx 2,K2.setbase htl1 Y107 _,SInv.first lo,.inl ⟨rfl,rfl⟩,fun t z e=>Y20,rfl,Y21,Y21,Y21⟩
 rintro e s2 ⟨T4,c,m,q,slts,k,rfl,hT4,K2,SI,hgr2,htk2,hsl,hm1,hcm,hcm0⟩
 refine rs (k:=rs (k:=rg [0,2,3,4,5,6,7,8,49] (k:=rc (ht:=fun hc2=>?_) (hf:=fun hc2=>?_))))
 refine rk (k:=rs (k:=rb (k:=rs (k:=?_))))
 have hT4b:s2.blk tp=some (.row 67 [T4.pv]):=by rw [K2.fr.blk tp Y166,blk_set,if_pos rfl]
 have hlt2:s1.nxt<s2.nxt:=K2.lt
 have hm0:0≤m:=of_decide_eq_true hc2
 have hv9:=T4.val_bound (n:=9) Y22
 have hv7:=(T4.nx 9).val_bound (n:=7) Y22
 obtain ⟨n9,hn9⟩:∃ y,T4.val 9=y:=⟨_,rfl⟩
 obtain ⟨n7,hn7⟩:∃ y,(T4.nx 9).val 7=y:=⟨_,rfl⟩
 rw [hn9] at hv9
 rw [hn7] at hv7
 have hq1:=SI.lb
 have hq2:=SI.ub
 have hq3:=TI.lo
 have hq5:=TI.hi
 have hw9:IntKind.i64.wrap (72+n9)=72+n9:=wrap_i64 Y21
 have hwq1:IntKind.i64.wrap (q+(72+n9))=q+(72+n9):=wrap_i64 Y21
 have hwq2:IntKind.i64.wrap (q+(72+n9)+n7)=q+(72+n9)+n7:=wrap_i64 Y21
 have hwm:IntKind.i64.wrap (m-1)=m-1:=wrap_i64 Y21
 have htM:(tp=s2.nxt)=False:=eq_false Y21
 have hMt:(s2.nxt=tp)=False:=eq_false Y21
 have H:=aj hn9 (aj hn7 (aj hw9 (aj hwq1 (aj hwq2 (aj hwm (aj htM (aj hMt H)))))))
 refine rr (k:=ro (pre:=[_,_]) (k:=?_))
 refine RunO.callw au au au Y26 ((tape_Next hT4 (n:=9) hT4b).mono ?_)
 rintro r s9 ⟨rfl,hs⟩
 subst s9
 refine rh [0,2,3,4,6,7,8,9] (k:=rs (k:=?_))
 refine Run.drawM 9 [6] [(((s2.set tp (some (.row 67 [(T4.nx 9).pv]))).new (.row 117 [.agg [.int .i64 0,.int .i64 0]])).set s2.nxt (some (.row 117 [.agg [.int .i64 q,.int .i64 (72+n9)]]))),((((s2.set tp (some (.row 67 [(T4.nx 9).pv]))).new (.row 117 [.agg [.int .i64 0,.int .i64 0]])).set s2.nxt (some (.row 117 [.agg [.int .i64 q,.int .i64 (72+n9)]]))).set tp (some (.row 67 [((T4.nx 9).nx 7).pv])))] Tryz.mixed Y26 Y26 ?_
 refine DetBC.pre (pre:=[_,_,_,_,_,_]) Y22 List.mem_cons_self au ?_
 refine DetBC.callE Y22 List.mem_cons_self au au au Y26 (tape_Next (hT4.nx 9) (n:=7) (by simp only [go_sem,htM,↓reduceIte])) ?_
 refine DetBC.all Y22 (List.mem_cons_of_mem _ List.mem_cons_self) au ?_
 refine rl [0,2,3,4,5,6,7,8,9] (k:=?_)
 obtain ⟨sB,hsB⟩:∃ y,((((s2.set tp (some (.row 67 [(T4.nx 9).pv]))).new (.row 117 [.agg [.int .i64 0,.int .i64 0]])).set s2.nxt (some (.row 117 [.agg [.int .i64 q,.int .i64 (72+n9)]]))).set tp (some (.row 67 [((T4.nx 9).nx 7).pv])))=y:=⟨_,rfl⟩
 have KB:Kp (s1.set tp (some (.row 67 [((T4.nx 9).nx 7).pv]))) sB [(s2.nxt,.row 117 [.agg [.int .i64 q,.int .i64 (72+n9)]]),(s1.nxt,.row 28 [.agg [.int .i64 u,.int .u32 F,.int .i64 q4,.sl .unk (wins.map Win.pv),.sl k (slts.map Slt.pv)]])]:=by
  rw [← hsB]
  exact ((K2.setbase (b':=(some (.row 67 [(T4.nx 9).pv]))) htl1 Y107).pushset _ _ rfl).setbase htl1 (by simp only [List.forall_mem_cons];exact ⟨by first | omega |(simp only [go_sem];omega),Y21,Y23⟩) _
 rw [hsB]
 have hBR:sB.blk s1.nxt=some (.row 28 [.agg [.int .i64 u,.int .u32 F,.int .i64 q4,.sl .unk (wins.map Win.pv),.sl k (slts.map Slt.pv)]]):=KB.tl.hd
 have hBS:sB.blk s2.nxt=some (.row 117 [.agg [.int .i64 q,.int .i64 (72+n9)]]):=KB.hd
 have hnB:sB.nxt=s2.nxt+1:=by rw [← hsB];rfl
 have hgr3:Grows sB k slts.length (Tryz.prog.cellsOf 117):=by
  refine hgr2.mono fun t ht=>?_
  have ht:=htk2 t _ ht
  have a1:(t=tp)=False:=eq_false Y21
  have a2:(t=s2.nxt)=False:=eq_false Y21
  rw [← hsB]
  simp only [go_sem,a1,a2,↓reduceIte]
 have H:=aj hBR (aj hBS H)
 refine rr (k:=ro (pre:=[_,_,_]) (k:=rO (k:=?_)))
 refine RunO.grow au au au Tryz.td26 (by rw [Tryz.zp117];rfl) (isEls_map (fun a=>⟨rfl,by rw [Tryz.cz117];rfl⟩) _) (isEls_map (f:=Slt.pv) (fun a=>⟨rfl,by rw [Tryz.cz117];rfl⟩) [⟨q,72+n9⟩]) (by rw [Tryz.by117];decide) (by rw [Tryz.by117];simp;omega) (by rw [List.length_map];exact hgr3) Y23 ?_
 intro k' s4 hgr' htm
 have KD:=KB.tm htm (fun t z e=>by have:=htk2 t z e;rw [nxt_set];omega) (fun p hp z e=>by have:=htk2 _ z e;simp only [List.mem_cons,List.not_mem_nil,or_false] at hp;rcases hp with rfl | rfl<;>simp only at this<;>omega)
 have hR4:s4.blk s1.nxt=some (.row 28 [.agg [.int .i64 u,.int .u32 F,.int .i64 q4,.sl .unk (wins.map Win.pv),.sl k (slts.map Slt.pv)]]):=KD.tl.hd
 have H:=aj hR4 H
 refine rh [0,2,3,4,5,6,7,8] (k:=rB (k:=rg [0,2,3,4,5,6,7,8] (k:=?_)))
 rw [List.length_map] at hgr'
 refine Run.lp ⟨⟨_,c+1,m-1,q+(72+n9)+n7,slts++[⟨q,72+n9⟩],k',rfl,(hT4.nx 9).nx 7,?_,SI.step ⟨Y21,Y21⟩ ⟨Y21,Y21⟩,?_,fun t z e=>?_,by rw [List.length_append,hsl];rfl,Y21,Y21,Y21⟩,?_⟩
 ·rw [List.map_append]
  exact KD.tl.setset Y23 Y166
 refine jO 1 ?_;rotate_left
 ·rw [nxt_set]
  have h9:=htm.nxt
  rcases htm.fresh t z e with ⟨z',h⟩ | ⟨h1,h2⟩
  ·have:=htk2 t z' h;omega
  ·omega
 ·simp only [ivar1,go_sem,↓reduceIte,Nat.reduceEqDiff]
  omega
 refine rX (k:=?_)
 have hcc2:¬ 0≤m:=of_decide_eq_false hc2
 have hb2:∀ j,j<s1.nxt→j≠tp→s2.blk j=s1.blk j:=fun j hj hne=>by rw [K2.fr.blk j Y166,blk_set,if_neg hne]
 have hn2:s1.nxt<s2.nxt:=K2.lt
 have KE:Kp (s.set tp (some (.row 67 [(T4).pv]))) s2 [(s1.nxt,.row 28 [.agg [.int .i64 u,.int .u32 F,.int .i64 q4,.sl .unk (wins.map Win.pv),.sl k (slts.map Slt.pv)]]),(s.nxt+1,.row 82 [.agg [.int .i64 0,.sl kk (tens.map Ten.pv)]]),(s.nxt,.row 82 [.agg [.int .i64 0,.sl .nil []]])]:=(K1.setbase hlt Y167 _).trans K2
 have hE1:s2.blk (s.nxt+1)=some (.row 82 [.agg [.int .i64 0,.sl kk (tens.map Ten.pv)]]):=KE.tl.hd
 have hE2:s2.blk s1.nxt=some (.row 28 [.agg [.int .i64 u,.int .u32 F,.int .i64 q4,.sl .unk (wins.map Win.pv),.sl k (slts.map Slt.pv)]]):=KE.hd
 have hgr4:Grows s2 kk tens.length (Tryz.prog.cellsOf 28):=hgr.mono fun t ht=>by
  have:=htk t _ ht
  exact hb2 t this.2 Y21
 have hTl:=TI.len
 have hwi:IntKind.i64.wrap ((i:Int)+1)=((i+1:Nat):Int):=Y28
 have H:=aj hE1 (aj hE2 (aj hwi H))
 refine rr (k:=ro (pre:=[_,_,_]) (k:=?_))
 refine RunO.wkE 73 (v:=.agg [.int .i64 ((⟨u,F,q4,wins,slts⟩:Ten)).unit,.int .u32 ((⟨u,F,q4,wins,slts⟩:Ten)).fns,.int .i64 ((⟨u,F,q4,wins,slts⟩:Ten)).queue,.sl .unk (((⟨u,F,q4,wins,slts⟩:Ten)).wins.map Win.pv),.sl .unk (((⟨u,F,q4,wins,slts⟩:Ten)).slts.map Slt.pv)]) (by simp only [go_sem,↓reduceIte,Nat.reduceEqDiff,PV.weak,PV.weaks,weaks_wins,weaks_slts]) ?_
 refine rO (k:=?_)
 refine RunO.grow au au au Tryz.td80 (by rw [Tryz.zp28];rfl) (isEls_map (fun a=>⟨rfl,by rw [Tryz.cz28];rfl⟩) _) (isEls_map (f:=Ten.pv) (fun a=>⟨rfl,by rw [Tryz.cz28];rfl⟩) [⟨u,F,q4,wins,slts⟩]) (by rw [Tryz.by28];decide) (by rw [Tryz.by28];simp;omega) (by rw [List.length_map];exact hgr4) Y23 ?_
 intro k' s4 hgr' htm
 have KD:=KE.tm htm (fun t z e=>by have:=htk t z e;rw [nxt_set];omega) (fun p hp z e=>by have:=htk _ z e;simp only [List.mem_cons,List.not_mem_nil,or_false] at hp;rcases hp with rfl | rfl | rfl<;>simp only at this<;>omega)
 have hR4:s4.blk (s.nxt+1)=some (.row 82 [.agg [.int .i64 0,.sl kk (tens.map Ten.pv)]]):=KD.tl.hd
 have H:=aj hR4 H
 refine rh [0,2,3,4,5,6] (k:=rB (k:=rg [0,2,3,4,5,6] (k:=?_)))
 rw [List.length_map] at hgr'
 have hs1':=SI.lb
 have hs2':=TI.lo
 have hXG:XGood i q ⟨u,F,q4,wins,slts⟩:=⟨⟨Y72,Y72⟩,hF,⟨Y72,Y72⟩,WG,fun a ha=>by have:=SI.all a ha;omega,⟨Y72,Y72⟩⟩
 refine Run.lp ⟨⟨T4,i+1,q,tens++[⟨u,F,q4,wins,slts⟩],k',rfl,hT4,?_,TI.step hXG SI,?_,fun t z e=>?_,Y21⟩,?_⟩
 ·rw [List.map_append]
  exact KD.tl.setset Y107 Y166
 refine jO 1 ?_;rotate_left
 ·rw [nxt_set]
  have h9:=htm.nxt
  rcases htm.fresh t z e with ⟨z',h⟩ | ⟨h1,h2⟩
  ·have:=htk t z' h;omega
  ·omega
 ·exact Y32
 intro hJc1
 refine rc (ht:=fun hc1=>?_) (hf:=fun hc1=>?_)
 ·refine rr (k:=ro (pre:=[_]) (k:=?_))
  refine RunO.callw au au au Y26 ((tape_Next (hT2.nx 5) (n:=24) Y106).mono ?_)
  rintro r s9 ⟨rfl,hs⟩
  subst s9
  refine rh [0,2,3,4,5,6,7] (k:=?_)
  obtain ⟨F1,hF1⟩:∃ y,ibits BinOp.or IntKind.u32 65608 (IntKind.u32.wrap (1*2 ^ min (IntKind.u64.wrap ((T2.nx 5).val 24)).toNat 32))=y:=⟨_,rfl⟩
  rw [hF1]
  have hU1:U32 F1:=by rw [← hF1];exact U32_ibits _ _ _
  exact hJc1 _ _ ⟨_,F1,rfl,(hT2.nx 5).nx 24,hU1,((K8.setbase (b':=(some (.row 67 [(T2.nx 5).pv]))) htl1 Y107).setbase (b':=(some (.row 67 [((T2.nx 5).nx 24).pv]))) htl1 Y107).setset Y23 Y166⟩
 ·refine rk (k:=rp [0,2,3,4,5,6,7] (k:=?_))
  exact hJc1 _ _ ⟨_,_,rfl,hT2.nx 5,hU0,K8.setbase htl1 Y107 _⟩
 ·refine rX (k:=rs (k:=?_))
  have hT1b:s1.blk tp=some (.row 67 [T1.pv]):=Y273
  have hin':¬ (i:Int)<n:=of_decide_eq_false hc0
  have hlt1:s.nxt+1<s1.nxt:=K1.lt
  have hv20:=T1.val_bound (n:=20) Y22
  obtain ⟨n20,hn20⟩:∃ y,T1.val 20=y:=⟨_,rfl⟩
  rw [hn20] at hv20
  have hq3:=TI.lo
  have hq5:=TI.hi
  have hw20:IntKind.i64.wrap (lo+n20)=lo+n20:=wrap_i64 Y21
  have hE1:s1.blk (s.nxt+1)=some (.row 82 [.agg [.int .i64 0,.sl kk (tens.map Ten.pv)]]):=K1.hd
  have hE0:s1.blk s.nxt=some (.row 82 [.agg [.int .i64 0,.sl .nil []]]):=K1.tl.hd
  have H:=aj hn20 (aj hw20 (aj hE1 (aj hE0 H)))
  refine rr (k:=ro (pre:=[_,_]) (k:=?_))
  refine RunO.callw au au au Y26 ((tape_Next hT1 (n:=20) hT1b).mono ?_)
  rintro r s9 ⟨rfl,hs⟩
  subst s9
  refine rh [2,4] (k:=rs (k:=rg [2] (k:=rR (k:=?_))))
  have KF:=(((K1.setbase (b':=(some (.row 67 [(T1.nx 20).pv]))) hlt Y167).setset (b':=.row 82 [.agg [.int .i64 (lo+n20),.sl kk (tens.map Ten.pv)]]) Y23 Y166).swap.setset (b':=.row 82 [.agg [.int .i64 (lo+n20),.sl kk (tens.map Ten.pv)]]) Y23 Y166)
  have hpos:=TI.pos Y21
  refine Ret.baseK (r':=Tab.pv ⟨lo+n20,tens⟩) tp (.row 67 [(T1.nx 20).pv]) hlt (by simp only [Tryz.f24,go_sem,↓reduceIte]<;>rfl) (by simp only [Tab.pv,PV.weak,PV.weaks,weaks_tens]) (blw_tab _ _) Y210 hwf KF.fr.blk
   ⟨⟨lo+n20,tens⟩,T1.nx 20,rfl,rfl,hT1.nx 20,(TI.right Y21 Y21 Y21).1,TI.few Y21 Y21 Y21⟩
 any_goals
  refine jI 1 ?_
  rw [List.length_append]
  refine jO 2 ?_;rotate_left
 any_goals
  refine jI 2 ?_
  refine (show Grows s4 k' _ _ from hgr').mono fun t ht=>?_
  rw [blk_set,if_neg (hgr'.ne ht _ hR4 Y23)]
end Go.Proofs
namespace Go.Proofs
open Go.PM
set_option maxHeartbeats 2000000
def hvar (e:Env) (s:St) (i:Nat):Int:=match e.get i with
 | .ptr p _ _=>match s.blk p with
   | some (.row _ [.int _ n])=>n
   | _=>0
 | _=>0
theorem ElsAt.to {c:Nat} {s0 s1 s2:St} {kk:SK} {els ws:List PV} (h:ElsAt c s0 s1 kk els ws) (f:Fr s0 s2) (hn:s1.nxt≤s2.nxt) (hb:∀ t z,kk=.tok t z→s2.blk t=s1.blk t):ElsAt c s0 s2 kk els ws :=
 ⟨h.wk,h.el,f,h.gr.mono (fun t e=>hb t _ e),fun t z e=>⟨(h.tk t z e).1,Nat.lt_of_lt_of_le (h.tk t z e).2 hn⟩⟩
theorem Y108 {p:Prop} (h:p:=by exact (fun n q=>by cases q)):p:=h
theorem ElsAt.nr {c:Nat} {s0 s1:St} {kk:SK} {els ws vs:List PV} {p ty:Nat} (h:ElsAt c s0 s1 kk els ws) (hb:s1.blk p=some (.row ty vs)):∀ t z,kk=.tok t z→t≠p:=fun t z e =>
 h.gr.ne e p hb Y108
theorem spRight_hi {s:Sp} (h:spRight s great=true):0≤s.pos∧1≤s.cnt∧s.pos+s.cnt≤2147483648:=by
 have:=spRight_iff.1 h
 unfold great at this
 omega
theorem idxF_find {α:Type} {p:α→Bool}:∀ {l:List α} {n:Nat},(idxF p l n<0∧l.find? p=none)∨∃ (j:Nat) (h:j<l.length),idxF p l n=((n+j:Nat):Int)∧l.find? p=some l[j]
 | [],n=>.inl ⟨by unfold idxF;decide,rfl⟩
 | x::l,n=>by
   unfold idxF
   rw [List.find?_cons]
   cases e:p x with
   | true=>exact .inr ⟨0,Y23,Y23,Y23⟩
   | false =>
     rcases idxF_find (p:=p) (l:=l) (n:=n+1) with ⟨h1,h2⟩ | ⟨j,hj,h1,h2⟩
     ·exact .inl ⟨Y313,h2⟩
     ·exact .inr ⟨j+1,Y192,by simp [h1];omega,by simpa using h2⟩
attribute [local go_sem] set_set
theorem span_In {a b:Sp} (ha:a.ok) (hb:b.ok) {s:St}:ACalls Tryz.prog 128 [a.pv,b.pv] s (fun r s'=>r=.bool (spIn a b)∧s'=s):=by
 refine go Tryz.func128 (k:=fun hwf H=>?_)
 refine rs (k:=rg [2,3] (k:=rs (k:=rr (k:=ro (pre:=[_,_]) (k:=rC (h:=span_Meet (a:=a) (b:=b) ha hb) (k:=rh [2,5,6] (k:=rs (k:=rg [4] (k:=rR (k:=rP (by simp only [Tryz.f128,go_sem];rfl) hwf ⟨?_,rfl⟩))))))))))
 have e2:decide (spMeet a b=a)=(decide ((spMeet a b).pos=a.pos)&&decide ((spMeet a b).cnt=a.cnt)):=by
  cases spMeet a b;cases a;simp
 have e:spIn a b=(spMeets a b&&decide (spMeet a b=a)):=rfl
 rw [e,e2];rfl
theorem Y109 {p:Prop} (h:p:=by
 refine rk (k:=rB (k:=rg [0,1,7,8] (k:=?_)))
 rw [idxF_step p hil,hxe,if_neg (by rw [hc1];simp)] at hidx
 refine Run.lp ⟨⟨rfl,i+1,rfl,Y21,hidx⟩,?_⟩
 simp only [ivar,go_sem,↓reduceIte,Nat.reduceEqDiff]
 omega):p:=h
theorem index_Sp {xs:List Sp} {k:FuncId} {cap:List PV} {p:Sp→Bool} {s:St} (hsz:xs.length<140737488355328) (hcal:callable Tryz.prog k=true) (hcap:PV.weaks cap=cap) (hf:∀ x∈xs,ACalls Tryz.prog k (x.pv::cap) s (fun r s'=>r=.bool (p x)∧s'=s)) :
  ACalls Tryz.prog 126 [.sl .unk (xs.map Sp.pv),.fn (.func k) [] cap] s (fun r s'=>r=.int .i64 (idxF p xs 0)∧s'=s):=by
 refine go Tryz.func126 (k:=fun hwf H=>?_)
 have H:=aj hcap H
 refine rs (k:=rg [0,1] (k:=rs (k:=rs (k:=rg [0,1,7,8] (k:=rb (k:=?_))))))
 refine Run.loop (fun e s'=>s'=s∧∃ i:Nat,e=[(0,.sl .unk (xs.map Sp.pv)),(1,.fn (.func k) [] cap),(7,.int .i64 xs.length),(8,.int .i64 i)]∧i≤xs.length∧idxF p xs 0=idxF p (xs.drop i) i) (fun e s'=>xs.length-ivar e 8) ?_ ?_
 ·exact Y247
 rintro e s' ⟨hs,i,rfl,hi,hidx⟩
 subst s'
 refine rs (k:=rg [0,1,7,8,9] (k:=rs (k:=rc (ht:=fun hc0=>?_) (hf:=fun hc0=>?_))))
 refine rk (k:=rs (k:=rb (k:=rs (k:=?_))))
 have hil:i<xs.length:=Y83
 obtain ⟨x,hxe⟩:∃ z_,xs[i]'hil=z_:=⟨_,rfl⟩
 have hxx:(xs.map Sp.pv)[i]? =some (.agg [.int .i64 (x).pos,.int .i64 (x).cnt]):=Y163
 have hw:IntKind.i64.wrap ((i:Int)+1)=((i+1:Nat):Int):=Y28
 have H:=aj hxx (aj hw H)
 refine rg [0,1,5,7,8] (k:=rs (k:=rr (k:=ro (pre:=[_,_,_,_,_]) (k:=?_))))
 refine RunO.callw au au au hcal ((hf x Y84).mono ?_)
 rintro r1 s1 ⟨rfl,hs⟩
 subst s1
 refine rl [0,1,5,7,8,16] (k:=rc (ht:=fun hc1=>?_) (hf:=fun hc1=>?_))
 refine rs (k:=rg [4] (k:=rR (k:=rP (by simp only [Tryz.f126,go_sem];rfl) hwf ⟨?_,rfl⟩)))
 refine jO 1 ?_;rotate_left
 ·exact Y109
 refine rX (k:=rs (k:=rg [4] (k:=rR (k:=rP (by simp only [Tryz.f126,go_sem];rfl) hwf ⟨?_,rfl⟩))))
 refine jO 1 ?_;rotate_left
 any_goals
  refine jI 1 ?_
  first
   |(rw [idxF_step p hil,hxe,if_pos hc1] at hidx
     rw [hidx];rfl)
   |(have:i=xs.length:=by have:=of_decide_eq_false hc0;omega
     rw [this,List.drop_length] at hidx
     rw [hidx];rfl)
theorem contains_Sp {xs:List Sp} {k:FuncId} {cap:List PV} {p:Sp→Bool} {s:St} (hsz:xs.length<140737488355328) (hcal:callable Tryz.prog k=true) (hcap:PV.weaks cap=cap) (hf:∀ x∈xs,ACalls Tryz.prog k (x.pv::cap) s (fun r s'=>r=.bool (p x)∧s'=s)) :
  ACalls Tryz.prog 138 [.sl .unk (xs.map Sp.pv),.fn (.func k) [] cap] s (fun r s'=>r=.bool (xs.any p)∧s'=s):=by
 refine go Tryz.func138 (k:=fun hwf H=>?_)
 have H:=aj hcap H
 refine rs (k:=rg [0,1] (k:=rs (k:=rr (k:=ro (pre:=[_,_]) (k:=rC (h:=index_Sp hsz hcal hcap hf) (k:=rh [4] (k:=rR (k:=rP (by simp only [Tryz.f138,go_sem];rfl) hwf ⟨?_,rfl⟩))))))))
 rw [idxF_any];rfl
theorem clip_Sp {xs:List Sp} {s:St}:ACalls Tryz.prog 142 [.sl .unk (xs.map Sp.pv)] s (fun r s'=>r=.sl .unc (xs.map Sp.pv)∧s'=s):=by
 refine go Tryz.func142 (k:=fun hwf H=>?_)
 have hfull:(xs.map Sp.pv).take xs.length=xs.map Sp.pv:=by rw [← List.length_map (f:=Sp.pv),List.take_length]
 have H:=aj hfull H
 refine rs (k:=rg [0] (k:=rs (k:=rg [2] (k:=rR (k:=?_)))))
 refine Ret.pureK (r:=.sl .unc (xs.map Sp.pv)) au (by simp only [PV.blw];exact ⟨fun t z e=>Y20,blws_sps _ _⟩) hwf (fun _ _=>rfl) ⟨rfl,rfl⟩
theorem span_Cover1 {a:Sp} (ha:a.ok) {s:St}:ACalls Tryz.prog 139 [a.pv] s (fun r s'=>r=.bool (!spRight a great)∧s'=s):=by
 refine go Tryz.func139 (k:=fun hwf H=>?_)
 refine rs (k:=rg [1] (k:=rs (k:=rr (k:=ro (pre:=[_]) (k:=rC (h:=span_right (a:=a) ha) (k:=rh [2] (k:=rR (k:=rP (by simp only [Tryz.f139,go_sem];rfl) hwf ⟨?_,rfl⟩))))))))
 rfl
theorem span_Cover2 {a:Sp} (ha:spRight a great=true) {x:Int} {s:St} {kb:Nat} (hkb_:s.blk kb=some (.row 3 [.int .i64 x])):ACalls Tryz.prog 141 [a.pv,.ptr kb 0 0] s (fun r s'=>r=.bool (covBy x a)∧s'=s):=by
 refine go Tryz.func141 (k:=fun hwf H=>?_)
 have hkb:=hkb_
 have hlt_kb:kb<s.nxt:=lt_blk hwf hkb_
 have hkb0:(kb=s.nxt)=False:=eq_false Y21
 have hkb1:(kb=s.nxt+1)=False:=eq_false Y21
 have hr:=spRight_hi ha
 have hwe:IntKind.i64.wrap (a.pos+a.cnt)=a.pos+a.cnt:=wrap_i64 Y21
 have H:=aj hkb (aj hkb0 (aj hwe H))
 refine rs (k:=rg [1,2] (k:=rs (k:=?_)))
 refine Run.drawC [] [3] Tryz.mixed Y26 ?_
 refine DetC.pre (pre:=[_,_,_,_,_]) au ?_
 rcases hd4:(decide (a.pos≤x)) with _ | _
 have H:=aj hd4 H
 refine DetC.gskip' au ?_
 refine DetC.gskip' au ?_
 refine DetC.gskip' au ?_
 refine DetC.gskip' au ?_
 refine jO 1 ?_;rotate_left
 have H:=aj hd4 H
 refine DetC.gdo au au ?_
 refine DetC.gdo au au ?_
 refine DetC.call au au au Y26 (span_end (a:=a)) ?_
 refine DetC.gdo au au ?_
 refine jO 1 ?_;rotate_left
 any_goals
  refine jI 1 ?_
  refine DetC.all au ?_
  refine jO 2 ?_;rotate_left
 any_goals
  refine jI 2 ?_
  refine re (k:=rR (k:=rP (by simp only [Tryz.f141,go_sem];rfl) hwf ⟨?_,rfl⟩))
  refine jO 3 ?_;rotate_left
 any_goals
  refine jI 3 ?_
  unfold covBy
  refine jO 4 ?_;rotate_left
 any_goals
  refine jI 4 ?_
  simp only [decide_eq_true_eq,decide_eq_false_iff_not] at *
  first
   |(simp [hd4,PV.weak];done)
   |(simp [PV.weak];omega)
attribute [local go_sem] set_set
theorem Y225 {p:Prop} (h:p:=by simp only [Tryz.f125,go_sem,↓reduceIte]<;>rfl):p:=h
theorem Y336 {p:Prop} (h:p:=by intro p hp;rw [List.mem_singleton.1 hp,Tryz.cz178];exact ⟨rfl,rfl⟩):p:=h
set_option maxRecDepth 100000 in
theorem span_Cover {l:List Sp} (hl:∀ x∈l,x.ok) (hn:l.length<140737488355328) {c:Sp} (hc:c.ok) {s:St}:ACalls Tryz.prog 125 [.sl .unk (l.map Sp.pv),c.pv] s (fun r s'=>r=.tuple [.sl .unk ((coverF l c).1.map Sp.pv),.bool (coverF l c).2]∧s'=s):=by
 refine go Tryz.func125 (k:=fun hwf H=>?_)
 refine rs (k:=rg [0,3] (k:=rs (k:=rs (k:=rr (k:=ro (pre:=[_]) (k:=rC (h:=span_right (a:=c) hc) (k:=ro (pre:=[_,_,_]) (k:=rG (h:=fun hb=>contains_Sp (p:=fun y=> !spRight y great) hn Y26 rfl (fun y hy=>span_Cover1 (hl y hy))) (k:=rh [0,3,16] (k:=rc (ht:=fun hc0=>?_) (hf:=fun hc0=>?_)))))))))))
 ·have hc:=hc0
  refine rs (k:=rg [4,5] (k:=rR (k:=?_)))
  have hcf:coverF l c=([],false):=by
   unfold coverF
   rw [if_pos (by rcases Bool.or_eq_true_iff.1 hc0 with h | h<;>simp at h ⊢<;>simp [h])]
  refine Ret.pure (r':=.tuple [.sl .unk [],.bool false]) Y225 rfl Y34 hwf ((Fr.refl hwf).new _).blk ⟨by rw [hcf];rfl,rfl⟩
 ·have hc:=hc0
  refine rk (k:=rs (k:=rg [0,3,6] (k:=rs (k:=rs (k:=?_)))))
  have hcc:=Bool.or_eq_false_iff.1 hc0
  have hcr:spRight c great=true:=by simpa using hcc.1
  have hlr:∀ y∈l,spRight y great=true:=fun y hy=>by
   have:=List.any_eq_false.1 hcc.2 y hy
   simpa using this
  have hcb:=spRight_hi hcr
  obtain ⟨E,hE0⟩:∃ E,E=c.pos+c.cnt:=⟨_,rfl⟩
  have hwE:IntKind.i64.wrap (c.pos+c.cnt)=E:=by rw [hE0];exact wrap_i64 Y21
  have hcov:coverF l c=match coverA l E c.cnt.toNat c.pos [] with
    | none=>([],false)
    | some o=>(o,true):=by
   unfold coverF
   rw [if_neg (by rw [hcr,List.any_eq_false.2 (fun y hy=>by rw [hlr y hy];simp)];simp),hE0]
   rfl
  have H:=aj hwE H
  refine rg [0,3,6,7] (k:=rb (k:=?_))
  refine Run.loop (fun e s'=>∃ (x:Int) (o:List Sp) (els:List PV) (kk:SK) (p:Nat),e=[(0,.sl .unk (l.map Sp.pv)),(3,.ptr s.nxt 0 0),(6,.sl kk els),(7,.ptr p 0 0)]∧c.pos≤x∧x≤E∧(els.length:Int)≤x-c.pos∧coverA l E c.cnt.toNat c.pos []=coverA l E (E-x).toNat x o∧s.nxt<p∧p<s'.nxt∧s'.blk p=some (.row 3 [.int .i64 x])∧s'.blk s.nxt=some (.row 178 [.agg [.int .i64 (c).pos,.int .i64 (c).cnt]])∧ElsAt 2 s s' kk els (o.map Sp.pv)) (fun e s'=>(E-hvar e s' 7).toNat) ?_ ?_
  ·exact ⟨c.pos,[],[],.nil,s.nxt+1,rfl,Int.le_refl _,Y21,Y23,by rw [show (E-c.pos).toNat=c.cnt.toNat from Y21],Nat.lt_succ_self _,Nat.lt_succ_self _,blk_set_self _ _ _,by rw [blk_set_ne Y21,blk_new_ne (by show s.nxt≠s.nxt+1;omega)];exact blk_new_eq,rfl,Y217,((Fr.refl hwf).new _).newset _ _ rfl,.inl ⟨rfl,rfl⟩,fun t z e=>Y20⟩
  rintro e s1 ⟨x,o,els,kk,p,rfl,hx1,hx2,hel,hcv,hsp,hpx,hpb,hsb,hE⟩
  have hFn:=hE.fr.nxt
  have H:=aj hpb (aj hsb H)
  refine rs (k:=rs (k:=?_))
  refine Run.drawC [] [0,3,6,7,22] Tryz.mixed Y26 ?_
  refine DetC.pre (pre:=[_,_]) au ?_
  refine DetC.call au au au Y26 (span_end (a:=c)) ?_
  refine DetC.all au ?_
  refine re (k:=rc (ht:=fun hc1=>?_) (hf:=fun hc1=>?_))
  ·have hc:=hc1
   refine rk (k:=rs (k:=rb (k:=rs (k:=?_))))
   have hxE:x<E:=of_decide_eq_true hc1
   have H:=aj hpb (aj hsb H)
   refine rr (k:=ro (pre:=[_,_]) (k:=rC (h:=index_Sp (p:=covBy x) hn Y26 rfl (fun y hy=>span_Cover2 (hlr y hy) hpb)) (k:=rh [0,3,6,7,8] (k:=rs (k:=rs (k:=rg [0,3,6,7,8,27] (k:=rc (ht:=fun hc2=>?_) (hf:=fun hc2=>?_))))))))
   ·have hc:=hc2
    refine rs (k:=rg [4,5] (k:=rR (k:=?_)))
    have hcf:coverF l c=([],false):=by
     rcases idxF_find (p:=covBy x) (l:=l) (n:=0) with ⟨h1,h2⟩ | ⟨j,hj,h1,h2⟩
     ·rw [hcov,hcv,coverA_step hxE (Nat.le_refl _),h2]
     ·have:=of_decide_eq_true hc2
      omega
    refine Ret.pure (r':=.tuple [.sl .unk [],.bool false]) Y225 rfl Y34 hwf hE.fr.blk ⟨by rw [hcf];rfl,rfl⟩
   ·have hc:=hc2
    refine rk (k:=rs (k:=?_))
    rcases idxF_find (p:=covBy x) (l:=l) (n:=0) with ⟨h1,h2⟩ | ⟨j,hj,h1,h2⟩
    ·exact absurd h1 (of_decide_eq_false hc2)
    rw [Nat.zero_add] at h1
    obtain ⟨y,hye⟩:∃ z_,l[j]'hj=z_:=⟨_,rfl⟩
    have hyy:(l.map Sp.pv)[j]? =some (.agg [.int .i64 (y).pos,.int .i64 (y).cnt]):=by rw [map_get hj,hye];rfl
    rw [hye] at h2
    have hyr:=spRight_hi (hlr y (by rw [← hye];exact List.getElem_mem _))
    have hyc:=covBy_iff.1 (List.find?_some h2)
    have hwy:IntKind.i64.wrap (y.pos+y.cnt)=y.pos+y.cnt:=wrap_i64 Y21
    have hjT:(j<l.length)=True:=eq_true hj
    have hmn:(if E<y.pos+y.cnt then E else y.pos+y.cnt)=min (y.pos+y.cnt) E:=Y21
    have hwd:IntKind.i64.wrap (min (y.pos+y.cnt) E-x)=min (y.pos+y.cnt) E-x:=wrap_i64 Y21
    have hst:=coverA_step (l:=l) (out:=o) hxE (Nat.le_refl _)
    rw [h2] at hst
    have H:=aj h1 (aj hyy (aj hwy (aj hjT (aj hmn (aj hwd H)))))
    refine Run.drawC [] [0,3,6,7,9] Tryz.mixed Y26 ?_
    refine DetC.pre (pre:=[_,_,_,_]) au ?_
    refine DetC.call au au au Y26 (span_end (a:=y)) ?_
    refine DetC.pre (pre:=[_]) au ?_
    refine DetC.call au au au Y26 (span_end (a:=c)) ?_
    refine DetC.all au ?_
    refine re (k:=rs (k:=rr (k:=ro (pre:=[_,_,_,_,_,_]) (k:=rO (k:=?_)))))
    refine RunO.grow (xs:=els) (ys:=[_]) au au au Tryz.td176 (by rw [Tryz.zp178];rfl) (by unfold isEls;rw [Tryz.cz178];exact hE.el) Y336 (by rw [Tryz.by178];decide) (by rw [Tryz.by178];simp;omega) (by rw [Tryz.cz178];exact hE.gr) Y23 ?_
    intro k' s3 hgr' htm
    rw [Tryz.cz178] at hgr'
    have h3p:s3.blk p=some (.row 3 [.int .i64 x]):=by rw [htm.rest p hpx (fun z e=>(hE.nr hpb _ z e) rfl)];exact hpb
    have h3s:s3.blk s.nxt=some (.row 178 [.agg [.int .i64 (c).pos,.int .i64 (c).cnt]]):=by rw [htm.rest s.nxt Y21 (fun z e=>(hE.nr hsb _ z e) rfl)];exact hsb
    have h3x:=htm.nxt
    have hE3:=hE.snoc (el:=.agg [.int .i64 ((⟨x,min (y.pos+y.cnt) E-x⟩:Sp)).pos,.int .i64 ((⟨x,min (y.pos+y.cnt) E-x⟩:Sp)).cnt]) (w:=((⟨x,min (y.pos+y.cnt) E-x⟩:Sp)).pv) rfl rfl rfl (Nat.le_refl _) hE.fr hgr' htm
    have H:=aj h3p (aj h3s H)
    refine rh [0,3,6,7,9] (k:=rg [0,3,6,7] (k:=rB (k:=rs (k:=rg [0,3,6,45] (k:=rg [0,3,6,7] (k:=?_))))))
    refine Run.lp ⟨⟨min (y.pos+y.cnt) E,o++[(⟨x,min (y.pos+y.cnt) E-x⟩:Sp)],_,k',s3.nxt,rfl,Y21,Y21,by rw [List.length_append,List.length_singleton];omega,?_,Y21,Nat.lt_succ_self _,blk_set_self _ _ _,?_,?_⟩,?_⟩
    ·rw [hcv,hst]
     exact coverA_more (fun q hq=>(spRight_hi (hlr q hq)).2.1) _ _ _ _ Y21 Y21
    ·rw [blk_set_ne (by show s.nxt≠s3.nxt;omega),blk_new_ne (by show s.nxt≠s3.nxt;omega),blk_set_ne Y21];exact h3s
    ·rw [List.map_append]
     refine hE3.to ((hE3.fr.set Y21 Y21 _).newset _ _ rfl) (Nat.le_succ _) fun t z e=>?_
     have h5:=hE3.tk t z e
     rw [blk_set_ne (by show t≠s3.nxt;omega),blk_new_ne (by show t≠s3.nxt;omega),blk_set_ne (hE3.nr h3p t z e)]
    ·simp only [hvar,go_sem,↓reduceIte,Nat.reduceEqDiff,hpb,blk_set_self]
     omega
  ·have hc:=hc1
   refine rX (k:=rs (k:=?_))
   have hwk:=hE.wk
   have H:=aj hwk H
   refine rr (k:=ro (pre:=[_]) (k:=rC (h:=clip_Sp (xs:=o)) (k:=rh [4,5] (k:=rR (k:=?_)))))
   have hxe2:¬ x<E:=of_decide_eq_false hc1
   have hcf:coverF l c=(o,true):=by rw [hcov,hcv,coverA_end _ _ _ Y21]
   refine Ret.pure (r':=.tuple [.sl .unk (o.map Sp.pv),.bool true]) Y225 (by simp only [PV.weak,PV.weaks,weaks_sps]) (by simp only [PV.blw,PV.blws,and_true];exact ⟨fun t z e=>Y20,blws_sps _ _⟩) hwf hE.fr.blk ⟨by rw [hcf],rfl⟩
end Go.Proofs
namespace Go.Proofs
open Go.PM
set_option maxHeartbeats 2000000
theorem i64_1:I64 1:=Y24
theorem idxF_map {α β:Type} {p:β→Bool} {f:α→β}:∀ {l:List α} {n:Nat},idxF p (l.map f) n=idxF (fun x=>p (f x)) l n
 | [],n=>rfl
 | x::l,n=>by
   rw [List.map_cons]
   unfold idxF
   rw [idxF_map]
theorem ofW_snoc {l:List Win} {sp:Int} {i:Nat} (h:i<l.length):ofW (l.take (i+1)) sp=ofW (l.take i) sp++if (winRight l[i]&&decide (l[i].space=sp))=true then [l[i]] else []:=by
 rw [take_get h]
 unfold ofW
 rw [List.filter_append]
 congr 1
 rw [List.filter_cons]
 split<;>simp
theorem ofW_len (l:List Win) (sp:Int):(ofW l sp).length≤l.length:=List.length_filter_le _ _
set_option maxRecDepth 100000 in
theorem window_of {l:List Win} (hl:∀ w∈l,w.ok) (hn:l.length*32≤140737488351232) {sp:Int} {s:St}:ACalls Tryz.prog 123 [.sl .unk (l.map Win.pv),.int .i64 sp] s (fun r s'=>r=.sl .unk ((ofW l sp).map Win.pv)∧s'=s):=by
 refine go Tryz.func123 (k:=fun hwf H=>?_)
 refine rs (k:=rg [0,1] (k:=rs (k:=rg [0,1,5] (k:=rs (k:=rs (k:=rg [1,5,8,9,10] (k:=rb (k:=?_))))))))
 refine Run.loop (fun e s'=>∃ (i:Nat) (els:List PV) (kk:SK),e=[(1,.int .i64 sp),(5,.sl kk els),(8,.sl .unk (l.map Win.pv)),(9,.int .i64 (l.length:Int)),(10,.int .i64 (i:Int))]∧i≤l.length∧els.length≤i∧ElsAt 4 s s' kk els ((ofW (l.take i) sp).map Win.pv)) (fun e s'=>l.length-ivar e 10) ?_ ?_
 ·exact ⟨0,[],.nil,rfl,Nat.zero_le _,Nat.le_refl _,rfl,Y217,Fr.refl hwf,.inl ⟨rfl,rfl⟩,fun t z e=>Y20⟩
 rintro e s1 ⟨i,els,kk,rfl,hi,hel,hE⟩
 have hFn:=hE.fr.nxt
 refine rs (k:=rg [1,5,8,9,10,11] (k:=rs (k:=rc (ht:=fun hc0=>?_) (hf:=fun hc0=>?_))))
 ·refine rk (k:=rs (k:=rb (k:=rs (k:=?_))))
  have hil:i<l.length:=Y83
  obtain ⟨x,hxe⟩:∃ z_,l[i]'hil=z_:=⟨_,rfl⟩
  have hxx:(l.map Win.pv)[i]? =some (.agg [.int .i64 (x).space,.int .i64 (x).virt,.int .i64 (x).phys,.int .i64 (x).cnt]):=Y163
  have hxo:x.ok:=by rw [← hxe];exact hl _ (List.getElem_mem _)
  have hilT:(i<l.length)=True:=eq_true hil
  have hw:IntKind.i64.wrap ((i:Int)+1)=((i+1:Nat):Int):=Y28
  have hsn:=ofW_snoc (sp:=sp) hil
  rw [hxe] at hsn
  have H:=aj hxx (aj hilT (aj hw H))
  refine rg [1,5,7,8,9,10] (k:=rs (k:=rr (k:=ro (pre:=[_]) (k:=rC (h:=window_Right (w:=x) hxo) (k:=rh [1,5,7,8,9,10,21] (k:=rc (ht:=fun hc1=>?_) (hf:=fun hc1=>?_)))))))
  ·refine rr (k:=ro (pre:=[_,_]) (k:=rO (k:=?_)))
   refine RunO.grow (xs:=els) (ys:=[_]) au au au Tryz.td25 (by rw [Tryz.zp59];rfl) (by unfold isEls;rw [Tryz.cz59];exact hE.el) (by intro p hp;rw [List.mem_singleton.1 hp,Tryz.cz59];exact ⟨rfl,rfl⟩) (by rw [Tryz.by59];decide) (by rw [Tryz.by59];simp;omega) (by rw [Tryz.cz59];exact hE.gr.mono fun t e=>Y103) Y23 ?_
   intro k' s3 hgr' htm
   rw [Tryz.cz59] at hgr'
   refine rh [1,5,8,9,10] (k:=rB (k:=rg [1,5,8,9,10] (k:=?_)))
   have hyes:(winRight x&&decide (x.space=sp))=true:=hc1
   rw [if_pos hyes] at hsn
   refine Run.lp ⟨⟨i+1,_,k',rfl,Y21,by rw [List.length_append,List.length_singleton];omega,?_⟩,?_⟩
   ·rw [hsn,List.map_append]
    exact hE.snoc rfl rfl (by simp only [PV.weak,PV.weaks,Win.pv]) (Nat.le_succ _) (hE.fr.new _) hgr' htm
   ·exact Y32
  ·refine rk (k:=rB (k:=rg [1,5,8,9,10] (k:=?_)))
   have hno:¬ (winRight x&&decide (x.space=sp))=true:=by rw [show (winRight x&&decide (x.space=sp))=false from hc1];decide
   rw [if_neg hno,List.append_nil] at hsn
   refine Run.lp ⟨⟨i+1,els,kk,rfl,Y21,Y21,?_⟩,?_⟩
   ·rw [hsn]
    exact hE.to (hE.fr.new _) (Nat.le_succ _) fun t z e=>by rw [blk_new_ne (by have:=(hE.tk t z e).2;omega)]
   ·exact Y32
 ·refine rX (k:=rs (k:=rg [4] (k:=rR (k:=?_))))
  have hi2:i=l.length:=Y33
  refine Ret.pure (r':=.sl .unk ((ofW l sp).map Win.pv)) (by simp only [Tryz.f123,go_sem,↓reduceIte]<;>rfl) (by rw [PV.weak,hE.wk,hi2,List.take_length]) Y224 hwf hE.fr.blk ⟨rfl,rfl⟩
theorem window_Map1 {a b:Sp} (ha:I64 a.pos) (hb:b.ok) {s:St} {kb:Nat} (hkb_:s.blk kb=some (.row 178 [a.pv])):ACalls Tryz.prog 127 [b.pv,.ptr kb 0 0] s (fun r s'=>r=.bool (spIn ⟨a.pos,1⟩ b)∧s'=s):=by
 refine go Tryz.func127 (k:=fun hwf H=>?_)
 have hkb:=hkb_
 rw [Sp.pv] at hkb
 have hlt_kb:kb<s.nxt:=lt_blk hwf hkb_
 have hkb0:(kb=s.nxt)=False:=eq_false Y21
 have hkb1:(kb=s.nxt+1)=False:=eq_false Y21
 have H:=aj hkb (aj hkb0 H)
 refine rs (k:=rg [1,2] (k:=rs (k:=rr (k:=ro (pre:=[_,_,_,_]) (k:=rC (h:=span_In (a:=⟨a.pos,1⟩) (b:=b) ⟨ha,i64_1⟩ hb) (k:=rh [3] (k:=rR (k:=rP (by simp only [Tryz.f127,go_sem];rfl) hwf ⟨?_,rfl⟩))))))))
 rfl
theorem weaks_pcs (l:List Pc):PV.weaks (l.map Pc.pv)=l.map Pc.pv:=weaks_map_id Pc.pv (fun _=>rfl) l
theorem blws_pcs (n:Nat) (l:List Pc):PV.blws n (l.map Pc.pv):=blws_map Pc.pv n (fun a=>by simp [Pc.pv,PV.blw,PV.blws]) l
attribute [local go_sem] weaks_pcs
theorem clip_Pc {xs:List Pc} {s:St}:ACalls Tryz.prog 129 [.sl .unk (xs.map Pc.pv)] s (fun r s'=>r=.sl .unc (xs.map Pc.pv)∧s'=s):=by
 refine go Tryz.func129 (k:=fun hwf H=>?_)
 have hfull:(xs.map Pc.pv).take xs.length=xs.map Pc.pv:=by rw [← List.length_map (f:=Pc.pv),List.take_length]
 have H:=aj hfull H
 refine rs (k:=rg [0] (k:=rs (k:=rg [2] (k:=rR (k:=?_)))))
 refine Ret.pureK (r:=.sl .unc (xs.map Pc.pv)) au (by simp only [PV.blw];exact ⟨fun t z e=>Y20,blws_pcs _ _⟩) hwf (fun _ _=>rfl) ⟨rfl,rfl⟩
attribute [local go_sem] weaks_pcs set_set
set_option maxRecDepth 100000 in
theorem window_Map {l:List Win} (hl:∀ w∈l,w.ok) (hn:l.length*32≤140737488351232) {sp a n:Int} (ha:I64 a) (hnn:I64 n) {s:St}:ACalls Tryz.prog 110 [.sl .unk (l.map Win.pv),.int .i64 sp,.int .i64 a,.int .i64 n] s (fun r s'=>r=.tuple [.sl .unk ((mapW l sp a n).1.map Pc.pv),.bool (mapW l sp a n).2]∧s'=s):=by
 refine go Tryz.func110 (k:=fun hwf H=>?_)
 refine rs (k:=rg [0,1,2,3] (k:=rs (k:=?_)))
 obtain ⟨W,hW⟩:∃ W,W=ofW l sp:=⟨_,rfl⟩
 have hWl:W.length≤l.length:=by rw [hW];exact ofW_len _ _
 have hvo:∀ z∈W.map Win.v,z.ok:=fun z hz=>by
  obtain ⟨w,hw,rfl⟩:=List.mem_map.1 hz
  rw [hW] at hw
  exact (hl w (ofW_right hw).2.2).v
 obtain ⟨P,hP⟩:∃ P,P=(coverF (W.map Win.v) ⟨a,n⟩).1:=⟨_,rfl⟩
 obtain ⟨b9,hb9⟩:∃ b,b=(coverF (W.map Win.v) ⟨a,n⟩).2:=⟨_,rfl⟩
 have hPl:P.length≤2147483648:=by rw [hP];exact coverF_len _ _
 refine rr (k:=ro (pre:=[_,_]) (k:=?_))
 refine RunO.callw au au au Y26 ((window_of hl hn (sp:=sp)).mono ?_)
 rintro r s9 ⟨rfl,hs⟩
 subst s9
 rw [← hW]
 refine rh [2,3,10] (k:=rs (k:=rg [2,3,10,11] (k:=rs (k:=rs (k:=rg [2,3,10,11,23,24,25] (k:=rb (k:=?_)))))))
 refine Run.loop (fun e s'=>∃ (i:Nat) (e1:List PV) (k1:SK),e=[(2,.int .i64 a),(3,.int .i64 n),(10,.sl .unk (W.map Win.pv)),(11,.sl k1 e1),(23,.sl .unk (W.map Win.pv)),(24,.int .i64 (W.length:Int)),(25,.int .i64 (i:Int))]∧i≤W.length∧e1.length=i∧ElsAt 2 s s' k1 e1 (((W.take i).map Win.v).map Sp.pv)) (fun e s'=>W.length-ivar e 25) ?_ ?_
 ·exact ⟨0,[],.nil,rfl,Nat.zero_le _,rfl,rfl,Y217,Fr.refl hwf,.inl ⟨rfl,rfl⟩,fun t z e=>Y20⟩
 rintro e s1 ⟨i,e1,k1,rfl,hi,hel,hE⟩
 have hFn:=hE.fr.nxt
 refine rs (k:=rg [2,3,10,11,23,24,25,26] (k:=rs (k:=rc (ht:=fun hc0=>?_) (hf:=fun hc0=>?_))))
 ·refine rk (k:=rs (k:=rb (k:=rs (k:=?_))))
  have hil:i<W.length:=Y83
  obtain ⟨x,hxe⟩:∃ z_,W[i]'hil=z_:=⟨_,rfl⟩
  have hxx:(W.map Win.pv)[i]? =some (.agg [.int .i64 (x).space,.int .i64 (x).virt,.int .i64 (x).phys,.int .i64 (x).cnt]):=Y163
  have hilT:(i<W.length)=True:=eq_true hil
  have hw:IntKind.i64.wrap ((i:Int)+1)=((i+1:Nat):Int):=Y28
  have H:=aj hxx (aj hilT (aj hw H))
  refine rg [2,3,10,11,13,23,24,25] (k:=rr (k:=ro (pre:=[_,_]) (k:=rC (h:=window_virtual (w:=x)) (k:=rO (k:=?_)))))
  refine RunO.grow (xs:=e1) (ys:=[_]) au au au Tryz.td176 (by rw [Tryz.zp178];rfl) (by unfold isEls;rw [Tryz.cz178];exact hE.el) Y336 (by rw [Tryz.by178];decide) (by rw [Tryz.by178];simp;omega) (by rw [Tryz.cz178];exact hE.gr.mono fun t e=>Y103) Y23 ?_
  intro k2 s3 hgr' htm
  rw [Tryz.cz178] at hgr'
  refine rh [2,3,10,11,23,24,25] (k:=rB (k:=rg [2,3,10,11,23,24,25] (k:=?_)))
  refine Run.lp ⟨⟨i+1,_,k2,rfl,Y21,Y267,?_⟩,?_⟩
  ·rw [take_get hil,hxe,List.map_append,List.map_append]
   exact hE.snoc rfl rfl rfl (Nat.le_succ _) (hE.fr.new _) hgr' htm
  ·exact Y32
 ·refine rX (k:=rs (k:=?_))
  have hi1:i=W.length:=Y33
  have hwk:PV.weaks e1=(W.map Win.v).map Sp.pv:=by rw [hE.wk,hi1,List.take_length]
  have H:=aj hwk H
  refine rr (k:=ro (pre:=[_,_,_,_]) (k:=?_))
  refine RunO.callw au au au Y26 ((span_Cover (l:=W.map Win.v) hvo Y258 (c:=⟨a,n⟩) ⟨ha,hnn⟩).mono ?_)
  rintro r s9 ⟨rfl,hs⟩
  subst s9
  rw [← hP,← hb9]
  refine rh [10,11,14,15] (k:=rs (k:=rg [10,11,14,15,16] (k:=rs (k:=rs (k:=rg [10,11,15,16,43,44,45] (k:=rb (k:=?_)))))))
  refine Run.loop (fun e s'=>∃ (i:Nat) (els:List PV) (kk:SK),e=[(10,.sl .unk (W.map Win.pv)),(11,.sl k1 e1),(15,.bool b9),(16,.sl kk els),(43,.sl .unk (P.map Sp.pv)),(44,.int .i64 (P.length:Int)),(45,.int .i64 (i:Int))]∧i≤P.length∧els.length=i∧ElsAt 3 s s' kk els (((P.take i).map fun y=>(⟨y.pos,physAt W y.pos,y.cnt⟩:Pc)).map Pc.pv)) (fun e s'=>P.length-ivar e 45) ?_ ?_
  ·exact ⟨0,[],.nil,rfl,Nat.zero_le _,rfl,rfl,Y217,hE.fr,.inl ⟨rfl,rfl⟩,fun t z e=>Y20⟩
  rintro e s2 ⟨i,els,kk,rfl,hi,hel,hE2⟩
  have hFn:=hE2.fr.nxt
  refine rs (k:=rg [10,11,15,16,43,44,45,46] (k:=rs (k:=rc (ht:=fun hc1=>?_) (hf:=fun hc1=>?_))))
  ·refine rk (k:=rs (k:=rb (k:=rs (k:=?_))))
   have hil:i<P.length:=Y79
   obtain ⟨y,hye⟩:∃ z_,P[i]'hil=z_:=⟨_,rfl⟩
   have hxy:(P.map Sp.pv)[i]? =some (.agg [.int .i64 (y).pos,.int .i64 (y).cnt]):=by rw [map_get hil,hye];rfl
   have hilT:(i<P.length)=True:=eq_true hil
   have hw:IntKind.i64.wrap ((i:Int)+1)=((i+1:Nat):Int):=Y28
   obtain ⟨_,_,_,hy0,hy1,v,hv,_⟩:=coverF_in (l:=W.map Win.v) (s:=⟨a,n⟩) (p:=y) (by rw [← hP,← hye];exact List.getElem_mem _)
   have hy2:y.cnt≥1:=by assumption
   unfold great at hy1
   have hyi:I64 y.pos:=Y77
   have hvW:((ofW l sp).map Win.v).find? (covBy y.pos)=some v:=by rw [← hW];exact hv
   obtain ⟨w,hwm,_,hwf1,hwp,hwc⟩:=physAt_eq (l:=l) (sp:=sp) (x:=y.pos) Y21 hvW
   rw [← hW] at hwf1 hwp hwm
   have hwb:=winRight_b (ofW_right (by rw [← hW];exact hwm)).1
   have hwc:=covBy_iff.1 hwc
   obtain ⟨j,hj,hj1,hj2⟩:∃ (j:Nat) (h:j<W.length),idxF (fun z=>spIn ⟨y.pos,1⟩ z) (W.map Win.v) 0=(j:Int)∧W[j]=w:=by
    rw [idxF_map]
    rcases idxF_find (p:=fun w:Win=>spIn ⟨y.pos,1⟩ w.v) (l:=W) (n:=0) with ⟨_,h⟩ | ⟨j,hj,h1,h2⟩
    ·rw [hwf1] at h;cases h
    ·rw [hwf1] at h2
     exact ⟨j,hj,by rw [h1,Nat.zero_add],(Option.some.inj h2).symm⟩
   have hjj:(W.map Win.pv)[j]? =some (.agg [.int .i64 (w).space,.int .i64 (w).virt,.int .i64 (w).phys,.int .i64 (w).cnt]):=by rw [map_get hj,hj2];rfl
   have hjT:(j<W.length)=True:=eq_true hj
   have hw1:IntKind.i64.wrap (w.phys+y.pos)=w.phys+y.pos:=wrap_i64 Y21
   have hw2:IntKind.i64.wrap (w.phys+y.pos-w.virt)=physAt W y.pos:=by rw [hwp];exact wrap_i64 Y21
   have H:=aj hxy (aj hilT (aj hw (aj hj1 (aj hjj (aj hjT (aj hw1 (aj hw2 H)))))))
   refine rg [10,11,15,16,18,43,44,45] (k:=rs (k:=rr (k:=ro (pre:=[_,_]) (k:=rC (h:=index_Sp (xs:=W.map Win.v) (p:=fun z=>spIn ⟨y.pos,1⟩ z) Y258 Y26 rfl (fun z hz=>window_Map1 (a:=y) hyi (hvo z hz) blk_new_eq)) (k:=rh [10,11,15,16,18,19,43,44,45] (k:=?_))))))
   refine Run.drawCut 21 [] Tryz.mixed Y26 Y26 ?_
   refine DetC.all au ?_
   refine RunO.grow (xs:=els) (ys:=[_]) au au au Tryz.td151 (by rw [Tryz.zp155];rfl) (by unfold isEls;rw [Tryz.cz155];exact hE2.el) (by intro p hp;rw [List.mem_singleton.1 hp,Tryz.cz155];exact ⟨rfl,rfl⟩) (by rw [Tryz.by155];decide) (by rw [Tryz.by155];simp;omega) (by rw [Tryz.cz155];exact hE2.gr.mono fun t e=>by have:=hE2.tk _ _ e;simp (disch:=first | omega |(simp only [nxt_set,nxt_new]<;>omega) | fail) only [go_sem]) Y23 ?_
   intro k' s3 hgr' htm
   rw [Tryz.cz155] at hgr'
   refine rh [10,11,15,16,43,44,45] (k:=rB (k:=rg [10,11,15,16,43,44,45] (k:=?_)))
   refine Run.lp ⟨⟨i+1,_,k',rfl,Y21,Y267,?_⟩,?_⟩
   ·rw [take_get hil,hye,List.map_append,List.map_append]
    exact hE2.snoc rfl rfl rfl (Nat.le_succ _) (hE2.fr.new _) hgr' htm
   ·exact Y32
  ·refine rX (k:=rs (k:=?_))
   have hwk2:=hE2.wk
   have hi2:i=P.length:=Y85
   rw [hi2,List.take_length] at hwk2
   have H:=aj hwk2 H
   refine rr (k:=ro (pre:=[_]) (k:=rC (h:=clip_Pc (xs:=P.map fun y=>(⟨y.pos,physAt W y.pos,y.cnt⟩:Pc))) (k:=rh [8,9] (k:=rR (k:=?_)))))
   refine Ret.pure (r':=.tuple [.sl .unk ((mapW l sp a n).1.map Pc.pv),.bool (mapW l sp a n).2]) (by simp only [Tryz.f110,go_sem,↓reduceIte]<;>rfl) (by unfold mapW;rw [← hW,← hP,← hb9];simp only [PV.weak,PV.weaks,weaks_pcs]) (by simp only [PV.blw,PV.blws,and_true,true_and];exact ⟨fun t z e=>Y20,blws_pcs _ _⟩) hwf hE2.fr.blk ⟨rfl,rfl⟩
end Go.Proofs
namespace Go.Proofs
open Go.PM
set_option maxHeartbeats 2000000
theorem clone_bool_nil {s:St}:ACalls Tryz.prog 89 [.sl .nil []] s (fun r s'=>r=.sl .unk []∧s'=s):=by
 refine go Tryz.func89 (k:=fun hwf H=>?_)
 refine rs (k:=rg [0] (k:=rs (k:=rs (k:=rg [0,4] (k:=rc (ht:=fun hc0=>?_) (hf:=fun hc0=>?_))))))
 ·refine rs (k:=rg [2] (k:=rR (k:=rP (by simp only [Tryz.f89,go_sem];rfl) hwf ⟨?_,rfl⟩)))
  rfl
 ·cases hc0
theorem Y337 {p:Prop} (h:p:=by simp only [PV.blw];exact ⟨fun t z e=>Y20,blws_bools _ _⟩):p:=h
theorem clone_bool_any {xs:List Bool} (hb:xs.length*1≤140737488355328) {s:St}:ACalls Tryz.prog 89 [.sl .any (xs.map PV.bool)] s (fun r s'=>r=.sl .unk (xs.map PV.bool)∧s'=s):=by
 refine go Tryz.func89 (k:=fun hwf H=>?_)
 refine rs (k:=rg [0] (k:=rs (k:=rs (k:=rg [0,4] (k:=rc (ht:=fun hc0=>?_) (hf:=fun hc0=>?_))))))
 ·cases hc0
 ·refine rk (k:=rs (k:=rr (k:=rO (k:=ro (pre:=[_]) (k:=?_)))))
  refine RunO.grow' au au au Tryz.td45 Y256 Y141 (isEls_map (P:=Tryz.prog) (e:=4) (f:=PV.bool) (fun a=>⟨rfl,by rw [Tryz.cz4];rfl⟩) _) Y257 (by rw [Tryz.by4];simp;omega) (.inr (.inl (.inl rfl))) ?_
  intro k1 s1 hgr htm
  refine rh [2] (k:=rR (k:=?_))
  refine Ret.pure (by simp only [Tryz.f89,go_sem]<;>rfl) (r':=.sl .unk (xs.map PV.bool)) (by rw [PV.weak,weaks_bools]) Y337 hwf Y82 ⟨?_,rfl⟩
  ·rfl
theorem clone_bool {xs:List Bool} (hb:xs.length*1≤140737488355328) {s:St}:ACalls Tryz.prog 89 [.sl .unk (xs.map PV.bool)] s (fun r s'=>r=.sl .unk (xs.map PV.bool)∧s'=s) :=
 ACalls.unk1 (fun h=>by rw [h];exact clone_bool_nil) (clone_bool_any hb)
theorem clip_bool {xs:List Bool} {s:St}:ACalls Tryz.prog 90 [.sl .unk (xs.map PV.bool)] s (fun r s'=>r=.sl .unc (xs.map PV.bool)∧s'=s):=by
 refine go Tryz.func90 (k:=fun hwf H=>?_)
 have hfull:(xs.map PV.bool).take xs.length=xs.map PV.bool:=by rw [← List.length_map (f:=PV.bool),List.take_length]
 have H:=aj hfull H
 refine rs (k:=rg [0] (k:=rs (k:=rg [2] (k:=rR (k:=?_)))))
 refine Ret.pureK (r:=.sl .unc (xs.map PV.bool)) au Y337 hwf (fun _ _=>rfl) ⟨rfl,rfl⟩
def ptV (x:Req × Bool):PV:=.agg [.int .i64 x.1.fn,.int .i64 x.1.at_,.int .i64 x.1.count,.int .i64 x.1.wat,.int .i64 x.1.sub,.sl .unk (x.1.bits.map PV.bool),.sl .unk (x.1.vals.map (PV.int .u16)),.int .u16 x.1.and_,.int .u16 x.1.or_,.bool x.2]
theorem weak_pt (x:Req × Bool):(ptV x).weak=ptV x:=by simp only [ptV,PV.weak,PV.weaks,weaks_bools,weaks_u16]
theorem weaks_pts (l:List (Req × Bool)):PV.weaks (l.map ptV)=l.map ptV:=weaks_map_id ptV weak_pt l
theorem blws_pts (n:Nat) (l:List (Req × Bool)):PV.blws n (l.map ptV):=blws_map ptV n (fun a=>by simp only [ptV,PV.blw,PV.blws,blws_boolsT,blws_u16T,true_and,and_true];exact ⟨fun t z e=>Y20,fun t z e=>Y20⟩) l
theorem ibits_and1_u32 (a:Int):ibits .and .u32 a 1=a%2:=by
 unfold ibits
 show IntKind.u32.wrap (((BitVec.ofInt 32 a &&& BitVec.ofInt 32 1).toNat:Int))=_
 have e:(BitVec.ofInt 32 a).toNat%2=(a%2).toNat:=by
  rw [BitVec.toNat_ofInt]
  omega
 have h1:(BitVec.ofInt 32 1).toNat=1:=Y22
 rw [BitVec.toNat_and,h1,Nat.and_one_is_mod,e]
 simp [IntKind.wrap,IntKind.signed,IntKind.bits]
 omega
theorem hasFn_bit {t:Ten} (ht:t.ok) {fn:Int} (h:0≤fn∧fn≤31):decide (ibits .and .u32 (t.fns.fdiv (2 ^ min fn.toNat 32)) 1=0)= !hasFn t fn:=by
 have hf:=ht.fns
 unfold U32 at hf
 obtain ⟨F,hF⟩:∃ F:Nat,t.fns=F:=⟨t.fns.toNat,Y21⟩
 obtain ⟨n,rfl⟩:∃ n:Nat,fn=n:=⟨fn.toNat,Y21⟩
 rw [ibits_and1_u32]
 unfold hasFn
 rw [hF,Int.toNat_natCast,Int.toNat_natCast,Nat.min_eq_left Y21,Int.fdiv_eq_ediv_of_nonneg _ (Int.pow_nonneg Y22),Nat.testBit_eq_decide_div_mod_eq]
 have e:((F:Int)/2 ^ n)%2=((F/2 ^ n%2:Nat):Int):=Y23
 rw [e]
 rcases Nat.mod_two_eq_zero_or_one (F/2 ^ n) with q | q<;>rw [q]<;>simp
theorem Y54 {p:Prop} (h:p:=by
 refine rs (k:=rg [2] (k:=rR (k:=rP (by simp only [Tryz.f111,go_sem];rfl) hwf ⟨?_,rfl⟩)))
 refine congrArg (PV.int .i64) ?_
 simp only [decide_eq_true_eq,decide_eq_false_iff_not] at *
 unfold spaceF
 repeat' split
 all_goals first | rfl | omega):p:=h
theorem part_space {fn:Int} {s:St}:ACalls Tryz.prog 111 [.int .i64 fn] s (fun r s'=>r=.int .i64 (spaceF fn)∧s'=s):=by
 refine go Tryz.func111 (k:=fun hwf H=>?_)
 refine rs (k:=rg [0] (k:=rs (k:=rs (k:=rg [3] (k:=rb (k:=rs (k:=rs (k:=rg [3,4] (k:=rc (ht:=fun hc0=>?_) (hf:=fun hc0=>?_))))))))))
 ·refine rk (k:=rc (ht:=fun hc2=>?_) (hf:=fun hc2=>?_))
  ·exact Y54
  ·exact Bool.noConfusion (hc0.symm.trans hc2)
 ·refine rs (k:=rg [3,4] (k:=rc (ht:=fun hc1=>?_) (hf:=fun hc1=>?_)))
  ·refine rk (k:=rc (ht:=fun hc2=>?_) (hf:=fun hc2=>?_))
   ·exact Y54
   ·exact Y197
  ·refine rg [3,4] (k:=rc (ht:=fun hc2=>?_) (hf:=fun hc2=>?_))
   ·exact Y54
   ·refine rs (k:=rg [3,8] (k:=rc (ht:=fun hc3=>?_) (hf:=fun hc3=>?_)))
    ·exact Y54
    ·refine rs (k:=rg [10] (k:=rc (ht:=fun hc4=>?_) (hf:=fun hc4=>?_)))
     ·exact Y54
     ·refine rk (k:=rB (k:=rs (k:=rg [2] (k:=rR (k:=rP (by simp only [Tryz.f111,go_sem];rfl) hwf ⟨?_,rfl⟩)))))
      refine congrArg (PV.int .i64) ?_
      simp only [decide_eq_true_eq,decide_eq_false_iff_not] at *
      unfold spaceF
      repeat' split
      all_goals first | rfl | omega
attribute [local go_sem] Req.pv
theorem part_Local {q:Req} {s:St}:ACalls Tryz.prog 64 [q.pv] s (fun r s'=>r=.bool (localF q)∧s'=s):=by
 refine go Tryz.func64 (k:=fun hwf H=>?_)
 refine rs (k:=rg [1] (k:=rs (k:=rg [2] (k:=rR (k:=rP (by simp only [Tryz.f64,go_sem];rfl) hwf ⟨?_,rfl⟩)))))
 have e:localF q=(decide (q.fn=8)||decide (q.fn=17)):=by simp [localF]
 rw [e];rfl
attribute [local go_sem] weaks_pcs weaks_bools set_set Req.pv
set_option maxRecDepth 100000 in
theorem part_pieces {t:Ten} (ht:t.ok) {q:Req} (hq:q.ok) {s:St}:ACalls Tryz.prog 87 [t.pv,q.pv] s (fun r s'=>r=.tuple [.sl .unk ((piecesF t q).1.map Pc.pv),.sl .unk ((piecesF t q).2.1.map Pc.pv),.bool (piecesF t q).2.2]∧s'=s):=by
 refine go Tryz.func87 (k:=fun hwf H=>?_)
 have hvl:I64 (q.vals.length:Int):=by have:=hq.nv;constructor<;>omega
 refine rs (k:=rg [2,3,4,5] (k:=rs (k:=rg [3,4,5,7] (k:=rs (k:=rs (k:=rg [3,4,5,7,12] (k:=rb (k:=rs (k:=rs (k:=rg [3,4,5,7,12,13] (k:=rc (ht:=fun hc0=>?_) (hf:=fun hc0=>?_))))))))))))
 refine rk (k:=rc (ht:=fun hc3=>?_) (hf:=fun hc3=>?_))
 refine jO 1 ?_;rotate_left
 ·exact Y316
 refine rs (k:=rg [3,4,5,7,12,13] (k:=rc (ht:=fun hc1=>?_) (hf:=fun hc1=>?_)))
 refine rk (k:=rc (ht:=fun hc3=>?_) (hf:=fun hc3=>?_))
 refine jO 1 ?_;rotate_left
 ·exact Y317
 refine rs (k:=rg [3,4,5,7,12,13] (k:=rc (ht:=fun hc2=>?_) (hf:=fun hc2=>?_)))
 refine rk (k:=rc (ht:=fun hc3=>?_) (hf:=fun hc3=>?_))
 refine jO 1 ?_;rotate_left
 ·exact Y146
 refine rg [3,4,5,7,12,13] (k:=rc (ht:=fun hc3=>?_) (hf:=fun hc3=>?_))
 refine jO 1 ?_;rotate_left
 refine rs (k:=rs (k:=rg [3,4,5,7,12,30] (k:=rc (ht:=fun hc4=>?_) (hf:=fun hc4=>?_))))
 refine rk (k:=rc (ht:=fun hc5=>?_) (hf:=fun hc5=>?_))
 refine jO 2 ?_;rotate_left
 ·exact Bool.noConfusion (hc4.symm.trans hc5)
 refine rg [3,4,5,7,12,30] (k:=rc (ht:=fun hc5=>?_) (hf:=fun hc5=>?_))
 refine jO 2 ?_;rotate_left
 refine rs (k:=rs (k:=rg [3,4,5,7,12,43] (k:=rc (ht:=fun hc6=>?_) (hf:=fun hc6=>?_))))
 refine rk (k:=rc (ht:=fun hc7=>?_) (hf:=fun hc7=>?_))
 refine jO 3 ?_;rotate_left
 ·exact Bool.noConfusion (hc6.symm.trans hc7)
 refine rg [3,4,5,7,12,43] (k:=rc (ht:=fun hc7=>?_) (hf:=fun hc7=>?_))
 refine jO 3 ?_;rotate_left
 refine rs (k:=rg [3,4,5,7,12,58] (k:=rc (ht:=fun hc8=>?_) (hf:=fun hc8=>?_)))
 refine rs (k:=rr (k:=ro (pre:=[_,_,_]) (k:=rC (h:=window_Map (l:=t.wins) ht.wins ht.bw hq.at_ i64_1) (k:=rh [5,6] (k:=rg [4,5,6] (k:=rB (k:=rs (k:=rg [4,5,6] (k:=rR (k:=?_))))))))))
 simp only [decide_eq_true_eq,decide_eq_false_iff_not] at *
 have hP:piecesF t q=((mapW t.wins 3 q.at_ 1).1,mapW t.wins 3 q.at_ 1):=by
  unfold piecesF
  rw [if_neg Y21,if_neg Y21,if_neg Y21,if_pos Y21]
 refine jO 4 ?_;rotate_left
 refine rs (k:=rg [3,4,5,7,68] (k:=rc (ht:=fun hc9=>?_) (hf:=fun hc9=>?_)))
 refine rs (k:=rg [3,7] (k:=rs (k:=rr (k:=ro (pre:=[_,_,_,_,_,_]) (k:=rC (h:=window_Map (l:=t.wins) ht.wins ht.bw hq.wat hvl) (k:=rh [3,4,6,7] (k:=rs (k:=rr (k:=ro (pre:=[_,_,_,_,_]) (k:=rC (h:=window_Map (l:=t.wins) ht.wins ht.bw hq.at_ hq.count) (k:=rh [4,5,6,8] (k:=rg [4,5,6] (k:=?_)))))))))))))
 refine rB (k:=rs (k:=rg [4,5,6] (k:=rR (k:=?_))))
 simp only [decide_eq_true_eq,decide_eq_false_iff_not] at *
 have hP:piecesF t q=((mapW t.wins 3 q.wat q.vals.length).1,(mapW t.wins 3 q.at_ q.count).1,(mapW t.wins 3 q.wat q.vals.length).2&&(mapW t.wins 3 q.at_ q.count).2):=by
  unfold piecesF
  rw [if_neg Y21,if_neg Y21,if_neg Y21,if_neg Y21,if_pos Y21]
 refine jO 4 ?_;rotate_left
 refine rg [4,5,6] (k:=rB (k:=rs (k:=rg [4,5,6] (k:=rR (k:=?_)))))
 simp only [decide_eq_true_eq,decide_eq_false_iff_not] at *
 have hP:piecesF t q=([],[],true):=by
  unfold piecesF
  rw [if_neg Y21,if_neg Y21,if_neg Y21,if_neg Y21,if_neg Y21]
 refine jO 4 ?_;rotate_left
 any_goals
  refine jI 3 ?_
  refine Run.drawC [] [4,5,6] Tryz.mixed Y26 ?_
  refine jO 5 ?_;rotate_left
 any_goals
  refine jI 2 ?_
  refine Run.drawC [] [4,5,6] Tryz.mixed Y26 ?_
  refine jO 6 ?_;rotate_left
 any_goals
  refine jI 5 ?_
  refine DetC.pre (pre:=[_,_,_]) au ?_
  refine jO 7 ?_;rotate_left
 any_goals
  refine jI 1 ?_
  refine Run.drawC [] [4,5,6] Tryz.mixed Y26 ?_
  refine jO 8 ?_;rotate_left
 any_goals
  refine jI 6 ?_
  refine DetC.pre (pre:=[_,_,_]) au ?_
  refine jO 9 ?_;rotate_left
 any_goals
  refine jI 7 ?_
  refine DetC.call au au au Y26 (part_space) ?_
  refine jO 10 ?_;rotate_left
 any_goals
  refine jI 9 ?_
  refine DetC.call au au au Y26 (part_space) ?_
  refine jO 11 ?_;rotate_left
 any_goals
  refine jI 8 ?_
  refine DetC.pre (pre:=[_,_,_]) au ?_
  refine jO 12 ?_;rotate_left
 any_goals
  refine jI 10 ?_
  refine DetC.pre (pre:=[_,_,_,_]) au ?_
  refine jO 13 ?_;rotate_left
 any_goals
  refine jI 12 ?_
  refine DetC.call au au au Y26 (part_space) ?_
  refine jO 14 ?_;rotate_left
 any_goals
  refine jI 11 ?_
  refine DetC.pre (pre:=[_,_]) au ?_
  refine jO 15 ?_;rotate_left
 any_goals
  refine jI 13 ?_
  refine DetC.call au au au Y26 (window_Map (l:=t.wins) ht.wins ht.bw hq.at_ hq.count) ?_
  refine jO 16 ?_;rotate_left
 any_goals
  refine jI 15 ?_
  refine DetC.call au au au Y26 (window_Map (l:=t.wins) ht.wins ht.bw hq.at_ i64_1) ?_
  refine jO 17 ?_;rotate_left
 any_goals
  refine jI 14 ?_
  refine DetC.pre (pre:=[_,_,_,_]) au ?_
  refine jO 18 ?_;rotate_left
 any_goals
  refine jI 18 ?_
  refine DetC.call au au au Y26 (window_Map (l:=t.wins) ht.wins ht.bw hq.at_ hq.count) ?_
  refine jO 19 ?_;rotate_left
 any_goals
  refine jI 16 ?_
  refine DetC.all au ?_
  refine jO 20 ?_;rotate_left
 any_goals
  refine jI 20 ?_
  refine re (k:=rB (k:=rs (k:=rg [4,5,6] (k:=rR (k:=?_)))))
  refine jO 21 ?_;rotate_left
 any_goals
  refine jI 17 ?_
  refine DetC.all au ?_
  refine jO 22 ?_;rotate_left
 any_goals
  refine jI 22 ?_
  refine re (k:=rB (k:=rs (k:=rg [4,5,6] (k:=rR (k:=?_)))))
  refine jO 23 ?_;rotate_left
 any_goals
  refine jI 19 ?_
  refine DetC.all au ?_
  refine jO 24 ?_;rotate_left
 any_goals
  refine jI 21 ?_
  simp only [decide_eq_true_eq,decide_eq_false_iff_not] at *
  refine jO 25 ?_;rotate_left
 any_goals
  refine jI 24 ?_
  refine re (k:=rB (k:=rs (k:=rg [4,5,6] (k:=rR (k:=?_)))))
  refine jO 26 ?_;rotate_left
 any_goals
  refine jI 23 ?_
  simp only [decide_eq_true_eq,decide_eq_false_iff_not] at *
  refine jO 27 ?_;rotate_left
 any_goals
  refine jI 25 ?_
  have hP:piecesF t q=((mapW t.wins (spaceF q.fn) q.at_ q.count).1,[],(mapW t.wins (spaceF q.fn) q.at_ q.count).2):=by
   unfold piecesF
   rw [if_neg Y21,if_neg Y21,if_pos Y21]
  refine jO 4 ?_;rotate_left
 any_goals
  refine jI 26 ?_
  simp only [decide_eq_true_eq,decide_eq_false_iff_not] at *
  refine jO 28 ?_;rotate_left
 any_goals
  refine jI 27 ?_
  have hP:piecesF t q=((mapW t.wins (spaceF q.fn) q.at_ 1).1,[],(mapW t.wins (spaceF q.fn) q.at_ 1).2):=by
   unfold piecesF
   rw [if_neg Y21,if_pos Y21]
  refine jO 4 ?_;rotate_left
 any_goals
  refine jI 28 ?_
  have hP:piecesF t q=([],mapW t.wins (spaceF q.fn) q.at_ q.count):=by
   unfold piecesF
   rw [if_pos Y21]
  refine jO 4 ?_;rotate_left
 any_goals
  refine jI 4 ?_
  refine Ret.pure (r':=.tuple [.sl .unk ((piecesF t q).1.map Pc.pv),.sl .unk ((piecesF t q).2.1.map Pc.pv),.bool (piecesF t q).2.2]) (by simp only [Tryz.f87,go_sem,↓reduceIte]<;>rfl) (by rw [hP]<;>simp only [PV.weak,PV.weaks,weaks_pcs,List.map_nil]) (by simp only [PV.blw,PV.blws,and_true,true_and];exact ⟨⟨fun t z e=>Y20,blws_pcs _ _⟩,fun t z e=>Y20,blws_pcs _ _⟩) hwf Y36 ⟨rfl,rfl⟩
attribute [local go_sem] weaks_pcs weaks_bools set_set Req.pv
set_option maxRecDepth 100000 in
theorem part_Code {t:Ten} (ht:t.ok) {q:Req} (hq:q.ok) {s:St}:ACalls Tryz.prog 86 [t.pv,q.pv] s (fun r s'=>r=.int .i64 (codeP t q)∧s'=s):=by
 refine go Tryz.func86 (k:=fun hwf H=>?_)
 obtain ⟨P,hP⟩:∃ P,P=piecesF t q:=⟨_,rfl⟩
 have hPl:=pieces_len t q
 rw [← hP] at hPl
 refine rs (k:=rg [2,3] (k:=rs (k:=rr (k:=ro (pre:=[_]) (k:=rC (h:=pdu_Right (q:=q)) (k:=rh [2,3,5] (k:=rs (k:=rb (k:=rs (k:=?_))))))))))
 have hpos:¬ rightF q=15→0≤q.fn∧q.fn≤31:=fun h=>by
  have h1:hasF q.fn=true:=by
   cases e:hasF q.fn with
   | true=>rfl
   | false=>exact absurd (by unfold rightF;rw [if_pos e]) h
  have:=has_cases h1
  omega
 refine rr (k:=ro (pre:=[_,_,_]) (k:=rQ 14 (ht:=fun hg2=>?_) (hf:=fun hg2=>?_)))
 refine rg0 (k:=rg0 (k:=rg0 (k:=rg0 (k:=rg0 (k:=rg0 (k:=rg0 (k:=rh [2,3,5,11] (k:=rc (ht:=fun hc0=>?_) (hf:=fun hc0=>?_)))))))))
 refine jO 1 ?_;rotate_left
 ·cases hc0
 have hp:=hpos (of_decide_eq_false hg2)
 have h031:((0:Int)≤q.fn)=True:=eq_true hp.1
 have hbit:=hasFn_bit ht hp
 have H:=aj h031 (aj hbit H)
 refine rg1 (k:=rg1 (k:=rg1 (k:=rg1 (k:=rg1 (k:=rg1 (k:=rg1 (k:=rh [2,3,5,11] (k:=rc (ht:=fun hc0=>?_) (hf:=fun hc0=>?_)))))))))
 refine jO 1 ?_;rotate_left
 refine rs (k:=rr (k:=ro (pre:=[_,_,_,_]) (k:=rG (h:=fun hb=>pdu_Counts (q:=q)) (k:=rh [2,3,23] (k:=rc (ht:=fun hc1=>?_) (hf:=fun hc1=>?_))))))
 refine jO 1 ?_;rotate_left
 refine rk (k:=rB (k:=rs (k:=rr (k:=ro (pre:=[_,_]) (k:=?_)))))
 refine RunO.callw au au au Y26 ((part_pieces ht hq).mono ?_)
 rintro r s9 ⟨rfl,hs⟩
 subst s9
 rw [← hP]
 refine rh [6,7,8] (k:=rs (k:=rb (k:=rs (k:=rg [6,7,38] (k:=rc (ht:=fun hc2=>?_) (hf:=fun hc2=>?_))))))
 refine jO 1 ?_;rotate_left
 refine rs (k:=?_)
 have hw:IntKind.i64.wrap ((P.1.length:Int)+(P.2.1.length:Int))=(P.1.length:Int)+(P.2.1.length:Int):=wrap_i64 Y21
 have H:=aj hw H
 refine rg [41] (k:=rc (ht:=fun hc3=>?_) (hf:=fun hc3=>?_))
 refine jO 1 ?_;rotate_left
 refine rk (k:=rB (k:=rs (k:=rg [4] (k:=rR (k:=rP (by simp only [Tryz.f86,go_sem];rfl) hwf ⟨?_,rfl⟩)))))
 refine jO 2 ?_;rotate_left
 any_goals
  refine jI 1 ?_
  refine rs (k:=rg [4] (k:=rR (k:=rP (by simp only [Tryz.f86,go_sem];rfl) hwf ⟨?_,rfl⟩)))
  refine jO 2 ?_;rotate_left
 any_goals
  refine jI 2 ?_
  refine congrArg (PV.int .i64) ?_
  refine jO 3 ?_;rotate_left
 any_goals
  refine jI 3 ?_
  subst hP
  refine jO 4 ?_;rotate_left
 any_goals
  refine jI 4 ?_
  simp only [Bool.or_eq_true,Bool.or_eq_false_iff,Bool.not_eq_true',Bool.not_eq_false',decide_eq_true_eq,decide_eq_false_iff_not] at *
  refine jO 5 ?_;rotate_left
 any_goals
  refine jI 5 ?_
  unfold codeP
  refine jO 6 ?_;rotate_left
 any_goals
  refine jI 6 ?_
  first
   |(rw [if_pos (by first | exact .inl hg2 | exact .inr hc0)];done)
   |(have n1:¬ (rightF q=15∨hasFn t q.fn=false):=by rintro (h | h);exact hg2 h;rw [hc0] at h;cases h
     rw [if_neg n1]
     first
     |(rw [if_pos (by rcases hc1 with h | h;exact .inl h;exact .inr h)];done)
     |(have n2:¬ (¬ rightF q=0∨countF q=false):=by rintro (h | h);exact h hc1.1;rw [hc1.2] at h;cases h
       rw [if_neg n2]
       first
       |(rw [if_pos hc2];done)
       |(rw [if_neg (by rw [hc2];decide)]
         first
         |(rw [if_pos Y21];done)
         |(rw [if_neg Y21];done))))
attribute [local go_sem] Pc.pv set_set
theorem part_read {fn:Int} {p:Pc} {s:St}:ACalls Tryz.prog 88 [.int .i64 fn,p.pv] s (fun r s'=>r=ptV (readP fn p)∧s'=s):=by
 refine go Tryz.func88 (k:=fun hwf H=>?_)
 refine rs (k:=rg [0,3,4] (k:=rs (k:=rg [4] (k:=rR (k:=rP (by simp only [Tryz.f88,go_sem];rfl) hwf ⟨?_,rfl⟩)))))
 rfl
attribute [local go_sem] weaks_pts
theorem clip_Pt {xs:List (Req × Bool)} {s:St}:ACalls Tryz.prog 92 [.sl .unk (xs.map ptV)] s (fun r s'=>r=.sl .unc (xs.map ptV)∧s'=s):=by
 refine go Tryz.func92 (k:=fun hwf H=>?_)
 have hfull:(xs.map ptV).take xs.length=xs.map ptV:=by rw [← List.length_map (f:=ptV),List.take_length]
 have H:=aj hfull H
 refine rs (k:=rg [0] (k:=rs (k:=rg [2] (k:=rR (k:=?_)))))
 refine Ret.pureK (r:=.sl .unc (xs.map ptV)) au (by simp only [PV.blw];exact ⟨fun t z e=>Y20,blws_pts _ _⟩) hwf (fun _ _=>rfl) ⟨rfl,rfl⟩
end Go.Proofs
namespace Go.Proofs
open Go.PM
set_option maxHeartbeats 2000000
attribute [local go_sem] weaks_pts weaks_pcs weaks_bools set_set Req.pv
theorem Y168 {p:Prop} (h:p:=by intro p hp;rw [List.mem_singleton.1 hp,Tryz.cz157];exact ⟨rfl,rfl⟩):p:=h
theorem Y226 {p:Prop} (h:p:=by first | omega |(simp;omega)):p:=h
theorem Y274 {p:Prop} (h:p:=by simp only [Tryz.f63,go_sem,↓reduceIte]<;>rfl):p:=h
theorem Y275 {p:Prop} (h:p:=by simp only [PV.blw,PV.blws,and_true];exact ⟨fun t z e=>Y20,blws_pts _ _⟩):p:=h
theorem Y276 {p:Prop} (h:p:=by rw [Tryz.cz157];exact hE.gr.mono fun t e=>blk_new_ne (by have:=(hE.tk _ _ e).2;omega)):p:=h
set_option maxRecDepth 100000 in
theorem part_Split {t:Ten} (ht:t.ok) {q:Req} (hq:q.ok) {s:St}:ACalls Tryz.prog 63 [t.pv,q.pv] s (fun r s'=>r=.tuple [.sl .unk ((splitF t q).1.map ptV),.int .i64 (splitF t q).2]∧s'=s):=by
 refine go Tryz.func63 (k:=fun hwf H=>?_)
 obtain ⟨W,hW⟩:∃ W,W=(piecesF t q).1:=⟨_,rfl⟩
 obtain ⟨R,hR⟩:∃ R,R=(piecesF t q).2.1:=⟨_,rfl⟩
 have hPl:=pieces_len t q
 rw [← hW,← hR] at hPl
 refine rs (k:=rg [2,3] (k:=rs (k:=rs (k:=rr (k:=ro (pre:=[_,_]) (k:=rC (h:=part_Code ht hq) (k:=rh [2,3,6] (k:=rs (k:=rg [2,3,6,22] (k:=rc (ht:=fun hc0=>?_) (hf:=fun hc0=>?_)))))))))))
 ·refine rs (k:=rg [4,5] (k:=rR (k:=?_)))
  have hcd:¬ codeP t q=0:=Y86
  refine Ret.pure (r':=.tuple [.sl .unk [],.int .i64 (codeP t q)]) Y274 rfl Y34 hwf Y36 ⟨by rw [split_no hcd];rfl,rfl⟩
 refine rk (k:=rs (k:=?_))
 have hcd:codeP t q=0:=Y86
 have hok:=code_0 hcd
 have hcn:=cnt_le hok
 have hnb:=hq.nb
 have hnv:=hq.nv
 refine rg [2,3,7] (k:=rs (k:=rr (k:=ro (pre:=[_,_]) (k:=?_))))
 refine RunO.callw au au au Y26 ((part_pieces ht hq).mono ?_)
 rintro r s9 ⟨rfl,hs⟩
 subst s9
 rw [← hW,← hR]
 refine rh [3,7,8,9] (k:=rs (k:=rs (k:=rg [3,7,8,9,33] (k:=rc (ht:=fun hc1=>?_) (hf:=fun hc1=>?_)))))
 ·refine rs (k:=?_)
  have e22:q.fn=22:=of_decide_eq_true hc1
  obtain ⟨p,hp1,hp2,hsp⟩:=split_mask hcd e22
  rw [← hR] at hp1
  have hRp:(R.map Pc.pv)[0]? =some (.agg [.int .i64 p.at_,.int .i64 p.phys,.int .i64 p.cnt]):=by
   cases R with
   | nil=>cases hp1
   | cons a l=>cases hp1;rfl
  have hRl:(0<R.length)=True:=eq_true (by cases R with | nil=>cases hp1 | cons a l=>simp)
  have H:=aj hRp (aj hRl H)
  refine rg [9,11] (k:=rs (k:=rr (k:=ro (pre:=[_,_,_]) (k:=rC (h:=part_read (p:=p)) (k:=ro (pre:=[_]) (k:=rO (k:=ro (pre:=[_,_]) (k:=rO (k:=rh [4,5] (k:=rR (k:=?_)))))))))))
  refine Ret.pure (r':=.tuple [.sl .unk ((splitF t q).1.map ptV),.int .i64 (splitF t q).2]) Y274 (by rw [hsp];simp only [PV.weak,PV.weaks,weak_pt];rfl) Y275 hwf Y36 ⟨rfl,rfl⟩
 refine rk (k:=rs (k:=rs (k:=?_)))
 have n22:¬ q.fn=22:=of_decide_eq_false hc1
 have hsp:=split_else hcd n22
 rw [← hW,← hR] at hsp
 refine rg [3,7,9,47,48,49] (k:=rb (k:=?_))
 refine Run.loop (fun e s'=>∃ (i:Nat) (els:List PV) (kk:SK),e=[(3,.ptr (s.nxt+1) 0 0),(7,.sl kk els),(9,.sl .unk (R.map Pc.pv)),(47,.sl .unk (W.map Pc.pv)),(48,.int .i64 (W.length:Int)),(49,.int .i64 (i:Int))]∧i≤W.length∧els.length=i∧s.nxt+2≤s'.nxt∧s'.blk (s.nxt+1)=some (.row 47 [.agg [.int .i64 q.fn,.int .i64 q.at_,.int .i64 q.count,.int .i64 q.wat,.int .i64 q.sub,.sl .unk (q.bits.map PV.bool),.sl .unk (q.vals.map (PV.int .u16)),.int .u16 q.and_,.int .u16 q.or_]])∧ElsAt 10 s s' kk els (((W.take i).map (writeP q)).map ptV)) (fun e s'=>W.length-ivar e 49) ?_ ?_
 ·exact ⟨0,[],.nil,rfl,Nat.zero_le _,rfl,Nat.le_refl _,blk_new_eq,rfl,Y217,((Fr.refl hwf).new _).new _,.inl ⟨rfl,rfl⟩,fun t z e=>Y20⟩
 rintro e s1 ⟨i,els,kk,rfl,hi,hel,hnx,hqb,hE⟩
 have hFn:=hE.fr.nxt
 have H:=aj hqb H
 refine rs (k:=rg [3,7,9,47,48,49,50] (k:=rs (k:=rc (ht:=fun hc2=>?_) (hf:=fun hc2=>?_))))
 ·refine rk (k:=rs (k:=rb (k:=rs (k:=?_))))
  have hil:i<W.length:=by have:=of_decide_eq_true hc2;omega
  obtain ⟨p,hpe⟩:∃ z_,W[i]'hil=z_:=⟨_,rfl⟩
  have hxp:(W.map Pc.pv)[i]? =some (.agg [.int .i64 p.at_,.int .i64 p.phys,.int .i64 p.cnt]):=by rw [map_get hil,hpe];rfl
  have hilT:(i<W.length)=True:=eq_true hil
  have hw:IntKind.i64.wrap ((i:Int)+1)=((i+1:Nat):Int):=Y28
  have hpW:p∈(piecesF t q).1:=by rw [← hW,← hpe];exact List.getElem_mem _
  have hpf:=pieces_fw hpW
  have hpb:=(pieces_w hpW).b
  unfold wposF wlenF at hpb
  have H:=aj hxp (aj hilT (aj hw H))
  refine rg [3,7,9,13,47,48,49] (k:=rs (k:=rg [3,7,9,13,14,47,48,49] (k:=rs (k:=rs (k:=?_)))))
  refine Run.genS fun S1 hS=>?_
  obtain ⟨p13,h13⟩:∃ x,x=s1.nxt:=⟨_,rfl⟩
  obtain ⟨p14,h14⟩:∃ x,x=s1.nxt+1:=⟨_,rfl⟩
  rw [← h14,← h13]
  have hx13:S1.blk p13=some (.row 155 [.agg [.int .i64 p.at_,.int .i64 p.phys,.int .i64 p.cnt]]):=by rw [hS,blk_set_ne Y21,blk_new_ne (by show p13≠s1.nxt+1;omega),h13];exact blk_new_eq
  have hx14:S1.blk p14=some (.row 47 [.agg [.int .i64 q.fn,.int .i64 p.phys,.int .i64 p.cnt,.int .i64 0,.int .i64 0,.sl .nil [],.sl .nil [],.int .u16 0,.int .u16 0]]):=by rw [hS,h14];exact blk_set_self _ _ _
  have hxq:S1.blk (s.nxt+1)=some (.row 47 [.agg [.int .i64 q.fn,.int .i64 q.at_,.int .i64 q.count,.int .i64 q.wat,.int .i64 q.sub,.sl .unk (q.bits.map PV.bool),.sl .unk (q.vals.map (PV.int .u16)),.int .u16 q.and_,.int .u16 q.or_]]):=by rw [hS,blk_set_ne Y21,blk_new_ne (by show s.nxt+1≠s1.nxt+1;omega),blk_new_ne Y21];exact hqb
  have hn1:S1.nxt=p14+1:=by rw [hS,h14];rfl
  have hE1:ElsAt 10 s S1 kk els (((W.take i).map (writeP q)).map ptV):=by
   rw [hS]
   exact hE.to ((hE.fr.new _).newset _ _ rfl) (by show s1.nxt≤s1.nxt+1+1;omega) fun t z e=>by rw [blk_set_ne (by have:=(hE.tk t z e).2;omega),blk_new_ne (by have:=(hE.tk t z e).2;show t≠s1.nxt+1;omega),blk_new_ne (by have:=(hE.tk t z e).2;omega)]
  clear hS
  have n1:(p13=p14)=False:=eq_false Y21
  have n2:(p14=p13)=False:=eq_false Y21
  have n3:(s.nxt+1=p14)=False:=eq_false Y21
  have n4:(p14=s.nxt+1)=False:=eq_false Y21
  have n5:(s.nxt+1=p13)=False:=eq_false Y21
  have H:=aj hx13 (aj hx14 (aj hxq (aj n1 (aj n2 (aj n3 (aj n4 (aj n5 H)))))))
  refine rg [3,7,9,13,14,47,48,49,61] (k:=?_)
  refine Run.join (fun e s'=>∃ (F C:Int) (B:List Bool) (V:List Int) (kb kv:SK),e=[(3,.ptr (s.nxt+1) 0 0),(7,.sl kk els),(9,.sl .unk (R.map Pc.pv)),(14,.ptr p14 0 0),(47,.sl .unk (W.map Pc.pv)),(48,.int .i64 (W.length:Int)),(49,.int .i64 (i:Int))]∧(∃ X,s'=S1.set p14 X)∧s'.blk p14=some (.row 47 [.agg [.int .i64 F,.int .i64 p.phys,.int .i64 C,.int .i64 0,.int .i64 0,.sl kb (B.map PV.bool),.sl kv (V.map (PV.int .u16)),.int .u16 0,.int .u16 0]])∧writeP q p=(⟨F,p.phys,C,0,0,B,V,0,0⟩,true)) ?_ ?_
  ·rintro e S2 ⟨F,C,B,V,kb,kv,rfl,⟨X2,hS2⟩,h2b,hwp⟩
   have hn2:S2.nxt=p14+1:=by rw [hS2];exact hn1
   have h2q:S2.blk (s.nxt+1)=some (.row 47 [.agg [.int .i64 q.fn,.int .i64 q.at_,.int .i64 q.count,.int .i64 q.wat,.int .i64 q.sub,.sl .unk (q.bits.map PV.bool),.sl .unk (q.vals.map (PV.int .u16)),.int .u16 q.and_,.int .u16 q.or_]]):=by rw [hS2,blk_set_ne Y21];exact hxq
   have hE2:ElsAt 10 s S2 kk els (((W.take i).map (writeP q)).map ptV):=by
    rw [hS2]
    exact hE1.to (hE1.fr.set Y21 Y21 _) (Nat.le_refl _) fun t z e=>blk_set_ne (hE1.nr hx14 t z e)
   clear hS2
   have H:=aj h2b (aj h2q (aj n1 (aj n2 (aj n3 (aj n4 (aj n5 (aj hw trivial)))))))
   refine rs (k:=rH 10 [7,9] [[false,false],[true,false],[true,true]] [S2,(S2.set p14 (some (.row 47 [.agg [.int .i64 F,.int .i64 p.phys,.int .i64 C,.int .i64 0,.int .i64 0,.sl .unc (B.map PV.bool),.sl kv (V.map (PV.int .u16)),.int .u16 0,.int .u16 0]]))),(S2.set p14 (some (.row 47 [.agg [.int .i64 F,.int .i64 p.phys,.int .i64 C,.int .i64 0,.int .i64 0,.sl .unc (B.map PV.bool),.sl .unc (V.map (PV.int .u16)),.int .u16 0,.int .u16 0]])))] Tryz.mixed (k:=?_))
   refine dP [0] (pre:=[_,_]) (k:=?_)
   refine dC [0] (h:=fun s _=>clip_bool (xs:=B)) (k:=?_)
   refine dP [0] (pre:=[_,_]) (k:=?_)
   refine dC [0] (h:=fun s _=>clip_u16 (xs:=V)) (k:=?_)
   refine dP [0] (pre:=[_]) (k:=?_)
   refine dE [(0,1)] (k:=?_)
   refine dP [1] (pre:=[_]) (k:=?_)
   refine dE [(1,2)] (k:=?_)
   refine DetHC.nil ?_
   refine rl [3,7,9,14,47,48,49] (k:=rr (k:=ro (pre:=[_,_,_]) (k:=rO (k:=?_))))
   refine RunO.grow (xs:=els) (ys:=[_]) au au au Tryz.td132 (by rw [Tryz.zp157];rfl) (by unfold isEls;rw [Tryz.cz157];exact hE2.el) Y168 (by rw [Tryz.by157];decide) (by rw [Tryz.by157];simp;omega) (by rw [Tryz.cz157];exact hE2.gr.mono fun t e=>blk_set_ne (hE2.nr h2b _ _ e)) Y23 ?_
   intro k' s3 hgr' htm
   rw [Tryz.cz157] at hgr'
   refine rh [3,7,9,47,48,49] (k:=rB (k:=rg [3,7,9,47,48,49] (k:=?_)))
   have h3x:S2.nxt≤s3.nxt:=htm.nxt
   refine Run.lp ⟨⟨i+1,_,k',rfl,Y21,Y267,Y21,?_,?_⟩,?_⟩
   ·rw [htm.rest (s.nxt+1) (by show s.nxt+1<S2.nxt;omega) (fun z e=>(hE2.nr h2q _ z e) rfl),blk_set_ne Y21];exact h2q
   ·rw [take_get hil,hpe,List.map_append,List.map_append]
    exact hE2.snoc rfl rfl (by rw [hwp];simp only [ptV,PV.weak,PV.weaks,weaks_bools,weaks_u16]) (by exact Nat.le_refl _) (hE2.fr.set Y21 Y21 _) hgr' htm
   ·exact Y32
  intro hJb2
  refine rb (k:=rs (k:=rg [3,7,9,13,14,47,48,49,61,62] (k:=rc (ht:=fun hc3=>?_) (hf:=fun hc3=>?_))))
  ·refine rr (k:=ro (pre:=[_,_]) (k:=rC (h:=clone_bool (xs:=q.bits) Y226) (k:=rh [3,7,9,14,47,48,49] (k:=rB (k:=?_)))))
   have e9:q.fn=5:=of_decide_eq_true hc3
   refine hJb2 _ _ ⟨q.fn,0,q.bits,[],.unk,.nil,rfl,⟨_,rfl⟩,blk_set_self _ _ _,?_⟩
   unfold writeP
   rw [e9]
   rfl
  ·refine rs (k:=rg [3,7,9,13,14,47,48,49,61,69] (k:=rc (ht:=fun hc4=>?_) (hf:=fun hc4=>?_)))
   ·refine rr (k:=ro (pre:=[_,_]) (k:=rC (h:=clone_u16 (xs:=q.vals) Y226) (k:=rh [3,7,9,14,47,48,49] (k:=rB (k:=?_)))))
    have e9:q.fn=6:=of_decide_eq_true hc4
    refine hJb2 _ _ ⟨q.fn,0,[],q.vals,.nil,.unk,rfl,⟨_,rfl⟩,blk_set_self _ _ _,?_⟩
    unfold writeP
    rw [e9]
    rfl
   ·refine rs (k:=rg [3,7,9,13,14,47,48,49,61,76] (k:=rc (ht:=fun hc5=>?_) (hf:=fun hc5=>?_)))
    ·simp only [decide_eq_true_eq,decide_eq_false_iff_not] at hc5
     have h15:=hcn.1 hc5
     rw [if_neg Y21,if_neg Y21,if_neg Y21] at hpb
     have hb1:0≤p.at_-q.at_∧0≤p.cnt∧p.at_-q.at_+p.cnt≤q.bits.length:=Y21
     obtain ⟨a0,ha0⟩:∃ a:Nat,p.at_-q.at_=a:=⟨(p.at_-q.at_).toNat,Y21⟩
     obtain ⟨c0,hc0'⟩:∃ a:Nat,p.cnt=a:=⟨p.cnt.toNat,Y21⟩
     have hwo:IntKind.i64.wrap (p.at_-q.at_)=(a0:Int):=by rw [ha0];exact wrap_i64 Y21
     have hs1:(q.bits.map PV.bool).drop a0=(q.bits.drop a0).map PV.bool:=List.map_drop.symm
     have hs2:((q.bits.drop a0).map PV.bool).take c0=((q.bits.drop a0).take c0).map PV.bool:=List.map_take.symm
     have hl1:((a0:Int)≤(q.bits.length:Int))=True:=eq_true Y21
     have hl2:((c0:Int)≤((q.bits.drop a0).length:Int))=True:=eq_true (by rw [List.length_drop];omega)
     have hln:((q.bits.drop a0).map PV.bool).take ((q.bits.length:Int)-(a0:Int)).toNat=(q.bits.drop a0).map PV.bool:=List.take_of_length_le Y216
     have H:=aj hwo (aj hs1 (aj hs2 (aj hl1 (aj hl2 (aj hln (aj hc0' H))))))
     refine rH 14 [13] [[false],[true]] [S1,(S1.set p14 (some (.row 47 [.agg [.int .i64 q.fn,.int .i64 p.phys,.int .i64 p.cnt,.int .i64 0,.int .i64 0,.sl .unk (((q.bits.drop a0).take c0).map PV.bool),.sl .nil [],.int .u16 0,.int .u16 0]])))] Tryz.mixed (k:=?_)
     refine dP [0] (pre:=[_,_,_,_,_,_,_,_,_,_,_]) (k:=?_)
     refine dC [0] (h:=fun s _=>clone_bool (xs:=(q.bits.drop a0).take c0) Y226) (k:=?_)
     refine dP [0] (pre:=[_]) (k:=?_)
     refine dE [(0,1)] (k:=?_)
     refine DetHC.nil ?_
     refine rl [3,7,9,14,47,48,49] (k:=rB (k:=?_))
     have e9:q.fn=15:=hc5
     refine hJb2 _ _ ⟨q.fn,p.cnt,((q.bits.drop a0).take c0),[],.unk,.nil,rfl,⟨_,rfl⟩,blk_set_self _ _ _,?_⟩
     unfold writeP
     rw [e9,ha0,hc0']
     rfl
    ·refine rs (k:=rg [3,7,9,13,14,47,48,49,61,91] (k:=rc (ht:=fun hc6=>?_) (hf:=fun hc6=>?_)))
     ·simp only [decide_eq_true_eq,decide_eq_false_iff_not] at hc6
      have h16:=(hcn.2.1 hc6).1
      rw [if_neg Y21,if_neg Y21,if_neg Y21] at hpb
      have hb1:0≤p.at_-q.at_∧0≤p.cnt∧p.at_-q.at_+p.cnt≤q.vals.length:=Y21
      obtain ⟨a0,ha0⟩:∃ a:Nat,p.at_-q.at_=a:=⟨(p.at_-q.at_).toNat,Y21⟩
      obtain ⟨c0,hc0'⟩:∃ a:Nat,p.cnt=a:=⟨p.cnt.toNat,Y21⟩
      have hwo:IntKind.i64.wrap (p.at_-q.at_)=(a0:Int):=by rw [ha0];exact wrap_i64 Y21
      have hs1:(q.vals.map (PV.int .u16)).drop a0=(q.vals.drop a0).map (PV.int .u16):=List.map_drop.symm
      have hs2:((q.vals.drop a0).map (PV.int .u16)).take c0=((q.vals.drop a0).take c0).map (PV.int .u16):=List.map_take.symm
      have hl1:((a0:Int)≤(q.vals.length:Int))=True:=eq_true Y21
      have hl2:((c0:Int)≤((q.vals.drop a0).length:Int))=True:=eq_true (by rw [List.length_drop];omega)
      have hln:((q.vals.drop a0).map (PV.int .u16)).take ((q.vals.length:Int)-(a0:Int)).toNat=(q.vals.drop a0).map (PV.int .u16):=List.take_of_length_le Y216
      have H:=aj hwo (aj hs1 (aj hs2 (aj hl1 (aj hl2 (aj hln (aj hc0' H))))))
      refine rH 14 [13] [[false],[true]] [S1,(S1.set p14 (some (.row 47 [.agg [.int .i64 q.fn,.int .i64 p.phys,.int .i64 p.cnt,.int .i64 0,.int .i64 0,.sl .nil [],.sl .unk (((q.vals.drop a0).take c0).map (PV.int .u16)),.int .u16 0,.int .u16 0]])))] Tryz.mixed (k:=?_)
      refine dP [0] (pre:=[_,_,_,_,_,_,_,_,_,_,_]) (k:=?_)
      refine dC [0] (h:=fun s _=>clone_u16 (xs:=(q.vals.drop a0).take c0) Y226) (k:=?_)
      refine dP [0] (pre:=[_]) (k:=?_)
      refine dE [(0,1)] (k:=?_)
      refine DetHC.nil ?_
      refine rl [3,7,9,14,47,48,49] (k:=rB (k:=?_))
      have e9:q.fn=16:=hc6
      refine hJb2 _ _ ⟨q.fn,p.cnt,[],((q.vals.drop a0).take c0),.nil,.unk,rfl,⟨_,rfl⟩,blk_set_self _ _ _,?_⟩
      unfold writeP
      rw [e9,ha0,hc0']
      rfl
     ·refine rs (k:=rg [3,7,9,13,14,47,48,49,106] (k:=rc (ht:=fun hc7=>?_) (hf:=fun hc7=>?_)))
      ·simp only [decide_eq_true_eq,decide_eq_false_iff_not] at hc7
       rw [if_pos hc7,if_neg Y21,if_pos hc7] at hpb
       have hb1:0≤p.at_-q.wat∧0≤p.cnt∧p.at_-q.wat+p.cnt≤q.vals.length:=Y21
       obtain ⟨a0,ha0⟩:∃ a:Nat,p.at_-q.wat=a:=⟨(p.at_-q.wat).toNat,Y21⟩
       obtain ⟨c0,hc0'⟩:∃ a:Nat,p.cnt=a:=⟨p.cnt.toNat,Y21⟩
       have hwo:IntKind.i64.wrap (p.at_-q.wat)=(a0:Int):=by rw [ha0];exact wrap_i64 Y21
       have hs1:(q.vals.map (PV.int .u16)).drop a0=(q.vals.drop a0).map (PV.int .u16):=List.map_drop.symm
       have hs2:((q.vals.drop a0).map (PV.int .u16)).take c0=((q.vals.drop a0).take c0).map (PV.int .u16):=List.map_take.symm
       have hl1:((a0:Int)≤(q.vals.length:Int))=True:=eq_true Y21
       have hl2:((c0:Int)≤((q.vals.drop a0).length:Int))=True:=eq_true (by rw [List.length_drop];omega)
       have hln:((q.vals.drop a0).map (PV.int .u16)).take ((q.vals.length:Int)-(a0:Int)).toNat=(q.vals.drop a0).map (PV.int .u16):=List.take_of_length_le Y216
       have H:=aj hwo (aj hs1 (aj hs2 (aj hl1 (aj hl2 (aj hln (aj hc0' H))))))
       refine rH 16 [13,15] [[false,false],[true,false],[true,true]] [S1,(S1.set p14 (some (.row 47 [.agg [.int .i64 16,.int .i64 p.phys,.int .i64 p.cnt,.int .i64 0,.int .i64 0,.sl .nil [],.sl .nil [],.int .u16 0,.int .u16 0]]))),(S1.set p14 (some (.row 47 [.agg [.int .i64 16,.int .i64 p.phys,.int .i64 p.cnt,.int .i64 0,.int .i64 0,.sl .nil [],.sl .unk (((q.vals.drop a0).take c0).map (PV.int .u16)),.int .u16 0,.int .u16 0]])))] Tryz.mixed (k:=?_)
       refine dP [0] (pre:=[_,_,_,_,_,_,_,_,_,_,_]) (k:=?_)
       refine dC [0] (h:=fun s _=>clone_u16 (xs:=(q.vals.drop a0).take c0) Y226) (k:=?_)
       refine dP [0] (pre:=[_]) (k:=?_)
       refine dE [(0,1)] (k:=?_)
       refine dP [1] (pre:=[_]) (k:=?_)
       refine dE [(1,2)] (k:=?_)
       refine DetHC.nil ?_
       refine rl [3,7,9,14,47,48,49] (k:=rB (k:=?_))
       have e9:q.fn=23:=hc7
       refine hJb2 _ _ ⟨16,p.cnt,[],((q.vals.drop a0).take c0),.nil,.unk,rfl,⟨_,rfl⟩,blk_set_self _ _ _,?_⟩
       unfold writeP
       rw [e9,ha0,hc0']
       rfl
      ·refine rk (k:=rB (k:=?_))
       simp only [decide_eq_true_eq,decide_eq_false_iff_not] at *
       omega
 refine rX (k:=rs (k:=rs (k:=rg [3,7,136,137,138] (k:=rb (k:=?_)))))
 refine Run.loop (fun e s'=>∃ (i:Nat) (els:List PV) (kk:SK),e=[(3,.ptr (s.nxt+1) 0 0),(7,.sl kk els),(136,.sl .unk (R.map Pc.pv)),(137,.int .i64 (R.length:Int)),(138,.int .i64 (i:Int))]∧i≤R.length∧els.length=W.length+i∧s.nxt+2≤s'.nxt∧s'.blk (s.nxt+1)=some (.row 47 [.agg [.int .i64 q.fn,.int .i64 q.at_,.int .i64 q.count,.int .i64 q.wat,.int .i64 q.sub,.sl .unk (q.bits.map PV.bool),.sl .unk (q.vals.map (PV.int .u16)),.int .u16 q.and_,.int .u16 q.or_]])∧ElsAt 10 s s' kk els ((W.map (writeP q)++(R.take i).map (readP (if q.fn=23 then 3 else q.fn))).map ptV)) (fun e s'=>R.length-ivar e 138) ?_ ?_
 ·have hi9:i=W.length:=by have:=of_decide_eq_false hc2;omega
  rw [hi9,List.take_length] at hE
  exact ⟨0,els,kk,rfl,Nat.zero_le _,Y21,hnx,hqb,by rw [List.take_zero,List.map_nil,List.append_nil];exact hE⟩
 rintro e s1 ⟨i,els,kk,rfl,hi,hel,hnx,hqb,hE⟩
 have hFn:=hE.fr.nxt
 have H:=aj hqb H
 refine rs (k:=rg [3,7,136,137,138,139] (k:=rs (k:=rc (ht:=fun hc8=>?_) (hf:=fun hc8=>?_))))
 refine rk (k:=rs (k:=rb (k:=rs (k:=?_))))
 have hil:i<R.length:=by have:=of_decide_eq_true hc8;omega
 obtain ⟨p,hpe⟩:∃ z_,R[i]'hil=z_:=⟨_,rfl⟩
 have hxp:(R.map Pc.pv)[i]? =some (.agg [.int .i64 p.at_,.int .i64 p.phys,.int .i64 p.cnt]):=by rw [map_get hil,hpe];rfl
 have hilT:(i<R.length)=True:=eq_true hil
 have hw:IntKind.i64.wrap ((i:Int)+1)=((i+1:Nat):Int):=Y28
 have H:=aj hxp (aj hilT (aj hw H))
 refine rg [3,7,16,136,137,138] (k:=rs (k:=rg [3,7,16,17,136,137,138] (k:=rs (k:=rs (k:=rg [3,7,16,17,136,137,138,145] (k:=rc (ht:=fun hc9=>?_) (hf:=fun hc9=>?_)))))))
 refine rg [3,7,16,17,136,137,138] (k:=rr (k:=ro (pre:=[_,_,_]) (k:=rC (h:=part_read (p:=p)) (k:=rO (k:=?_)))))
 refine RunO.grow (xs:=els) (ys:=[_]) au au au Tryz.td132 (by rw [Tryz.zp157];rfl) (by unfold isEls;rw [Tryz.cz157];exact hE.el) Y168 (by rw [Tryz.by157];decide) (by rw [Tryz.by157];simp;omega) Y276 Y23 ?_
 intro k' s3 hgr' htm
 rw [Tryz.cz157] at hgr'
 refine rh [3,7,136,137,138] (k:=rB (k:=rg [3,7,136,137,138] (k:=?_)))
 have h3x:s1.nxt+1≤s3.nxt:=htm.nxt
 have hef:(if q.fn=23 then 3 else q.fn)=3:=if_pos (of_decide_eq_true hc9)
 refine jO 1 ?_;rotate_left
 refine rk (k:=rr (k:=ro (pre:=[_,_,_]) (k:=rC (h:=part_read (p:=p)) (k:=rO (k:=?_)))))
 refine RunO.grow (xs:=els) (ys:=[_]) au au au Tryz.td132 (by rw [Tryz.zp157];rfl) (by unfold isEls;rw [Tryz.cz157];exact hE.el) Y168 (by rw [Tryz.by157];decide) (by rw [Tryz.by157];simp;omega) Y276 Y23 ?_
 intro k' s3 hgr' htm
 rw [Tryz.cz157] at hgr'
 refine rh [3,7,136,137,138] (k:=rB (k:=rg [3,7,136,137,138] (k:=?_)))
 have h3x:s1.nxt+1≤s3.nxt:=htm.nxt
 have hef:(if q.fn=23 then 3 else q.fn)=q.fn:=if_neg (of_decide_eq_false hc9)
 refine jO 1 ?_;rotate_left
 ·refine rX (k:=rs (k:=?_))
  have hi9:i=R.length:=by have:=of_decide_eq_false hc8;omega
  have hwk:PV.weaks els=(splitF t q).1.map ptV:=by rw [hE.wk,hi9,List.take_length,hsp]
  have H:=aj hwk H
  refine rr (k:=ro (pre:=[_]) (k:=rC (h:=clip_Pt (xs:=(splitF t q).1)) (k:=rh [4,5] (k:=rR (k:=?_)))))
  refine Ret.pure (r':=.tuple [.sl .unk ((splitF t q).1.map ptV),.int .i64 (splitF t q).2]) Y274 (by simp only [PV.weak,PV.weaks,weaks_pts,hsp]) Y275 hwf hE.fr.blk ⟨rfl,rfl⟩
 any_goals
  refine jI 1 ?_
  refine Run.lp ⟨⟨i+1,_,k',rfl,Y21,by rw [List.length_append,hel];simp only [List.length_singleton];omega,Y21,?_,?_⟩,?_⟩
  refine jO 2 ?_;rotate_left
  refine jO 3 ?_;rotate_left
  ·exact Y32
 any_goals
  refine jI 3 ?_
  rw [take_get hil,hpe,List.map_append (f:=readP (if q.fn=23 then 3 else q.fn)),← List.append_assoc,List.map_append (f:=ptV)]
  refine jO 4 ?_;rotate_left
 any_goals
  refine jI 2 ?_
  rw [htm.rest (s.nxt+1) (by show s.nxt+1<s1.nxt+1;omega) (fun z e=>(hE.nr hqb _ z e) rfl),blk_new_ne Y21];exact hqb
 any_goals
  refine jI 4 ?_
  exact hE.snoc rfl rfl (by rw [hef];exact weak_pt _) (Nat.le_succ _) (hE.fr.new _) hgr' htm
end Go.Proofs

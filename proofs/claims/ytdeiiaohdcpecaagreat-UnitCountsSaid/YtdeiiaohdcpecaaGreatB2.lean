import Derived.Test.YtdeiiaohdcpecaaGreatB1
import Derived.Test.YtdeiiaohdcpecaaGreatProg
import Derived.KernelRfl
set_option linter.unusedVariables false
set_option linter.unusedSimpArgs false
namespace Go.Proofs
open Go.PM Go
structure Req where
 fn:Int
 at_:Int
 count:Int
 wat:Int
 sub:Int
 bits:List Bool
 vals:List Int
 and_:Int
 or_:Int
 deriving DecidableEq
def Req.pv (q:Req):PV:=.agg [.int .i64 q.fn,.int .i64 q.at_,.int .i64 q.count,.int .i64 q.wat,.int .i64 q.sub,.sl .unk (q.bits.map PV.bool),.sl .unk (q.vals.map (PV.int .u16)),.int .u16 q.and_,.int .u16 q.or_]
structure Rep where
 fn:Int
 code:Int
 at_:Int
 count:Int
 sub:Int
 bits:List Bool
 vals:List Int
 and_:Int
 or_:Int
 data:List Int
 deriving DecidableEq
def Rep.pv (q:Rep):PV:=.agg [.int .i64 q.fn,.int .i64 q.code,.int .i64 q.at_,.int .i64 q.count,.int .i64 q.sub,.sl .unk (q.bits.map PV.bool),.sl .unk (q.vals.map (PV.int .u16)),.int .u16 q.and_,.int .u16 q.or_,.sl .unk (q.data.map (PV.int .u8))]
def OkW (l:List Int):Prop:=∀ x∈l,U16 x
structure Req.ok (q:Req):Prop where
 fn:I64 q.fn
 at_:I64 q.at_
 count:I64 q.count
 wat:I64 q.wat
 sub:I64 q.sub
 vals:OkW q.vals
 and_:U16 q.and_
 or_:U16 q.or_
 nb:q.bits.length≤140737488351232
 nv:q.vals.length*2≤140737488351232
theorem weak_rep (q:Rep):q.pv.weak=q.pv:=by
 simp only [Rep.pv,PV.weak,PV.weaks,weaks_bools,weaks_u16,weaks_u8]
theorem blw_req (n:Nat) (q:Req):q.pv.blw n:=by
 simp only [Req.pv,PV.blw,PV.blws,blws_boolsT,blws_u16T,true_and,and_true]
 exact ⟨fun t z e=>Y20,fun t z e=>Y20⟩
theorem blw_rep (n:Nat) (q:Rep):q.pv.blw n:=by
 simp only [Rep.pv,PV.blw,PV.blws,blws_boolsT,blws_u16T,blws_u8T,true_and,and_true]
 exact ⟨fun t z e=>Y20,fun t z e=>Y20,fun t z e=>Y20⟩
def hasF (fn:Int):Bool:=decide (1≤fn∧fn≤6∨fn=8∨fn=15∨fn=16∨fn=17∨fn=22∨fn=23)
def wordF (n:Int):Bool:=decide (0≤n∧n≤65535)
def readsF (fn:Int):Bool:=decide (1≤fn∧fn≤4)
def bitsF (q:Req):Int:=if q.fn=5 then 1 else if q.fn=15 then q.count else 0
def valsF (q:Req):Int:=if q.fn=6∨q.fn=8 then 1 else if q.fn=16 then q.count else if q.fn=23 then q.vals.length else 0
def fieldsF (q:Req):Bool:=decide ((¬ q.fn=8∧¬ q.fn=17∨q.at_=0)∧((1≤q.fn∧q.fn≤4∨q.fn=15∨q.fn=16∨q.fn=23)∨q.count=0)∧(q.fn=23∨q.wat=0)∧(q.fn=8∨q.sub=0)∧(q.fn=22∨q.and_=0∧q.or_=0))
def rightF (q:Req):Int:=if hasF q.fn=false then 15 else if fieldsF q=false∨wordF q.at_=false∨wordF q.wat=false∨wordF q.sub=false∨wordF q.count=false then 12
 else if ¬ (q.bits.length:Int)=bitsF q∨¬ (q.vals.length:Int)=valsF q∨2040<q.bits.length∨127<q.vals.length then 12 else 0
end Go.Proofs
namespace Go.Proofs
open Go.PM Go
def writeF (q:Req):List Int :=
 q.fn::(if q.fn=17 then [] else if q.fn=8 then num2 q.sub++q.vals.flatMap num2
  else num2 q.at_++(if q.fn=5 then num2 (if q.bits=[true] then 65280 else 0) else if q.fn=6 then q.vals.flatMap num2 else if q.fn=22 then num2 q.and_++num2 q.or_
  else num2 q.count++(if q.fn=15 then ((packB q.bits).length:Int)::packB q.bits else if q.fn=16 then ((q.vals.flatMap num2).length:Int)::q.vals.flatMap num2
   else if q.fn=23 then num2 q.wat++num2 q.vals.length++((q.vals.flatMap num2).length:Int)::q.vals.flatMap num2 else [])))
def bytesF (q:Req):List Int:=if rightF q=0 then writeF q else []
structure RightOk (q:Req):Prop where
 has:hasF q.fn=true
 fields:fieldsF q=true
 wa:wordF q.at_=true
 ww:wordF q.wat=true
 ws:wordF q.sub=true
 wc:wordF q.count=true
 nb:(q.bits.length:Int)=bitsF q
 nv:(q.vals.length:Int)=valsF q
 mb:q.bits.length≤2040
 mv:q.vals.length≤127
theorem right0 {q:Req} (h:rightF q=0):RightOk q:=by
 unfold rightF at h
 by_cases h1:hasF q.fn=false
 ·rw [if_pos h1] at h;cases h
 rw [if_neg h1] at h
 split at h
 ·cases h
 ·rename_i h2
  split at h
  ·cases h
  ·rename_i h3
   simp only [not_or,Bool.not_eq_false,Nat.not_lt,Classical.not_not] at h1 h2 h3
   exact ⟨h1,h2.1,h2.2.1,h2.2.2.1,h2.2.2.2.1,h2.2.2.2.2,h3.1,h3.2.1,h3.2.2.1,h3.2.2.2⟩
theorem right_of {q:Req} (h:RightOk q):rightF q=0:=by
 unfold rightF
 rw [if_neg (by rw [h.has];decide),if_neg (by rw [h.fields,h.wa,h.ww,h.ws,h.wc];decide),if_neg]
 rintro (h1 | h1 | h1 | h1)
 ·exact h1 h.nb
 ·exact h1 h.nv
 ·have:=h.mb;omega
 ·have:=h.mv;omega
theorem flat2_lenX (l:List Int):(l.flatMap num2).length=2*l.length:=by
 induction l with
 | nil=>rfl
 | cons a l ih=>simp only [List.flatMap_cons,List.length_append,ih,List.length_cons];simp [num2];omega
theorem has_cases {fn:Int} (h:hasF fn=true):fn=1∨fn=2∨fn=3∨fn=4∨fn=5∨fn=6∨fn=8∨fn=15∨fn=16∨fn=17∨fn=22∨fn=23:=by
 unfold hasF at h
 have:=of_decide_eq_true h
 omega
def wordsP:List Int→List Int
 | a::b::r=>(256*a+b)::wordsP r
 | _=>[]
def wordsB (l:List Int):Option (List Int):=if l.length%2=0 then some (wordsP l) else none
theorem wordsP_len:∀ (l:List Int),(wordsP l).length=l.length/2
 | []=>rfl
 | [_]=>by simp [wordsP]
 | a::b::r=>by simp [wordsP,wordsP_len r];omega
theorem wordsP_snoc:∀ {l:List Int} {a b:Int},l.length%2=0→wordsP (l++[a,b])=wordsP l++[256*a+b]
 | [],a,b,_=>by simp [wordsP]
 | [_],a,b,h=>by simp at h
 | c::d::r,a,b,h=>by
   simp only [List.cons_append,wordsP]
   rw [wordsP_snoc (l:=r) (by simp at h;omega)]
theorem wordsP_ok:∀ {l:List Int},OkB l→OkW (wordsP l)
 | [],_=>fun x hx=>(List.not_mem_nil hx).elim
 | [_],_=>fun x hx=>(List.not_mem_nil hx).elim
 | a::b::r,h=>by
   intro x hx
   have ha:=h a Y23
   have hb:=h b Y23
   simp only [wordsP,List.mem_cons] at hx
   rcases hx with rfl | hx
   ·unfold U8 at ha hb;unfold U16;omega
   ·exact wordsP_ok (l:=r) (fun y hy=>h y Y310) x hx
theorem wordsB_ok {l:List Int} (h:OkB l):OkW ((wordsB l).getD []):=by
 unfold wordsB
 split
 ·exact wordsP_ok h
 ·exact fun x hx=>(List.not_mem_nil hx).elim
theorem wordsB_len (l:List Int):((wordsB l).getD []).length≤l.length/2:=by
 unfold wordsB
 split
 ·simp [wordsP_len]
 ·simp
def num1 (b:List Int) (a:Int):Int:=(get2 b a).getD 0
def wordsE (b:List Int) (n:Nat):List Int:=(wordsB ((b.drop n).take (b.length-n-(b.length-n)%2))).getD []
def wordsO (b:List Int) (n:Nat):List Int:=(wordsB (b.drop n)).getD []
theorem num1_u16 {b:List Int} (hb:OkB b) (a:Int):U16 (num1 b a):=by
 unfold num1
 cases h:get2 b a with
 | none=>constructor<;>decide
 | some n=>exact get2_bound hb h
def guessF (b:List Int):Req :=
 let f:=(b[0]?).getD 0
 if f=17 then ⟨f,0,0,0,0,[],[],0,0⟩
 else if f=8 then ⟨f,0,0,0,num1 b 1,[],wordsE b 3,0,0⟩
 else if f=5 then ⟨f,num1 b 1,0,0,0,[decide (num1 b 3=65280)],[],0,0⟩
 else if f=6 then ⟨f,num1 b 1,0,0,0,[],wordsE b 3,0,0⟩
 else if f=22 then ⟨f,num1 b 1,0,0,0,[],[],num1 b 3,num1 b 5⟩
 else if f=15 then ⟨f,num1 b 1,num1 b 3,0,0,if 6≤b.length then (openN (b.drop 6) (num1 b 3)).getD [] else [],[],0,0⟩
 else if f=16 then ⟨f,num1 b 1,num1 b 3,0,0,[],wordsE b 6,0,0⟩
 else if f=23 then ⟨f,num1 b 1,num1 b 3,num1 b 5,0,[],wordsE b 10,0,0⟩
 else ⟨f,num1 b 1,num1 b 3,0,0,[],[],0,0⟩
def guessR (b:List Int):Req :=
 let f:=(b[0]?).getD 0
 if 1≤f∧f≤4 then ⟨f,num1 b 1,num1 b 3,0,0,[],[],0,0⟩
 else if f=8 then ⟨f,0,0,0,num1 b 1,[],wordsO b 3,0,0⟩
 else if f=5 then ⟨f,num1 b 1,0,0,0,[decide (¬ num1 b 3=0)],[],0,0⟩
 else if f=6 then ⟨f,num1 b 1,0,0,0,[],wordsO b 3,0,0⟩
 else if f=22 then ⟨f,num1 b 1,0,0,0,[],[],num1 b 3,num1 b 5⟩
 else if f=15 then ⟨f,num1 b 1,num1 b 3,0,0,if 6<b.length then (openN (b.drop 6) (num1 b 3)).getD [] else [],[],0,0⟩
 else if f=16 then ⟨f,num1 b 1,num1 b 3,0,0,[],wordsO b 6,0,0⟩
 else if f=23 then ⟨f,num1 b 1,num1 b 3,num1 b 5,0,[],wordsO b 10,0,0⟩
 else ⟨f,0,0,0,0,[],[],0,0⟩
theorem wordsE_ok {b:List Int} (h:OkB b) (n:Nat):OkW (wordsE b n):=wordsB_ok ((h.drop n).take _)
theorem wordsE_len (b:List Int) (n:Nat):2*(wordsE b n).length≤b.length:=by
 have h:=wordsB_len ((b.drop n).take (b.length-n-(b.length-n)%2))
 simp only [List.length_take,List.length_drop] at h
 unfold wordsE
 omega
theorem openN_len' (b:List Int) (n:Int):((openN b n).getD []).length≤n.toNat:=by
 unfold openN
 split
 ·simp [openBits]
 ·simp
theorem head_u8 {b:List Int} (h:OkB b):U8 ((b[0]?).getD 0):=by
 cases hx:b[0]? with
 | none=>constructor<;>decide
 | some x=>exact h x (List.mem_of_getElem? hx)
theorem guessF_ok {b:List Int} (h:OkB b) (hl:b.length≤140737488351232):(guessF b).ok:=by
 have n1:=num1_u16 h 1
 have n3:=num1_u16 h 3
 have n5:=num1_u16 h 5
 have hf:=head_u8 h
 have z1:I64 0:=Y24
 have z2:U16 0:=Y24
 have zw:OkW []:=fun x hx=>(List.not_mem_nil hx).elim
 have up:∀ {x:Int},U16 x→I64 x:=fun h=>by unfold U16 at h;constructor<;>omega
 have f1:I64 ((b[0]?).getD 0):=by unfold U8 at hf;constructor<;>omega
 have w3:=wordsE_len b 3
 have w6:=wordsE_len b 6
 have w10:=wordsE_len b 10
 have o6:=openN_len' (b.drop 6) (num1 b 3)
 have o7:(num1 b 3).toNat≤65535:=by unfold U16 at n3;omega
 unfold guessF
 simp only
 repeat' split
 all_goals
  refine ⟨?_,?_,?_,?_,?_,?_,?_,?_,?_,?_⟩<;>first | assumption | exact up ‹_› | exact wordsE_ok h _ |(simp only [List.length_nil,List.length_cons];omega) |(simp only [List.length_nil,List.length_cons];decide)
def zeroR:Req:=⟨0,0,0,0,0,[],[],0,0⟩
def readF (b:List Int):Req × Int:=if b=[] then (zeroR,13) else if hasF ((b[0]?).getD 0)=false then (zeroR,15) else if rightF (guessF b)=0∧writeF (guessF b)=b then (guessF b,0) else (zeroR,12)
theorem writeF_len {q:Req} (h:rightF q=0):(writeF q).length≤300:=by
 have hR:=right0 h
 have h1:=hR.mb
 have h2:=hR.mv
 have h3:=flat2_lenX q.vals
 have h4:=packB_len q.bits
 unfold writeF
 repeat' split
 all_goals
  simp only [List.length_cons,List.length_append,List.length_nil,h3,h4,show ∀ n,(num2 n).length=2 from fun _=>rfl]
  omega
theorem bytesF_len (q:Req):(bytesF q).length<140737488355328:=by
 unfold bytesF
 split
 ·rename_i h
  have:=writeF_len h
  omega
 ·decide
end Go.Proofs
namespace Go.Proofs
open Go.PM Go
structure Rep.ok (r:Rep):Prop where
 fn:I64 r.fn
 code:I64 r.code
 at_:I64 r.at_
 count:I64 r.count
 sub:I64 r.sub
 vals:OkW r.vals
 and_:U16 r.and_
 or_:U16 r.or_
 data:OkB r.data
 nb:r.bits.length≤140737488351232
 nv:r.vals.length*2≤140737488351232
 nd:r.data.length≤140737488351232
def zeroP:Rep:=⟨0,0,0,0,0,[],[],0,0,[]⟩
def hasP (r:Rep):Rep :=
 if r.fn=1∨r.fn=2 then ⟨r.fn,0,0,0,0,r.bits,[],0,0,[]⟩
 else if r.fn=3∨r.fn=4∨r.fn=23 then ⟨r.fn,0,0,0,0,[],r.vals,0,0,[]⟩
 else if r.fn=5 then ⟨r.fn,0,r.at_,0,0,r.bits,[],0,0,[]⟩
 else if r.fn=6 then ⟨r.fn,0,r.at_,0,0,[],r.vals,0,0,[]⟩
 else if r.fn=8 then ⟨r.fn,0,0,0,r.sub,[],r.vals,0,0,[]⟩
 else if r.fn=15∨r.fn=16 then ⟨r.fn,0,r.at_,r.count,0,[],[],0,0,[]⟩
 else if r.fn=22 then ⟨r.fn,0,r.at_,0,0,[],[],r.and_,r.or_,[]⟩
 else if r.fn=17 then ⟨r.fn,0,0,0,0,[],[],0,0,r.data⟩
 else zeroP
def goodF (r:Rep):Int :=
 if ¬ r.code=0 then (if 1≤r.code∧r.code≤255∧0≤r.fn∧r.fn≤127∧r=⟨r.fn,r.code,0,0,0,[],[],0,0,[]⟩ then 0 else 12)
 else if hasF r.fn=false then 15
 else if ¬ r=hasP r∨wordF r.at_=false∨wordF r.sub=false∨wordF r.count=false∨r.fn=5∧¬ r.bits.length=1∨(r.fn=6∨r.fn=8)∧¬ r.vals.length=1∨2040<r.bits.length∨127<r.vals.length∨250<r.data.length then 12
 else 0
def layF (r:Rep):List Int :=
 if ¬ r.code=0 then [r.fn+128,r.code]
 else r.fn::(if r.fn=1∨r.fn=2 then ((packB r.bits).length:Int)::packB r.bits
  else if r.fn=3∨r.fn=4∨r.fn=23 then ((r.vals.flatMap num2).length:Int)::r.vals.flatMap num2
  else if r.fn=5 then num2 r.at_++num2 (if r.bits=[true] then 65280 else 0)
  else if r.fn=6 then num2 r.at_++r.vals.flatMap num2
  else if r.fn=8 then num2 r.sub++r.vals.flatMap num2
  else if r.fn=15∨r.fn=16 then num2 r.at_++num2 r.count
  else if r.fn=22 then num2 r.at_++num2 r.and_++num2 r.or_
  else (r.data.length:Int)::r.data)
def repF (r:Rep):List Int:=if goodF r=0 then layF r else []
def refuseP (fn code:Int):Rep:=⟨fn%128,code%256,0,0,0,[],[],0,0,[]⟩
def countF (q:Req):Bool:=decide (rightF q=0∧(if q.fn=1∨q.fn=2 then 1≤q.count∧q.count≤2000 else if q.fn=3∨q.fn=4 then 1≤q.count∧q.count≤125 else if q.fn=15 then 1≤q.count∧q.count≤1968
 else if q.fn=16 then 1≤q.count∧q.count≤123 else if q.fn=23 then 1≤q.count∧q.count≤125∧1≤q.vals.length∧q.vals.length≤121 else True))
structure GoodOk (r:Rep):Prop where
 code:r.code=0
 has:hasF r.fn=true
 eq:r=hasP r
 wa:wordF r.at_=true
 ws:wordF r.sub=true
 wc:wordF r.count=true
 b5:r.fn=5→r.bits.length=1
 v6:r.fn=6∨r.fn=8→r.vals.length=1
 mb:r.bits.length≤2040
 mv:r.vals.length≤127
 md:r.data.length≤250
theorem good0 {r:Rep} (h:goodF r=0) (hc:r.code=0):GoodOk r:=by
 unfold goodF at h
 rw [if_neg (by rw [hc];simp)] at h
 by_cases h1:hasF r.fn=false
 ·rw [if_pos h1] at h;cases h
 rw [if_neg h1] at h
 split at h
 ·cases h
 ·rename_i h2
  simp only [not_or,Bool.not_eq_false,Nat.not_lt,Classical.not_not,not_and] at h1 h2
  exact ⟨hc,h1,h2.1,h2.2.1,h2.2.2.1,h2.2.2.2.1,h2.2.2.2.2.1,h2.2.2.2.2.2.1,h2.2.2.2.2.2.2.1,h2.2.2.2.2.2.2.2.1,h2.2.2.2.2.2.2.2.2⟩
theorem goodC {r:Rep} (h:goodF r=0) (hc:¬ r.code=0):1≤r.code∧r.code≤255∧0≤r.fn∧r.fn≤127∧r=⟨r.fn,r.code,0,0,0,[],[],0,0,[]⟩:=by
 unfold goodF at h
 rw [if_pos hc] at h
 split at h
 ·assumption
 ·cases h
theorem ibits_and_mask (a:Int) (k:Nat) (hk:k<63):ibits .and .i64 a ((2 ^ k-1:Nat):Int)=a%((2 ^ k:Nat):Int):=by
 unfold ibits
 show IntKind.i64.wrap (((BitVec.ofInt 64 a &&& BitVec.ofInt 64 ((2 ^ k-1:Nat):Int)).toNat:Int))=_
 have h2:(2:Nat) ^ k<2 ^ 63:=Nat.pow_lt_pow_right Y22 hk
 have hp:0<2 ^ k:=Nat.two_pow_pos k
 have e:(BitVec.ofInt 64 a).toNat%2 ^ k=(a%((2 ^ k:Nat):Int)).toNat:=by
  rw [BitVec.toNat_ofInt]
  have hd:((2 ^ k:Nat):Int)∣((2 ^ 64:Nat):Int):=by
   refine ⟨((2 ^ (64-k):Nat):Int),?_⟩
   rw [← Int.natCast_mul,← Nat.pow_add]
   congr 2;omega
  have h3:(((a%((2 ^ 64:Nat):Int)).toNat%2 ^ k:Nat):Int)=a%((2 ^ k:Nat):Int):=by
   rw [Int.natCast_emod,Int.toNat_of_nonneg (Int.emod_nonneg _ Y22),Int.emod_emod_of_dvd _ hd]
  omega
 have hm:(BitVec.ofInt 64 ((2 ^ k-1:Nat):Int)).toNat=2 ^ k-1:=by
  rw [BitVec.ofInt_natCast,BitVec.toNat_ofNat,Nat.mod_eq_of_lt Y21]
 rw [BitVec.toNat_and,hm,Nat.and_two_pow_sub_one_eq_mod,e]
 have h5:=Int.emod_nonneg a (b:=((2 ^ k:Nat):Int)) Y21
 have h6:=Int.emod_lt_of_pos a (b:=((2 ^ k:Nat):Int)) Y21
 rw [Int.toNat_of_nonneg h5]
 exact wrap_i64 Y21
theorem ibits_and127 (a:Int):ibits .and .i64 a 127=a%128:=ibits_and_mask a 7 Y22
theorem ibits_and255 (a:Int):ibits .and .i64 a 255=a%256:=ibits_and_mask a 8 Y22
theorem ibits_or128 {a:Int} (h:0≤a∧a<128):ibits .or .i64 a 128=a+128:=by
 obtain ⟨n,rfl⟩:∃ n:Nat,a=n:=⟨a.toNat,(Int.toNat_of_nonneg h.1).symm⟩
 have hn:n<128:=Y21
 have:∀ m:Fin 128,ibits .or .i64 ((m.val:Nat):Int) 128=((m.val:Nat):Int)+128:=by decide +kernel
 exact this ⟨n,hn⟩
def hasS (fn:Int):List Int:=if fn=1∨fn=2 then [98] else if fn=3∨fn=4∨fn=23 then [118] else if fn=5 then [97,98] else if fn=6 then [97,118] else if fn=8 then [115,118] else if fn=15∨fn=16 then [97,99] else if fn=17 then [100] else [97,109]
theorem flat2_okB (l:List Int):OkB (l.flatMap num2):=by
 intro x hx
 obtain ⟨a,_,h⟩:=List.mem_flatMap.1 hx
 exact num2_ok a x h
theorem OkB.cons {a:Int} {l:List Int} (h:U8 a) (k:OkB l):OkB (a::l):=by
 intro x hx
 rcases List.mem_cons.1 hx with rfl | hx
 ·exact h
 ·exact k x hx
theorem OkB.nil:OkB []:=fun x hx=>(List.not_mem_nil hx).elim
theorem layF_ok {r:Rep} (hr:r.ok) (h:goodF r=0):OkB (layF r):=by
 unfold layF
 by_cases hc:r.code=0
 ·have hG:=good0 h hc
  have h1:=has_cases hG.has
  have h2:=hG.mb
  have h3:=hG.mv
  have h4:=hG.md
  have h5:=packB_len r.bits
  have h6:=flat2_lenX r.vals
  rw [if_neg (fun k=>k hc)]
  refine OkB.cons ⟨Y21,Y21⟩ ?_
  repeat' split
  ·exact OkB.cons ⟨Y21,Y21⟩ (packB_ok _)
  ·exact OkB.cons ⟨Y21,Y21⟩ (flat2_okB _)
  ·exact (num2_ok _).append (num2_ok _)
  ·exact (num2_ok _).append (num2_ok _)
  ·exact (num2_ok _).append (flat2_okB _)
  ·exact (num2_ok _).append (flat2_okB _)
  ·exact (num2_ok _).append (num2_ok _)
  ·exact ((num2_ok _).append (num2_ok _)).append (num2_ok _)
  ·exact OkB.cons ⟨Y21,Y21⟩ hr.data
 ·have:=goodC h hc
  rw [if_pos hc]
  exact OkB.cons ⟨Y21,Y21⟩ (OkB.cons ⟨Y21,Y21⟩ OkB.nil)
theorem layF_len {r:Rep} (h:goodF r=0):(layF r).length≤300:=by
 unfold layF
 by_cases hc:r.code=0
 ·have hG:=good0 h hc
  have h2:=hG.mb
  have h3:=hG.mv
  have h4:=hG.md
  have h5:=packB_len r.bits
  have h6:=flat2_lenX r.vals
  rw [if_neg (fun k=>k hc)]
  repeat' split
  all_goals
   simp only [List.length_cons,List.length_append,List.length_nil,h5,h6,show ∀ n,(num2 n).length=2 from fun _=>rfl]
   omega
 ·rw [if_pos hc];simp
def tookF (b:List Int) (q:Req):Rep :=
 let f:=(b[0]?).getD 0
 if 128≤f then ⟨f%128,if 1<b.length then (b[1]?).getD 0 else 0,0,0,0,[],[],0,0,[]⟩
 else
  let a:=if 97∈hasS f then num1 b 1 else 0
  if f=1∨f=2 then ⟨f,0,a,0,0,if 1<b.length then (openN (b.drop 2) q.count).getD [] else [],[],0,0,[]⟩
  else if f=3∨f=4∨f=23 then ⟨f,0,a,0,0,[],wordsO b 2,0,0,[]⟩
  else if f=15∨f=16 then ⟨f,0,a,num1 b 3,0,[],[],0,0,[]⟩
  else if f=17 then ⟨f,0,a,0,0,[],[],0,0,if 1<b.length then b.drop 2 else []⟩
  else ⟨f,0,a,0,(guessR b).sub,(guessR b).bits,(guessR b).vals,(guessR b).and_,(guessR b).or_,[]⟩
def takeF (b:List Int) (q:Req):Rep × Int :=
 let f:=(b[0]?).getD 0
 if b=[] then (zeroP,13)
 else if ¬ f=q.fn∧¬ f=ibits .or .i64 q.fn 128∨q.fn<0∨255<q.fn then (zeroP,12)
 else if ¬ goodF (tookF b q)=0∨¬ layF (tookF b q)=b∨(tookF b q).code=0∧(f≤2∧¬ ((tookF b q).bits.length:Int)=q.count∨(f=3∨f=4∨f=23)∧¬ ((tookF b q).vals.length:Int)=q.count) then (zeroP,12)
 else (tookF b q,0)
end Go.Proofs
namespace Go.Proofs
open Go.PM Go
def thereF (N:Nat) (at_ n:Int):Bool:=decide (0≤at_∧0≤n∧at_≤N∧n≤N-at_)
def cutF {α:Type} (l:List α) (at_ n:Int):List α:=if thereF l.length at_ n=true then (l.drop at_.toNat).take n.toNat else []
def overF {α:Type} (l:List α) (a:Nat) (x:List α):List α:=l.take a++x++l.drop (a+x.length)
theorem overF_len {α:Type} {l x:List α} {a:Nat} (h:a+x.length≤l.length):(overF l a x).length=l.length:=by
 unfold overF
 simp only [List.length_append,List.length_take,List.length_drop]
 omega
structure Dev where
 c0:List Bool
 c1:List Bool
 v0:List Int
 v1:List Int
 unit:Int
 msgs:Int
 exc:Int
def Dev.n (D:Dev):Nat:=D.c0.length
structure Dev.ok (D:Dev):Prop where
 h1:1≤D.c0.length
 h2:D.c0.length≤65536
 c1:D.c1.length=D.c0.length
 v0:D.v0.length=D.c0.length
 v1:D.v1.length=D.c0.length
 w0:OkW D.v0
 w1:OkW D.v1
 unit:U8 D.unit
 msgs:I64 D.msgs
 exc:I64 D.exc
def Dev.zero (n:Nat):Dev:=⟨List.replicate n false,List.replicate n false,List.replicate n 0,List.replicate n 0,0,0,0⟩
theorem Dev.zero_ok {n:Nat} (h1:1≤n) (h2:n≤65536):(Dev.zero n).ok:=by
 refine ⟨by simpa [Dev.zero] using h1,by simpa [Dev.zero] using h2,by simp [Dev.zero],by simp [Dev.zero],by simp [Dev.zero],?_,?_,?_,?_,?_⟩
 ·intro x hx;rw [(List.mem_replicate.1 hx).2];constructor<;>decide
 ·intro x hx;rw [(List.mem_replicate.1 hx).2];constructor<;>decide
 all_goals (constructor<;>(simp only [Dev.zero];decide))
def whereF (q:Req):Rep:=refuseP q.fn 2
def inc (n:Int):Int:=IntKind.i64.wrap (n+1)
def maskF (v:Int) (q:Req):Int:=ibits .or .u16 (ibits .and .u16 v q.and_) (ibits .andNot .u16 q.or_ q.and_)
def diagF (D:Dev) (q:Req):Rep × Dev :=
 let v:=(q.vals[0]?).getD 0
 if q.sub=0 then (⟨q.fn,0,0,0,q.sub,[],[v],0,0,[]⟩,D)
 else if q.sub=10 then (⟨q.fn,0,0,0,q.sub,[],[v],0,0,[]⟩,{ D with msgs:=0,exc:=0 })
 else if q.sub=11∨q.sub=13∨q.sub=14 then
  (if ¬ v=0 then (refuseP q.fn 3,D) else (⟨q.fn,0,0,0,q.sub,[],[IntKind.u16.wrap (if q.sub=13 then D.exc else D.msgs)],0,0,[]⟩,D))
 else (refuseP q.fn 3,D)
def bodyF (D:Dev) (q:Req):Rep × Dev :=
 if q.fn=1 then (if thereF D.c0.length q.at_ q.count=true then (⟨q.fn,0,0,0,0,cutF D.c0 q.at_ q.count,[],0,0,[]⟩,D) else (whereF q,D))
 else if q.fn=2 then (if thereF D.c0.length q.at_ q.count=true then (⟨q.fn,0,0,0,0,cutF D.c1 q.at_ q.count,[],0,0,[]⟩,D) else (whereF q,D))
 else if q.fn=3 then (if thereF D.c0.length q.at_ q.count=true then (⟨q.fn,0,0,0,0,[],cutF D.v1 q.at_ q.count,0,0,[]⟩,D) else (whereF q,D))
 else if q.fn=4 then (if thereF D.c0.length q.at_ q.count=true then (⟨q.fn,0,0,0,0,[],cutF D.v0 q.at_ q.count,0,0,[]⟩,D) else (whereF q,D))
 else if q.fn=5∨q.fn=15 then (if thereF D.c0.length q.at_ q.bits.length=true then
  (if q.fn=15 then ⟨q.fn,0,q.at_,q.count,0,[],[],0,0,[]⟩ else ⟨q.fn,0,q.at_,0,0,[(q.bits[0]?).getD false],[],0,0,[]⟩,{ D with c0:=overF D.c0 q.at_.toNat q.bits }) else (whereF q,D))
 else if q.fn=6∨q.fn=16 then (if thereF D.c0.length q.at_ q.vals.length=true then
  (if q.fn=16 then ⟨q.fn,0,q.at_,q.count,0,[],[],0,0,[]⟩ else ⟨q.fn,0,q.at_,0,0,[],[(q.vals[0]?).getD 0],0,0,[]⟩,{ D with v1:=overF D.v1 q.at_.toNat q.vals }) else (whereF q,D))
 else if q.fn=8 then diagF D q
 else if q.fn=17 then (⟨q.fn,0,0,0,0,[],[],0,0,[D.unit,255]⟩,D)
 else if q.fn=22 then (if thereF D.c0.length q.at_ 1=true then (⟨q.fn,0,q.at_,0,0,[],[],q.and_,q.or_,[]⟩,{ D with v1:=overF D.v1 q.at_.toNat [maskF ((D.v1[q.at_.toNat]?).getD 0) q] }) else (whereF q,D))
 else if thereF D.c0.length q.at_ q.count=true∧thereF D.c0.length q.wat q.vals.length=true then
  (⟨q.fn,0,0,0,0,[],cutF (overF D.v1 q.wat.toNat q.vals) q.at_ q.count,0,0,[]⟩,{ D with v1:=overF D.v1 q.wat.toNat q.vals })
 else (whereF q,D)
def refD (D:Dev) (fn code:Int):Rep × Dev:=(refuseP fn code,{ D with exc:=inc D.exc })
def doF (D0:Dev) (q:Req):Rep × Dev :=
 let D:={ D0 with msgs:=inc D0.msgs }
 if hasF q.fn=false then refD D q.fn 1
 else if ¬ rightF q=0∨countF q=false then refD D q.fn 3
 else if ¬ (bodyF D q).1.code=0 then refD (bodyF D q).2 q.fn (bodyF D q).1.code
 else bodyF D q
def pduF (D:Dev) (b:List Int):List Int × Dev :=
 if (readF b).2=13 then ([],D)
 else
  let x:=if (readF b).2=15 then refD { D with msgs:=inc D.msgs } (((b[0]?).getD 0)%128) 1 else if (readF b).2=12 then refD { D with msgs:=inc D.msgs } (((b[0]?).getD 0)%128) 3 else doF D (readF b).1
  (repF x.1,x.2)
end Go.Proofs
namespace Go.Proofs
open Go.PM Go
end Go.Proofs
namespace Go.Proofs
open Go.PM Go
theorem open_pack (l:List Bool):openBits (packB l) l.length=l:=by
 refine List.ext_getElem (by simp [openBits]) fun i h1 h2=>?_
 have hp:=packI_test l l.length (Nat.le_refl _) (i/8) (i%8) Y21
 have e:8*(i/8)+i%8=i:=Y21
 rw [e] at hp
 simp only [openBits,List.getElem_map,List.getElem_range]
 rw [bitAt_test (packB_ok l)]
 unfold packB
 rw [hp,List.getElem?_eq_getElem h2]
 simp [h2]
theorem openN_pack (l:List Bool) {n:Int} (h:n=l.length):openN (packB l) n=some l:=by
 subst h
 unfold openN
 rw [if_pos ⟨Y21,by rw [packB_len];omega,by rw [packB_len];omega,by rw [Int.toNat_natCast,open_pack]⟩,Int.toNat_natCast,open_pack]
theorem u16_back {n:Int} (h:U16 n):256*(n/256%256)+n%256=n:=by unfold U16 at h;omega
theorem wordsP_flat:∀ {l:List Int},OkW l→wordsP (l.flatMap num2)=l
 | [],_=>rfl
 | a::l,h=>by
   have ha:U16 a:=h a Y23
   show wordsP (a/256%256::a%256::l.flatMap num2)=a::l
   rw [wordsP,u16_back ha,wordsP_flat (l:=l) (fun y hy=>h y Y310)]
theorem wordsB_flat {l:List Int} (h:OkW l):wordsB (l.flatMap num2)=some l:=by
 unfold wordsB
 rw [if_pos (by rw [flat2_lenX];omega),wordsP_flat h]
theorem wordsE_flat {l p:List Int} (h:OkW l) {n:Nat} (hn:p.length=n):wordsE (p++l.flatMap num2) n=l:=by
 subst hn
 unfold wordsE
 rw [List.drop_left,List.length_append,flat2_lenX,List.take_of_length_le (by rw [flat2_lenX];omega),wordsB_flat h]
 rfl
theorem wordsO_flat {l p:List Int} (h:OkW l) {n:Nat} (hn:p.length=n):wordsO (p++l.flatMap num2) n=l:=by
 subst hn
 unfold wordsO
 rw [List.drop_left,wordsB_flat h]
 rfl
theorem num1_at {p r:List Int} {n a:Int} (h:U16 n) (ha:a=p.length):num1 (p++(num2 n++r)) a=n:=by
 subst ha
 unfold num1 get2
 rw [if_pos (by rw [List.length_append,List.length_append,show (num2 n).length=2 from rfl];omega),Int.toNat_natCast,List.getElem?_append_right (l₁:=p) (Nat.le_refl _),Nat.sub_self,List.getElem?_append_right (l₁:=p) Y21]
 rw [show p.length+1-p.length=1 from Y21]
 show 256*(n/256%256)+n%256=n
 exact u16_back h
theorem num1_1 {x n:Int} {r:List Int} (h:U16 n):num1 (x::(num2 n++r)) 1=n:=num1_at (p:=[x]) h rfl
theorem num1_3 {x m n:Int} {r:List Int} (h:U16 n):num1 (x::(num2 m++(num2 n++r))) 3=n:=num1_at (p:=x::num2 m) h rfl
theorem num1_5 {x m k n:Int} {r:List Int} (h:U16 n):num1 (x::(num2 m++(num2 k++(num2 n++r)))) 5=n:=num1_at (p:=x::(num2 m++num2 k)) h rfl
theorem num1_3' {x m n:Int} (h:U16 n):num1 (x::(num2 m++num2 n)) 3=n:=by have:=num1_3 (x:=x) (m:=m) (r:=[]) h;rwa [List.append_nil] at this
theorem num1_5' {x m k n:Int} (h:U16 n):num1 (x::(num2 m++(num2 k++num2 n))) 5=n:=by have:=num1_5 (x:=x) (m:=m) (k:=k) (r:=[]) h;rwa [List.append_nil] at this
theorem u16_word {n:Int} (h:wordF n=true):U16 n:=of_decide_eq_true h
theorem Req.ext' {q q':Req} (h1:q.fn=q'.fn) (h2:q.at_=q'.at_) (h3:q.count=q'.count) (h4:q.wat=q'.wat) (h5:q.sub=q'.sub) (h6:q.bits=q'.bits) (h7:q.vals=q'.vals) (h8:q.and_=q'.and_) (h9:q.or_=q'.or_):q=q':=by
 cases q;cases q';simp only at *;subst_vars;rfl
theorem one_bit {l:List Bool} (h:(l.length:Int)=1):[decide ((if l=[true] then (65280:Int) else 0)=65280)]=l∧[decide (¬ (if l=[true] then (65280:Int) else 0)=0)]=l:=by
 match l,h with
 | [true],_=>exact ⟨rfl,rfl⟩
 | [false],_=>exact ⟨rfl,rfl⟩
 | [],h=>cases h
 | _::_::_,h=>simp at h;omega
theorem nil_len {α:Type} {l:List α} (h:(l.length:Int)=0):l=[]:=List.length_eq_zero_iff.1 Y21
theorem Y74 {p:Prop} (h:p:=by rw [num1_1 wa,num1_3 wc];exact Req.ext' e.symm rfl rfl fl.1.symm fl.2.1.symm (nil_len nb).symm (nil_len nv).symm fl.2.2.1.symm fl.2.2.2.symm):p:=h
theorem Y311 {p:Prop} (h:p:=by split<;>constructor<;>decide):p:=h
theorem guess_write {q:Req} (hq:q.ok) (h:rightF q=0):guessF (writeF q)=q:=by
 have hR:=right0 h
 have fl:=of_decide_eq_true hR.fields
 have wa:=u16_word hR.wa
 have ww:=u16_word hR.ww
 have wsb:=u16_word hR.ws
 have wc:=u16_word hR.wc
 have nb:=hR.nb
 have nv:=hR.nv
 have b0:((writeF q)[0]?).getD 0=q.fn:=rfl
 have w2:∀ n,U16 n→num2 n=num2 n++[]:=fun n _=>(List.append_nil _).symm
 have u65:U16 (if q.bits=[true] then 65280 else 0):=Y311
 unfold bitsF at nb
 unfold valsF at nv
 have wv:∀ (p:List Int) (n:Nat),p.length=n→wordsE (p++q.vals.flatMap num2) n=q.vals:=fun p n hn=>wordsE_flat hq.vals hn
 rcases has_cases hR.has with e | e | e | e | e | e | e | e | e | e | e | e<;>simp only [e] at fl nb nv<;>unfold guessF<;>simp only [b0,e,Int.reduceEq,if_false,if_true,or_false,false_or,or_true,true_or]
 all_goals
  try unfold writeF
  try simp only [e,Int.reduceEq,if_false,if_true,or_false,false_or,or_true,true_or,List.append_assoc]
  try simp only [Int.reduceEq,if_false,if_true,or_false,false_or,or_true,true_or,false_and,and_false,true_and,and_true,not_true_eq_false,not_false_eq_true,Int.reduceLE] at fl nb nv
 ·exact Y74
 ·exact Y74
 ·exact Y74
 ·exact Y74
 ·rw [num1_1 wa,num1_3' u65];exact Req.ext' e.symm rfl fl.1.symm fl.2.1.symm fl.2.2.1.symm (one_bit nb).1 (nil_len nv).symm fl.2.2.2.1.symm fl.2.2.2.2.symm
 ·rw [num1_1 wa];exact Req.ext' e.symm rfl fl.1.symm fl.2.1.symm fl.2.2.1.symm (nil_len nb).symm (wv (_::num2 _) 3 rfl) fl.2.2.2.1.symm fl.2.2.2.2.symm
 ·rw [num1_1 wsb];exact Req.ext' e.symm fl.1.symm fl.2.1.symm fl.2.2.1.symm rfl (nil_len nb).symm (wv (_::num2 _) 3 rfl) fl.2.2.2.1.symm fl.2.2.2.2.symm
 ·rw [num1_1 wa,num1_3 wc];refine Req.ext' e.symm rfl rfl fl.1.symm fl.2.1.symm ?_ (nil_len nv).symm fl.2.2.1.symm fl.2.2.2.symm
  show (if 6≤(15::(num2 q.at_++(num2 q.count++(((packB q.bits).length:Int)::packB q.bits)))).length then (openN (packB q.bits) q.count).getD [] else [])=q.bits
  rw [if_pos (by simp [num2]),openN_pack _ nb.symm];rfl
 ·rw [num1_1 wa,num1_3 wc];exact Req.ext' e.symm rfl rfl fl.1.symm fl.2.1.symm (nil_len nb).symm (by have:=wv (16::(num2 q.at_++(num2 q.count++[((q.vals.flatMap num2).length:Int)]))) 6 rfl;simpa only [List.cons_append,List.append_assoc,List.nil_append] using this) fl.2.2.1.symm fl.2.2.2.symm
 ·exact Req.ext' e.symm fl.1.symm fl.2.1.symm fl.2.2.1.symm fl.2.2.2.1.symm (nil_len nb).symm (nil_len nv).symm fl.2.2.2.2.1.symm fl.2.2.2.2.2.symm
 ·rw [num1_1 wa,num1_3 hq.and_,num1_5' hq.or_];exact Req.ext' e.symm rfl fl.1.symm fl.2.1.symm fl.2.2.symm (nil_len nb).symm (nil_len nv).symm rfl rfl
 ·rw [num1_1 wa,num1_3 wc,num1_5 ww];exact Req.ext' e.symm rfl rfl rfl fl.1.symm (nil_len nb).symm (by have:=wv (23::(num2 q.at_++(num2 q.count++(num2 q.wat++(num2 q.vals.length++[((q.vals.flatMap num2).length:Int)]))))) 10 rfl;simpa only [List.cons_append,List.append_assoc,List.nil_append] using this) fl.2.1.symm fl.2.2.symm
theorem read_write {q:Req} (hq:q.ok) (h:rightF q=0):readF (writeF q)=(q,0):=by
 unfold readF
 have hR:=right0 h
 have h0:¬ writeF q=[]:=by unfold writeF;exact List.cons_ne_nil _ _
 have h1:((writeF q)[0]?).getD 0=q.fn:=rfl
 rw [if_neg h0,h1,if_neg (by rw [hR.has];decide),guess_write hq h,if_pos ⟨h,rfl⟩]
end Go.Proofs
namespace Go.Proofs
open Go.PM Go
structure Fits (R:Rep) (q:Req):Prop where
 fn:R.fn=q.fn
 good:goodF R=0
 took:tookF (layF R) q=R
 cnt:R.code=0→¬ (R.fn≤2∧¬ (R.bits.length:Int)=q.count∨(R.fn=3∨R.fn=4∨R.fn=23)∧¬ (R.vals.length:Int)=q.count)
theorem lay_head {R:Rep}:((layF R)[0]?).getD 0=if ¬ R.code=0 then R.fn+128 else R.fn:=by
 unfold layF
 split<;>rfl
theorem Fits.take {R:Rep} {q:Req} (h:Fits R q) (hq:1≤q.fn∧q.fn≤127):takeF (repF R) q=(R,0):=by
 have hf:=h.fn
 have hne:¬ layF R=[]:=by unfold layF;split<;>exact List.cons_ne_nil _ _
 unfold repF
 rw [if_pos h.good]
 unfold takeF
 dsimp only
 rw [if_neg hne,lay_head,h.took]
 rw [if_neg (by
  rw [ibits_or128 (a:=q.fn) Y21]
  split<;>omega)]
 rw [if_neg (by
  rintro (k | k | ⟨k1,k2⟩)
  ·exact k h.good
  ·exact k rfl
  ·rw [if_neg (fun n=>n k1)] at k2
   exact h.cnt k1 k2)]
theorem fits_refuse {q:Req} (hq:1≤q.fn∧q.fn≤127) {c:Int} (hc:1≤c∧c≤255):Fits (refuseP q.fn c) q:=by
 have e1:q.fn%128=q.fn:=Y21
 have e2:c%256=c:=Y21
 have e:refuseP q.fn c=⟨q.fn,c,0,0,0,[],[],0,0,[]⟩:=by unfold refuseP;rw [e1,e2]
 have h0:¬ c=0:=Y21
 have el:layF ⟨q.fn,c,0,0,0,[],[],0,0,[]⟩=[q.fn+128,c]:=by unfold layF;rw [if_pos h0]
 rw [e]
 refine ⟨rfl,?_,?_,fun k=>absurd k h0⟩
 ·unfold goodF
  rw [if_pos h0,if_pos ⟨hc.1,hc.2,by show 0≤q.fn;omega,by show q.fn≤127;omega,rfl⟩]
 ·rw [el]
  unfold tookF
  dsimp only
  rw [if_pos (by show 128≤q.fn+128;omega)]
  show (⟨(q.fn+128)%128,if 1<2 then c else 0,0,0,0,[],[],0,0,[]⟩:Rep)=_
  rw [show (q.fn+128)%128=q.fn from Y21,if_pos Y22]
theorem mod_word {n:Int} (h:U16 n):wordF n=true:=decide_eq_true h
theorem good_of {R:Rep} (h:GoodOk R):goodF R=0:=by
 unfold goodF
 rw [if_neg (fun n=>n h.code),if_neg (by rw [h.has];decide),if_neg]
 rintro (k | k | k | k | k | k | k | k | k)
 ·exact k h.eq
 ·rw [h.wa] at k;cases k
 ·rw [h.ws] at k;cases k
 ·rw [h.wc] at k;cases k
 ·exact k.2 (h.b5 k.1)
 ·exact k.2 (h.v6 k.1)
 ·have:=h.mb;omega
 ·have:=h.mv;omega
 ·have:=h.md;omega
theorem w0:wordF 0=true:=Y22
theorem Y75 {p:Prop} (h:p:=by exfalso;simp only at k;omega):p:=h
theorem fits_bits {q:Req} (hf:q.fn=1∨q.fn=2) {B:List Bool} (hB:(B.length:Int)=q.count) (hl:B.length≤2000):Fits ⟨q.fn,0,0,0,0,B,[],0,0,[]⟩ q:=by
 refine ⟨rfl,good_of ⟨rfl,?_,?_,w0,w0,w0,fun k=>?_,fun k=>?_,Y72,Y23,Y23⟩,?_,fun _=>?_⟩
 ·rcases hf with e | e<;>rw [e]<;>rfl
 ·unfold hasP;rw [if_pos hf]
 ·exact Y75
 ·exact Y75
 ·have el:layF ⟨q.fn,0,0,0,0,B,[],0,0,[]⟩=q.fn::((packB B).length:Int)::packB B:=by
   unfold layF;rw [if_neg Y23];dsimp only;rw [if_pos hf]
  rw [el]
  unfold tookF
  have h97:¬ 97∈hasS q.fn:=by unfold hasS;rw [if_pos hf];decide
  dsimp only [List.getElem?_cons_zero,Option.getD_some]
  rw [if_neg Y21,if_neg h97,if_pos hf]
  rw [if_pos Y23]
  show (⟨q.fn,0,0,0,0,(openN (packB B) q.count).getD [],[],0,0,[]⟩:Rep)=_
  rw [openN_pack B hB.symm];rfl
 ·simp only;omega
theorem fits_vals {q:Req} (hf:q.fn=3∨q.fn=4∨q.fn=23) {V:List Int} (hV:OkW V) (hB:(V.length:Int)=q.count) (hl:V.length≤125):Fits ⟨q.fn,0,0,0,0,[],V,0,0,[]⟩ q:=by
 have hn:¬ (q.fn=1∨q.fn=2):=Y21
 refine ⟨rfl,good_of ⟨rfl,?_,?_,w0,w0,w0,fun k=>?_,fun k=>?_,Y23,Y72,Y23⟩,?_,fun _=>?_⟩
 ·rcases hf with e | e | e<;>rw [e]<;>rfl
 ·unfold hasP;rw [if_neg hn,if_pos hf]
 ·exact Y75
 ·exact Y75
 ·have el:layF ⟨q.fn,0,0,0,0,[],V,0,0,[]⟩=q.fn::((V.flatMap num2).length:Int)::V.flatMap num2:=by
   unfold layF;rw [if_neg Y23];dsimp only;rw [if_neg hn,if_pos hf]
  rw [el]
  unfold tookF
  have h97:¬ 97∈hasS q.fn:=by unfold hasS;rw [if_neg hn,if_pos hf];decide
  dsimp only [List.getElem?_cons_zero,Option.getD_some]
  rw [if_neg Y21,if_neg h97,if_neg hn,if_pos hf]
  rw [show q.fn::((V.flatMap num2).length:Int)::V.flatMap num2=[q.fn,((V.flatMap num2).length:Int)]++V.flatMap num2 from rfl,wordsO_flat hV (by rfl)]
 ·simp only;omega
theorem fits_5 {q:Req} (hf:q.fn=5) {A:Int} (hA:U16 A) (b:Bool):Fits ⟨q.fn,0,A,0,0,[b],[],0,0,[]⟩ q:=by
 rw [hf]
 refine ⟨hf.symm,good_of ⟨rfl,rfl,rfl,mod_word hA,w0,w0,fun _=>rfl,fun k=>?_,Y23,Y23,Y23⟩,?_,fun _=>?_⟩
 ·exact Y75
 ·have u65:U16 (if [b]=[true] then 65280 else 0):=Y311
  show (⟨5,0,num1 (5::(num2 A++num2 (if [b]=[true] then 65280 else 0))) 1,0,0,[decide (¬ num1 (5::(num2 A++num2 (if [b]=[true] then 65280 else 0))) 3=0)],[],0,0,[]⟩:Rep)=_
  rw [num1_1 hA,num1_3' u65]
  cases b<;>rfl
 ·simp only;omega
theorem fits_6 {q:Req} (hf:q.fn=6) {A v:Int} (hA:U16 A) (hv:U16 v):Fits ⟨q.fn,0,A,0,0,[],[v],0,0,[]⟩ q:=by
 rw [hf]
 have hV:OkW [v]:=fun x hx=>by rw [List.mem_singleton.1 hx];exact hv
 refine ⟨hf.symm,good_of ⟨rfl,rfl,rfl,mod_word hA,w0,w0,fun k=>?_,fun _=>rfl,Y23,Y23,Y23⟩,?_,fun _=>?_⟩
 ·exact Y75
 ·show (⟨6,0,num1 (6::(num2 A++[v].flatMap num2)) 1,0,0,[],wordsO (6::(num2 A++[v].flatMap num2)) 3,0,0,[]⟩:Rep)=_
  rw [num1_1 hA,show (6:Int)::(num2 A++[v].flatMap num2)=(6::num2 A)++[v].flatMap num2 from rfl,wordsO_flat hV (by rfl)]
 ·simp only;omega
theorem fits_8 {q:Req} (hf:q.fn=8) {A v:Int} (hA:U16 A) (hv:U16 v):Fits ⟨q.fn,0,0,0,A,[],[v],0,0,[]⟩ q:=by
 rw [hf]
 have hV:OkW [v]:=fun x hx=>by rw [List.mem_singleton.1 hx];exact hv
 refine ⟨hf.symm,good_of ⟨rfl,rfl,rfl,w0,mod_word hA,w0,fun k=>?_,fun _=>rfl,Y23,Y23,Y23⟩,?_,fun _=>?_⟩
 ·exact Y75
 ·show (⟨8,0,0,0,num1 (8::(num2 A++[v].flatMap num2)) 1,[],wordsO (8::(num2 A++[v].flatMap num2)) 3,0,0,[]⟩:Rep)=_
  rw [num1_1 hA,show (8:Int)::(num2 A++[v].flatMap num2)=(8::num2 A)++[v].flatMap num2 from rfl,wordsO_flat hV (by rfl)]
 ·simp only;omega
theorem fits_15 {q:Req} (hf:q.fn=15∨q.fn=16) {A C:Int} (hA:U16 A) (hC:U16 C):Fits ⟨q.fn,0,A,C,0,[],[],0,0,[]⟩ q:=by
 rcases hf with hf | hf
 all_goals
  rw [hf]
  refine ⟨hf.symm,good_of ⟨rfl,rfl,rfl,mod_word hA,w0,mod_word hC,fun k=>?_,fun k=>?_,Y23,Y23,Y23⟩,?_,fun _=>?_⟩
  ·exact Y75
  ·exact Y75
 ·show (⟨15,0,num1 (15::(num2 A++num2 C)) 1,num1 (15::(num2 A++num2 C)) 3,0,[],[],0,0,[]⟩:Rep)=_
  rw [num1_1 hA,num1_3' hC]
 ·simp only;omega
 ·show (⟨16,0,num1 (16::(num2 A++num2 C)) 1,num1 (16::(num2 A++num2 C)) 3,0,[],[],0,0,[]⟩:Rep)=_
  rw [num1_1 hA,num1_3' hC]
 ·simp only;omega
theorem fits_17 {q:Req} (hf:q.fn=17) (a b:Int):Fits ⟨q.fn,0,0,0,0,[],[],0,0,[a,b]⟩ q:=by
 rw [hf]
 refine ⟨hf.symm,good_of ⟨rfl,rfl,rfl,w0,w0,w0,fun k=>?_,fun k=>?_,Y23,Y23,Y23⟩,rfl,fun _=>?_⟩
 ·exact Y75
 ·exact Y75
 ·simp only;omega
theorem fits_22 {q:Req} (hf:q.fn=22) {A a o:Int} (hA:U16 A) (ha:U16 a) (ho:U16 o):Fits ⟨q.fn,0,A,0,0,[],[],a,o,[]⟩ q:=by
 rw [hf]
 refine ⟨hf.symm,good_of ⟨rfl,rfl,rfl,mod_word hA,w0,w0,fun k=>?_,fun k=>?_,Y23,Y23,Y23⟩,?_,fun _=>?_⟩
 ·exact Y75
 ·exact Y75
 ·show (⟨22,0,num1 (22::(num2 A++num2 a++num2 o)) 1,0,0,[],[],num1 (22::(num2 A++num2 a++num2 o)) 3,num1 (22::(num2 A++num2 a++num2 o)) 5,[]⟩:Rep)=_
  rw [List.append_assoc,num1_1 hA,num1_3 ha,num1_5' ho]
 ·simp only;omega
end Go.Proofs
namespace Go.Proofs
open Go.PM Go
def Dev.up (D:Dev):Dev:={ D with msgs:=inc D.msgs }
section
variable {D:Dev} {q:Req} (hc:countF q=true)
include hc
end
end Go.Proofs
namespace Go.Proofs
open Go.PM Go
def hd0 (l:List Int):Int:=(l[0]?).getD 0
def rtuF (b:List Int):(Int × List Int) × Int :=
 if b.length<4 then ((0,[]),13) else if 256<b.length then ((0,[]),3) else match openB b with
 | none=>((0,[]),14)
 | some x=>if hd0 x<1∨247<hd0 x then ((0,[]),1) else ((hd0 x,x.drop 1),0)
def frameA (a:Int) (b:List Int):List Int × Int:=if a<1∨247<a then ([],1) else if b=[] then ([],13) else if 253<b.length then ([],3) else (sealB (a::b),0)
def frameF (b:List Int):List Int:=(frameA 17 b).1
theorem open_seal (l:List Int):openB (sealB l)=some l:=by
 have h1:(sealB l).length-2=l.length:=by rw [sealB_len];omega
 have h2:(sealB l).take l.length=l:=by unfold sealB;rw [List.take_append_of_le_length (Nat.le_refl _),List.take_length]
 unfold openB
 rw [h1,h2,if_pos ⟨by rw [sealB_len];omega,rfl⟩]
theorem frameF_eq {b:List Int} (h1:b≠[]) (h2:b.length≤253):frameF b=sealB (17::b):=by
 unfold frameF frameA
 rw [if_neg Y22,if_neg h1,if_neg Y21]
theorem Y191 {p:Prop} (h:p:=by rw [sealB_len,List.length_cons];omega):p:=h
theorem rtu_frame {b:List Int} (h1:b≠[]) (h2:b.length≤253):rtuF (frameF b)=((17,b),0):=by
 have h3:0<b.length:=List.length_pos_iff.2 h1
 rw [frameF_eq h1 h2]
 unfold rtuF
 rw [if_neg Y191,if_neg Y191,open_seal]
 rfl
theorem frameF_ok {b:List Int} (h:OkB b):OkB (frameF b):=by
 unfold frameF frameA
 rw [if_neg Y22]
 split
 ·exact OkB.nil
 ·split
  ·exact OkB.nil
  ·exact sealB_ok (OkB.cons Y24 h)
theorem frameF_len (b:List Int):(frameF b).length≤256:=by
 unfold frameF frameA
 rw [if_neg Y22]
 split
 ·simp
 ·split
  ·simp
  ·simp only [sealB_len,List.length_cons];omega
def flipL (l:List Int):List Int:=l.set (l.length-1) (ibits .xor .u8 ((l[l.length-1]?).getD 0) 1)
theorem flip_u8 {x:Int} (h:U8 x):U8 (ibits .xor .u8 x 1)∧ibits .xor .u8 x 1≠x:=by
 unfold U8 at h
 obtain ⟨n,rfl⟩:∃ n:Nat,x=n:=⟨x.toNat,(Int.toNat_of_nonneg h.1).symm⟩
 have:∀ m:Fin 256,U8 (ibits .xor .u8 ((m.val:Nat):Int) 1)∧ibits .xor .u8 ((m.val:Nat):Int) 1≠((m.val:Nat):Int):=by unfold U8;decide +kernel
 exact this ⟨n,Y21⟩
theorem flip_len (l:List Int):(flipL l).length=l.length:=by unfold flipL;rw [List.length_set]
theorem flip_ok {l:List Int} (h:OkB l):OkB (flipL l):=by
 unfold flipL
 intro x hx
 by_cases h0:l=[]
 ·subst h0;cases hx
 ·have hl:l.length-1<l.length:=by have:=List.length_pos_iff.2 h0;omega
  rcases List.mem_or_eq_of_mem_set hx with hx | rfl
  ·exact h x hx
  ·rw [List.getElem?_eq_getElem hl]
   exact (flip_u8 (h _ (List.getElem_mem hl))).1
theorem rtu_broken {b:List Int} (hb:OkB b) (h1:b≠[]) (h2:b.length≤253):rtuF (flipL (frameF b))=((0,[]),14):=by
 have h3:0<b.length:=List.length_pos_iff.2 h1
 rw [frameF_eq h1 h2]
 have ho:OkB (17::b):=OkB.cons Y24 hb
 have hl:(sealB (17::b)).length-1<(sealB (17::b)).length:=by rw [sealB_len];omega
 have hx:=flip_u8 (sealB_ok ho _ (List.getElem_mem hl))
 have ht:=openB_turned ho hl hx.1 hx.2
 unfold rtuF
 rw [flip_len,if_neg Y191,if_neg Y191]
 have e:flipL (sealB (17::b))=(sealB (17::b)).set ((sealB (17::b)).length-1) (ibits .xor .u8 ((sealB (17::b))[(sealB (17::b)).length-1]'hl) 1):=by
  unfold flipL
  rw [List.getElem?_eq_getElem hl];rfl
 rw [e,ht]
theorem rtu_pdu {b:List Int} (h:(rtuF b).2=0):(rtuF b).1.2≠[]∧(rtuF b).1.2.length≤253∧∃ x,openB b=some x∧(rtuF b).1.2=x.drop 1:=by
 unfold rtuF at h ⊢
 split at h
 ·cases h
 ·split at h
  ·cases h
  ·rename_i h1 h2
   rw [if_neg h1,if_neg h2]
   cases ho:openB b with
   | none=>rw [ho] at h;cases h
   | some x =>
     rw [ho] at h
     simp only at h ⊢
     split at h
     ·cases h
     ·rename_i h3
      rw [if_neg h3]
      have hx:x.length=b.length-2:=by
       unfold openB at ho
       split at ho
       ·cases ho;rw [List.length_take];omega
       ·cases ho
      refine ⟨fun e=>?_,?_,x,rfl,rfl⟩
      ·have:=congrArg List.length e
       simp only [List.length_drop,List.length_nil] at this
       omega
      ·simp only [List.length_drop];omega
theorem open_ok {b x:List Int} (hb:OkB b) (h:openB b=some x):OkB x:=by
 unfold openB at h
 split at h
 ·cases h;exact fun y hy=>hb y (List.mem_of_mem_take hy)
 ·cases h
theorem rtu_ok {b:List Int} (hb:OkB b):OkB (rtuF b).1.2:=by
 unfold rtuF
 split
 ·exact OkB.nil
 ·split
  ·exact OkB.nil
  ·cases ho:openB b with
   | none=>exact OkB.nil
   | some x =>
     simp only
     split
     ·exact OkB.nil
     ·exact fun y hy=>open_ok hb ho y (List.mem_of_mem_drop hy)
def lineF (f:Int) (D:Dev) (p:List Int):List Int × Dev :=
 if f=0 then (frameF (pduF D p).1,(pduF D p).2)
 else if f=1 then ([],D)
 else if f=2 then ([],(pduF D p).2)
 else if f=3 then (flipL (frameF (pduF D p).1),(pduF D p).2)
 else (frameF (repF (refuseP ((p[0]?).getD 0) 4)),D)
def sendF (f:Int) (D:Dev) (b:List Int):List Int × Dev:=if (rtuF b).2=0∧(rtuF b).1.1=17 then lineF f D (rtuF b).1.2 else ([],D)
end Go.Proofs
namespace Go.PM
open Go
section
variable {P:Program} {N:Nat} {k:List KI} {e:Env} {s:St} {rt:Env→St→Prop}
theorem RunO.thaw {ops:Array Oper} {l:List Oper} (i id fuel:Nat) {v:PV} (hv:(e.get i).frz false s (fun j=>j != id) fuel=v) (hb:v.blw s.nxt) (h:RunO P N ops l k ((i,v)::e) (s.set id none) rt):RunO P N ops l k e s rt:=by
 intro ok okk idx hidx g w a hI hE hd hN
 have hX:Ext g w (g.keep s.nxt (fun i=>i != id)) w:=keep_ext _ (by rw [hI.nxt];exact Nat.le_refl _)
 have hI':Inv P (g.keep s.nxt (fun i=>i != id)) (s.set id none) w:=by
  have:=keep_inv hI s.nxt (fun i=>i != id) (fun i _ hi=>hI.id_lt hi) (fun i b _ hb=>hI.blw hb)
  have e:s.keep s.nxt (fun i=>i != id)=s.set id none:=by
   simp only [St.keep,St.set,St.mk.injEq,true_and]
   funext i
   by_cases hi:i=id
   ·subst hi;simp
   ·simp [hi]
  rw [e] at this
  exact this
 refine RunO.eff.wpOps_lift hX (h ok okk idx hidx _ w a hI' (fun j=>?_) hd hN)
 simp only [Env.get]
 split
 ·rename_i hj
  subst hj
  have:=R_frz hI s.nxt false (fun j=>j != id) fuel (e.get j) (a.tmps.getD j undef) (by rw [hv];exact hb) (hE j)
  rw [hv] at this
  exact this
 ·exact R_ext hX _ _ (hE j)
end
theorem frz_own_ints {s:St} {q:Nat→Bool} {id n:Nat} {t:TypeId} {ik:IntKind} {l:List Int} (hn:n=l.length) (hq:q id=false) (hb:s.blk id=some (.row t (l.map (PV.int ik)))):PV.frz false s q 2 (.own id 0 n)=.sl .unk (l.map (PV.int ik)):=by
 subst hn
 unfold PV.frz
 rw [if_neg (by rw [hq];simp),hb]
 simp only [Nat.zero_add,List.length_map,Nat.le_refl,if_true,List.drop_zero,List.take_length]
 rw [show (l.map (PV.int ik)).take l.length=l.map (PV.int ik) by rw [← List.length_map (f:=PV.int ik),List.take_length],List.map_map]
 congr 1
end Go.PM
namespace Go.PM
open Go
theorem reserve_step {P g s w} (h:Inv P g s w):∃ g',Inv P g' (s.new .res) w∧Ext g w g' w:=by
 let g':G:={ nxt:=g.nxt+1,rows:=upd g.rows s.nxt none,live:=g.live,toks:=g.toks,lim:=g.lim }
 have hn:=h.rows_none (Nat.le_refl s.nxt)
 have hk:∀ b,g'.isRow b→g.isRow b:=by
  rintro b ⟨id,sz,e,l⟩
  by_cases hid:id=s.nxt
  ·subst hid;rw [show g'.rows s.nxt=none from upd_eq _ _ _] at e;cases e
  ·rw [show g'.rows id=g.rows id from upd_ne _ _ hid] at e
   exact ⟨id,sz,e,l⟩
 have e:Ext g w g' w :=
  { os:=rfl,tape:=rfl,output:=rfl,size:=Nat.le_refl _,nxt:=Nat.le_succ _,rd:=fun _ _ _ _ h=>h
    free:=fun b n _ hf=>⟨fun k=>hf.1 (hk b k),hf.2⟩
    same:=fun _ _ _ _=>rfl
    rows:=fun id hid x e=>(upd_ne _ _ (by have:=h.nxt;omega):g'.rows id=g.rows id).trans e
    csz:=fun _ _=>rfl,toks:=toks_keep (fun _ _=>rfl) (fun _ _ _ _=>rfl) }
 refine ⟨g',?_,e⟩
 refine Inv.step s.nxt h e Y116 ?_ ?_ ?_ ?_ ?_ ?_ ?_ ?_ ?_ (fun _ _ _ _ _ _=>rfl) Y119
 ·exact Y57
 ·exact fun id hid=>⟨if_neg hid,upd_ne _ _ hid,rfl,rfl⟩
 ·exact fun id b n hid l e=>rfl
 ·intro id b n hid et
  exact ⟨rfl,fun k=>(h.toklt et).2.1 (hk _ k)⟩
 ·exact fun b hb=>hb
 ·simp only [St.new,if_true,At]
  exact ⟨hn.1,hn.2,upd_eq _ _ _⟩
 ·exact Y172
 ·exact Y171
 ·exact fun b e hl=>h.lim b e hl
theorem resRow_step {P g s w} (h:Inv P g s w) {id:Nat} (hid:s.blk id=some .res) {t ty:TypeId} {els vs} {c:Array Value} (hsz:0<P.cellsOf t) (hr:RA g w els vs) (hc:flat vs <+: c.toList)
  (hv:∀ v∈vs,v.cells.size=P.cellsOf t∧∀ x∈v.cells.toList,x.flat=true) :
  ∃ g',Inv P g' (s.set id (some (.row t els))) (World.newB w (.cells c ty (0,0)))∧Ext g w g' (World.newB w (.cells c ty (0,0))) ∧
   g'.rows id=some (w.heap.size,P.cellsOf t)∧g'.nxt=s.nxt:=by
 let g':G:={ nxt:=g.nxt,rows:=upd g.rows id (some (w.heap.size,P.cellsOf t)),live:=updB g.live id true,toks:=g.toks,lim:=g.lim }
 have hat:=h.at' id
 rw [hid] at hat
 obtain ⟨a1,a2,a3⟩:=hat
 have hlt:id<s.nxt:=h.id_lt (by rw [hid];simp)
 have hold:∀ i x,g.rows i=some x→g'.rows i=some x:=by
  intro i x e
  by_cases hi:i=id
  ·subst hi;rw [a3] at e;cases e
  ·exact (upd_ne _ _ hi:g'.rows i=g.rows i).trans e
 have hrow:∀ b,b<w.heap.size→g'.isRow b→g.isRow b:=by
  intro b hb hk
  rcases isRow_upd rfl (fun i hi=>updB_ne _ _ hi) hk with r | r
  ·omega
  ·exact r
 have e:Ext g w g' (World.newB w (.cells c ty (0,0))) :=
  { os:=rfl,tape:=rfl,output:=rfl,size:=by rw [newB_size];omega,nxt:=Nat.le_refl _
    rd:=fun b o v _ hc=>by rw [cell_of_heap (newB_old w _ (cell_lt hc))];exact hc
    free:=fun b n hb hf=>⟨fun k=>hf.1 (hrow b hb k),hf.2⟩
    same:=fun b hb _ _=>newB_old w _ hb
    rows:=fun i _ x e=>hold i x e
    csz:=fun b hb=>csize_of_heap (newB_old w _ hb)
    toks:=toks_keep (fun _ _=>rfl) (fun _ _ _ _=>rfl) }
 refine ⟨g',?_,e,upd_eq _ _ _,h.nxt⟩
 refine Inv.step id h e h.nxt ?_ ?_ ?_ ?_ ?_ ?_ ?_ ?_ ?_ (fun _ _ _ _ _ _=>rfl) (fun b m _ e=>by rw [show g'.rows id=some (w.heap.size,P.cellsOf t) from upd_eq _ _ _] at e;cases e;exact (h.newfree (Nat.le_refl _)).2)
 ·intro i hi
  simp only [St.set] at hi ⊢
  rw [if_neg Y2]
  exact h.wf i Y2
 ·exact fun i hi=>⟨if_neg hi,upd_ne _ _ hi,updB_ne _ _ hi,rfl⟩
 ·exact fun i b n hi l e=>newB_old w _ (h.rowlt l e)
 ·intro i b n hi et
  refine ⟨rfl,fun hk=>?_⟩
  have ⟨h1,h2,_⟩:=h.toklt et
  exact h2 (hrow b h1 hk)
 ·exact Y118
 ·simp only [St.set,if_true,At]
  exact ⟨a2,updB_eq _ _ _,w.heap.size,vs,upd_eq _ _ _,hsz,newB_writable _ _ _,newB_cells _ _ _ _ _ hc,hv,RA_ext e _ _ hr⟩
 ·intro b m j n _ hx hj lj hjr
  have:g'.rows id=some (w.heap.size,P.cellsOf t):=upd_eq _ _ _
  rw [this] at hx
  cases hx
  have:=h.rowlt lj hjr
  omega
 ·intro b m j n hx
  rw [show g'.toks id=none from a2] at hx
  cases hx
 ·exact Y231
theorem resAlloc_run {P:Program} {g s w} {a:Act} {o:Oper} {t:TypeId} {z:PV} {id:Nat} (h:Inv P g s w) (hid:s.blk id=some .res) (ho:o.op=.alloc t) (hz:zpv P t=some z):Effect P o g w a (.ptr id 0 0) (s.set id (some (.row t [z]))):=by
 unfold Effect execOp
 rw [ho]
 obtain ⟨zv,h1,h2,h3,h4,h5,h6,h7⟩:=zero_run (P:=P) (w:=w) hz
 subst h2
 have hR:=pvOf_R g w zv fun cs e x hx=>Y300
 obtain ⟨c1,c2,c3⟩:=RA_cells hR h7
 obtain ⟨g',k1,k2,k3,k4⟩:=resRow_step (t:=t) (ty:=t) (els:=[pvOf zv]) (vs:=[zv]) (c:=zv.cells) h hid h5 (by simp only [RA];exact ⟨zv,[],rfl,hR,rfl⟩)
  (by simp [flat]) (fun x hx=>by simp at hx;subst hx;exact ⟨Y2,c2⟩)
 have hlt:id<s.nxt:=h.id_lt (by rw [hid];simp)
 refine ⟨.pointer (some ⟨w.heap.size,0,none⟩),_,g',.inl ?_,k1,k2,?_⟩
 ·simp only [Instr.alloc,bind_run,h1,newVar_run,pure_run]
 ·simp only [R]
  exact ⟨Y2,_,_,k3,Y1⟩
theorem set_comm (s:St) {i j:Nat} (h:i≠j) (b c:Option Blk):(s.set i b).set j c=(s.set j c).set i b:=by
 simp only [St.set,St.mk.injEq,true_and]
 funext k
 by_cases h1:k=i
 ·subst h1;simp [h]
 ·by_cases h2:k=j
  ·subst h2;simp [h1]
  ·simp [h1,h2]
section
variable {P:Program} {ops:Array Oper} {ws:List Nat} {al:Nat} {Gf:St→St} {σ:List St} {e e':Env} {s s' s0:St} {N:Nat} {k:List KI} {rt:Env→St→Prop}
theorem Run.reserve {c:Code} (h:Run P N (.code c::k) e (s.new .res) rt):Run P N (.code c::k) e s rt:=by
 intro ok
 have h:=h ok
 intro oc g w a hI hE hd hN
 obtain ⟨g',hI',hX⟩:=reserve_step hI
 exact wp_mono (h oc g' w a hI' (fun j=>R_ext hX _ _ (hE j)) hd hN) fun _ _ _=>Lift.trans hX
theorem DetGC.resAlloc {o:Oper} {l:List Oper} {i id:Nat} {t:TypeId} {z:PV} {K:Env→St→Prop} (hi:i=al) (hs:s∈σ) (hg:guard? ops o (Env.keep (slotsOf ops o) e)=some true) (ho:o.op=.alloc t) (hz:zpv P t=some z)
  (ha:∀ s∈σ,(s.blk id=some .res∧Gf s=s.set id (some (.row t [z])))∨¬ s.wf) (hd:DetGC P ops ws al Gf σ (i+1) l (e.put o.dst (.ptr id 0 0)) s K):DetGC P ops ws al Gf σ i (o::l) e s K:=by
 obtain ⟨e',s',h1,h2⟩:=hd
 refine ⟨e',s',DetG.al hi (fun s hs=>?_) hs h1,h2⟩
 rcases ha s hs with hb | hb
 ·rw [hb.2]
  exact DOp.of_effect hg fun g w a hI hE=>resAlloc_run hI hb.1 ho hz
 ·exact fun g w a hI=>absurd hI.wf hb
end
end Go.PM
namespace Go.PM
open Go
theorem makeSliceG_run {P:Program} {w:World} {t e:TypeId} {v:PV} {m n:Nat} (htd:td P t=.sl e) (hz:zpv P e=some v) (hmn:m≤n) (hn2:n<1073741824000000) (hroom:n*P.bytesOf e≤roomBytes) (h48:n*P.bytesOf e≤140737488355328) :
  ∃ z,v=pvOf z∧z.cells.size=P.cellsOf e∧(∀ cs,z=.agg cs→∀ x∈cs.toList,x.flat=true)∧(Instr.makeSlice t (.int .i64 m) (.int .i64 n)).run P w=.ok (.slice (some ⟨w.heap.size,0,none⟩) m n) (World.newB w (.cells (flat (List.replicate n z)).toArray e (0,0))):=by
 obtain ⟨z,hz1,hz2,hz3,hz4,hpos,hz6,hz7⟩:=zero_run (P:=P) (w:=w) hz
 obtain ⟨i,hi,hsz⟩:=cells_info hpos
 have hby:P.bytesOf e=i.bytes:=Y179
 refine ⟨z,hz2,hz4,?_,?_⟩
 ·exact flatV_agg hz3
 ·unfold Instr.makeSlice
  rw [bind_run,underlying_run (td_slice htd)]
  simp only [asInt,pure_run,bind_run,typeInfo_run hi]
  have hw:IntKind.i64.wrap (n:Int)=(n:Int):=wrap_i64 Y2
  have hwm:IntKind.i64.wrap (m:Int)=(m:Int):=wrap_i64 Y2
  have hc:¬ ((decide ((n:Int)<0)||decide ((i.bytes:Int)*(n:Int)>2 ^ 48))||decide ((m:Int)<0)||decide ((m:Int)>n))=true:=by
   have:(i.bytes:Int)*(n:Int)=((n*P.bytesOf e:Nat):Int):=by rw [hby];push_cast;exact Int.mul_comm _ _
   rw [this]
   simp
   omega
  have ha:(asIntOf (Value.int IntKind.i64 (n:Int))).run P w=.ok (IntKind.i64,(n:Int)) w:=rfl
  have ham:(asIntOf (Value.int IntKind.i64 (m:Int))).run P w=.ok (IntKind.i64,(m:Int)) w:=rfl
  simp only [ha,ham,hw,hwm]
  rw [if_neg hc]
  have hr:askRoom ((n:Int).toNat*i.bytes)=pure ():=by
   unfold askRoom
   rw [if_neg]
   rw [Int.toNat_natCast,← hby]
   omega
  rw [hr]
  simp only [bind_run,pure_run,sizeOf_run hpos,Int.toNat_natCast]
  by_cases h0:n=0
  ·subst h0
   simp only [Nat.zero_mul,if_true,pure_run,bind_run]
   have e0:Array.map (fun x=>(#[]:Array Value)[x%(#[]:Array Value).size]!) (Array.range 0)= #[]:=Y1
   have e1:(flat (List.replicate 0 z)).toArray= #[]:=rfl
   rw [e0,e1]
   rfl
  ·have hne:¬ n*P.cellsOf e=0:=by
    have:=Nat.mul_pos (show 0<n from Y2) hpos
    omega
   rw [if_neg hne]
   simp only [bind_run,pure_run,hz1]
   rw [← range_zero (by rw [hz4];exact hpos),hz4]
   rfl
section
variable {P:Program} {N:Nat} {k:List KI} {e:Env} {s:St} {rt:Env→St→Prop}
theorem Y76 {p:Prop} (h:p:=by
 simp only [R]
 refine ⟨Y2,w.heap.size,P.cellsOf el,n,k3,Nat.le_refl _,Y1,?_⟩
 have:csize (World.newB w (.cells (flat (List.replicate n z)).toArray el (0,0))) w.heap.size=n*P.cellsOf el:=by
  unfold csize World.shape?
  rw [newB_new]
  simp only [Option.map_some,Option.getD_some,List.size_toArray]
  rw [flat_length (sz:=P.cellsOf el) (fun u hu=>(hfl u hu).1),List.length_replicate]
 rw [this];simp):p:=h
theorem makeOwn_run {g w} {a:Act} {o:Oper} {t el:TypeId} {x y:Operand} {n:Nat} {v:PV} (hI:Inv P g s w) (ho:o.op=.makeSlice t x y) (h1:a.eval x=.int .i64 n) (h2:a.eval y=.int .i64 n) (htd:td P t=.sl el) (hz:zpv P el=some v) (hn2:n<1073741824000000) (hroom:n*P.bytesOf el≤140737488355328) :
  Effect P o g w a (.own s.nxt 0 n) (s.new (.row el (List.replicate n v))):=by
 obtain ⟨z,r1,r2,r3,r4⟩:=makeSliceG_run (w:=w) htd hz (Nat.le_refl n) hn2 Y307 hroom
 obtain ⟨_,_,_,_,_,hp,_⟩:=zero_run (P:=P) (w:=w) hz
 have hR:R g w v z:=by rw [r1];exact pvOf_R g w z r3
 have hfl:∀ u∈List.replicate n z,u.cells.size=P.cellsOf el∧∀ c∈u.cells.toList,c.flat=true:=fun u hu=>by
  rw [(List.mem_replicate.1 hu).2]
  refine ⟨r2,fun c hc=>?_⟩
  have hok:v.ok=true:=by
   obtain ⟨_,_,_,_,_,_,_,h7⟩:=zero_run (P:=P) (w:=w) hz
   exact h7
  exact (RA_cells hR hok).2.1 c hc
 obtain ⟨g',k1,k2,k3,k4⟩:=newRow_step (t:=el) (ty:=el) (els:=List.replicate n v) (vs:=List.replicate n z) (c:=(flat (List.replicate n z)).toArray) hI hp (RA_replicate hR n) Y1 hfl
 refine ⟨.slice (some ⟨w.heap.size,0,none⟩) n n,_,g',.inl ?_,k1,k2,?_⟩
 ·unfold execOp
  rw [ho]
  simp only [bind_run,pure_run,h1,h2,r4]
 ·exact Y76
theorem RunO.makeOwn {ops:Array Oper} {d:Option Nat} {t ty el:TypeId} {x y:Operand} {pos:String} {af:Array Edge} {gd:Option (Nat × Bool)} {l:List Oper} {n:Nat} {v:PV}
  (hg:guard? ops ⟨d,.makeSlice t x y,ty,pos,af,gd⟩ e=some true) (hx:ev e x=.int .i64 n) (hy:ev e y=.int .i64 n) (htd:td P t=.sl el) (hz:zpv P el=some v) (hn2:n<1073741824000000) (hroom:n*P.bytesOf el≤140737488355328)
  (h:RunO P N ops l k (e.put d (.own s.nxt 0 n)) (s.new (.row el (List.replicate n v))) rt):RunO P N ops (⟨d,.makeSlice t x y,ty,pos,af,gd⟩::l) k e s rt:=by
 refine RunO.eff hg (fun g w a hI hE=>?_) h
 have h1:=ev_R hE x
 have h2:=ev_R hE y
 rw [hx] at h1
 rw [hy] at h2
 simp only [R] at h1 h2
 exact makeOwn_run hI rfl h1 h2 htd hz hn2 hroom
theorem RunO.makeCap {ops:Array Oper} {d:Option Nat} {t ty el:TypeId} {x y:Operand} {pos:String} {af:Array Edge} {gd:Option (Nat × Bool)} {l:List Oper} {n:Nat} {v:PV}
  (hg:guard? ops ⟨d,.makeSlice t x y,ty,pos,af,gd⟩ e=some true) (hx:ev e x=.int .i64 0) (hy:ev e y=.int .i64 n) (htd:td P t=.sl el) (hz:zpv P el=some v) (hn2:n<1073741824000000) (hroom:n*P.bytesOf el≤140737488355328)
  (h:RunO P N ops l k (e.put d (.sl (.tok s.nxt (P.cellsOf el)) [])) (s.new (.tok 0)) rt):RunO P N ops (⟨d,.makeSlice t x y,ty,pos,af,gd⟩::l) k e s rt:=by
 refine RunO.eff hg (fun g w a hI hE=>?_) h
 have h1:=ev_R hE x
 have h2:=ev_R hE y
 rw [hx] at h1
 rw [hy] at h2
 simp only [R] at h1 h2
 obtain ⟨z,r1,r2,r3,r4⟩:=makeSliceG_run (w:=w) (m:=0) htd hz (Nat.zero_le n) hn2 Y307 hroom
 obtain ⟨_,_,_,_,_,hp,_⟩:=zero_run (P:=P) (w:=w) hz
 obtain ⟨g',k1,k2,k3⟩:=newTok_R (vs:=[]) (els:=[]) (sz:=P.cellsOf el) (N:=n) (ty:=el) (c:=(flat (List.replicate n z)).toArray) hI rfl (fun u hu=>by cases hu) hp (by simp [flat]) (Nat.zero_le _) (by
  rw [List.size_toArray,flat_length (sz:=P.cellsOf el) (fun u hu=>by rw [(List.mem_replicate.1 hu).2];exact r2),List.length_replicate];exact Nat.le_refl _)
 refine ⟨_,_,g',.inl ?_,k1,k2,k3⟩
 unfold execOp
 simp only [bind_run,pure_run,h1,h2]
 rw [show ((0:Nat):Int)=0 from rfl] at r4
 rw [r4]
 rfl
end
end Go.PM
namespace Go.PM
open Go
def Made (s s1:St) (k:SK) (n z:Nat):Prop:=(k=.nil∨k=.clip)∧n=0∧s1=s∨k=.tok s.nxt z∧s1=s.new (.tok n)
theorem Made.append {P:Program} {s s1:St} {e:TypeId} {k:SK} {xs ys:List PV} (h:Made s s1 k xs.length (P.cellsOf e)) (hy:ys≠[]) :
  aAppend P e k xs ys s1=some (.sl (.tok s.nxt (P.cellsOf e)) (xs++ys),s.new (.tok (xs.length+ys.length))):=by
 unfold aAppend
 rw [if_neg hy]
 rcases h with ⟨hk,hn,rfl⟩ | ⟨rfl,rfl⟩
 ·rcases hk with rfl | rfl<;>rfl
 ·simp only [blk_new_eq',true_and,and_self,if_true]
  rw [set_new]
where
 blk_new_eq' {s:St} {b:Blk}:(s.new b).blk s.nxt=some b:=if_pos rfl
theorem Made.first {P:Program} {s:St} {e:TypeId} {k:SK} {ys:List PV} (hk:k=.nil∨k=.clip):∃ k' s',aAppend P e k [] ys s=some (.sl k' ys,s')∧Made s s' k' ys.length (P.cellsOf e):=by
 by_cases hy:ys=[]
 ·subst hy
  exact ⟨k,s,by unfold aAppend;rw [if_pos rfl],.inl ⟨hk,rfl,rfl⟩⟩
 ·refine ⟨.tok s.nxt (P.cellsOf e),s.new (.tok ys.length),?_,.inr ⟨rfl,rfl⟩⟩
  unfold aAppend
  rw [if_neg hy]
  rcases hk with rfl | rfl<;>simp
theorem Made.tok {s s1:St} {k:SK} {n z:Nat} (h:Made s s1 k n z) (hn:n≠0):k=.tok s.nxt z∧s1=s.new (.tok n):=by
 rcases h with ⟨_,h,_⟩ | h
 ·exact absurd h hn
 ·exact h
theorem Made.fr {s s1:St} {k:SK} {n z:Nat} (h:Made s s1 k n z) (hwf:s.wf):Fr s s1:=by
 rcases h with ⟨_,_,rfl⟩ | ⟨_,rfl⟩
 ·exact Fr.refl hwf
 ·exact (Fr.refl hwf).new _
theorem okEls_intK (k:IntKind) (l:List Int):okEls 1 (l.map (PV.int k))=True:=eq_true (by
 intro el hel
 obtain ⟨a,_,rfl⟩:=List.mem_map.1 hel
 exact ⟨rfl,rfl⟩)
theorem okEls_boolK (l:List Bool):okEls 1 (l.map PV.bool)=True:=eq_true (by
 intro el hel
 obtain ⟨a,_,rfl⟩:=List.mem_map.1 hel
 exact ⟨rfl,rfl⟩)
attribute [go_sem] okEls_intK okEls_boolK
theorem aAppend_tokL {P:Program} {e:TypeId} {α:Type} {f:α→PV} {xs ys zs:List α} {s:St} {t L z:Nat} (hz:zs=xs++ys) (hy:ys≠[]) (ht:s.blk t=some (.tok L)) (hL:L=xs.length) (hc:P.cellsOf e=z) :
  aAppend P e (.tok t z) (xs.map f) (ys.map f) s=some (.sl (.tok t z) (zs.map f),s.set t (some (.tok zs.length))):=by
 subst hz hL hc
 unfold aAppend
 rw [if_neg (by simpa using hy)]
 simp only [ht,List.length_map,and_self,if_true,List.map_append,List.length_append]
theorem Ret.drop {P:Program} {fn:Func} {args:List PV} {s0 s:St} {Q:PV→St→Prop} {e:Env} {r r':PV} (t:Nat) (hr:retv P fn.results.toList e s=some r) (hr':r'=r.weak) (hb:r'.blw s0.nxt) (hwf:s0.wf) (hk:∀ i,i<s0.nxt→i≠t→s.blk i=s0.blk i) (h:Q r' (s0.set t none)):Ret P fn args s0 Q e s:=by
 have e1:s.keep s0.nxt (fun i=>decide (i<s0.nxt∧i≠t))=s0.set t none:=by
  cases s0 with
  | mk n f =>
    simp only [St.keep,St.set,St.mk.injEq,true_and]
    funext i
    by_cases hi:i<n∧i≠t
    ·simp only [hi,ne_eq,not_false_eq_true,and_self,decide_true,if_true,if_false];exact hk i hi.1 hi.2
    ·simp only [hi,decide_false,Bool.false_eq_true,if_false]
     by_cases hit:i=t
     ·rw [if_pos hit]
     ·rw [if_neg hit]
      exact (hwf i (by simp only;omega)).symm
 refine Ret.keep s0.nxt (fun i=>decide (i<s0.nxt∧i≠t)) hr hr' (Nat.le_refl _) hb (fun i hi _=>(of_decide_eq_true hi).1) ?_ Y303
 intro i b hi hbi
 rw [hk i (of_decide_eq_true hi).1 (of_decide_eq_true hi).2] at hbi
 exact .inl hbi
theorem Made.blk {s s1:St} {k:SK} {n z:Nat} (h:Made s s1 k n z):∀ i,i<s.nxt→s1.blk i=s.blk i:=by
 intro i hi
 rcases h with ⟨_,_,rfl⟩ | ⟨_,rfl⟩
 ·rfl
 ·exact if_neg Y2
theorem Made.nx {s s1:St} {k:SK} {n z:Nat} (h:Made s s1 k n z):s.nxt≤s1.nxt:=by
 rcases h with ⟨_,_,rfl⟩ | ⟨_,rfl⟩
 ·exact Nat.le_refl _
 ·exact Nat.le_succ _
theorem Ret.put {P:Program} {fn:Func} {args:List PV} {s0 s:St} {Q:PV→St→Prop} {e:Env} {r r':PV} (s1:St) (hr:retv P fn.results.toList e s=some r) (hr':r'=r.weak) (hb:r'.blw s0.nxt) (hwf:s1.wf) (hn:s1.nxt=s0.nxt)
  (hk:∀ i,i<s0.nxt→s.blk i=s1.blk i) (hbl:∀ i b,s1.blk i=some b→s0.blk i=some b∨b.blw s0.nxt) (h:Q r' s1):Ret P fn args s0 Q e s:=by
 have e1:s.keep s0.nxt (fun i=>decide (i<s0.nxt))=s1:=by
  cases s1 with
  | mk n f =>
    simp only at hn
    subst hn
    simp only [St.keep,St.mk.injEq,true_and]
    funext i
    by_cases hi:i<s0.nxt
    ·exact Y125
    ·exact Y62
 refine Ret.keep s0.nxt (fun i=>decide (i<s0.nxt)) hr hr' (Nat.le_refl _) hb (fun i hi _=>of_decide_eq_true hi) ?_ Y303
 intro i b hi hbi
 rw [hk i (of_decide_eq_true hi)] at hbi
 exact hbl i b hbi
theorem St.eq_of' {a b:St} (h1:a.nxt=b.nxt) (h2:∀ i,a.blk i=b.blk i):a=b:=by
 cases a;cases b
 simp only [St.mk.injEq]
 exact ⟨h1,funext h2⟩
section
variable {P:Program} {N:Nat} {k:List KI} {e e':Env} {s:St} {rt:Env→St→Prop}
theorem RunO.made {ops:Array Oper} {d:Option Nat} {x y:Operand} {t ty:TypeId} {pos:String} {af:Array Edge} {gd:Option (Nat × Bool)} {l:List Oper} {el:TypeId} {kx ky:SK} {ys:List PV}
  (hg:guard? ops ⟨d,.call ⟨.builtin .append,#[x,y],#[t,t]⟩,ty,pos,af,gd⟩ e=some true) (hx:ev e x=.sl kx []) (hy:ev e y=.sl ky ys) (htd:td P t=.sl el) (hz:(zpv P el).isSome=true)
  (hey:isEls P el ys) (hb0:0<P.bytesOf el) (hlen:ys.length*P.bytesOf el≤140737488355328) (hk:kx=.nil∨kx=.clip)
  (h:∀ k' s',Made s s' k' ys.length (P.cellsOf el)→RunO P N ops l k (e.put d (.sl k' ys)) s' rt) :
  RunO P N ops (⟨d,.call ⟨.builtin .append,#[x,y],#[t,t]⟩,ty,pos,af,gd⟩::l) k e s rt:=by
 obtain ⟨k',s',h1,h2⟩:=Made.first (P:=P) (e:=el) (s:=s) (ys:=ys) hk
 exact RunO.append hg hx hy htd hz (fun p hp=>absurd hp List.not_mem_nil) hey hb0 (by simpa using hlen) h1 (h k' s' h2)
theorem Run.genS (h:∀ S,S=s→Run P N k e S rt):Run P N k e s rt:=h s rfl
end
end Go.PM
namespace Go.PM
open Go
theorem own_holds {P:Program} {g s w id off n va ty els} (h:Inv P g s w) (hx:R g w (.own id off n) va) (hb:s.blk id=some (.row ty els)) (hle:off+n≤els.length) :
  ∃ us,Holds w va us∧RA g w ((els.drop off).take n) us:=by
 have hat:=h.at' id
 rw [hb] at hat
 obtain ⟨_,hlv,b,vs,hr,hrp,hrow⟩:=hat
 obtain ⟨a1,a2,a3,a4⟩:=hrow
 have hvl:=RA_length a4
 simp only [R] at hx
 obtain ⟨_,b',sz',cap,hr',hcap,rfl,hcs⟩:=hx
 rw [hr] at hr';cases hr'
 have hsz:∀ v∈vs,v.cells.size=P.cellsOf ty:=fun v hv=>(a3 v hv).1
 have hsz':∀ v∈(vs.drop off).take n,v.cells.size=P.cellsOf ty:=fun v hv=>hsz v (List.mem_of_mem_drop (List.mem_of_mem_take hv))
 refine ⟨(vs.drop off).take n,.inr ⟨b,off*P.cellsOf ty,cap,?_,?_⟩,RA_take _ (RA_drop _ a4)⟩
 ·have:((vs.drop off).take n).length=n:=by rw [List.length_take,List.length_drop];omega
  rw [this]
 ·rw [cellsAt_flat hsz']
  intro i v hv
  have hi:i<n:=by
   have:=(List.getElem?_eq_some_iff.1 hv).1
   rw [List.length_take] at this
   omega
  rw [List.getElem?_take,if_pos hi,List.getElem?_drop] at hv
  have:=(cellsAt_flat hsz).1 a2 (off+i) v hv
  rw [Nat.zero_add,Nat.add_mul] at this
  exact this
def aCopy (P:Program) (e:TypeId) (id off len:Nat) (ys:List PV) (s:St):Option St :=
 match s.blk id with
 | some (.row ty els)=>if ys.length≤len∧P.cellsOf e=P.cellsOf ty∧off+len≤els.length then some (s.set id (some (.row ty (els.take off++ys++els.drop (off+ys.length))))) else none
 | _=>none
theorem aCopy_run {P:Program} {g s w t t2 ty e id off len va vb ys s'} (h:Inv P g s w) (hx:R g w (.own id off len) va) (hy:∃ us,Holds w vb us∧RA g w ys us) (hey:isEls P e ys) (htd:td P t=.sl e) (hz:(zpv P e).isSome=true) (ha:aCopy P e id off len ys s=some s') :
  ∃ w',(Builtin.copy_ #[t,t2] ty #[va,vb]).run P w=.ok (.int .i64 ys.length) w'∧Inv P g s' w'∧Ext g w g w':=by
 unfold aCopy at ha
 split at ha
 case h_2=>cases ha
 rename_i tyr els hbl
 split at ha
 case isFalse=>cases ha
 rename_i hc
 obtain ⟨hl0,hce,hle⟩:=hc
 cases ha
 have hu:=td_slice htd
 obtain ⟨z,hz⟩:=Option.isSome_iff_exists.1 hz
 obtain ⟨zv,hz1,hz2,hz3,hz4,hpos,hz6,hz7⟩:=zero_run (P:=P) (w:=w) hz
 obtain ⟨i,hi,hsi⟩:=cells_info hpos
 obtain ⟨us,hus,hru⟩:=hy
 have hue:=isEls_vals hey hru
 have hul:=RA_length hru
 have hn:=hus.len (P:=P)
 have hfc:=hus.cells (P:=P) (size:=P.cellsOf e) (fun v hv=>(hue v hv).1)
 have hat:=h.at' id
 rw [hbl] at hat
 obtain ⟨_,hlv,b,vs,hr,hrp,hrow⟩:=hat
 obtain ⟨a1,a2,a3,a4⟩:=hrow
 have hvl:=RA_length a4
 simp only [R] at hx
 obtain ⟨_,b',sz',cap,hr',hcap,rfl,hcs⟩:=hx
 rw [hr] at hr';cases hr'
 have hsz':∀ v∈vs,v.cells.size=P.cellsOf tyr:=fun v hv=>(a3 v hv).1
 have hfz:(flat us).length=ys.length*P.cellsOf tyr:=by
  rw [flat_length (sz:=P.cellsOf tyr) (fun u hu=>by rw [(hue u hu).1,hce]),hul]
 have hmul:ys.length*P.cellsOf tyr≤len*P.cellsOf tyr:=Nat.mul_le_mul_right _ hl0
 have hfit:off*P.cellsOf tyr+(flat us).length≤csize w b:=by
  rw [hfz]
  have h1:(off+len)*P.cellsOf tyr≤(off+cap)*P.cellsOf tyr:=Nat.mul_le_mul_right _ Y2
  rw [Nat.add_mul] at h1
  omega
 have hft:flat (vs.take off)=(flat vs).take (off*P.cellsOf tyr):=flat_take vs _ hsz' off
 have hfd:flat (vs.drop (off+ys.length))=(flat vs).drop ((off+ys.length)*P.cellsOf tyr):=flat_drop vs _ hsz' (off+ys.length)
 have hlt:(flat (vs.take off)).length=off*P.cellsOf tyr:=by
  rw [flat_length (sz:=P.cellsOf tyr) (fun v hv=>hsz' v (List.mem_of_mem_take hv)),List.length_take,Nat.min_eq_left Y2]
 have hcells:cellsAt (putCells w b (off*P.cellsOf tyr) (flat us)) b 0 (flat (vs.take off++us++vs.drop (off+ys.length))):=by
  rw [flat_append,flat_append,cellsAt_append,cellsAt_append]
  refine ⟨⟨fun j hj=>?_,?_⟩,fun j hj=>?_⟩
  ·exact Y189
  ·rw [hlt,Nat.zero_add]
   exact putCells_cell_in _ _ _ _ hfit
  ·rw [List.length_append,hlt,hfz,Nat.zero_add]
   rw [putCells_cell_out _ _ _ _ _ _ (by rw [hfz];omega)]
   have hq:=cellsAt_drop a2 ((off+ys.length)*P.cellsOf tyr)
   rw [← hfd] at hq
   have:=hq j hj
   rw [Nat.zero_add,Nat.add_mul] at this
   exact this
 have hcat:∀ v∈vs.take off++us++vs.drop (off+ys.length),v.cells.size=P.cellsOf tyr∧∀ x∈v.cells.toList,x.flat=true:=by
  intro v hv
  rcases List.mem_append.1 hv with hv | hv
  ·rcases List.mem_append.1 hv with hv | hv
   ·exact a3 v (List.mem_of_mem_take hv)
   ·exact ⟨by rw [(hue v hv).1,hce],(hue v hv).2⟩
  ·exact a3 v (List.mem_of_mem_drop hv)
 obtain ⟨k1,k2⟩:=rowStore_step (els':=els.take off++ys++els.drop (off+ys.length)) (vs':=vs.take off++us++vs.drop (off+ys.length)) (o:=off*P.cellsOf tyr) (xs:=flat us) h hbl hr hcells hcat
  (RA_append (RA_append (RA_take _ a4) hru) (RA_drop _ a4))
 refine ⟨_,?_,k1,k2⟩
 have hst:=storeCells_run P b (flat us) w (off*P.cellsOf tyr) 0 (by
  intro v hv
  simp only [flat,List.mem_flatMap] at hv
  obtain ⟨u,hu1,hu2⟩:=hv
  exact (hue u hu1).2 v hu2) a1 (by simpa using hfit)
 have hmin:Nat.min us.length len=us.length:=Nat.min_eq_left Y2
 have hsz2:(sizeOf e:Sem Nat).run P w=.ok i.size w:=by
  simp [sizeOf,typeInfo,hi]
 rw [← hsi] at hfc
 unfold Builtin.copy_
 simp only [List.getElem?_toArray,List.getElem?_cons_zero,List.getElem?_cons_succ,bind_run,underlying_run hu,hn,hmin,hsz2,hfc,hst,pure_run,Nat.add_zero,goInt,hul]
theorem aSlice_own {P:Program} {t e ty:TypeId} {id off len a m:Nat} {els:List PV} {s:St} (htd:td P t=.sl e) (hz:0<P.cellsOf e) (hc:P.cellsOf e=P.cellsOf ty) (hb:s.blk id=some (.row ty els)) (ha:a<len) (ham:a+m≤len) :
  aSlice P t (.own id off len) (some (.int .i64 (a:Int))) (some (.int .i64 ((a+m:Nat):Int))) none s=some (.own id (off+a) m):=by
 unfold aSlice
 simp only [optInt,htd,Option.getD_some,hb,hc]
 rw [if_pos ⟨Y2,Y2,Y2,Y2,trivial⟩]
 rw [if_pos trivial]
 by_cases h0:a=0
 ·subst h0
  rw [if_pos Y2]
  congr 2<;>omega
 ·rw [if_neg Y2,if_neg Y2]
  congr 2<;>omega
section
variable {P:Program} {N:Nat} {k:List KI} {e e':Env} {s:St} {rt:Env→St→Prop}
theorem RunO.copy {ops:Array Oper} {d:Option Nat} {x y:Operand} {t t2 ty:TypeId} {pos:String} {af:Array Edge} {gd:Option (Nat × Bool)} {l:List Oper} {el:TypeId} {id off len:Nat} {ky:SK} {ys:List PV} {s':St}
  (hg:guard? ops ⟨d,.call ⟨.builtin .copy,#[x,y],#[t,t2]⟩,ty,pos,af,gd⟩ e=some true) (hx:ev e x=.own id off len) (hy:ev e y=.sl ky ys) (htd:td P t=.sl el) (hz:(zpv P el).isSome=true) (hey:isEls P el ys) (ha:aCopy P el id off len ys s=some s')
  (h:RunO P N ops l k (e.put d (.int .i64 ys.length)) s' rt):RunO P N ops (⟨d,.call ⟨.builtin .copy,#[x,y],#[t,t2]⟩,ty,pos,af,gd⟩::l) k e s rt:=by
 refine RunO.eff hg (fun g w a hI hE=>?_) h
 have h1:=ev_R hE x
 have h2:=ev_R hE y
 rw [hx] at h1
 rw [hy] at h2
 obtain ⟨w',r1,r2,r3⟩:=aCopy_run (t2:=t2) (ty:=ty) hI h1 (sl_holds h2) hey htd hz ha
 refine ⟨.int .i64 ys.length,w',g,.inl ?_,r2,r3,Y114⟩
 unfold execOp
 simp only [resolve,bind_run,pure_run,invoke,builtin]
 have:Array.map a.eval #[x,y]= #[a.eval x,a.eval y]:=Y1
 rw [this]
 unfold Go.invoke
 simp only [builtin,bind_run,r1,pure_run]
theorem RunO.appendFrom {ops:Array Oper} {d:Option Nat} {x y:Operand} {t ty:TypeId} {pos:String} {af:Array Edge} {gd:Option (Nat × Bool)} {l:List Oper} {el ety:TypeId} {kx:SK} {id off n:Nat} {els ys:List PV}
  (hg:guard? ops ⟨d,.call ⟨.builtin .append,#[x,y],#[t,t]⟩,ty,pos,af,gd⟩ e=some true) (hx:ev e x=.sl kx []) (hy:ev e y=.own id off n) (hb:s.blk id=some (.row ety els)) (hys:(els.drop off).take n=ys) (hle:off+n≤els.length) (htd:td P t=.sl el) (hz:(zpv P el).isSome=true)
  (hey:isEls P el ys) (hb0:0<P.bytesOf el) (hlen:ys.length*P.bytesOf el≤140737488355328) (hk:kx=.nil∨kx=.clip)
  (h:∀ k' s',Made s s' k' ys.length (P.cellsOf el)→RunO P N ops l k (e.put d (.sl k' ys)) s' rt):RunO P N ops (⟨d,.call ⟨.builtin .append,#[x,y],#[t,t]⟩,ty,pos,af,gd⟩::l) k e s rt:=by
 obtain ⟨k',s',h1,h2⟩:=Made.first (P:=P) (e:=el) (s:=s) (ys:=ys) hk
 refine RunO.eff hg (fun g w a hI hE=>?_) (h k' s' h2)
 have q1:=ev_R hE x
 have q2:=ev_R hE y
 rw [hx] at q1
 rw [hy] at q2
 obtain ⟨us,hus,hru⟩:=own_holds hI q2 hb hle
 rw [hys] at hru
 obtain ⟨val,w',g',r1,r2,r3,r4⟩:=aAppend_runH (ty:=ty) hI q1 ⟨us,hus,hru⟩ htd hz (fun p hp=>absurd hp List.not_mem_nil) hey hb0 (by simpa using hlen) h1
 exact ⟨val,w',g',.inl (append_exec rfl r1),r2,r3,r4⟩
end
end Go.PM
namespace Go.PM
open Go
def DOpS (P:Program) (ops:Array Oper) (o:Oper) (e:Env) (s:St) (v:PV) (T:St→Prop):Prop :=
 ∀ g w (a:Act),Inv P g s w→(∀ j∈slotsOf ops o,R g w (e.get j) (a.tmps.getD j undef))→∀ (K:Act→World→Prop) (Q:Exit→Act→World→Prop),
  (∀ s1 val w' g',T s1→Inv P g' s1 w'→Ext g w g' w'→R g' w' v val→K (a.put o.dst val) w') →
  (if Region.wanted o (yielded ops a.tmps) then o.wp P a w K Q∨(o.asks P a w∧LetsOut Q) else K (a.put o.dst undef) w)
theorem DOp.toS {P:Program} {ops:Array Oper} {o:Oper} {e:Env} {s s1:St} {v:PV} {T:St→Prop} (h:DOp P ops o e s v s1) (ht:T s1):DOpS P ops o e s v T :=
 fun g w a hI hs K Q hK=>h g w a hI hs K Q fun val w' g'=>hK s1 val w' g' ht
theorem any_order_s {P:Program} {ops:Array Oper} {N:Nat} {e0:Env} {Q:Exit→Act→World→Prop} {V:Nat→PV} {E:Nat→Env} {g0:G} {w0:World} {n:Nat} {J:(Nat→Bool)→St→Prop}
  (hnsz:n≤ops.size) (hcut:∀ i j,n≤j→j<ops.size→i<j→((masks ops.toList []).getD j 0).testBit i=true) (hok:drawOKf ops [] (fun _=>true)=true) (hN:∀ (i:Nat) (o:Oper),ops[i]? =some o→okOp N o=true)
  (hE0:E 0=e0) (hE:∀ (i:Nat) (o:Oper),i<n→ops[i]? =some o→E (i+1)=(E i).put o.dst (V i))
  (hJ:∀ (L:Nat→Bool) (i:Nat) (o:Oper) (s:St),i<n→ops[i]? =some o→J L s→L i=false→(∀ b,((masks ops.toList []).getD i 0).testBit b=true→L b=true)→(∀ k,L k=true→((masks ops.toList []).getD k 0).testBit i=false) →
    DOpS P ops o (E i) s (V i) (J (fun k=>if k=i then true else L k)))
  (hQ:∀ L g s w (a:Act),J L s→(∀ k,k<n→L k=true)→Inv P g s w→EnvOK g w (E n) a.tmps→Ext g0 w0 g w→a.defers=[]→a.tmps.size=N→wpOps P ops Q (List.range' n (ops.size-n)) a w) :
  ∀ (fuel:Nat) (listed:Array Bool) (g:G) (s:St) (w:World) (a:Act),listed.size=ops.size →
   ((List.range ops.size).filter fun k=> !listed.getD k true).length≤fuel→DC ops (fun k=>listed.getD k false=true)→(∀ k,n≤k→listed.getD k false=false) →
   Inv P g s w→Ext g0 w0 g w→a.defers=[]→a.tmps.size=N →
   (∀ j,R g w (match lastW (wslot ops j) (fun k=>listed.getD k false) n with | none=>e0.get j | some k=>V k) (a.tmps.getD j undef)) →
   J (fun k=>listed.getD k false) s →
   wpAny P .any ops Q fuel listed a w:=by
 have hpair:∀ (i j:Nat) (oi oj:Oper),i<j→ops[i]? =some oi→ops[j]? =some oj→conff ops [] (fun _=>true) i j oi oj=true→((masks ops.toList []).getD j 0).testBit i=true:=by
  intro i j oi oj hij h1 h2 hc
  unfold drawOKf at hok
  have:=List.all_eq_true.1 hok j (List.mem_range.2 (Array.getElem?_eq_some_iff.1 h2).1)
  rw [h2] at this
  simp only [Bool.and_eq_true] at this
  have:=List.all_eq_true.1 this.2 i (List.mem_range.2 hij)
  rw [h1] at this
  simp only [hc,Bool.not_true,Bool.false_or] at this
  exact this
 have hedge:∀ (j:Nat) (oj:Oper),ops[j]? =some oj→∀ e∈oj.after,Region.binds .any e=true→e.on<j:=by
  intro j oj h2 e he hb
  unfold drawOKf at hok
  have:=List.all_eq_true.1 hok j (List.mem_range.2 (Array.getElem?_eq_some_iff.1 h2).1)
  rw [h2] at this
  simp only [Bool.and_eq_true] at this
  have:=List.all_eq_true.1 this.1 e (by simpa using he)
  simpa [hb] using this
 have hmask:∀ (L:Nat→Prop),DC ops L→∀ (k:Nat) (o:Oper),ops[k]? =some o→(∀ e∈o.after,Region.binds .any e=true→L e.on)→∀ b,((masks ops.toList []).getD k 0).testBit b=true→L b :=
  fun L hdc=>masks_spec hdc ops.toList [] Y1 Y181 Y238
 have hEget:∀ i,i≤n→∀ j,(E i).get j=(match lastW (wslot ops j) (fun _=>true) i with | none=>e0.get j | some k=>V k):=by
  intro i
  induction i with
  | zero=>intro _ j;rw [hE0];rfl
  | succ i ih =>
    intro hi j
    obtain ⟨o,ho⟩:∃ o,ops[i]? =some o:=⟨ops[i]'Y2,Y1⟩
    rw [hE i o Y2 ho]
    unfold lastW
    rw [wslot_eq ho,Bool.and_true]
    unfold writesSlot
    cases hd:o.dst with
    | none=>simp only [Env.put];rw [ih Y2 j];simp
    | some d =>
      simp only [Env.put,Env.get]
      by_cases hjd:j=d
      ·subst hjd;simp
      ·exact Y63
 intro fuel
 have fin:∀ (fuel:Nat) (listed:Array Bool) (g:G) (s:St) (w:World) (a:Act),listed.size=ops.size →
   ((List.range ops.size).filter fun k=> !listed.getD k true).length≤fuel→DC ops (fun k=>listed.getD k false=true)→(∀ k,n≤k→listed.getD k false=false) →
   Inv P g s w→Ext g0 w0 g w→a.defers=[]→a.tmps.size=N →
   (∀ j,R g w (match lastW (wslot ops j) (fun k=>listed.getD k false) n with | none=>e0.get j | some k=>V k) (a.tmps.getD j undef)) →
   J (fun k=>listed.getD k false) s→(∀ k,k<n→listed.getD k false=true) →
   wpAny P .any ops Q fuel listed a w:=by
  intro fuel listed g s w a hsz hcnt hdc hhi hI hX hd hn hslots hstore hall'
  refine tail_order (n:=n) hcut hedge hmask (ops.size-n) fuel n listed a w Y2 ?_ (Nat.le_refl _) ?_ hsz hdc ?_
  ·exact Y12
  ·exact Y66
  ·refine hQ _ g s w a hstore hall' hI ?_ hX hd hn
   intro j
   rw [hEget _ (Nat.le_refl _) j,← lastW_congr (l:=fun k=>listed.getD k false) (fun k hk _=>hall' k hk)];exact hslots j
 induction fuel with
 | zero =>
   intro listed g s w a hsz hcnt hdc hhi hI hX hd hn hslots hstore
   refine fin 0 listed g s w a hsz hcnt hdc hhi hI hX hd hn hslots hstore ?_
   have hall:∀ k,k<ops.size→listed.getD k true=true:=by
    intro k hk
    have:(List.range ops.size).filter (fun k=> !listed.getD k true)=[]:=List.length_eq_zero_iff.1 Y2
    have:=List.filter_eq_nil_iff.1 this k (List.mem_range.2 hk)
    simpa using this
   intro k hk
   have:=hall k Y2
   rw [Array.getD_eq_getD_getElem?,Array.getElem?_eq_getElem Y2] at this ⊢
   exact this
 | succ fuel ih =>
   intro listed g s w a hsz hcnt hdc hhi hI hX hd hn hslots hstore
   by_cases hfull:∀ k,k<n→listed.getD k false=true
   ·exact Y132
   refine ⟨?_,?_⟩
   ·exact Y13
   ·intro i hi
    obtain ⟨h0,o,ho,hedges⟩:=mem_ready.1 hi
    have hlt:=(Array.getElem?_eq_some_iff.1 ho).1
    have hnl:listed.getD i false=false:=by
     rw [Array.getD_eq_getD_getElem?,Array.getElem?_eq_getElem Y2] at h0 ⊢
     exact h0
    have hanc:=hmask _ hdc i o ho hedges
    have hin:i<n:=by
     by_cases h:i<n
     ·exact h
     ·exact Y133
    have before:∀ (k:Nat) (ok:Oper),ops[k]? =some ok→k<i→conff ops [] (fun _=>true) k i ok o=true→listed.getD k false=true :=
     fun k ok hk hki hc=>hanc k (hpair k i ok o hki hk ho hc)
    have behind:∀ (k:Nat) (ok:Oper),ops[k]? =some ok→i<k→conff ops [] (fun _=>true) i k o ok=true→listed.getD k false=false:=by
     intro k ok hk hki hc
     cases hlk:listed.getD k false with
     | false=>rfl
     | true =>
       have this:listed.getD i false=true:=hmask _ hdc k ok hk (hdc k ok hk hlk) i (hpair i k o ok hki ho hk hc)
       rw [hnl] at this;cases this
    have cell:∀ p:Nat→Bool,(∀ (k:Nat) (ok:Oper),ops[k]? =some ok→k<i→p k=true→conff ops [] (fun _=>true) k i ok o=true)→(∀ (k:Nat) (ok:Oper),ops[k]? =some ok→i<k→p k=true→conff ops [] (fun _=>true) i k o ok=true) →
      lastW p (fun k=>listed.getD k false) n=lastW p (fun _=>true) i∧∀ k,i<k→k<n→(p k&&listed.getD k false)=false:=by
     intro p h1 h2
     have hb:∀ k,i<k→k<n→(p k&&listed.getD k false)=false:=by
      intro k hk hkn
      cases hp:p k with
      | false=>rfl
      | true =>
        obtain ⟨ok,hok'⟩:∃ o,ops[k]? =some o:=⟨ops[k]'Y2,Y1⟩
        rw [behind k ok hok' hk (h2 k ok hok' hk hp)];rfl
     refine ⟨?_,hb⟩
     rw [lastW_cut (i:=i) Y2 Y5]
     refine lastW_congr fun k hk hp=>?_
     obtain ⟨ok,hok'⟩:∃ o,ops[k]? =some o:=⟨ops[k]'Y2,Y1⟩
     exact before k ok hok' hk (h1 k ok hok' hk hp)
    have hsl:∀ j∈slotsOf ops o,R g w ((E i).get j) (a.tmps.getD j undef):=by
     intro j hj
     have:=(cell (wslot ops j) (by
      intro k ok hk hki hp
      rw [wslot_eq hk] at hp
      simp only [writesSlot,beq_iff_eq] at hp
      unfold conff
      rw [hp]
      simp [hj]
     ) (by
      intro k ok hk hki hp
      rw [wslot_eq hk] at hp
      simp only [writesSlot,beq_iff_eq] at hp
      unfold conff
      rw [hp]
      simp [hj]
     )).1
     have h3:=hslots j
     rw [this] at h3
     rw [hEget i Y2 j]
     exact h3
    have rest:∀ (s':St) val w' g',J (fun k=>(listed.setIfInBounds i true).getD k false) s' →
      Inv P g' s' w'→Ext g w g' w'→R g' w' (V i) val→wpAny P .any ops Q fuel (listed.setIfInBounds i true) (a.put o.dst val) w':=by
     intro s' val w' g' hs' hI' hX' hR'
     have hgd:∀ k,(listed.setIfInBounds i true).getD k false=if k=i then true else listed.getD k false:=by
      intro k
      by_cases e:k=i
      ·exact Y6
      ·exact Y7
     refine ih _ g' s' w' _ Y304 ?_ ?_ Y134 hI' (hX.trans hX') Y59 Y239 ?_ hs'
     ·exact Y8
     ·exact Y9
     ·exact Y17
    have hgd':∀ k,(listed.setIfInBounds i true).getD k false=if k=i then true else listed.getD k false:=by
     intro k
     by_cases e:k=i
     ·exact Y6
     ·exact Y7
    unfold wpOp
    rw [ho]
    simp only
    have hd':=hJ (fun k=>listed.getD k false) i o s hin ho hstore hnl hanc (fun k hk=>by
     cases hm:((masks ops.toList []).getD k 0).testBit i with
     | false=>rfl
     | true =>
       have hkn:∃ ok,ops[k]? =some ok:=by
        have hk':listed.getD k false=true:=hk
        have:k<listed.size:=by
         rw [Array.getD_eq_getD_getElem?] at hk'
         cases hx:listed[k]? with
         | none=>rw [hx] at hk';cases hk'
         | some b=>exact (Array.getElem?_eq_some_iff.1 hx).1
        exact ⟨ops[k]'Y2,Y1⟩
       obtain ⟨ok,hok'⟩:=hkn
       have this:listed.getD i false=true:=hmask _ hdc k ok hok' (hdc k ok hok' hk) i hm
       rw [hnl] at this;cases this)
    refine hd' g w a hI hsl _ _ fun s' val w' g' hj' k1 k2 k3=>rest s' val w' g' ?_ k1 k2 k3
    have hfe:(fun k=>(listed.setIfInBounds i true).getD k false)=(fun k=>if k=i then true else listed.getD k false):=funext hgd'
    rw [hfe]
    exact hj'
theorem any_order_h {P:Program} {ops:Array Oper} {N:Nat} {e0:Env} {Q:Exit→Act→World→Prop} {V:Nat→PV} {E:Nat→Env} {g0:G} {w0:World} {n:Nat} {J:(Nat→Bool)→St→Prop}
  (hnsz:n≤ops.size) (hcut:∀ i j,n≤j→j<ops.size→i<j→((masks ops.toList []).getD j 0).testBit i=true) (hok:drawOKf ops [] (fun _=>true)=true) (hN:∀ (i:Nat) (o:Oper),ops[i]? =some o→okOp N o=true)
  (hE0:E 0=e0) (hE:∀ (i:Nat) (o:Oper),i<n→ops[i]? =some o→E (i+1)=(E i).put o.dst (V i))
  (hJ:∀ (L:Nat→Bool) (i:Nat) (o:Oper) (s:St),i<n→ops[i]? =some o→J L s→L i=false→(∀ b,((masks ops.toList []).getD i 0).testBit b=true→L b=true)→(∀ k,L k=true→((masks ops.toList []).getD k 0).testBit i=false) →
    ∃ s',DOp P ops o (E i) s (V i) s'∧J (fun k=>if k=i then true else L k) s')
  (hQ:∀ L g s w (a:Act),J L s→(∀ k,k<n→L k=true)→Inv P g s w→EnvOK g w (E n) a.tmps→Ext g0 w0 g w→a.defers=[]→a.tmps.size=N→wpOps P ops Q (List.range' n (ops.size-n)) a w) :
  ∀ (fuel:Nat) (listed:Array Bool) (g:G) (s:St) (w:World) (a:Act),listed.size=ops.size →
   ((List.range ops.size).filter fun k=> !listed.getD k true).length≤fuel→DC ops (fun k=>listed.getD k false=true)→(∀ k,n≤k→listed.getD k false=false) →
   Inv P g s w→Ext g0 w0 g w→a.defers=[]→a.tmps.size=N →
   (∀ j,R g w (match lastW (wslot ops j) (fun k=>listed.getD k false) n with | none=>e0.get j | some k=>V k) (a.tmps.getD j undef)) →
   J (fun k=>listed.getD k false) s →
   wpAny P .any ops Q fuel listed a w :=
 any_order_s hnsz hcut hok hN hE0 hE (fun L i o s h1 h2 h3 h4 h5 h6=>by
  obtain ⟨s',a,b⟩:=hJ L i o s h1 h2 h3 h4 h5 h6
  exact a.toS b) hQ
end Go.PM
namespace Go.PM
open Go
def setK (fx:List Nat) (i:Nat) (A:List Bool):List Bool:=(fx.zip A).map fun p=>p.2||p.1==i
def admK (ms:List Nat) (fx:List Nat) (i:Nat) (A:List Bool):Bool :=
 (fx.zip A).all fun p=>(!(p.1==i)|| !p.2)&&(!(ms.getD i 0).testBit p.1||p.2)&&(!(ms.getD p.1 0).testBit i|| !p.2)
def trOK (ms:List Nat) (fx:List Nat) (keys:List (List Bool)) (i:Nat) (tr:List (Nat × Nat)):Bool :=
 (List.range keys.length).all fun p=>match keys[p]? with
   | none=>true
   | some A=> !admK ms fx i A||tr.any fun q=>q.1==p&&(keys[q.2]? ==some (setK fx i A))
def finOK (fx:List Nat) (keys:List (List Bool)):Bool :=
 (List.range keys.length).all fun p=> !(keys[p]? ==some (fx.map fun _=>true))||p==keys.length-1
inductive DetH (P:Program) (ops:Array Oper) (fx:List Nat) (keys:List (List Bool)) (stores:List St):Nat→List Oper→Env→Env→Prop
 | nil {i e}:DetH P ops fx keys stores i [] e e
 | cons {i o l e v e'} (tr:List (Nat × Nat)):trOK (masks ops.toList []) fx keys i tr=true →
    (∀ q∈tr,∀ s s',stores[q.1]? =some s→stores[q.2]? =some s'→DOp P ops o e s v s')→DetH P ops fx keys stores (i+1) l (e.put o.dst v) e'→DetH P ops fx keys stores i (o::l) e e'
section
variable {P:Program} {ops:Array Oper} {fx:List Nat} {keys:List (List Bool)} {stores:List St} {e e':Env} {s s' s0:St} {N:Nat} {k:List KI} {rt:Env→St→Prop}
theorem Y137 {p:Prop} (h:p:=by
 exact
                (fun j o'=>by
  have:=hl (j+1) o'
  rw [show i+1+j=i+(j+1) from Y2]
  simpa using this)):p:=h
theorem DetH.lists:∀ {i l e e'},DetH P ops fx keys stores i l e e'→(∀ j (o:Oper),l[j]? =some o→ops[i+j]? =some o) →
  ∃ (V:Nat→PV) (E:Nat→Env),E i=e∧E (i+l.length)=e'∧∀ k (o:Oper),i≤k→k<i+l.length→ops[k]? =some o →
   E (k+1)=(E k).put o.dst (V k)∧∃ tr,trOK (masks ops.toList []) fx keys k tr=true∧∀ q∈tr,∀ s s',stores[q.1]? =some s→stores[q.2]? =some s'→DOp P ops o (E k) s (V k) s':=by
 intro i l e e' h
 induction h with
 | nil =>
   rename_i i e
   intro hl
   refine ⟨fun _=>.junk,fun _=>e,rfl,rfl,fun k o hk hk2 ho=>?_⟩
   simp at hk2;omega
 | cons tr h1 h2 hd ih =>
   rename_i i o l e v e'
   intro hl
   obtain ⟨V,E,a1,a3,a5⟩:=ih Y137
   have h0:ops[i]? =some o:=Y68
   refine ⟨fun k=>if k=i then v else V k,fun k=>if k=i then e else E k,if_pos rfl,?_,?_⟩
   ·exact Y10
   ·intro k o' hk hk2 ho'
    by_cases e1:k=i
    ·subst e1
     rw [h0] at ho';cases ho'
     simp only [if_true,show ¬ (k+1=k) from Y2,if_false]
     rw [a1]
     exact ⟨rfl,tr,h1,h2⟩
    ·exact Y15
def DetHC (P:Program) (ops:Array Oper) (fx:List Nat) (keys:List (List Bool)) (stores:List St) (i:Nat) (l:List Oper) (e:Env) (K:Env→Prop):Prop:=∃ e',DetH P ops fx keys stores i l e e'∧K e'
theorem DetHC.nil {i:Nat} {K:Env→Prop} (h:K e):DetHC P ops fx keys stores i [] e K:=⟨e,.nil,h⟩
theorem admK_of {ms fx:List Nat} {L:Nat→Bool} {i:Nat} (h1:L i=false) (h2:∀ b,(ms.getD i 0).testBit b=true→L b=true) (h3:∀ k,L k=true→(ms.getD k 0).testBit i=false):admK ms fx i (fx.map L)=true:=by
 unfold admK
 rw [List.all_eq_true]
 intro p hp
 obtain ⟨a,b⟩:=p
 have hb:b=L a:=by
  clear h1 h2 h3
  induction fx with
  | nil=>simp at hp
  | cons x l ih =>
    simp only [List.map_cons,List.zip_cons_cons,List.mem_cons,Prod.mk.injEq] at hp
    rcases hp with ⟨rfl,rfl⟩ | hp
    ·rfl
    ·exact ih hp
 subst hb
 simp only [Bool.and_eq_true,Bool.or_eq_true,Bool.not_eq_true',beq_eq_false_iff_ne,ne_eq]
 refine ⟨⟨?_,?_⟩,?_⟩
 ·by_cases e:a=i
  ·subst e;exact .inr h1
  ·exact .inl e
 ·cases hm:(ms.getD i 0).testBit a with
  | false=>exact .inl rfl
  | true=>exact .inr (h2 a hm)
 ·cases hl:L a with
  | false=>exact .inr rfl
  | true=>exact .inl (h3 a hl)
theorem setK_map (fx:List Nat) (L:Nat→Bool) (i:Nat):setK fx i (fx.map L)=fx.map (fun k=>if k=i then true else L k):=by
 unfold setK
 induction fx with
 | nil=>rfl
 | cons x l ih =>
   simp only [List.map_cons,List.zip_cons_cons,ih,List.cons.injEq,and_true]
   by_cases e:x=i
   ·subst e;simp
   ·simp [e]
theorem Y25 {p:Prop} (h:p:=by
 apply List.ext_getElem?
 intro i
 simp only [List.getElem?_map,List.getElem?_drop,List.getElem?_range',Array.getElem?_toList]
 by_cases hi:i<ops.size-min n ops.size
 ·exact Y136
 ·rw [List.getElem?_eq_none Y115,Array.getElem?_eq_none Y2]
  rfl):p:=h
theorem Y138 {p:Prop} (h:p:=by
 exact
                   (fun j o ho=>by
  rw [List.getElem?_take] at ho
  split at ho
  ·simpa using ho
  ·cases ho)):p:=h
theorem Run.drawH {id:Nat} (n:Nat) (fx:List Nat) (keys:List (List Bool)) (stores:List St) (sN:St) (hm:P.follows .mixedOrders=true) (hs:drawOKf ops [] (fun _=>true)=true) (hc:cutOK ops n=true)
  (hfx:fx.all (fun k=>decide (k<n)&&decide (k<ops.size))=true) (hlen:Nat.beq keys.length stores.length=true) (h0:(keys[0]? ==some (fx.map fun _=>false))=true) (hst:stores[0]? =some s0) (hfin:finOK fx keys=true) (hN:stores[keys.length-1]? =some sN)
  (hd:DetHC P ops fx keys stores 0 (ops.toList.take n) e (fun e'=>RunO P N ops (ops.toList.drop n) k e' sN rt)):Run P N (.code (.region id ops true)::k) e s0 rt:=by
 obtain ⟨e',hd,h⟩:=hd
 intro ok
 simp only [okK,okC,Bool.and_eq_true] at ok
 intro _ g w ac hI hE hdf hN2
 obtain ⟨V,E,a1,a3,a5⟩:=hd.lists Y138
 have hlen':(ops.toList.take n).length=min n ops.size:=Y1
 simp only [Nat.zero_add,hlen'] at a3 a5
 have hmin:min n ops.size≤ops.size:=Nat.min_le_right _ _
 have hkl:keys.length=stores.length:=Nat.eq_of_beq_eq_true hlen
 refine wp_region_any hm ?_
 obtain ⟨hI1,hX1⟩:=drew_step hI (w.drawn+1)
 have hrepl:∀ k,(Array.replicate ops.size false).getD k false=false:=by
  intro k
  rw [Array.getD_eq_getD_getElem?]
  cases hx:(Array.replicate ops.size false)[k]? with
  | none=>rfl
  | some b=>have:=Array.mem_of_getElem? hx;simp at this;rw [this.2];rfl
 have hnone:∀ (p:Nat→Bool) (n:Nat),lastW p (fun k=>(Array.replicate ops.size false).getD k false) n=none:=by
  intro p n
  induction n with
  | zero=>rfl
  | succ n ih=>unfold lastW;rw [hrepl,ih];simp
 have hcut:∀ i j,min n ops.size≤j→j<ops.size→i<j→((masks ops.toList []).getD j 0).testBit i=true :=
  fun i j h1 h2 h3=>cutOK_spec hc i j Y2 h2 h3
 refine any_order_h (N:=N) (e0:=e) (V:=V) (E:=E) (g0:=g) (w0:=w) (n:=min n ops.size) (J:=fun L s=>∃ p:Nat,keys[p]? =some (fx.map L)∧stores[p]? =some s) hmin hcut hs ?_ a1 (fun i o hi ho=>(a5 i o (Nat.zero_le _) hi ho).1)
  ?_ ?_ ops.size _ g s0 _ ac Y1 ?_ ?_ (fun k _=>hrepl k) hI1 hX1 hdf hN2 ?_ ?_
 ·exact Y64
 ·rintro L i o s hi ho ⟨p,hp1,hp2⟩ h1 h2 h3
  obtain ⟨_,tr,ht1,ht2⟩:=a5 i o (Nat.zero_le _) hi ho
  unfold trOK at ht1
  have hpl:p<keys.length:=(List.getElem?_eq_some_iff.1 hp1).1
  have hh:=List.all_eq_true.1 ht1 p (List.mem_range.2 hpl)
  rw [hp1] at hh
  simp only at hh
  rw [admK_of h1 h2 h3] at hh
  simp only [Bool.not_true,Bool.false_or,List.any_eq_true,Bool.and_eq_true,beq_iff_eq] at hh
  obtain ⟨q,hq,hq1,hq2⟩:=hh
  rw [setK_map] at hq2
  have hql:q.2<stores.length:=by rw [← hkl];exact (List.getElem?_eq_some_iff.1 hq2).1
  exact ⟨stores[q.2],ht2 q hq s _ (by rw [hq1];exact hp2) (List.getElem?_eq_getElem hql),q.2,hq2,List.getElem?_eq_getElem hql⟩
 ·rintro L g' s w' a' ⟨p,hp1,hp2⟩ hall k1 k2 k3 k4 k5
  have hmap:fx.map L=fx.map (fun _=>true):=by
   refine List.map_congr_left fun x hx=>?_
   have hxn:=List.all_eq_true.1 hfx x hx
   simp only [Bool.and_eq_true,decide_eq_true_eq] at hxn
   exact hall x Y2
  have hpe:p=keys.length-1:=by
   unfold finOK at hfin
   have hlp:p<keys.length:=(List.getElem?_eq_some_iff.1 hp1).1
   have:=List.all_eq_true.1 hfin p (List.mem_range.2 hlp)
   rw [hp1,hmap] at this
   simpa using this
  subst hpe
  rw [hp2] at hN
  cases hN
  rw [a3] at k2
  refine RunO.eff.wpOps_mono' (fun _ _ _=>Lift.trans k3) (h ?_ ok.2 _ ?_ g' w' a' k1 k2 k4 k5)
  ·exact Y135
  ·exact Y25
 ·exact Y65
 ·exact Y69
 ·exact Y130
 ·refine ⟨0,?_,hst⟩
  rw [beq_iff_eq.1 h0]
  congr 1
  exact List.map_congr_left fun x _=>(hrepl x).symm
end
end Go.PM
namespace Go.PM
open Go
def preOK (ms:List Nat) (fx:List Nat) (keys:List (List Bool)) (i len:Nat) (ks:List Nat):Bool:=(List.range' i len).all fun j=>trOK ms fx keys j (ks.map fun p=>(p,p))
def prsOf (stores:List St) (tr:List (Nat × Nat)):List (St × St):=tr.filterMap fun q=>match stores[q.1]?,stores[q.2]? with | some a,some b=>some (a,b) | _,_=>none
theorem prsOf_mem {stores:List St} {tr:List (Nat × Nat)} {q:Nat × Nat} {s s':St} (hq:q∈tr) (h1:stores[q.1]? =some s) (h2:stores[q.2]? =some s'):(s,s')∈prsOf stores tr:=by
 unfold prsOf
 rw [List.mem_filterMap]
 exact ⟨q,hq,by rw [h1,h2]⟩
section
variable {P:Program} {ops:Array Oper} {fx:List Nat} {keys:List (List Bool)} {stores:List St} {e e':Env} {s s' s0:St} {N:Nat} {k:List KI} {rt:Env→St→Prop}
theorem DetHC.one {o:Oper} {l:List Oper} {i:Nat} {v:PV} {K:Env→Prop} (tr:List (Nat × Nat)) (prs:List (St × St)) (hk:trOK (masks ops.toList []) fx keys i tr=true) (hp:prsOf stores tr=prs)
  (h:∀ q∈prs,DOp P ops o e q.1 v q.2) (hd:DetHC P ops fx keys stores (i+1) l (e.put o.dst v) K):DetHC P ops fx keys stores i (o::l) e K:=by
 obtain ⟨e',h1,h2⟩:=hd
 subst hp
 exact ⟨e',DetH.cons tr hk (fun q hq s s' k1 k2=>h _ (prsOf_mem hq k1 k2)) h1,h2⟩
theorem DetH.pre {ks:List Nat} {s1:St}:∀ {pre:List Oper} {l:List Oper} {i:Nat} {e e1 e':Env},preOK (masks ops.toList []) fx keys i pre.length ks=true→DopsB P ops pre e s1 (ks.filterMap fun p=>stores[p]?) e1 →
  DetH P ops fx keys stores (i+pre.length) l e1 e'→DetH P ops fx keys stores i (pre++l) e e'
 | [],l,i,e,e1,e',_,h,hd=>Y305
 | o::pre,l,i,e,e1,e',hk,h,hd=>by
   simp only [List.length_cons] at hk hd
   obtain ⟨v,hv,hv',h⟩:=h
   unfold preOK at hk
   rw [List.range'_succ,List.all_cons,Bool.and_eq_true] at hk
   refine DetH.cons (v:=v) (ks.map fun p=>(p,p)) hk.1 ?_ ?_
   ·intro q hq s s' k1 k2
    obtain ⟨p,hp,rfl⟩:=List.mem_map.1 hq
    rw [k1] at k2
    cases k2
    exact dop1_op (hv' s (List.mem_filterMap.2 ⟨p,hp,k1⟩))
   ·refine DetH.pre hk.2 h ?_
    rw [show i+1+pre.length=i+(pre.length+1) from Y2]
    exact hd
theorem DetHC.pre {pre l:List Oper} {i:Nat} {e1:Env} {s1:St} {K:Env→Prop} (ks:List Nat) (sub:List St) (hk:preOK (masks ops.toList []) fx keys i pre.length ks=true) (hs:(ks.filterMap fun p=>stores[p]?)=sub)
  (h:DopsB P ops pre e s1 sub e1) (hd:DetHC P ops fx keys stores (i+pre.length) l e1 K):DetHC P ops fx keys stores i (pre++l) e K:=by
 obtain ⟨e',h1,h2⟩:=hd
 subst hs
 exact ⟨e',DetH.pre hk h h1,h2⟩
theorem DetHC.all {l:List Oper} {i:Nat} {e1:Env} {s1:St} {K:Env→Prop} (ks:List Nat) (sub:List St) (hk:preOK (masks ops.toList []) fx keys i l.length ks=true) (hs:(ks.filterMap fun p=>stores[p]?)=sub)
  (h:DopsB P ops l e s1 sub e1) (hk':K e1):DetHC P ops fx keys stores i l e K:=by
 have:=DetHC.pre (P:=P) (ops:=ops) (l:=[]) ks sub hk hs h (DetHC.nil hk')
 simpa using this
theorem DetHC.eff {o:Oper} {l:List Oper} {i:Nat} {v:PV} {K:Env→Prop} (tr:List (Nat × Nat)) (a b:St) (prs:List (St × St)) (hk:trOK (masks ops.toList []) fx keys i tr=true) (hp:prsOf stores tr=(a,b)::prs)
  (hg:guard? ops o (Env.keep (slotsOf ops o) e)=some true) (h1:acore P o.op (ev (Env.keep (slotsOf ops o) e)) a=some (v,b)) (h2:∀ q∈prs,acore P o.op (ev (Env.keep (slotsOf ops o) e)) q.1=some (v,q.2))
  (hd:DetHC P ops fx keys stores (i+1) l (e.put o.dst v) K):DetHC P ops fx keys stores i (o::l) e K :=
 DetHC.one tr _ hk hp (fun q hq=>by
  rcases List.mem_cons.1 hq with rfl | hq
  ·exact DOp.of_effect hg fun g w ac hI hE=>acore_run hI (fun x=>ev_R hE x) h1
  ·exact DOp.of_effect hg fun g w ac hI hE=>acore_run hI (fun x=>ev_R hE x) (h2 q hq)) hd
theorem DOp.of_callE {d:Option Nat} {c:Call} {t:TypeId} {pos:String} {af:Array Edge} {gd:Option (Nat × Bool)} {f:FuncId} {args args':List PV} {v:PV} {sa sb:St}
  (hg:guard? ops ⟨d,.call c,t,pos,af,gd⟩ (Env.keep (slotsOf ops ⟨d,.call c,t,pos,af,gd⟩) e)=some true)
  (ha:acall c (Env.keep (slotsOf ops ⟨d,.call c,t,pos,af,gd⟩) e)=some (f,args)) (hw:PV.weaks args=args') (hc:callable P f=true)
  (h:ACalls P f args' sa fun r s2=>r=v∧s2=sb):DOp P ops ⟨d,.call c,t,pos,af,gd⟩ e sa v sb:=by
 subst hw
 intro g w a hI hsl K Q hk
 have hE:=keep_ok hsl
 rw [guard_wanted hg hE]
 simp only [if_true]
 obtain ⟨vs,hrun,hra⟩:=acall_run (P:=P) (o:=⟨d,.call c,t,pos,af,gd⟩) (a:=a) rfl hE ha hc
 left
 unfold Oper.wp
 rw [hrun,Oper.upon_enter]
 refine (h g w vs hI (RA_weak _ _ hra)).mono ?_
 rintro e' w' ⟨v',g',r',s',rfl,hI',hR',hX',rfl,rfl⟩
 exact hk _ _ _ hI' hX' hR'
theorem DetHC.call {d:Option Nat} {c:Call} {t:TypeId} {pos:String} {af:Array Edge} {gd:Option (Nat × Bool)} {l:List Oper} {i:Nat} {f:FuncId} {args args':List PV} {v:PV} {K:Env→Prop} (ks:List Nat) (sub:List St)
  (hk:preOK (masks ops.toList []) fx keys i 1 ks=true) (hs:(ks.filterMap fun p=>stores[p]?)=sub)
  (hg:guard? ops ⟨d,.call c,t,pos,af,gd⟩ (Env.keep (slotsOf ops ⟨d,.call c,t,pos,af,gd⟩) e)=some true)
  (ha:acall c (Env.keep (slotsOf ops ⟨d,.call c,t,pos,af,gd⟩) e)=some (f,args)) (hw:PV.weaks args=args') (hc:callable P f=true)
  (h:∀ s∈sub,ACalls P f args' s fun r s2=>r=v∧s2=s) (hd:DetHC P ops fx keys stores (i+1) l (e.put d v) K):DetHC P ops fx keys stores i (⟨d,.call c,t,pos,af,gd⟩::l) e K:=by
 obtain ⟨e',h1,h2⟩:=hd
 subst hs
 unfold preOK at hk
 rw [List.range'_succ,List.all_cons,Bool.and_eq_true] at hk
 refine ⟨e',DetH.cons (v:=v) _ hk.1 ?_ h1,h2⟩
 intro q hq s s' k1 k2
 obtain ⟨p,hp,rfl⟩:=List.mem_map.1 hq
 rw [k1] at k2
 cases k2
 exact DOp.of_callE hg ha hw hc (h s (List.mem_filterMap.2 ⟨p,hp,k1⟩))
theorem DetHC.callE {d:Option Nat} {c:Call} {t:TypeId} {pos:String} {af:Array Edge} {gd:Option (Nat × Bool)} {l:List Oper} {i:Nat} {f:FuncId} {args args':List PV} {v:PV} {K:Env→Prop} (tr:List (Nat × Nat)) (prs:List (St × St))
  (hk:trOK (masks ops.toList []) fx keys i tr=true) (hp:prsOf stores tr=prs)
  (hg:guard? ops ⟨d,.call c,t,pos,af,gd⟩ (Env.keep (slotsOf ops ⟨d,.call c,t,pos,af,gd⟩) e)=some true)
  (ha:acall c (Env.keep (slotsOf ops ⟨d,.call c,t,pos,af,gd⟩) e)=some (f,args)) (hw:PV.weaks args=args') (hc:callable P f=true)
  (h:∀ q∈prs,ACalls P f args' q.1 fun r s2=>r=v∧s2=q.2) (hd:DetHC P ops fx keys stores (i+1) l (e.put d v) K):DetHC P ops fx keys stores i (⟨d,.call c,t,pos,af,gd⟩::l) e K :=
 DetHC.one tr prs hk hp (fun q hq=>DOp.of_callE hg ha hw hc (h q hq)) hd
theorem DetHC.resAlloc {o:Oper} {l:List Oper} {i id:Nat} {t:TypeId} {z:PV} {K:Env→Prop} (tr:List (Nat × Nat)) (prs:List (St × St)) (hk:trOK (masks ops.toList []) fx keys i tr=true) (hp:prsOf stores tr=prs)
  (hg:guard? ops o (Env.keep (slotsOf ops o) e)=some true) (ho:o.op=.alloc t) (hz:zpv P t=some z) (h:∀ q∈prs,q.1.blk id=some .res∧q.2=q.1.set id (some (.row t [z])))
  (hd:DetHC P ops fx keys stores (i+1) l (e.put o.dst (.ptr id 0 0)) K):DetHC P ops fx keys stores i (o::l) e K :=
 DetHC.one tr prs hk hp (fun q hq=>by
  rw [(h q hq).2]
  exact DOp.of_effect hg fun g w a hI hE=>resAlloc_run hI (h q hq).1 ho hz) hd
theorem resMake_run {g w} {a:Act} {o:Oper} {t el:TypeId} {x y:Operand} {n id:Nat} {v:PV} (hI:Inv P g s w) (hid:s.blk id=some .res) (ho:o.op=.makeSlice t x y) (h1:a.eval x=.int .i64 n) (h2:a.eval y=.int .i64 n) (htd:td P t=.sl el) (hz:zpv P el=some v) (hn2:n<1073741824000000) (hroom:n*P.bytesOf el≤140737488355328) :
  Effect P o g w a (.own id 0 n) (s.set id (some (.row el (List.replicate n v)))):=by
 obtain ⟨z,r1,r2,r3,r4⟩:=makeSliceG_run (w:=w) htd hz (Nat.le_refl n) hn2 Y307 hroom
 obtain ⟨_,_,_,_,_,hp,_⟩:=zero_run (P:=P) (w:=w) hz
 have hR:R g w v z:=by rw [r1];exact pvOf_R g w z r3
 have hfl:∀ u∈List.replicate n z,u.cells.size=P.cellsOf el∧∀ c∈u.cells.toList,c.flat=true:=fun u hu=>by
  rw [(List.mem_replicate.1 hu).2]
  refine ⟨r2,fun c hc=>?_⟩
  have hok:v.ok=true:=by
   obtain ⟨_,_,_,_,_,_,_,h7⟩:=zero_run (P:=P) (w:=w) hz
   exact h7
  exact (RA_cells hR hok).2.1 c hc
 obtain ⟨g',k1,k2,k3,k4⟩:=resRow_step (t:=el) (ty:=el) (els:=List.replicate n v) (vs:=List.replicate n z) (c:=(flat (List.replicate n z)).toArray) hI hid hp (RA_replicate hR n) Y1 hfl
 have hlt:id<s.nxt:=hI.id_lt (by rw [hid];simp)
 refine ⟨.slice (some ⟨w.heap.size,0,none⟩) n n,_,g',.inl ?_,k1,k2,?_⟩
 ·unfold execOp
  rw [ho]
  simp only [bind_run,pure_run,h1,h2,r4]
 ·exact Y76
theorem DetHC.resMake {d:Option Nat} {t ty el:TypeId} {x y:Operand} {pos:String} {af:Array Edge} {gd:Option (Nat × Bool)} {l:List Oper} {i:Nat} {v:PV} {K:Env→Prop} (id n:Nat) (tr:List (Nat × Nat)) (prs:List (St × St)) (hk:trOK (masks ops.toList []) fx keys i tr=true) (hp:prsOf stores tr=prs)
  (hg:guard? ops ⟨d,.makeSlice t x y,ty,pos,af,gd⟩ (Env.keep (slotsOf ops ⟨d,.makeSlice t x y,ty,pos,af,gd⟩) e)=some true)
  (hx:ev (Env.keep (slotsOf ops ⟨d,.makeSlice t x y,ty,pos,af,gd⟩) e) x=.int .i64 n) (hy:ev (Env.keep (slotsOf ops ⟨d,.makeSlice t x y,ty,pos,af,gd⟩) e) y=.int .i64 n)
  (htd:td P t=.sl el) (hz:zpv P el=some v) (hn2:n<1073741824000000) (hroom:n*P.bytesOf el≤140737488355328) (h:∀ q∈prs,q.1.blk id=some .res∧q.2=q.1.set id (some (.row el (List.replicate n v))))
  (hd:DetHC P ops fx keys stores (i+1) l (e.put d (.own id 0 n)) K):DetHC P ops fx keys stores i (⟨d,.makeSlice t x y,ty,pos,af,gd⟩::l) e K :=
 DetHC.one tr prs hk hp (fun q hq=>by
  rw [(h q hq).2]
  refine DOp.of_effect hg fun g w a hI hE=>?_
  have h1:=ev_R hE x
  have h2:=ev_R hE y
  rw [hx] at h1
  rw [hy] at h2
  simp only [R] at h1 h2
  exact resMake_run hI (h q hq).1 rfl h1 h2 htd hz hn2 hroom) hd
theorem DetHC.app {d:Option Nat} {x y:Operand} {t ty:TypeId} {pos:String} {af:Array Edge} {gd:Option (Nat × Bool)} {l:List Oper} {i:Nat} {el:TypeId} {kx ky:SK} {xs ys:List PV} {v:PV} {K:Env→Prop} (tr:List (Nat × Nat)) (prs:List (St × St)) (hk:trOK (masks ops.toList []) fx keys i tr=true) (hp:prsOf stores tr=prs)
  (hg:guard? ops ⟨d,.call ⟨.builtin .append,#[x,y],#[t,t]⟩,ty,pos,af,gd⟩ (Env.keep (slotsOf ops ⟨d,.call ⟨.builtin .append,#[x,y],#[t,t]⟩,ty,pos,af,gd⟩) e)=some true)
  (hx:ev (Env.keep (slotsOf ops ⟨d,.call ⟨.builtin .append,#[x,y],#[t,t]⟩,ty,pos,af,gd⟩) e) x=.sl kx xs) (hy:ev (Env.keep (slotsOf ops ⟨d,.call ⟨.builtin .append,#[x,y],#[t,t]⟩,ty,pos,af,gd⟩) e) y=.sl ky ys)
  (htd:td P t=.sl el) (hz:(zpv P el).isSome=true) (hex:isEls P el xs) (hey:isEls P el ys) (hb0:0<P.bytesOf el) (hlen:(xs.length+ys.length)*P.bytesOf el≤140737488355328)
  (h:∀ q∈prs,aAppend P el kx xs ys q.1=some (v,q.2)) (hd:DetHC P ops fx keys stores (i+1) l (e.put d v) K):DetHC P ops fx keys stores i (⟨d,.call ⟨.builtin .append,#[x,y],#[t,t]⟩,ty,pos,af,gd⟩::l) e K :=
 DetHC.one tr prs hk hp (fun q hq=>by
  refine DOp.of_effect hg fun g w a hI hE=>?_
  have e1:=ev_R hE x
  have e2:=ev_R hE y
  rw [hx] at e1
  rw [hy] at e2
  obtain ⟨val,w',g',r1,r2,r3,r4⟩:=aAppend_run (ty:=ty) hI e1 e2 htd hz hex hey hb0 hlen (h q hq)
  exact ⟨val,w',g',.inl (append_exec rfl r1),r2,r3,r4⟩) hd
end
end Go.PM
namespace Go.PM
open Go
section
variable {P:Program} {N:Nat} {k:List KI} {e:Env} {s:St} {rt:Env→St→Prop}
variable {ops:Array Oper} {fx:List Nat} {keys:List (List Bool)} {stores:List St}
end
end Go.PM
namespace Go.PM
open Go
section
variable {P:Program} {N:Nat} {k:List KI} {e:Env} {s:St} {rt:Env→St→Prop} {ops:Array Oper} {ws:List Nat}
end
end Go.PM
namespace Go.PM
open Go
end Go.PM
namespace Go.PM
open Go
section
variable {P:Program} {ops:Array Oper} {fx:List Nat} {keys:List (List Bool)} {stores:List St} {e e1:Env} {s s0 s1 sN:St} {N i:Nat} {kk:List KI} {rt:Env→St→Prop} {K:Env→Prop} {l:List Oper} {rest:List St} {prs:List (St × St)}
theorem pq {p:Prop} (h:p:=by simp only [prsOf,List.filterMap_cons,List.filterMap_nil,List.getElem?_cons_zero,List.getElem?_cons_succ];rfl):p:=h
theorem rH {id:Nat} (n:Nat) (fx:List Nat) (keys:List (List Bool)) (stores:List St) (hm:P.follows .mixedOrders=true) (hs:drawOKf ops [] (fun _=>true)=true:=by kernel_rfl) (hc:cutOK ops n=true:=by kernel_rfl)
  (hfx:fx.all (fun k=>decide (k<n)&&decide (k<ops.size))=true:=by kernel_rfl) (hlen:Nat.beq keys.length stores.length=true:=by kernel_rfl) (h0:(keys[0]? ==some (fx.map fun _=>false))=true:=by kernel_rfl) (hst:stores[0]? =some s0:=by rfl) (hfin:finOK fx keys=true:=by kernel_rfl)
  (hN:stores[keys.length-1]? =some sN:=by rfl)
  (k:DetHC P ops fx keys stores 0 (ops.toList.take n) e (fun e'=>RunO P N ops (ops.toList.drop n) kk e' sN rt)):Run P N (.code (.region id ops true)::kk) e s0 rt :=
 .drawH n fx keys stores sN hm hs hc hfx hlen h0 hst hfin hN k
theorem dP {pre:List Oper} (ks:List Nat) (hk:preOK (masks ops.toList []) fx keys i pre.length ks=true:=by kernel_rfl) (hs:(ks.filterMap fun p=>stores[p]?)=s1::rest:=by simp only [List.filterMap_cons,List.filterMap_nil,List.getElem?_cons_zero,List.getElem?_cons_succ];rfl)
  (h:DopsB P ops pre e s1 (s1::rest) e1:=by simp (disch:=first | omega |(simp only [nxt_set,nxt_new]<;>omega) | fail) only [go_sem,↓reduceIte,Nat.reduceEqDiff,Nat.reduceLT,Nat.reduceLeDiff,Nat.reduceAdd,Nat.reduceMul,H]<;>rfl) (k:DetHC P ops fx keys stores (i+pre.length) l e1 K):DetHC P ops fx keys stores i (pre++l) e K:=.pre ks _ hk hs h k
theorem dA (ks:List Nat) (hk:preOK (masks ops.toList []) fx keys i l.length ks=true:=by kernel_rfl) (hs:(ks.filterMap fun p=>stores[p]?)=s1::rest:=by simp only [List.filterMap_cons,List.filterMap_nil,List.getElem?_cons_zero,List.getElem?_cons_succ];rfl)
  (h:DopsB P ops l e s1 (s1::rest) e1:=by simp (disch:=first | omega |(simp only [nxt_set,nxt_new]<;>omega) | fail) only [go_sem,↓reduceIte,Nat.reduceEqDiff,Nat.reduceLT,Nat.reduceLeDiff,Nat.reduceAdd,Nat.reduceMul,H]<;>rfl) (k:K e1):DetHC P ops fx keys stores i l e K:=.all ks _ hk hs h k
theorem dE {o:Oper} {v:PV} {a b:St} (tr:List (Nat × Nat)) (hk:trOK (masks ops.toList []) fx keys i tr=true:=by kernel_rfl) (hp:prsOf stores tr=(a,b)::prs:=by simp only [prsOf,List.filterMap_cons,List.filterMap_nil,List.getElem?_cons_zero,List.getElem?_cons_succ];rfl)
  (hg:guard? ops o (Env.keep (slotsOf ops o) e)=some true:=by simp (disch:=first | omega |(simp only [nxt_set,nxt_new]<;>omega) | fail) only [go_sem,↓reduceIte,Nat.reduceEqDiff,Nat.reduceLT,Nat.reduceLeDiff,Nat.reduceAdd,Nat.reduceMul,H]<;>rfl) (h1:acore P o.op (ev (Env.keep (slotsOf ops o) e)) a=some (v,b):=by simp (disch:=first | omega |(simp only [nxt_set,nxt_new]<;>omega) | fail) only [go_sem,↓reduceIte,Nat.reduceEqDiff,Nat.reduceLT,Nat.reduceLeDiff,Nat.reduceAdd,Nat.reduceMul,H]<;>rfl) (h2:∀ q∈prs,acore P o.op (ev (Env.keep (slotsOf ops o) e)) q.1=some (v,q.2):=by simp (disch:=first | omega |(simp only [nxt_set,nxt_new]<;>omega) | fail) only [go_sem,↓reduceIte,Nat.reduceEqDiff,Nat.reduceLT,Nat.reduceLeDiff,Nat.reduceAdd,Nat.reduceMul,H]<;>rfl)
  (k:DetHC P ops fx keys stores (i+1) l (e.put o.dst v) K):DetHC P ops fx keys stores i (o::l) e K:=.eff tr a b prs hk hp hg h1 h2 k
theorem dC {d:Option Nat} {c:Call} {t:TypeId} {pos:String} {af:Array Edge} {gd:Option (Nat × Bool)} {f:FuncId} {args args':List PV} {v:PV} (ks:List Nat) (hk:preOK (masks ops.toList []) fx keys i 1 ks=true:=by kernel_rfl) (hs:(ks.filterMap fun p=>stores[p]?)=s1::rest:=by simp only [List.filterMap_cons,List.filterMap_nil,List.getElem?_cons_zero,List.getElem?_cons_succ];rfl)
  (hg:guard? ops ⟨d,.call c,t,pos,af,gd⟩ (Env.keep (slotsOf ops ⟨d,.call c,t,pos,af,gd⟩) e)=some true:=by simp (disch:=first | omega |(simp only [nxt_set,nxt_new]<;>omega) | fail) only [go_sem,↓reduceIte,Nat.reduceEqDiff,Nat.reduceLT,Nat.reduceLeDiff,Nat.reduceAdd,Nat.reduceMul,H]<;>rfl)
  (ha:acall c (Env.keep (slotsOf ops ⟨d,.call c,t,pos,af,gd⟩) e)=some (f,args):=by simp (disch:=first | omega |(simp only [nxt_set,nxt_new]<;>omega) | fail) only [go_sem,↓reduceIte,Nat.reduceEqDiff,Nat.reduceLT,Nat.reduceLeDiff,Nat.reduceAdd,Nat.reduceMul,H]<;>rfl) (hw:PV.weaks args=args':=by simp (disch:=first | omega |(simp only [nxt_set,nxt_new]<;>omega) | fail) only [go_sem,↓reduceIte,Nat.reduceEqDiff,Nat.reduceLT,Nat.reduceLeDiff,Nat.reduceAdd,Nat.reduceMul,H]<;>rfl) (hc:callable P f=true:=by kernel_rfl)
  (h:∀ s∈s1::rest,ACalls P f args' s fun r s2=>r=v∧s2=s) (k:DetHC P ops fx keys stores (i+1) l (e.put d v) K):DetHC P ops fx keys stores i (⟨d,.call c,t,pos,af,gd⟩::l) e K:=.call ks _ hk hs hg ha hw hc h k
theorem dX {d:Option Nat} {c:Call} {t:TypeId} {pos:String} {af:Array Edge} {gd:Option (Nat × Bool)} {f:FuncId} {args args':List PV} {v:PV} (tr:List (Nat × Nat)) (hk:trOK (masks ops.toList []) fx keys i tr=true:=by kernel_rfl) (hp:prsOf stores tr=prs:=by simp only [prsOf,List.filterMap_cons,List.filterMap_nil,List.getElem?_cons_zero,List.getElem?_cons_succ];rfl)
  (hg:guard? ops ⟨d,.call c,t,pos,af,gd⟩ (Env.keep (slotsOf ops ⟨d,.call c,t,pos,af,gd⟩) e)=some true:=by simp (disch:=first | omega |(simp only [nxt_set,nxt_new]<;>omega) | fail) only [go_sem,↓reduceIte,Nat.reduceEqDiff,Nat.reduceLT,Nat.reduceLeDiff,Nat.reduceAdd,Nat.reduceMul,H]<;>rfl)
  (ha:acall c (Env.keep (slotsOf ops ⟨d,.call c,t,pos,af,gd⟩) e)=some (f,args):=by simp (disch:=first | omega |(simp only [nxt_set,nxt_new]<;>omega) | fail) only [go_sem,↓reduceIte,Nat.reduceEqDiff,Nat.reduceLT,Nat.reduceLeDiff,Nat.reduceAdd,Nat.reduceMul,H]<;>rfl) (hw:PV.weaks args=args':=by simp (disch:=first | omega |(simp only [nxt_set,nxt_new]<;>omega) | fail) only [go_sem,↓reduceIte,Nat.reduceEqDiff,Nat.reduceLT,Nat.reduceLeDiff,Nat.reduceAdd,Nat.reduceMul,H]<;>rfl) (hc:callable P f=true:=by kernel_rfl)
  (h:∀ q∈prs,ACalls P f args' q.1 fun r s2=>r=v∧s2=q.2) (k:DetHC P ops fx keys stores (i+1) l (e.put d v) K):DetHC P ops fx keys stores i (⟨d,.call c,t,pos,af,gd⟩::l) e K:=.callE tr prs hk hp hg ha hw hc h k
end
theorem RunO.growL {P:Program} {N:Nat} {k:List KI} {e:Env} {s:St} {rt:Env→St→Prop} {ops:Array Oper} {d:Option Nat} {x y:Operand} {t ty:TypeId} {pos:String} {af:Array Edge} {gd:Option (Nat × Bool)} {l:List Oper} {el:TypeId} {ky:SK} {α:Type} {f:α→PV} (xs ys zs:List α)
  (hg:guard? ops ⟨d,.call ⟨.builtin .append,#[x,y],#[t,t]⟩,ty,pos,af,gd⟩ e=some true) (hx:ev e x=.sl .clip (xs.map f)) (hy:ev e y=.sl ky (ys.map f)) (hzs:zs=xs++ys) (htd:td P t=.sl el) (hz:(zpv P el).isSome=true)
  (hf:∀ a,(f a).ok=true∧(f a).cells.length=P.cellsOf el) (hb0:0<P.bytesOf el) (hlen:zs.length*P.bytesOf el≤140737488355328)
  (h:∀ k' S,(∀ j,j<s.nxt→S.blk j=s.blk j)→s.nxt≤S.nxt→RunO P N ops l k (e.put d (.sl k' (zs.map f))) S rt) :
  RunO P N ops (⟨d,.call ⟨.builtin .append,#[x,y],#[t,t]⟩,ty,pos,af,gd⟩::l) k e s rt:=by
 subst hzs
 refine RunO.grow' hg hx hy htd hz (isEls_map hf xs) (isEls_map hf ys) hb0 (by simpa using hlen) (.inr (.inl (.inl rfl))) (fun k' S _ tm=>?_)
 rw [← List.map_append]
 exact h k' S (fun j hj=>tm.rest j hj (by intro z hz;cases hz)) tm.nxt
end Go.PM
namespace Go.PM
open Go
theorem tokOn_step {P g s w} (h:Inv P g s w) {b L m:Nat} (hl:g.lim b=some m) (hr:¬ g.isRow b) (hw:Writable w b) (hf:∀ j n,g.toks j≠some (b,n)) :
  ∃ g',Inv P g' (s.new (.tok L)) w∧Ext g w g' w∧g'.toks s.nxt=some (b,L)∧g'.lim=g.lim∧g'.nxt=s.nxt+1:=by
 let g':G:={ nxt:=g.nxt+1,rows:=g.rows,live:=g.live,toks:=upd g.toks s.nxt (some (b,L)),lim:=g.lim }
 have e:Ext g w g' w:={ os:=rfl,tape:=rfl,output:=rfl,size:=Nat.le_refl _,nxt:=Nat.le_succ _,rd:=fun _ _ _ _ h=>h,free:=fun _ _ _ h=>h,same:=fun _ _ _ _=>rfl,rows:=fun _ _ _ h=>h,csz:=fun _ _=>rfl,toks:=toks_keep (fun t ht=>upd_ne _ _ (by have:=h.nxt;omega)) (fun _ _ _ _=>rfl) }
 have hn:=h.rows_none (Nat.le_refl s.nxt)
 refine ⟨g',?_,e,upd_eq _ _ _,rfl,by show g.nxt+1=_;rw [h.nxt]⟩
 refine Inv.step s.nxt h e Y116 ?_ (fun id hid=>⟨if_neg hid,rfl,rfl,upd_ne _ _ hid⟩) (fun _ _ _ _ _ _=>rfl) (fun id b n _ et=>⟨rfl,(h.toklt et).2.1⟩) (fun _ hb=>hb) ?_ ?_ ?_ h.lim (fun _ _ _ _ _ _=>rfl) Y119
 ·exact Y57
 ·simp only [St.new,if_true,At]
  exact ⟨hn.1,b,m,upd_eq _ _ _,hl,hr,hw⟩
 ·exact Y172
 ·intro b2 m j n hx hj hjr
  have:g'.toks s.nxt=some (b,L):=upd_eq _ _ _
  rw [this] at hx
  cases hx
  exact hf j n hjr
theorem cutTok_run {P:Program} {g s w t e tk lo xs va} {kk:IntKind} (h:Inv P g s w) (hx:R g w (.sl (.tok tk (P.cellsOf e)) xs) va) (htd:td P t=.sl e) (hz:0<P.cellsOf e) (ht:s.blk tk=some (.tok xs.length)) (h0:0<lo) (h1:lo≤xs.length) :
  ∃ val g',(Instr.sliceAt t va (some (.int kk (lo:Nat))) none none).run P w=.ok val w∧Inv P g' ((s.set tk none).new (.tok (xs.length-lo))) w∧Ext g w g' w∧R g' w (.sl (.tok s.nxt (P.cellsOf e)) (xs.drop lo)) val:=by
 rcases sl_head hx Y1 rfl with ⟨b,o,cap,sz,vs,rfl,c1,c2,c3,c4,c5,c6,c7,c8⟩ | ⟨_,e0,_⟩
 case inr=>subst e0;simp at h1;omega
 obtain ⟨rfl,hlt,hlive⟩:=c7 tk _ rfl
 have hat:=h.at' tk
 rw [ht] at hat
 obtain ⟨_,b',E,ht1,ht2,ht3,ht4⟩:=hat
 obtain ⟨_,hlv⟩:=hlive b' _ ht1
 obtain ⟨rfl,hlim,hcs⟩:=hlv rfl
 have hu:=td_slice htd
 have hn:=RA_length c8
 have hX1:Ext g w (g.keep s.nxt (fun i=>i != tk)) w:=keep_ext _ (by rw [h.nxt];exact Nat.le_refl _)
 have hI1:Inv P (g.keep s.nxt (fun i=>i != tk)) (s.set tk none) w:=by
  have:=keep_inv h s.nxt (fun i=>i != tk) (fun i _ hi=>h.id_lt hi) (fun i b _ hb=>h.blw hb)
  have e:s.keep s.nxt (fun i=>i != tk)=s.set tk none:=by
   simp only [St.keep,St.set,St.mk.injEq,true_and]
   funext i
   by_cases hi:i=tk
   ·subst hi;simp
   ·simp [hi]
  rw [e] at this
  exact this
 obtain ⟨g',k1,k2,k3,k4,k5⟩:=tokOn_step (L:=xs.length-lo) hI1 (b:=b') (m:=E) ht2 (fun ⟨i,k,e,lv⟩=>by
   simp only [G.keep,Bool.and_eq_true] at e lv
   exact ht3 ⟨i,k,e,lv.2⟩) ht4 (fun j n e=>by
   simp only [G.keep] at e
   split at e
   ·rename_i hj
    have:=h.tinj _ _ _ _ _ e ht1
    subst this
    simp at hj
   ·cases e)
 have hX:=hX1.trans k2
 have hb:=bounds_run (P:=P) (w:=w) (isSlice:=true) (len:=xs.length) (cap:=cap) (lo:=some (.int kk (lo:Nat))) (hi:=none) (mx:=none) (lo':=some (lo:Nat)) (hi':=none) (mx':=none) ⟨kk,rfl⟩ rfl rfl rfl rfl Y1 Y115 Y1 c1 (fun m e=>Y292)
 have run:(Instr.sliceAt t (.slice (some ⟨b',o,none⟩) xs.length cap) (some (.int kk (lo:Nat))) none none).run P w=.ok (.slice (if cap=lo then some ⟨b',o,none⟩ else some ⟨b',o+lo*P.cellsOf e,none⟩) (xs.length-lo) (cap-lo)) w:=by
  unfold Instr.sliceAt
  rw [bind_run,underlying_run hu]
  simp only
  unfold Instr.slice
  simp only [bind_run,underlying_run hu,sizeOf_run hz,hb,pure_run,Option.map_some,addr_add,Option.getD_none,Option.getD_some,Int.toNat_natCast]
 refine ⟨_,g',run,k1,hX,?_⟩
 simp only [R]
 refine ⟨vs.drop lo,RA_ext hX _ _ (RA_drop _ c8),?_⟩
 rw [slHead_base rfl,List.length_drop]
 have k5':g'.nxt=s.nxt+1:=k5
 by_cases hc:cap=lo
 ·rw [if_pos hc]
  refine .inr ⟨.inr (.inr ⟨_,_,rfl,Y2⟩),Y2,⟨b',o,none⟩,?_⟩
  rw [show xs.length-lo=0 from Y2,show cap-lo=0 from Y2]
 ·rw [if_neg hc]
  have hmul:lo*P.cellsOf e+(xs.length-lo)*P.cellsOf e=xs.length*P.cellsOf e:=Y294
  have hmul2:lo*P.cellsOf e+(cap-lo)*P.cellsOf e=cap*P.cellsOf e:=Y294
  refine .inl ⟨b',o+lo*P.cellsOf e,cap-lo,P.cellsOf e,rfl,Y2,hz,Y1,fun hp=>?_,?_,fun v hv=>c6 v (List.mem_of_mem_drop hv),?_⟩
  ·have:=hX.free b' _ (h.toklt ht1).1 (c4 Y2)
   rw [show o+lo*P.cellsOf e+(xs.length-lo)*P.cellsOf e=o+xs.length*P.cellsOf e from Y2]
   exact this
  ·rw [flat_drop _ _ c6]
   exact cellsAt_drop c5 _
  ·intro t' z' e'
   cases e'
   refine ⟨rfl,Y2,fun b2 L2 e2=>?_⟩
   have k3':g'.toks s.nxt=some (b',xs.length-lo):=k3
   rw [k3'] at e2;cases e2
   refine ⟨Nat.le_refl _,fun _=>⟨rfl,?_,?_⟩⟩
   ·rw [k4]
    show g.lim b'=_
    rw [hlim]
    congr 1
    omega
   ·omega
section
variable {P:Program} {N:Nat} {k:List KI} {e:Env} {s:St} {rt:Env→St→Prop}
variable {ops:Array Oper} {fx:List Nat} {keys:List (List Bool)} {stores:List St}
theorem slice_exec {P:Program} {w:World} {a:Act} {o:Oper} {t:TypeId} {x y:Operand} {val:Value} (hop:o.op=.slice t x (some y) none none)
  (h:(Instr.sliceAt t (a.eval x) (some (a.eval y)) none none).run P w=.ok val w):(execOp a.eval o).run P w=.ok (.value val) w:=by
 unfold execOp
 rw [hop]
 simp only [Option.map_some,Option.map_none]
 rw [bind_run,h]
 rfl
theorem DetHC.cut {d:Option Nat} {x y:Operand} {t ty:TypeId} {pos:String} {af:Array Edge} {gd:Option (Nat × Bool)} {l:List Oper} {i:Nat} {el:TypeId} {tk lo z:Nat} {kk:IntKind} {xs:List PV} {v:PV} {K:Env→Prop} (tr:List (Nat × Nat)) (prs:List (St × St)) (hk:trOK (masks ops.toList []) fx keys i tr=true) (hp:prsOf stores tr=prs)
  (hg:guard? ops ⟨d,.slice t x (some y) none none,ty,pos,af,gd⟩ (Env.keep (slotsOf ops ⟨d,.slice t x (some y) none none,ty,pos,af,gd⟩) e)=some true)
  (hx:ev (Env.keep (slotsOf ops ⟨d,.slice t x (some y) none none,ty,pos,af,gd⟩) e) x=.sl (.tok tk z) xs) (hy:ev (Env.keep (slotsOf ops ⟨d,.slice t x (some y) none none,ty,pos,af,gd⟩) e) y=.int kk (lo:Nat))
  (htd:td P t=.sl el) (hze:P.cellsOf el=z) (hz:0<z) (h0:0<lo) (h1:lo≤xs.length)
  (h:∀ q∈prs,q.1.blk tk=some (.tok xs.length)∧.sl (.tok q.1.nxt z) (xs.drop lo)=v∧q.2=(q.1.set tk none).new (.tok (xs.length-lo))) (hd:DetHC P ops fx keys stores (i+1) l (e.put d v) K):DetHC P ops fx keys stores i (⟨d,.slice t x (some y) none none,ty,pos,af,gd⟩::l) e K :=
 DetHC.one tr prs hk hp (fun q hq=>by
  subst hze
  refine DOp.of_effect hg fun g w a hI hE=>?_
  have e1:=ev_R hE x
  have e2:=ev_R hE y
  rw [hx] at e1
  rw [hy] at e2
  simp only [R] at e2
  obtain ⟨q1,q2,q3⟩:=h q hq
  obtain ⟨val,g',r1,r2,r3,r4⟩:=cutTok_run (kk:=kk) hI e1 htd hz q1 h0 h1
  rw [← q2,q3]
  exact ⟨val,w,g',.inl (slice_exec rfl (by rw [e2];exact r1)),r2,r3,r4⟩) hd
end
end Go.PM
namespace Go.PM
open Go
section
variable {P:Program} {N:Nat} {k:List KI} {e:Env} {s:St} {rt:Env→St→Prop}
variable {ops:Array Oper} {fx:List Nat} {keys:List (List Bool)} {stores:List St}
end
end Go.PM
namespace Go.PM
open Go
theorem Y312 {p:Prop} (h:p:=by rintro rfl;simp only [g',if_neg j1,if_true] at lj;cases lj):p:=h
theorem resMove_step {P g s w} (h:Inv P g s w) {id r t els} (hb:s.blk id=some (.row t els)) (hr0:s.blk r=some .res) :
  ∃ g',Inv P g' ((s.set id none).set r (some (.row t els))) w∧Ext g w g' w∧g'.rows r=g.rows id∧g'.nxt=s.nxt:=by
 have hlt:id<s.nxt:=h.id_lt (by rw [hb];simp)
 have hrlt:r<s.nxt:=h.id_lt (by rw [hr0];simp)
 have hne:r≠id:=by rintro rfl;rw [hb] at hr0;cases hr0
 have hat:=h.at' id
 rw [hb] at hat
 obtain ⟨ht0,hlv,b,vs,hr,hpos,hrow⟩:=hat
 have hnew:=h.at' r
 rw [hr0] at hnew
 obtain ⟨hn1,hn2,hn3⟩:=hnew
 let g':G:={ nxt:=g.nxt,rows:=upd g.rows r (g.rows id),live:=fun i=>if i=r then true else if i=id then false else g.live i,toks:=g.toks,lim:=g.lim }
 have hisrow:∀ b',g'.isRow b'→g.isRow b':=by
  rintro b' ⟨i,n,e,l⟩
  by_cases h1:i=r
  ·subst h1
   have:g'.rows i=g.rows id:=upd_eq _ _ _
   rw [this] at e
   exact ⟨id,n,e,hlv⟩
  ·have e':g'.rows i=g.rows i:=upd_ne _ _ h1
   rw [e'] at e
   simp only [g',if_neg h1] at l
   split at l
   ·cases l
   ·exact ⟨i,n,e,l⟩
 have x:Ext g w g' w :=
  { os:=rfl,tape:=rfl,output:=rfl,size:=Nat.le_refl _,nxt:=Nat.le_refl _,rd:=fun _ _ _ _ h=>h
    free:=fun b' n _ hf=>⟨fun hk=>hf.1 (hisrow b' hk),hf.2⟩
    same:=fun _ _ _ _=>rfl
    rows:=fun i hi x e=>by
     have hir:i≠r:=by rintro rfl;rw [hn3] at e;cases e
     exact (upd_ne _ _ hir:g'.rows i=g.rows i).trans e
    csz:=fun _ _=>rfl
    toks:=toks_keep (fun _ _=>rfl) (fun _ _ _ _=>rfl) }
 have hrows:∀ i,i≠r→g'.rows i=g.rows i:=fun i hi=>upd_ne _ _ hi
 have hlive:∀ i,i≠r→i≠id→g'.live i=g.live i:=fun i h1 h2=>by simp only [g',if_neg h1,if_neg h2]
 refine ⟨g',?_,x,upd_eq _ _ _,h.nxt⟩
 exact {
  nxt:=h.nxt
  wf:=fun i hi=>by
   have hi:s.nxt≤i:=hi
   show (if i=r then some (Blk.row t els) else if i=id then none else s.blk i)=none
   rw [if_neg Y2,if_neg Y2]
   exact h.wf i hi
  at':=fun i=>by
   show At P g' w i (if i=r then some (.row t els) else if i=id then none else s.blk i)
   by_cases h1:i=r
   ·subst h1
    simp only [if_true,At]
    refine ⟨hn2,by simp [g'],b,vs,by rw [show g'.rows i=g.rows id from upd_eq _ _ _];exact hr,hpos,hrow.1,hrow.2.1,hrow.2.2.1,RA_ext x _ _ hrow.2.2.2⟩
   ·rw [if_neg h1]
    by_cases h2:i=id
    ·subst h2
     simp only [if_true,At]
     exact ⟨by simp only [g',if_neg h1,if_true],ht0⟩
    ·rw [if_neg h2]
     have hi:=h.at' i
     cases hbl:s.blk i with
     | none=>rw [hbl] at hi;simp only [At] at hi ⊢;rw [hlive i h1 h2];exact hi
     | some bl =>
       rw [hbl] at hi
       cases bl with
       | row ty el =>
         obtain ⟨a,al,b',vs',a1,a2,a3,a4,a5,a6⟩:=hi
         exact ⟨a,by rw [hlive i h1 h2];exact al,b',vs',by rw [hrows i h1];exact a1,a2,a3,a4,a5,RA_ext x _ _ a6⟩
       | tok L =>
         obtain ⟨a,b',l,a1,a2,a3,a4⟩:=hi
         exact ⟨by rw [hlive i h1 h2];exact a,b',l,a1,a2,fun hk=>a3 (hisrow b' hk),a4⟩
       | map es =>
         obtain ⟨a,al,b',a1,me,cl,a2,a3,a4⟩:=hi
         exact ⟨a,by rw [hlive i h1 h2];exact al,b',by rw [hrows i h1];exact a1,me,cl,a2,RA_ext x _ _ a3,RA_ext x _ _ a4⟩
       | res=>exact ⟨by rw [hlive i h1 h2];exact hi.1,hi.2.1,by rw [hrows i h1];exact hi.2.2⟩
  inj:=fun i j b' m n li lj hi hj=>by
   by_cases i1:i=r
   ·by_cases j1:j=r
    ·rw [i1,j1]
    ·subst i1
     rw [show g'.rows i=g.rows id from upd_eq _ _ _] at hi
     rw [hrows j j1] at hj
     have j2:j≠id:=Y312
     rw [hlive j j1 j2] at lj
     exact absurd (h.inj j id b' n m lj hlv hj hi) j2
   ·rw [hrows i i1] at hi
    have i2:i≠id:=by rintro rfl;simp only [g',if_neg i1,if_true] at li;cases li
    rw [hlive i i1 i2] at li
    by_cases j1:j=r
    ·subst j1
     rw [show g'.rows j=g.rows id from upd_eq _ _ _] at hj
     exact absurd (h.inj i id b' m n li hlv hi hj) i2
    ·rw [hrows j j1] at hj
     have j2:j≠id:=Y312
     rw [hlive j j1 j2] at lj
     exact h.inj i j b' m n li lj hi hj
  tinj:=h.tinj
  lim:=h.lim
  rlim:=fun i b' n li hi=>by
   obtain ⟨j,m,e,l⟩:=hisrow b' ⟨i,n,hi,li⟩
   exact h.rlim j b' m l e }
theorem row_weaken {P g s w} (h:Inv P g s w) {p t els els'} (hb:s.blk p=some (.row t els)) (hat:At P g w p (some (.row t els'))):Inv P g (s.set p (some (.row t els'))) w:=by
 have hlt:p<s.nxt:=h.id_lt (by rw [hb];simp)
 exact {
  nxt:=h.nxt
  wf:=fun i hi=>by
   have hi:s.nxt≤i:=hi
   show (if i=p then some (Blk.row t els') else s.blk i)=none
   rw [if_neg Y2]
   exact h.wf i hi
  at':=fun i=>by
   show At P g w i (if i=p then some (.row t els') else s.blk i)
   by_cases h1:i=p
   ·subst h1;rw [if_pos rfl];exact hat
   ·rw [if_neg h1];exact h.at' i
  inj:=h.inj
  tinj:=h.tinj
  lim:=h.lim
  rlim:=h.rlim }
theorem clipOwn_run {P g s w t e id off n tyr els a} {k1 k2:IntKind} (h:Inv P g s w) (hx:R g w (.own id off n) a) (htd:td P t=.sl e) (hpos:0<P.cellsOf e) (hb:s.blk id=some (.row tyr els)) (heq:P.cellsOf e=P.cellsOf tyr) :
  ∃ val,(Instr.sliceAt t a none (some (.int k1 n)) (some (.int k2 n))).run P w=.ok val w∧R g w (.own id off n) val:=by
 have hu:=td_slice htd
 simp only [R] at hx
 obtain ⟨h0,b,sz,cap,hr,hcap,rfl,hcs⟩:=hx
 have hat:=h.at' id
 rw [hb] at hat
 obtain ⟨_,_,b',vs,hr',_⟩:=hat
 rw [hr] at hr';cases hr'
 have hbd:=bounds_run (P:=P) (w:=w) (isSlice:=true) (len:=n) (cap:=cap) (lo:=none) (hi:=some (.int k1 n)) (mx:=some (.int k2 n)) (l:=0) (h:=n) (lo':=none) (hi':=some (n:Int)) (mx':=some (n:Int)) rfl ⟨k1,rfl⟩ ⟨k2,rfl⟩ rfl rfl (Int.le_refl _) Y2 (Int.le_refl _) hcap (fun m e=>by cases e;exact ⟨rfl,Y1⟩)
 have run:(Instr.sliceAt t (.slice (some ⟨b,off*P.cellsOf tyr,none⟩) n cap) none (some (.int k1 n)) (some (.int k2 n))).run P w=.ok (.slice (some ⟨b,off*P.cellsOf tyr,none⟩) n n) w:=by
  unfold Instr.sliceAt
  rw [bind_run,underlying_run hu]
  simp only
  unfold Instr.slice
  simp only [bind_run,underlying_run hu,sizeOf_run hpos,hbd,pure_run,Option.map_some,addr_add,Option.getD_some,Int.toNat_natCast,Int.toNat_zero,Nat.zero_mul,Nat.add_zero,Nat.sub_zero,ite_self]
 refine ⟨_,run,?_⟩
 simp only [R]
 exact ⟨h0,b,P.cellsOf tyr,n,hr,Nat.le_refl _,rfl,Nat.le_trans (Nat.mul_le_mul_right _ Y2) hcs⟩
section
variable {P:Program} {N:Nat} {k:List KI} {e:Env} {s:St} {rt:Env→St→Prop}
theorem slice3_exec {P:Program} {w:World} {a:Act} {o:Oper} {t:TypeId} {x y z:Operand} {val:Value} (hop:o.op=.slice t x none (some y) (some z))
  (h:(Instr.sliceAt t (a.eval x) none (some (a.eval y)) (some (a.eval z))).run P w=.ok val w):(execOp a.eval o).run P w=.ok (.value val) w:=by
 unfold execOp
 rw [hop]
 simp only [Option.map_some,Option.map_none]
 rw [bind_run,h]
 rfl
theorem RunO.clipOwn {ops:Array Oper} {d:Option Nat} {x y z:Operand} {t ty:TypeId} {pos:String} {af:Array Edge} {gd:Option (Nat × Bool)} {l:List Oper} {el tyr:TypeId} {id off n:Nat} {els:List PV} {k1 k2:IntKind}
  (hg:guard? ops ⟨d,.slice t x none (some y) (some z),ty,pos,af,gd⟩ e=some true) (hx:ev e x=.own id off n) (hy:ev e y=.int k1 n) (hz:ev e z=.int k2 n) (htd:td P t=.sl el) (hpos:0<P.cellsOf el) (hb:s.blk id=some (.row tyr els)) (heq:P.cellsOf el=P.cellsOf tyr)
  (h:RunO P N ops l k (e.put d (.own id off n)) s rt):RunO P N ops (⟨d,.slice t x none (some y) (some z),ty,pos,af,gd⟩::l) k e s rt:=by
 refine RunO.eff hg (fun g w a hI hE=>?_) h
 have e1:=ev_R hE x
 have e2:=ev_R hE y
 have e3:=ev_R hE z
 rw [hx] at e1
 rw [hy] at e2
 rw [hz] at e3
 simp only [R] at e2 e3
 obtain ⟨val,r1,r2⟩:=clipOwn_run (k1:=k1) (k2:=k2) hI e1 htd hpos hb heq
 exact ⟨val,w,g,.inl (slice3_exec rfl (by rw [e2,e3];exact r1)),hI,Ext.refl _ _,r2⟩
theorem RunO.move {ops:Array Oper} {l:List Oper} (i id r:Nat) {off n:Nat} {t:TypeId} {els:List PV} (hv:e.get i=.own id off n) (hb:s.blk id=some (.row t els)) (hr:s.blk r=some .res)
  (h:RunO P N ops l k ((i,.own r off n)::e) ((s.set id none).set r (some (.row t els))) rt):RunO P N ops l k e s rt:=by
 intro ok okk idx hidx g w a hI hE hd hN
 obtain ⟨g',hI',hX,hrr,hnx⟩:=resMove_step hI hb hr
 have hrlt:r<s.nxt:=hI.id_lt (by rw [hr];simp)
 refine RunO.eff.wpOps_lift hX (h ok okk idx hidx _ w a hI' (fun j=>?_) hd hN)
 simp only [Env.get]
 split
 ·rename_i hj
  subst hj
  have:=hE j
  rw [hv] at this
  simp only [R] at this ⊢
  obtain ⟨_,b,sz,cap,q1,q2⟩:=this
  exact ⟨Y2,b,sz,cap,hrr.trans q1,q2⟩
 ·exact R_ext hX _ _ (hE j)
theorem Run.thawB {c:Code} (p id fuel:Nat) {t:TypeId} {els els':List PV} (hb:s.blk p=some (.row t els)) (hp:p≠id) (hv:els.map (PV.frz false s (fun j=>j != id) fuel)=els') (hbl:PV.blws s.nxt els')
  (h:Run P N (.code c::k) e ((s.set id none).set p (some (.row t els'))) rt):Run P N (.code c::k) e s rt:=by
 intro ok
 have h:=h ok
 intro oc g w a hI hE hd hN
 have hX:Ext g w (g.keep s.nxt (fun i=>i != id)) w:=keep_ext _ (by rw [hI.nxt];exact Nat.le_refl _)
 have hI':Inv P (g.keep s.nxt (fun i=>i != id)) (s.set id none) w:=by
  have:=keep_inv hI s.nxt (fun i=>i != id) (fun i _ hi=>hI.id_lt hi) (fun i b _ hb=>hI.blw hb)
  have e:s.keep s.nxt (fun i=>i != id)=s.set id none:=by
   simp only [St.keep,St.set,St.mk.injEq,true_and]
   funext i
   by_cases hi:i=id
   ·subst hi;simp
   ·simp [hi]
  rw [e] at this
  exact this
 have hat:=hI.at' p
 rw [hb] at hat
 obtain ⟨c1,c2,b,vs,c3,c4,c5,c6,c7,hra⟩:=hat
 have hb':(s.set id none).blk p=some (.row t els):=by
  show (if p=id then none else s.blk p)=_
  rw [if_neg hp];exact hb
 have hI2:=row_weaken (els':=els') hI' hb' ⟨by simp only [G.keep];split;exact c1;rfl,by simp only [G.keep,c2,Bool.and_true];simpa using hp,b,vs,c3,c4,c5,c6,c7,by
  subst hv
  exact RA_frz_map (fun p v=>R_frz hI s.nxt false (fun j=>j != id) fuel p v) els vs hbl hra⟩
 exact wp_mono (h oc _ w a hI2 (fun j=>R_ext hX _ _ (hE j)) hd hN) fun _ _ _=>Lift.trans hX
end
end Go.PM
namespace Go.Proofs
open Go.PM Go
def gessF (b:List Int) (q:Req):Rep :=
 let f:=(b[0]?).getD 0
 if 128≤f then ⟨f-128,if 1<b.length then (b[1]?).getD 0 else 0,0,0,0,[],[],0,0,[]⟩
 else if f=1∨f=2 then ⟨f,0,0,0,0,(openN (b.drop 2) q.count).getD [],[],0,0,[]⟩
 else if f=3∨f=4∨f=23 then ⟨f,0,0,0,0,[],wordsO b 2,0,0,[]⟩
 else if f=5 then ⟨f,0,num1 b 1,0,0,[decide (num1 b 3=65280)],[],0,0,[]⟩
 else if f=6 then ⟨f,0,num1 b 1,0,0,[],[num1 b 3],0,0,[]⟩
 else if f=8 then ⟨f,0,0,0,num1 b 1,[],[num1 b 3],0,0,[]⟩
 else if f=15∨f=16 then ⟨f,0,num1 b 1,num1 b 3,0,[],[],0,0,[]⟩
 else if f=22 then ⟨f,0,num1 b 1,0,0,[],[],num1 b 3,num1 b 5,[]⟩
 else if f=17 then ⟨f,0,0,0,0,[],[],0,0,b.drop 2⟩
 else ⟨f,0,0,0,0,[],[],0,0,[]⟩
theorem gess_lay {R:Rep} {q:Req} (h:Fits R q) (hq:1≤q.fn∧q.fn≤127) (hv:OkW R.vals):gessF (layF R) q=R:=by
 have hf:=h.fn
 by_cases hc:R.code=0
 case neg =>
  have hg:=h.good
  unfold goodF at hg
  rw [if_pos hc] at hg
  split at hg
  ·rename_i k
   have e:layF R=[R.fn+128,R.code]:=by unfold layF;rw [if_pos hc]
   rw [e]
   unfold gessF
   dsimp only [List.getElem?_cons_zero,Option.getD_some]
   rw [if_pos Y21]
   show (⟨R.fn+128-128,R.code,0,0,0,[],[],0,0,[]⟩:Rep)=R
   rw [show R.fn+128-128=R.fn from Y21]
   exact k.2.2.2.2.symm
  ·cases hg
 have ht:=h.took
 have hgo:=good0 h.good hc
 have g1:=hgo.has
 have g2:=hgo.v6
 have h2:1<(layF R).length:=by
  unfold layF
  rw [if_neg (fun n=>n hc)]
  repeat' split
  all_goals simp only [List.length_cons,List.length_append,show ∀ n,(num2 n).length=2 from fun _=>rfl];omega
 have h0:((layF R)[0]?).getD 0=R.fn:=by rw [lay_head,if_neg (fun n=>n hc)]
 have hs:=has_cases g1
 refine Eq.trans ?_ ht
 unfold gessF tookF
 dsimp only
 rw [h0,if_neg (show ¬ 128≤R.fn from Y21),if_neg (show ¬ 128≤R.fn from Y21)]
 by_cases e1:R.fn=1∨R.fn=2
 ·rw [if_pos e1,if_pos e1,if_pos h2,if_neg (by rcases e1 with e | e<;>rw [e]<;>decide)]
 rw [if_neg e1,if_neg e1]
 by_cases e3:R.fn=3∨R.fn=4∨R.fn=23
 ·rw [if_pos e3,if_pos e3,if_neg (by rcases e3 with e | e | e<;>rw [e]<;>decide)]
 rw [if_neg e3,if_neg e3]
 by_cases e15:R.fn=15∨R.fn=16
 ·rw [if_neg (show ¬ R.fn=5 from Y21),if_neg (show ¬ R.fn=6 from Y21),if_neg (show ¬ R.fn=8 from Y21),if_pos e15,if_pos e15,if_pos (by rcases e15 with e | e<;>rw [e]<;>decide)]
 by_cases e17:R.fn=17
 ·rw [if_neg (show ¬ R.fn=5 from Y21),if_neg (show ¬ R.fn=6 from Y21),if_neg (show ¬ R.fn=8 from Y21),if_neg e15,if_neg (show ¬ R.fn=22 from Y21),if_neg e15,if_pos e17,if_pos e17,if_pos h2,if_neg (by rw [e17];decide)]
 rw [if_neg e15,if_neg e15,if_neg e17,if_neg e17]
 have n14:¬ (1≤R.fn∧R.fn≤4):=Y21
 by_cases e5:R.fn=5
 ·have n8:¬ R.fn=8:=Y21
  have hgr:guessR (layF R)=⟨R.fn,num1 (layF R) 1,0,0,0,[decide (¬ num1 (layF R) 3=0)],[],0,0⟩:=by
   unfold guessR
   dsimp only
   rw [h0,if_neg n14,if_neg n8,if_pos e5]
  rw [if_pos e5,hgr,if_pos (by rw [e5];decide)]
  have el:layF R=R.fn::(num2 R.at_++num2 (if R.bits=[true] then 65280 else 0)):=by
   unfold layF
   rw [if_neg (fun n=>n hc),if_neg e1,if_neg e3,if_pos e5]
  have u65:U16 (if R.bits=[true] then 65280 else 0):=Y311
  have e:decide (num1 (layF R) 3=65280)=decide (¬ num1 (layF R) 3=0):=by
   rw [el,num1_3' u65]
   split<;>rfl
  dsimp only
  rw [e]
 rw [if_neg e5]
 by_cases e6:R.fn=6
 ·obtain ⟨v,hvv⟩:=List.length_eq_one_iff.1 (g2 (.inl e6))
  have n8:¬ R.fn=8:=Y21
  have hgr:guessR (layF R)=⟨R.fn,num1 (layF R) 1,0,0,0,[],wordsO (layF R) 3,0,0⟩:=by
   unfold guessR
   dsimp only
   rw [h0,if_neg n14,if_neg n8,if_neg e5,if_pos e6]
  rw [if_pos e6,hgr,if_pos (by rw [e6];decide)]
  have el:layF R=R.fn::(num2 R.at_++R.vals.flatMap num2):=by
   unfold layF
   rw [if_neg (fun n=>n hc),if_neg e1,if_neg e3,if_neg e5,if_pos e6]
  have ew:wordsO (layF R) 3=R.vals:=by
   rw [el,show R.fn::(num2 R.at_++R.vals.flatMap num2)=(R.fn::num2 R.at_)++R.vals.flatMap num2 from rfl,wordsO_flat hv (by rfl)]
  have en:num1 (layF R) 3=v:=by
   rw [el,hvv,show [v].flatMap num2=num2 v from Y23,num1_3' (hv v (by rw [hvv];simp))]
  dsimp only
  rw [ew,en,hvv]
 rw [if_neg e6]
 by_cases e8:R.fn=8
 ·obtain ⟨v,hvv⟩:=List.length_eq_one_iff.1 (g2 (.inr e8))
  have hgr:guessR (layF R)=⟨R.fn,0,0,0,num1 (layF R) 1,[],wordsO (layF R) 3,0,0⟩:=by
   unfold guessR
   dsimp only
   rw [h0,if_neg n14,if_pos e8]
  rw [if_pos e8,hgr,if_neg (by rw [e8];decide)]
  have el:layF R=R.fn::(num2 R.sub++R.vals.flatMap num2):=by
   unfold layF
   rw [if_neg (fun n=>n hc),if_neg e1,if_neg e3,if_neg e5,if_neg e6,if_pos e8]
  have ew:wordsO (layF R) 3=R.vals:=by
   rw [el,show R.fn::(num2 R.sub++R.vals.flatMap num2)=(R.fn::num2 R.sub)++R.vals.flatMap num2 from rfl,wordsO_flat hv (by rfl)]
  have en:num1 (layF R) 3=v:=by
   rw [el,hvv,show [v].flatMap num2=num2 v from Y23,num1_3' (hv v (by rw [hvv];simp))]
  dsimp only
  rw [ew,en,hvv]
 have e22:R.fn=22:=Y21
 have hgr:guessR (layF R)=⟨R.fn,num1 (layF R) 1,0,0,0,[],[],num1 (layF R) 3,num1 (layF R) 5⟩:=by
  unfold guessR
  dsimp only
  rw [h0,if_neg n14,if_neg e8,if_neg e5,if_neg e6,if_pos e22]
 have n15:¬ (R.fn=15∨R.fn=16):=e15
 rw [if_neg e8,if_pos e22,hgr,if_pos (by rw [e22];decide)]
end Go.Proofs
namespace Go.Proofs
open Go.PM Go
structure Pc where
 at_:Int
 phys:Int
 cnt:Int
 deriving DecidableEq
def Pc.pv (p:Pc):PV:=.agg [.int .i64 p.at_,.int .i64 p.phys,.int .i64 p.cnt]
def spIn (a b:Sp):Bool:=spMeets a b&&decide (spMeet a b=a)
def covBy (x:Int) (s:Sp):Bool:=decide (s.pos≤x∧x<s.pos+s.cnt)
def coverA (l:List Sp) (e:Int):Nat→Int→List Sp→Option (List Sp)
 | 0,_,out=>some out
 | k+1,x,out=>if x<e then match l.find? (covBy x) with
    | none=>none
    | some s=>coverA l e k (min (s.pos+s.cnt) e) (out++[⟨x,min (s.pos+s.cnt) e-x⟩])
   else some out
def coverF (l:List Sp) (s:Sp):List Sp × Bool :=
 if spRight s great=false∨(l.any fun x=> !spRight x great)=true then ([],false)
 else match coverA l (s.pos+s.cnt) s.cnt.toNat s.pos [] with
  | none=>([],false)
  | some o=>(o,true)
theorem coverA_end {l:List Sp} {e:Int}:∀ (k:Nat) (x:Int) (out:List Sp),e≤x→coverA l e k x out=some out
 | 0,_,_,_=>rfl
 | k+1,x,out,h=>by
   unfold coverA
   rw [if_neg Y21]
theorem coverA_step {l:List Sp} {e x:Int} {k:Nat} {out:List Sp} (h:x<e) (hk:(e-x).toNat≤k):coverA l e k x out=match l.find? (covBy x) with
   | none=>none
   | some s=>coverA l e (k-1) (min (s.pos+s.cnt) e) (out++[⟨x,min (s.pos+s.cnt) e-x⟩]):=by
 obtain ⟨k,rfl⟩:∃ j,k=j+1:=⟨k-1,Y21⟩
 show (if x<e then _ else _)=_
 rw [if_pos h]
 rfl
theorem coverA_more {l:List Sp} (hl:∀ s∈l,1≤s.cnt) {e:Int}:∀ (k j:Nat) (x:Int) (out:List Sp),(e-x).toNat≤k→(e-x).toNat≤j→coverA l e k x out=coverA l e j x out
 | 0,j,x,out,h1,h2=>by rw [coverA_end j x out Y21];rfl
 | k+1,0,x,out,h1,h2=>by rw [coverA_end (k+1) x out Y21];rfl
 | k+1,j+1,x,out,h1,h2=>by
   by_cases h:x<e
   ·rw [coverA_step h h1,coverA_step h h2]
    cases hf:l.find? (covBy x) with
    | none=>rfl
    | some s =>
      have hs:=List.find?_some hf
      have hs:=of_decide_eq_true hs
      exact coverA_more hl k j _ _ Y21 Y21
   ·rw [coverA_end _ _ _ Y21,coverA_end _ _ _ Y21]
def ofW (l:List Win) (space:Int):List Win:=l.filter fun w=>winRight w&&decide (w.space=space)
def physAt (ws:List Win) (x:Int):Int:=match ws.find? (fun w=>spIn ⟨x,1⟩ w.v) with
 | some w=>w.phys+x-w.virt
 | none=>0
def mapW (l:List Win) (space at_ n:Int):List Pc × Bool :=
 ((coverF ((ofW l space).map Win.v) ⟨at_,n⟩).1.map fun p=>⟨p.pos,physAt (ofW l space) p.pos,p.cnt⟩,(coverF ((ofW l space).map Win.v) ⟨at_,n⟩).2)
def spaceF (fn:Int):Int:=if fn=1∨fn=5∨fn=15 then 0 else if fn=2 then 1 else if fn=4 then 2 else 3
def piecesF (t:Ten) (q:Req):List Pc × List Pc × Bool :=
 if q.fn=1∨q.fn=2∨q.fn=3∨q.fn=4 then ([],mapW t.wins (spaceF q.fn) q.at_ q.count)
 else if q.fn=5∨q.fn=6 then ((mapW t.wins (spaceF q.fn) q.at_ 1).1,[],(mapW t.wins (spaceF q.fn) q.at_ 1).2)
 else if q.fn=15∨q.fn=16 then ((mapW t.wins (spaceF q.fn) q.at_ q.count).1,[],(mapW t.wins (spaceF q.fn) q.at_ q.count).2)
 else if q.fn=22 then ((mapW t.wins 3 q.at_ 1).1,mapW t.wins 3 q.at_ 1)
 else if q.fn=23 then ((mapW t.wins 3 q.wat q.vals.length).1,(mapW t.wins 3 q.at_ q.count).1,(mapW t.wins 3 q.wat q.vals.length).2&&(mapW t.wins 3 q.at_ q.count).2)
 else ([],[],true)
def hasFn (t:Ten) (fn:Int):Bool:=decide (t.fns.toNat.testBit fn.toNat=true)
def codeP (t:Ten) (q:Req):Int :=
 if rightF q=15∨hasFn t q.fn=false then 1
 else if ¬ rightF q=0∨countF q=false then 3
 else if (piecesF t q).2.2=false then 2
 else if 6<(piecesF t q).1.length+(piecesF t q).2.1.length then 4
 else 0
def readP (fn:Int) (p:Pc):Req × Bool:=(⟨fn,p.phys,p.cnt,0,0,[],[],0,0⟩,false)
def writeP (q:Req) (p:Pc):Req × Bool :=
 (if q.fn=5 then ⟨5,p.phys,0,0,0,q.bits,[],0,0⟩
  else if q.fn=6 then ⟨6,p.phys,0,0,0,[],q.vals,0,0⟩
  else if q.fn=15 then ⟨15,p.phys,p.cnt,0,0,(q.bits.drop (p.at_-q.at_).toNat).take p.cnt.toNat,[],0,0⟩
  else if q.fn=16 then ⟨16,p.phys,p.cnt,0,0,[],(q.vals.drop (p.at_-q.at_).toNat).take p.cnt.toNat,0,0⟩
  else ⟨16,p.phys,p.cnt,0,0,[],(q.vals.drop (p.at_-q.wat).toNat).take p.cnt.toNat,0,0⟩,true)
def splitF (t:Ten) (q:Req):List (Req × Bool) × Int :=
 if ¬ codeP t q=0 then ([],codeP t q)
 else if q.fn=22 then ((piecesF t q).2.1.take 1 |>.flatMap fun p=>[readP 3 p,(⟨6,p.phys,0,0,0,[],[0],0,0⟩,true)],0)
 else ((piecesF t q).1.map (writeP q)++(piecesF t q).2.1.map (readP (if q.fn=23 then 3 else q.fn)),0)
def localF (q:Req):Bool:=decide (q.fn=8∨q.fn=17)
def wholeF (q:Req) (bits:List Bool) (vals:List Int):Rep :=
 if q.fn=5 then ⟨5,0,q.at_,0,0,q.bits,[],0,0,[]⟩
 else if q.fn=6 then ⟨6,0,q.at_,0,0,[],q.vals,0,0,[]⟩
 else if q.fn=15∨q.fn=16 then ⟨q.fn,0,q.at_,q.count,0,[],[],0,0,[]⟩
 else if q.fn=22 then ⟨22,0,q.at_,0,0,[],[],q.and_,q.or_,[]⟩
 else if (bits.length:Int)+vals.length=q.count then ⟨q.fn,0,0,0,0,bits,vals,0,0,[]⟩ else refuseP q.fn 4
def joinA (q:Req):List (Req × Bool)→List Rep→List Bool→List Int→Rep
 | ps,[],bits,vals=>if ps=[] then wholeF q bits vals else refuseP q.fn 4
 | [],_::_,bits,vals=>wholeF q bits vals
 |(x,w)::ps,r::l,bits,vals =>
  if ¬ r.fn=x.fn∨¬ goodF r=0 then refuseP q.fn 4 else joinA q ps l (if w then bits else bits++r.bits) (if w then vals else vals++r.vals)
def joinF (t:Ten) (q:Req) (l:List Rep):Rep :=
 if ¬ (splitF t q).2=0 then refuseP q.fn (splitF t q).2
 else if localF q=true then refuseP q.fn 4
 else match (l.take (splitF t q).1.length).find? (fun r=>decide (¬ r.code=0)) with
  | some r=>refuseP q.fn r.code
  | none=>joinA q (splitF t q).1 (l.take (splitF t q).1.length) [] []
structure Cn where
 m:Int
 e:Int
 b:Int
 deriving DecidableEq
structure Cn.ok (c:Cn):Prop where
 m:0≤c.m∧c.m≤1073741824
 e:0≤c.e∧c.e≤1073741824
 b:0≤c.b∧c.b≤1073741824
def Cn.pv (c:Cn):PV:=.agg [.int .i64 c.m,.int .i64 c.e,.int .i64 c.b]
def Cn.msg (c:Cn):Cn:={ c with m:=min (c.m+1) 1073741824 }
def Cn.exc (c:Cn):Cn:={ c with e:=min (c.e+1) 1073741824 }
def Cn.bad (c:Cn) (n:Int):Cn:={ c with b:=c.b+max 0 (min n (1073741824-c.b)) }
def Cn.get (c:Cn) (sub:Int):Option Int:=if sub=11∨sub=14 then some (c.m%65536) else if sub=12 then some (c.b%65536) else if sub=13 then some (c.e%65536) else none
theorem Cn.ok.msg {c:Cn} (h:c.ok):c.msg.ok:=⟨by have:=h.m;show 0≤min (c.m+1) _∧min (c.m+1) _≤_;omega,h.e,h.b⟩
theorem Cn.ok.exc {c:Cn} (h:c.ok):c.exc.ok:=⟨h.m,by have:=h.e;show 0≤min (c.e+1) _∧min (c.e+1) _≤_;omega,h.b⟩
theorem Cn.ok.bad {c:Cn} (h:c.ok) (n:Int):(c.bad n).ok:=⟨h.m,h.e,by have:=h.b;show 0≤c.b+max 0 (min n (1073741824-c.b))∧c.b+max 0 (min n (1073741824-c.b))≤_;omega⟩
def Cn.doC (c:Cn) (q:Req) (unit:Int):Rep × Cn :=
 if ¬ q.fn=8∧¬ q.fn=17 then (refuseP q.fn 1,c)
 else if ¬ rightF q=0 then (refuseP q.fn 3,c)
 else if q.fn=17 then (⟨17,0,0,0,0,[],[],0,0,[unit%256,255]⟩,c)
 else if q.sub=0 then (⟨8,0,0,0,q.sub,[],q.vals,0,0,[]⟩,c)
 else if q.sub=10 then (⟨8,0,0,0,q.sub,[],q.vals,0,0,[]⟩,⟨0,0,0⟩)
 else match c.get q.sub with
  | none=>(refuseP q.fn 3,c)
  | some n=>if q.vals.headD 0=0 then (⟨8,0,0,0,q.sub,[],[n],0,0,[]⟩,c) else (refuseP q.fn 3,c)
theorem Cn.ok.doC {c:Cn} (h:c.ok) (q:Req) (unit:Int):(c.doC q unit).2.ok:=by
 have z:(⟨0,0,0⟩:Cn).ok:=⟨Y24,Y24,Y24⟩
 unfold Cn.doC
 repeat' split
 all_goals first | exact h | exact z
end Go.Proofs
namespace Go.Proofs
open Go.PM Go
structure PcIn (at_ n:Int) (p:Pc):Prop where
 lo:at_≤p.at_
 hi:p.at_+p.cnt≤at_+n
 one:1≤p.cnt
 ph:0≤p.phys
 pe:p.phys+p.cnt≤512
theorem covBy_iff {x:Int} {s:Sp}:covBy x s=true↔s.pos≤x∧x<s.pos+s.cnt:=by simp [covBy]
theorem Y192 {p:Prop} (h:p:=by simp;omega):p:=h
theorem coverA_all {l:List Sp} {e:Int} (hl:∀ s∈l,1≤s.cnt):∀ (k:Nat) (x:Int) (out o:List Sp),coverA l e k x out=some o →
  ∃ o',o=out++o'∧(∀ p∈o',x≤p.pos∧p.pos+p.cnt≤e∧1≤p.cnt∧∃ s,l.find? (covBy p.pos)=some s∧p.pos+p.cnt≤s.pos+s.cnt)∧(x<e→1≤k→o'≠[])∧(o'.length≤k)
 | 0,x,out,o,h=>⟨[],by cases h;simp,fun p hp=>absurd hp (List.not_mem_nil),fun _ hk=>absurd hk Y22,Nat.le_refl _⟩
 | k+1,x,out,o,h=>by
   unfold coverA at h
   split at h
   ·rename_i hx
    split at h
    ·cases h
    ·rename_i s hs
     have hc:=covBy_iff.1 (List.find?_some hs)
     obtain ⟨o',rfl,h1,h2,h3⟩:=coverA_all hl k _ _ _ h
     refine ⟨⟨x,min (s.pos+s.cnt) e-x⟩::o',Y23,fun p hp=>?_,fun _ _=>List.cons_ne_nil _ _,Y192⟩
     rcases List.mem_cons.1 hp with rfl | hp
     ·dsimp only
      exact ⟨Y21,Y21,Y21,s,hs,Y21⟩
     ·have q:=h1 p hp
      exact ⟨Y21,q.2.1,q.2.2.1,q.2.2.2⟩
   ·rename_i hx
    cases h
    exact ⟨[],Y23,fun p hp=>absurd hp (List.not_mem_nil),fun h _=>absurd h hx,Nat.zero_le _⟩
theorem all_one {l:List Sp} (h:¬ (l.any fun x=> !spRight x great)=true):∀ x∈l,1≤x.cnt:=fun x hx=>by
 have:spRight x great=true:=by
  cases e:spRight x great with
  | true=>rfl
  | false=>exact absurd (List.any_eq_true.2 ⟨x,hx,by rw [e];rfl⟩) h
 exact (spRight_iff.1 this).2.1
theorem Y313 {p:Prop} (h:p:=by simpa using h1):p:=h
theorem coverF_in {l:List Sp} {s p:Sp} (hp:p∈(coverF l s).1):s.pos≤p.pos∧p.pos+p.cnt≤s.pos+s.cnt∧1≤p.cnt∧0≤p.pos∧p.pos+p.cnt≤great∧∃ y,l.find? (covBy p.pos)=some y∧p.pos+p.cnt≤y.pos+y.cnt:=by
 unfold coverF at hp
 split at hp
 ·cases hp
 ·rename_i h
  have h1:=fun q=>h (.inl q)
  have h2:=fun q=>h (.inr q)
  have hs:=spRight_iff.1 (show spRight s great=true from Y313)
  have hl:=all_one h2
  split at hp
  ·cases hp
  ·rename_i o ho
   obtain ⟨o',e,q1,q2,q3⟩:=coverA_all hl _ _ _ _ ho
   rw [List.nil_append] at e
   subst e
   have q:=q1 p hp
   unfold great at hs ⊢
   exact ⟨q.1,q.2.1,q.2.2.1,Y21,Y21,q.2.2.2⟩
theorem coverF_len (l:List Sp) (s:Sp):(coverF l s).1.length≤2147483648:=by
 unfold coverF
 split
 ·simp
 ·rename_i h
  have h1:=fun q=>h (.inl q)
  have h2:=fun q=>h (.inr q)
  have hs:=spRight_iff.1 (show spRight s great=true from Y313)
  have hl:=all_one h2
  split
  ·simp
  ·rename_i o ho
   obtain ⟨o',e,q1,q2,q3⟩:=coverA_all hl _ _ _ _ ho
   rw [List.nil_append] at e
   subst e
   unfold great at hs
   dsimp only
   omega
theorem coverF_ne {l:List Sp} {s:Sp} (h:(coverF l s).2=true):(coverF l s).1≠[]:=by
 unfold coverF at h ⊢
 split at h
 ·cases h
 ·rename_i g
  rw [if_neg g]
  have h1:=fun q=>g (.inl q)
  have h2:=fun q=>g (.inr q)
  have hs:=spRight_iff.1 (show spRight s great=true from Y313)
  have hl:=all_one h2
  split at h
  ·cases h
  ·rename_i o ho
   obtain ⟨o',e,q1,q2,q3⟩:=coverA_all hl _ _ _ _ ho
   rw [List.nil_append] at e
   subst e
   exact q2 Y21 Y21
theorem ofW_right {l:List Win} {sp:Int} {w:Win} (h:w∈ofW l sp):winRight w=true∧w.space=sp∧w∈l:=by
 unfold ofW at h
 rw [List.mem_filter] at h
 have h2:=Bool.and_eq_true_iff.1 h.2
 exact ⟨h2.1,of_decide_eq_true h2.2,h.1⟩
theorem winRight_b {w:Win} (h:winRight w=true):0≤w.space∧w.space≤3∧0≤w.virt∧1≤w.cnt∧w.virt+w.cnt≤65536∧0≤w.phys∧w.phys+w.cnt≤512:=by
 simp only [winRight,Bool.and_eq_true,decide_eq_true_eq] at h
 have h1:=spRight_iff.1 h.1.2
 have h2:=spRight_iff.1 h.2
 have:=h.1.1
 simp only [Win.v,Win.p] at h1 h2
 omega
theorem winRight_great {w:Win} (h:winRight w=true):spRight w.v great=true:=by
 have h:=winRight_b h
 refine spRight_iff.2 ?_
 unfold great Win.v
 dsimp only
 omega
theorem spIn_one {x:Int} {s:Sp} (hx:0≤x∧x<2147483648) (hs:spRight s great=true):spIn ⟨x,1⟩ s=covBy x s:=by
 have hr:spRight ⟨x,1⟩ great=true:=spRight_iff.2 (by unfold great;dsimp only;omega)
 have h:=spRight_iff.1 hs
 by_cases c:covBy x s=true
 ·have k:=covBy_iff.1 c
  have m:spMeets ⟨x,1⟩ s=true:=by
   simp only [spMeets,hr,hs,Bool.true_and,decide_eq_true_eq]
   omega
  rw [c]
  unfold spIn spMeet
  rw [if_pos m,m,Bool.true_and,decide_eq_true_eq]
  have e1:max x s.pos=x:=Y21
  have e2:min (x+1) (s.pos+s.cnt)=x+1:=Y21
  dsimp only
  rw [e1,e2]
  congr 1
  omega
 ·have k:¬ (s.pos≤x∧x<s.pos+s.cnt):=fun q=>c (covBy_iff.2 q)
  rw [show covBy x s=false by simpa using c]
  have m:spMeets ⟨x,1⟩ s=false:=by
   simp only [spMeets,hr,hs,Bool.true_and,decide_eq_false_iff_not]
   omega
  unfold spIn
  rw [m];rfl
theorem find_congr {α:Type} {p q:α→Bool}:∀ {l:List α},(∀ x∈l,p x=q x)→l.find? p=l.find? q
 | [],_=>rfl
 | x::l,h=>by
   rw [List.find?_cons,List.find?_cons,h x Y23,find_congr (l:=l) fun y hy=>h y Y310]
theorem physAt_eq {l:List Win} {sp x:Int} (hx:0≤x∧x<2147483648) {y:Sp} (h:((ofW l sp).map Win.v).find? (covBy x)=some y):∃ w∈ofW l sp,y=w.v∧(ofW l sp).find? (fun w=>spIn ⟨x,1⟩ w.v)=some w∧physAt (ofW l sp) x=w.phys+x-w.virt∧covBy x w.v=true:=by
 rw [List.find?_map] at h
 obtain ⟨w,hw,rfl⟩:=Option.map_eq_some_iff.1 h
 have e:(ofW l sp).find? (fun w=>spIn ⟨x,1⟩ w.v)=some w:=by
  rw [← hw]
  exact find_congr fun z hz=>spIn_one hx (winRight_great (ofW_right hz).1)
 refine ⟨w,List.mem_of_find?_eq_some hw,rfl,e,?_,List.find?_some (p:=covBy x ∘ Win.v) hw⟩
 unfold physAt
 rw [e]
theorem mapW_in {l:List Win} {sp at_ n:Int} {p:Pc} (h:p∈(mapW l sp at_ n).1):PcIn at_ n p∧0≤p.at_∧∃ w∈ofW l sp,p.phys=w.phys+p.at_-w.virt∧w.virt≤p.at_∧p.at_+p.cnt≤w.virt+w.cnt:=by
 unfold mapW at h
 obtain ⟨s,hs,rfl⟩:=List.mem_map.1 h
 obtain ⟨h1,h2,h3,h4,h5,y,hy,h6⟩:=coverF_in hs
 unfold great at h5
 obtain ⟨w,hw,rfl,_,e,c⟩:=physAt_eq Y21 hy
 have hb:=winRight_b (ofW_right hw).1
 have c:=covBy_iff.1 c
 simp only [Win.v] at c h6
 dsimp only at h1 h2 ⊢
 refine ⟨⟨h1,h2,h3,?_,?_⟩,h4,w,hw,e,Y21,Y21⟩<;>dsimp only<;>rw [e]<;>omega
theorem PcIn.b {at_ n:Int} {p:Pc} (h:PcIn at_ n p):p.cnt≤n∧p.cnt≤512∧0≤p.phys∧p.phys≤511∧1≤p.cnt∧0≤p.at_-at_∧p.at_-at_+p.cnt≤n:=by
 have h1:=h.lo;have h2:=h.hi;have h3:=h.one;have h4:=h.ph;have h5:=h.pe
 omega
theorem mapW_len (l:List Win) (sp at_ n:Int):(mapW l sp at_ n).1.length≤2147483648:=by
 unfold mapW
 rw [List.length_map]
 exact coverF_len _ _
theorem mapW_ne {l:List Win} {sp at_ n:Int} (h:(mapW l sp at_ n).2=true):(mapW l sp at_ n).1≠[]:=by
 unfold mapW at h ⊢
 intro e
 exact coverF_ne h (List.map_eq_nil_iff.1 e)
end Go.Proofs
namespace Go.Proofs
open Go.PM Go
def wposF (q:Req):Int:=if q.fn=23 then q.wat else q.at_
def wlenF (q:Req):Int:=if q.fn=5∨q.fn=6∨q.fn=22 then 1 else if q.fn=23 then q.vals.length else q.count
theorem pieces_w {t:Ten} {q:Req} {p:Pc} (h:p∈(piecesF t q).1):PcIn (wposF q) (wlenF q) p:=by
 unfold piecesF at h
 unfold wposF wlenF
 split at h
 ·cases h
 ·split at h
  ·rename_i h5
   rw [if_neg Y21,if_pos Y21]
   exact (mapW_in h).1
  ·split at h
   ·rename_i h15
    rw [if_neg Y21,if_neg Y21,if_neg Y21]
    exact (mapW_in h).1
   ·split at h
    ·rw [if_neg Y21,if_pos Y21]
     exact (mapW_in h).1
    ·split at h
     ·rename_i h23
      rw [if_pos h23,if_neg Y21,if_pos h23]
      exact (mapW_in h).1
     ·cases h
theorem pieces_r {t:Ten} {q:Req} {p:Pc} (h:p∈(piecesF t q).2.1):PcIn q.at_ (if q.fn=22 then 1 else q.count) p:=by
 unfold piecesF at h
 split at h
 ·rw [if_neg Y21]
  exact (mapW_in h).1
 ·split at h
  ·cases h
  ·split at h
   ·cases h
   ·split at h
    ·rename_i h22
     rw [if_pos h22]
     exact (mapW_in h).1
    ·split at h
     ·rw [if_neg Y21]
      exact (mapW_in h).1
     ·cases h
theorem pieces_fw {t:Ten} {q:Req} {p:Pc} (h:p∈(piecesF t q).1):q.fn=5∨q.fn=6∨q.fn=15∨q.fn=16∨q.fn=22∨q.fn=23:=by
 unfold piecesF at h
 repeat' split at h
 all_goals first | omega | cases h
theorem pieces_fr {t:Ten} {q:Req} {p:Pc} (h:p∈(piecesF t q).2.1):1≤q.fn∧q.fn≤4∨q.fn=22∨q.fn=23:=by
 unfold piecesF at h
 repeat' split at h
 all_goals first | omega | cases h
theorem pieces_len (t:Ten) (q:Req):(piecesF t q).1.length≤2147483648∧(piecesF t q).2.1.length≤2147483648:=by
 unfold piecesF
 repeat' split
 all_goals exact ⟨by first | exact mapW_len _ _ _ _ | simp,by first | exact mapW_len _ _ _ _ | simp⟩
structure CodeOk (t:Ten) (q:Req):Prop where
 has:hasFn t q.fn=true
 r:rightF q=0
 c:countF q=true
 ok:(piecesF t q).2.2=true
 len:(piecesF t q).1.length+(piecesF t q).2.1.length≤6
theorem code_0 {t:Ten} {q:Req} (h:codeP t q=0):CodeOk t q:=by
 unfold codeP at h
 split at h
 ·cases h
 ·split at h
  ·cases h
  ·split at h
   ·cases h
   ·split at h
    ·cases h
    ·rename_i h1 h2 h3 h4
     simp only [not_or,Classical.not_not,Bool.not_eq_false,Nat.not_lt] at h1 h2 h3 h4
     exact ⟨h1.2,h2.1,h2.2,h3,h4⟩
theorem code_vals (t:Ten) (q:Req):0≤codeP t q∧codeP t q≤4:=by
 unfold codeP
 repeat' split
 all_goals decide
theorem mask_ne {t:Ten} {q:Req} (h:codeP t q=0) (e:q.fn=22):(piecesF t q).2.1≠[]∧(piecesF t q).1=(piecesF t q).2.1:=by
 have k:=(code_0 h).ok
 have e2:piecesF t q=((mapW t.wins 3 q.at_ 1).1,mapW t.wins 3 q.at_ 1):=by
  unfold piecesF
  rw [if_neg Y21,if_neg Y21,if_neg Y21,if_pos e]
 rw [e2] at k ⊢
 exact ⟨mapW_ne k,rfl⟩
structure PtOk (q:Req):Prop where
 ok:q.ok
 r:rightF q=0
 len:(writeF q).length≤253
theorem Y77 {p:Prop} (h:p:=by constructor<;>omega):p:=h
theorem Y139 {p:Prop} (h:p:=by dsimp only;omega):p:=h
theorem pt_of {fn a n:Int} {bits:List Bool} {vals:List Int} (h:(1≤fn∧fn≤4∧0≤n∧n≤512∧bits=[]∧vals=[])∨(fn=5∧n=0∧bits.length=1∧vals=[])∨(fn=6∧n=0∧bits=[]∧vals.length=1) ∨
  (fn=15∧(bits.length:Int)=n∧n≤512∧vals=[])∨(fn=16∧(vals.length:Int)=n∧n≤123∧bits=[])) (ha:0≤a∧a≤511) (hv:OkW vals):PtOk ⟨fn,a,n,0,0,bits,vals,0,0⟩:=by
 have lb:bits.length≤512:=by rcases h with ⟨_,_,_,_,rfl,_⟩ | ⟨_,_,h,_⟩ | ⟨_,_,rfl,_⟩ | ⟨_,_,_,_⟩ | ⟨_,_,_,rfl⟩<;>(first | omega |(simp only [List.length_nil];omega))
 have lv:vals.length≤123:=by rcases h with ⟨_,_,_,_,_,rfl⟩ | ⟨_,_,h,rfl⟩ | ⟨_,_,_,_⟩ | ⟨_,_,_,rfl⟩ | ⟨_,_,_,_⟩<;>(first | omega |(simp only [List.length_nil];omega))
 have hf:1≤fn∧fn≤4∨fn=5∨fn=6∨fn=15∨fn=16:=Y21
 have hn:0≤n∧n≤512:=Y21
 have hx:∀ x:Int,-70000≤x∧x≤70000→I64 x:=fun x h=>Y77
 have z16:U16 0:=Y24
 have z64:I64 0:=Y24
 have zw:wordF 0=true:=Y22
 refine ⟨⟨hx _ Y139,hx _ Y139,hx _ Y139,z64,z64,hv,z16,z16,Y139,Y139⟩,right_of ⟨?_,?_,?_,?_,?_,?_,?_,?_,?_,?_⟩,?_⟩
 ·exact decide_eq_true Y139
 ·refine decide_eq_true ?_
  dsimp only
  refine ⟨.inl Y21,?_,.inr rfl,.inr rfl,.inr ⟨rfl,rfl⟩⟩
  omega
 ·exact decide_eq_true Y139
 ·exact zw
 ·exact zw
 ·exact decide_eq_true Y139
 ·unfold bitsF
  dsimp only
  rcases h with ⟨_,_,_,_,rfl,_⟩ | ⟨rfl,_,h,_⟩ | ⟨rfl,_,rfl,_⟩ | ⟨rfl,h,_,_⟩ | ⟨rfl,_,_,rfl⟩
  ·rw [if_neg Y21,if_neg Y21];rfl
  ·rw [if_pos rfl];omega
  ·rfl
  ·exact h
  ·rfl
 ·unfold valsF
  dsimp only
  rcases h with ⟨_,_,_,_,_,rfl⟩ | ⟨rfl,_,_,rfl⟩ | ⟨rfl,_,_,h⟩ | ⟨rfl,_,_,rfl⟩ | ⟨rfl,h,_,_⟩
  ·rw [if_neg Y21,if_neg Y21,if_neg Y21];rfl
  ·rfl
  ·rw [if_pos Y23];omega
  ·rfl
  ·exact h
 ·dsimp only;omega
 ·dsimp only;omega
 ·have h3:=flat2_lenX vals
  have h4:=packB_len bits
  unfold writeF
  dsimp only
  rw [if_neg Y21,if_neg Y21]
  repeat' split
  all_goals
   simp only [List.length_cons,List.length_append,List.length_nil,h3,h4,show ∀ n,(num2 n).length=2 from fun _=>rfl]
   omega
theorem readP_ok {fn a n:Int} {p:Pc} (hf:1≤fn∧fn≤4) (h:PcIn a n p):PtOk (readP fn p).1:=by
 have:=h.b
 exact pt_of (.inl ⟨hf.1,hf.2,Y21,Y21,rfl,rfl⟩) ⟨Y21,Y21⟩ (fun x hx=>absurd hx List.not_mem_nil)
theorem drop_take_len {α:Type} {l:List α} {a n:Int} (h0:0≤a) (h1:0≤n) (h:a+n≤l.length):((l.drop a.toNat).take n.toNat).length=n.toNat:=by
 rw [List.length_take,List.length_drop]
 omega
theorem OkW.cut {l:List Int} (h:OkW l) (a n:Nat):OkW ((l.drop a).take n):=fun x hx=>h x (List.mem_of_mem_drop (List.mem_of_mem_take hx))
theorem cnt_le {t:Ten} {q:Req} (h:CodeOk t q):(q.fn=15→q.bits.length=q.count)∧(q.fn=16→q.vals.length=q.count∧q.count≤123)∧(q.fn=23→q.vals.length≤121)∧(q.fn=5→q.bits.length=1)∧(q.fn=6→q.vals.length=1)∧(q.fn=8→q.vals.length=1):=by
 have hR:=right0 h.r
 have hc:=h.c
 unfold countF at hc
 have hc:=(of_decide_eq_true hc).2
 have nb:=hR.nb
 have nv:=hR.nv
 unfold bitsF at nb
 unfold valsF at nv
 refine ⟨fun e=>?_,fun e=>?_,fun e=>?_,fun e=>?_,fun e=>?_,fun e=>?_⟩<;>rw [e] at nb nv hc<;>simp at nb nv hc<;>omega
theorem writeP_ok {t:Ten} {q:Req} {p:Pc} (hq:q.ok) (h:CodeOk t q) (hp:p∈(piecesF t q).1) (h22:¬ q.fn=22):PtOk (writeP q p).1:=by
 have hi:=pieces_w hp
 have hb:=hi.b
 have hc:=cnt_le h
 have hv:=hq.vals
 have nv:OkW []:=fun x hx=>absurd hx List.not_mem_nil
 unfold wposF wlenF at hb
 unfold writeP
 dsimp only
 split
 ·rename_i e
  exact pt_of (.inr (.inl ⟨rfl,rfl,by have:=hc.2.2.2.1 e;omega,rfl⟩)) ⟨Y21,Y21⟩ nv
 ·split
  ·rename_i e
   exact pt_of (.inr (.inr (.inl ⟨rfl,rfl,rfl,by have:=hc.2.2.2.2.1 e;omega⟩))) ⟨Y21,Y21⟩ hv
  ·split
   ·rename_i e
    have:=hc.1 e
    rw [if_neg Y21,if_neg Y21,if_neg Y21] at hb
    refine pt_of (.inr (.inr (.inr (.inl ⟨rfl,?_,Y21,rfl⟩)))) ⟨Y21,Y21⟩ nv
    rw [drop_take_len Y21 Y21 Y21]
    omega
   ·split
    ·rename_i e
     have:=hc.2.1 e
     rw [if_neg Y21,if_neg Y21,if_neg Y21] at hb
     refine pt_of (.inr (.inr (.inr (.inr ⟨rfl,?_,Y21,rfl⟩)))) ⟨Y21,Y21⟩ (hv.cut _ _)
     rw [drop_take_len Y21 Y21 Y21]
     omega
    ·rename_i n1 n2 n3 n4
     have e:q.fn=23:=by have:=pieces_fw hp;omega
     have:=hc.2.2.1 e
     rw [if_pos e,if_neg Y21,if_pos e] at hb
     refine pt_of (.inr (.inr (.inr (.inr ⟨rfl,?_,Y21,rfl⟩)))) ⟨Y21,Y21⟩ (hv.cut _ _)
     rw [drop_take_len Y21 Y21 Y21]
     omega
theorem read_fn {t:Ten} {q:Req} {p:Pc} (hp:p∈(piecesF t q).2.1) (h22:¬ q.fn=22):1≤(if q.fn=23 then 3 else q.fn)∧(if q.fn=23 then 3 else q.fn)≤4:=by
 have:=pieces_fr hp
 split<;>omega
theorem mask_ok (v:Int) (q:Req):U16 (maskF v q):=ibits_u16 _ _ _
theorem mask_part {a:Int} {v:Int} (ha:0≤a∧a≤511) (hv:U16 v):PtOk ⟨6,a,0,0,0,[],[v],0,0⟩ :=
 pt_of (.inr (.inr (.inl ⟨rfl,rfl,rfl,rfl⟩))) ha (fun x hx=>by rw [List.mem_singleton] at hx;subst hx;exact hv)
theorem split_mask {t:Ten} {q:Req} (h:codeP t q=0) (e:q.fn=22):∃ p,(piecesF t q).2.1.head? =some p∧PcIn q.at_ 1 p∧splitF t q=([readP 3 p,(⟨6,p.phys,0,0,0,[],[0],0,0⟩,true)],0):=by
 have hn:=(mask_ne h e).1
 obtain ⟨p,l,hl⟩:=List.exists_cons_of_ne_nil hn
 refine ⟨p,by rw [hl];rfl,?_,?_⟩
 ·have:=pieces_r (t:=t) (q:=q) (p:=p) (by rw [hl];simp)
  rwa [if_pos e] at this
 ·unfold splitF
  rw [if_neg (by rw [h];decide),if_pos e,hl]
  rfl
theorem split_else {t:Ten} {q:Req} (h:codeP t q=0) (e:¬ q.fn=22):splitF t q=((piecesF t q).1.map (writeP q)++(piecesF t q).2.1.map (readP (if q.fn=23 then 3 else q.fn)),0):=by
 unfold splitF
 rw [if_neg (by rw [h];decide),if_neg e]
theorem split_no {t:Ten} {q:Req} (h:¬ codeP t q=0):splitF t q=([],codeP t q):=by
 unfold splitF
 rw [if_pos h]
theorem split_code (t:Ten) (q:Req):(splitF t q).2=codeP t q:=by
 by_cases h:codeP t q=0
 ·by_cases e:q.fn=22
  ·obtain ⟨p,_,_,e2⟩:=split_mask h e
   rw [e2,h]
  ·rw [split_else h e,h]
 ·rw [split_no h]
theorem split_ok {t:Ten} {q:Req} (hq:q.ok):∀ x∈(splitF t q).1,PtOk x.1:=by
 intro x hx
 by_cases h:codeP t q=0
 ·by_cases e:q.fn=22
  ·obtain ⟨p,_,hp,e2⟩:=split_mask h e
   rw [e2] at hx
   have hb:=hp.b
   simp only [List.mem_cons,List.not_mem_nil,or_false] at hx
   rcases hx with rfl | rfl
   ·exact readP_ok Y22 hp
   ·exact mask_part Y21 Y24
  ·rw [split_else h e] at hx
   simp only [List.mem_append,List.mem_map] at hx
   rcases hx with ⟨p,hp,rfl⟩ | ⟨p,hp,rfl⟩
   ·exact writeP_ok hq (code_0 h) hp e
   ·exact readP_ok (read_fn hp e) (pieces_r hp)
 ·rw [split_no h] at hx
  cases hx
theorem split_len (t:Ten) (q:Req):(splitF t q).1.length≤6:=by
 by_cases h:codeP t q=0
 ·by_cases e:q.fn=22
  ·obtain ⟨p,_,hp,e2⟩:=split_mask h e
   rw [e2];simp
  ·rw [split_else h e]
   have:=(code_0 h).len
   simp only [List.length_append,List.length_map]
   exact this
 ·rw [split_no h];simp
end Go.Proofs
namespace Go.Proofs
open Go.PM Go
theorem i64_0:I64 0:=Y24
theorem u16_0:U16 0:=Y24
theorem okW_nil:OkW []:=fun x hx=>absurd hx List.not_mem_nil
theorem Y78 {p:Prop} (h:p:=by show 0≤_;decide):p:=h
theorem Y245 {p:Prop} (h:p:=by show 0*2≤_;decide):p:=h
theorem refP_ok (fn code:Int):(refuseP fn code).ok:=⟨by show I64 (fn%128);constructor<;>omega,by show I64 (code%256);constructor<;>omega,i64_0,i64_0,i64_0,okW_nil,u16_0,u16_0,OkB.nil,Y78,Y245,Y78⟩
theorem good_lens {r:Rep} (h:goodF r=0):r.bits.length≤2040∧r.vals.length≤127:=by
 by_cases hc:r.code=0
 ·have:=good0 h hc
  exact ⟨this.mb,this.mv⟩
 ·rw [(goodC h hc).2.2.2.2]
  exact ⟨Nat.zero_le _,Nat.zero_le _⟩
theorem wholeF_ok {q:Req} (hq:q.ok) {bits:List Bool} {vals:List Int} (hv:OkW vals) (h1:bits.length≤100000) (h2:vals.length≤100000):(wholeF q bits vals).ok:=by
 have z:=Nat.zero_le
 have n5:I64 5:=Y24
 have n6:I64 6:=Y24
 have n22:I64 22:=Y24
 unfold wholeF
 repeat' split
 ·exact ⟨n5,i64_0,hq.at_,i64_0,i64_0,okW_nil,u16_0,u16_0,OkB.nil,hq.nb,Y245,z _⟩
 ·exact ⟨n6,i64_0,hq.at_,i64_0,i64_0,hq.vals,u16_0,u16_0,OkB.nil,z _,hq.nv,z _⟩
 ·exact ⟨hq.fn,i64_0,hq.at_,hq.count,i64_0,okW_nil,u16_0,u16_0,OkB.nil,z _,Y245,z _⟩
 ·exact ⟨n22,i64_0,hq.at_,i64_0,i64_0,okW_nil,hq.and_,hq.or_,OkB.nil,z _,Y245,z _⟩
 ·exact ⟨hq.fn,i64_0,i64_0,i64_0,i64_0,hv,u16_0,u16_0,OkB.nil,Y139,Y139,z _⟩
 ·exact refP_ok _ _
theorem joinA_ok {q:Req} (hq:q.ok):∀ {ps:List (Req × Bool)} {l:List Rep} {bits:List Bool} {vals:List Int},(∀ r∈l,r.ok)→OkW vals→bits.length+2040*l.length≤100000→vals.length+127*l.length≤100000→(joinA q ps l bits vals).ok
 | ps,[],bits,vals,_,hv,h1,h2=>by
   cases ps with
   | nil=>exact wholeF_ok hq hv Y313 (by simpa using h2)
   | cons x ps=>exact refP_ok _ _
 | [],_::_,bits,vals,_,hv,h1,h2=>wholeF_ok hq hv Y21 Y21
 |(x,w)::ps,r::l,bits,vals,hl,hv,h1,h2=>by
  unfold joinA
  split
  ·exact refP_ok _ _
  ·rename_i hg
   have hg:goodF r=0:=by
    simp only [not_or,Classical.not_not] at hg
    exact hg.2
   have hn:=good_lens hg
   have hr:=hl r Y23
   rw [List.length_cons] at h1 h2
   refine joinA_ok hq (fun y hy=>hl y Y310) ?_ ?_ ?_
   ·split
    ·exact hv
    ·exact fun y hy=>(List.mem_append.1 hy).elim (hv y) (hr.vals y)
   ·split
    ·omega
    ·rw [List.length_append];omega
   ·split
    ·omega
    ·rw [List.length_append];omega
theorem joinF_ok {t:Ten} {q:Req} (hq:q.ok) {l:List Rep} (hl:∀ r∈l,r.ok):(joinF t q l).ok:=by
 unfold joinF
 split
 ·exact refP_ok _ _
 ·split
  ·exact refP_ok _ _
  ·split
   ·exact refP_ok _ _
   ·have hn:(l.take (splitF t q).1.length).length≤6:=by
     rw [List.length_take]
     have:=split_len t q
     omega
    exact joinA_ok hq (fun r hr=>hl r (List.mem_of_mem_take hr)) okW_nil (by rw [List.length_nil];omega) (by rw [List.length_nil];omega)
theorem Cn.get_u {c:Cn} {sub n:Int} (h:c.get sub=some n):U16 n:=by
 unfold Cn.get at h
 unfold U16
 repeat' split at h
 all_goals first |(cases h;done) |(have e:=Option.some.inj h;omega)
theorem Y246 {p:Prop} (h:p:=by exact ⟨n8,i64_0,i64_0,i64_0,hq.sub,hq.vals,u16_0,u16_0,OkB.nil,z _,hq.nv,z _⟩):p:=h
theorem doC_rep {c:Cn} {q:Req} (hq:q.ok) (unit:Int):(c.doC q unit).1.ok:=by
 have z:=Nat.zero_le
 have n8:I64 8:=Y24
 have n17:I64 17:=Y24
 have e2:0*2≤140737488351232:=Y22
 unfold Cn.doC
 repeat' split
 ·exact refP_ok _ _
 ·exact refP_ok _ _
 ·refine ⟨n17,i64_0,i64_0,i64_0,i64_0,okW_nil,u16_0,u16_0,?_,z _,e2,by show 2≤140737488351232;decide⟩
  intro x hx
  simp only [List.mem_cons,List.not_mem_nil,or_false] at hx
  unfold U8
  omega
 ·exact Y246
 ·exact Y246
 ·exact refP_ok _ _
 ·rename_i n hg _
  exact ⟨n8,i64_0,i64_0,i64_0,hq.sub,fun x hx=>by rw [List.mem_singleton] at hx;subst hx;exact Cn.get_u hg,u16_0,u16_0,OkB.nil,z _,by show 1*2≤_;decide,z _⟩
 ·exact refP_ok _ _
end Go.Proofs
namespace Go.PM
open Go
inductive DetW (P:Program) (ops:Array Oper) (fx:List Nat) (keys:List (List Bool)) (T:St→List St) (good post:St→Prop) (c:Nat):Nat→List Oper→Env→Env→Prop
 | nil {i e}:DetW P ops fx keys T good post c i [] e e
 | cons {i o l e v e'} (tr:List (Nat × Nat)):i≠c→trOK (masks ops.toList []) fx keys i tr=true →
    (∀ X,good X→∀ q∈tr,∀ s s',(T X)[q.1]? =some s→(T X)[q.2]? =some s'→DOp P ops o e s v s')→DetW P ops fx keys T good post c (i+1) l (e.put o.dst v) e'→DetW P ops fx keys T good post c i (o::l) e e'
 | wild {i o l e v e'} (tr:List (Nat × Nat)):i=c→trOK (masks ops.toList []) fx keys i tr=true →
    (∀ X,good X→∀ q∈tr,∀ s,(T X)[q.1]? =some s→DOpS P ops o e s v (fun s'=>∃ Y,post Y∧(T Y)[q.2]? =some s'))→DetW P ops fx keys T good post c (i+1) l (e.put o.dst v) e'→DetW P ops fx keys T good post c i (o::l) e e'
section
variable {P:Program} {ops:Array Oper} {fx:List Nat} {keys:List (List Bool)} {T:St→List St} {good post:St→Prop} {c:Nat} {e e':Env} {s s' s0:St} {N:Nat} {k:List KI} {rt:Env→St→Prop}
theorem DetW.lists:∀ {i l e e'},DetW P ops fx keys T good post c i l e e'→(∀ j (o:Oper),l[j]? =some o→ops[i+j]? =some o) →
  ∃ (V:Nat→PV) (E:Nat→Env),E i=e∧E (i+l.length)=e'∧∀ k (o:Oper),i≤k→k<i+l.length→ops[k]? =some o →
   E (k+1)=(E k).put o.dst (V k)∧∃ tr,trOK (masks ops.toList []) fx keys k tr=true ∧
    (k≠c→∀ X,good X→∀ q∈tr,∀ s s',(T X)[q.1]? =some s→(T X)[q.2]? =some s'→DOp P ops o (E k) s (V k) s') ∧
    (k=c→∀ X,good X→∀ q∈tr,∀ s,(T X)[q.1]? =some s→DOpS P ops o (E k) s (V k) (fun s'=>∃ Y,post Y∧(T Y)[q.2]? =some s')):=by
 intro i l e e' h
 have step:∀ {i:Nat} {o:Oper} {l:List Oper} {e e':Env} {v:PV} (tr:List (Nat × Nat)),trOK (masks ops.toList []) fx keys i tr=true →
   (i≠c→∀ X,good X→∀ q∈tr,∀ s s',(T X)[q.1]? =some s→(T X)[q.2]? =some s'→DOp P ops o e s v s') →
   (i=c→∀ X,good X→∀ q∈tr,∀ s,(T X)[q.1]? =some s→DOpS P ops o e s v (fun s'=>∃ Y,post Y∧(T Y)[q.2]? =some s')) →
   ((∀ j (o:Oper),l[j]? =some o→ops[i+1+j]? =some o)→∃ (V:Nat→PV) (E:Nat→Env),E (i+1)=e.put o.dst v∧E (i+1+l.length)=e'∧∀ k (o:Oper),i+1≤k→k<i+1+l.length→ops[k]? =some o →
   E (k+1)=(E k).put o.dst (V k)∧∃ tr,trOK (masks ops.toList []) fx keys k tr=true ∧
    (k≠c→∀ X,good X→∀ q∈tr,∀ s s',(T X)[q.1]? =some s→(T X)[q.2]? =some s'→DOp P ops o (E k) s (V k) s') ∧
    (k=c→∀ X,good X→∀ q∈tr,∀ s,(T X)[q.1]? =some s→DOpS P ops o (E k) s (V k) (fun s'=>∃ Y,post Y∧(T Y)[q.2]? =some s'))) →
   (∀ j (o':Oper),(o::l)[j]? =some o'→ops[i+j]? =some o')→∃ (V:Nat→PV) (E:Nat→Env),E i=e∧E (i+(o::l).length)=e'∧∀ k (o':Oper),i≤k→k<i+(o::l).length→ops[k]? =some o' →
   E (k+1)=(E k).put o'.dst (V k)∧∃ tr,trOK (masks ops.toList []) fx keys k tr=true ∧
    (k≠c→∀ X,good X→∀ q∈tr,∀ s s',(T X)[q.1]? =some s→(T X)[q.2]? =some s'→DOp P ops o' (E k) s (V k) s') ∧
    (k=c→∀ X,good X→∀ q∈tr,∀ s,(T X)[q.1]? =some s→DOpS P ops o' (E k) s (V k) (fun s'=>∃ Y,post Y∧(T Y)[q.2]? =some s')):=by
  intro i o l e e' v tr h1 h2 h3 ih hl
  obtain ⟨V,E,a1,a3,a5⟩:=ih Y137
  have h0:ops[i]? =some o:=Y68
  refine ⟨fun k=>if k=i then v else V k,fun k=>if k=i then e else E k,if_pos rfl,?_,?_⟩
  ·exact Y10
  ·intro k o' hk hk2 ho'
   by_cases e1:k=i
   ·subst e1
    rw [h0] at ho';cases ho'
    simp only [if_true,show ¬ (k+1=k) from Y2,if_false]
    rw [a1]
    exact ⟨rfl,tr,h1,h2,h3⟩
   ·exact Y15
 induction h with
 | nil =>
   rename_i i e
   intro hl
   refine ⟨fun _=>.junk,fun _=>e,rfl,rfl,fun k o hk hk2 ho=>?_⟩
   simp at hk2;omega
 | cons tr h0 h1 h2 hd ih=>exact step tr h1 (fun _=>h2) (fun h=>absurd h h0) ih
 | wild tr h0 h1 h2 hd ih=>exact step tr h1 (fun h=>absurd h0 h) (fun _=>h2) ih
def DetWC (P:Program) (ops:Array Oper) (fx:List Nat) (keys:List (List Bool)) (T:St→List St) (good post:St→Prop) (c i:Nat) (l:List Oper) (e:Env) (K:Env→Prop):Prop:=∃ e',DetW P ops fx keys T good post c i l e e'∧K e'
theorem DetWC.nil {i:Nat} {K:Env→Prop} (h:K e):DetWC P ops fx keys T good post c i [] e K:=⟨e,.nil,h⟩
theorem Run.drawW {id:Nat} (n:Nat) (fx:List Nat) (keys:List (List Bool)) (T:St→List St) (good post:St→Prop) (c:Nat) (hm:P.follows .mixedOrders=true) (hs:drawOKf ops [] (fun _=>true)=true) (hc:cutOK ops n=true)
  (hcn:(decide (c<n)&&decide (c<ops.size))=true) (hfx:fx.all (fun k=>decide (k<n)&&decide (k<ops.size))=true) (hlen:∀ X,keys.length=(T X).length) (h0:(keys[0]? ==some (fx.map fun _=>false))=true) (hst:(T s0)[0]? =some s0) (hg0:good s0) (hpg:∀ X,post X→good X) (hfin:finOK fx keys=true)
  (hd:DetWC P ops fx keys T good post c 0 (ops.toList.take n) e (fun e'=>∀ X sN,post X→(T X)[keys.length-1]? =some sN→RunO P N ops (ops.toList.drop n) k e' sN rt)):Run P N (.code (.region id ops true)::k) e s0 rt:=by
 obtain ⟨e',hd,h⟩:=hd
 intro ok
 simp only [okK,okC,Bool.and_eq_true] at ok
 intro _ g w ac hI hE hdf hN2
 obtain ⟨V,E,a1,a3,a5⟩:=hd.lists Y138
 have hlen':(ops.toList.take n).length=min n ops.size:=Y1
 simp only [Nat.zero_add,hlen'] at a3 a5
 have hmin:min n ops.size≤ops.size:=Nat.min_le_right _ _
 simp only [Bool.and_eq_true,decide_eq_true_eq] at hcn
 refine wp_region_any hm ?_
 obtain ⟨hI1,hX1⟩:=drew_step hI (w.drawn+1)
 have hrepl:∀ k,(Array.replicate ops.size false).getD k false=false:=by
  intro k
  rw [Array.getD_eq_getD_getElem?]
  cases hx:(Array.replicate ops.size false)[k]? with
  | none=>rfl
  | some b=>have:=Array.mem_of_getElem? hx;simp at this;rw [this.2];rfl
 have hnone:∀ (p:Nat→Bool) (n:Nat),lastW p (fun k=>(Array.replicate ops.size false).getD k false) n=none:=by
  intro p n
  induction n with
  | zero=>rfl
  | succ n ih=>unfold lastW;rw [hrepl,ih];simp
 have hcut:∀ i j,min n ops.size≤j→j<ops.size→i<j→((masks ops.toList []).getD j 0).testBit i=true :=
  fun i j h1 h2 h3=>cutOK_spec hc i j Y2 h2 h3
 refine any_order_s (N:=N) (e0:=e) (V:=V) (E:=E) (g0:=g) (w0:=w) (n:=min n ops.size) (J:=fun L s=>∃ X,good X∧(L c=true→post X)∧∃ p:Nat,keys[p]? =some (fx.map L)∧(T X)[p]? =some s) hmin hcut hs ?_ a1 (fun i o hi ho=>(a5 i o (Nat.zero_le _) hi ho).1)
  ?_ ?_ ops.size _ g s0 _ ac Y1 ?_ ?_ (fun k _=>hrepl k) hI1 hX1 hdf hN2 ?_ ?_
 ·exact Y64
 ·rintro L i o s hi ho ⟨X,hX,hP,p,hp1,hp2⟩ h1 h2 h3
  obtain ⟨_,tr,ht1,ht2,ht3⟩:=a5 i o (Nat.zero_le _) hi ho
  unfold trOK at ht1
  have hpl:p<keys.length:=(List.getElem?_eq_some_iff.1 hp1).1
  have hh:=List.all_eq_true.1 ht1 p (List.mem_range.2 hpl)
  rw [hp1] at hh
  simp only at hh
  rw [admK_of h1 h2 h3] at hh
  simp only [Bool.not_true,Bool.false_or,List.any_eq_true,Bool.and_eq_true,beq_iff_eq] at hh
  obtain ⟨q,hq,hq1,hq2⟩:=hh
  rw [setK_map] at hq2
  by_cases e1:i=c
  ·refine fun g w a hI hs K Q hK=>ht3 e1 X hX q hq s (by rw [hq1];exact hp2) g w a hI hs K Q fun s1 val w' g' ⟨Y,hY1,hY2⟩=>hK s1 val w' g' ⟨Y,hpg Y hY1,fun _=>hY1,q.2,hq2,hY2⟩
  ·have hql:q.2<(T X).length:=by rw [← hlen X];exact (List.getElem?_eq_some_iff.1 hq2).1
   exact (ht2 e1 X hX q hq s _ (by rw [hq1];exact hp2) (List.getElem?_eq_getElem hql)).toS ⟨X,hX,fun hl=>hP (by have hl:(if c=i then true else L c)=true:=hl;rw [if_neg (fun h=>e1 h.symm)] at hl;exact hl),q.2,hq2,List.getElem?_eq_getElem hql⟩
 ·rintro L g' s w' a' ⟨X,hX,hP,p,hp1,hp2⟩ hall k1 k2 k3 k4 k5
  have hmap:fx.map L=fx.map (fun _=>true):=by
   refine List.map_congr_left fun x hx=>?_
   have hxn:=List.all_eq_true.1 hfx x hx
   simp only [Bool.and_eq_true,decide_eq_true_eq] at hxn
   exact hall x Y2
  have hpe:p=keys.length-1:=by
   unfold finOK at hfin
   have hlp:p<keys.length:=(List.getElem?_eq_some_iff.1 hp1).1
   have:=List.all_eq_true.1 hfin p (List.mem_range.2 hlp)
   rw [hp1,hmap] at this
   simpa using this
  subst hpe
  rw [a3] at k2
  refine RunO.eff.wpOps_mono' (fun _ _ _=>Lift.trans k3) (h X s (hP (hall c Y2)) hp2 ?_ ok.2 _ ?_ g' w' a' k1 k2 k4 k5)
  ·exact Y135
  ·exact Y25
 ·exact Y65
 ·exact Y69
 ·exact Y130
 ·refine ⟨s0,hg0,fun h=>?_,0,?_,hst⟩
  ·have h:(Array.replicate ops.size false).getD c false=true:=h
   rw [hrepl] at h;cases h
  rw [beq_iff_eq.1 h0]
  congr 1
  exact List.map_congr_left fun x _=>(hrepl x).symm
theorem DetW.pre {ks:List Nat} {s1:St} (hg1:good s1):∀ {pre:List Oper} {l:List Oper} {i:Nat} {e e1 e':Env},(i+pre.length≤c∨c<i)→preOK (masks ops.toList []) fx keys i pre.length ks=true→(∀ X,good X→DopsB P ops pre e s1 (ks.filterMap fun p=>(T X)[p]?) e1) →
  DetW P ops fx keys T good post c (i+pre.length) l e1 e'→DetW P ops fx keys T good post c i (pre++l) e e'
 | [],l,i,e,e1,e',_,_,h,hd=>by cases h s1 hg1;exact hd
 | o::pre,l,i,e,e1,e',hic,hk,h,hd=>by
   simp only [List.length_cons] at hk hd hic
   obtain ⟨v,hv,hv',h1⟩:=h s1 hg1
   unfold preOK at hk
   rw [List.range'_succ,List.all_cons,Bool.and_eq_true] at hk
   have same:∀ X,good X→(∀ s∈ks.filterMap fun p=>(T X)[p]?,dop1 P ops o (Env.keep (slotsOf ops o) e) s=some v)∧DopsB P ops pre (e.put o.dst v) s1 (ks.filterMap fun p=>(T X)[p]?) e1:=fun X hX=>by
    obtain ⟨v2,hv2,hv2',h2⟩:=h X hX
    rw [hv] at hv2
    cases hv2
    exact ⟨hv2',h2⟩
   refine DetW.cons (v:=v) (ks.map fun p=>(p,p)) Y2 hk.1 ?_ ?_
   ·intro X hX q hq s s' k1 k2
    obtain ⟨p,hp,rfl⟩:=List.mem_map.1 hq
    rw [k1] at k2
    cases k2
    exact dop1_op ((same X hX).1 s (List.mem_filterMap.2 ⟨p,hp,k1⟩))
   ·refine DetW.pre hg1 Y2 hk.2 (fun X hX=>(same X hX).2) ?_
    rw [show i+1+pre.length=i+(pre.length+1) from Y2]
    exact hd
theorem DetWC.pre {pre l:List Oper} {i:Nat} {e1:Env} {s1:St} {K:Env→Prop} (ks:List Nat) (hg1:good s1) (hic:(decide (i+pre.length≤c)||decide (c<i))=true) (hk:preOK (masks ops.toList []) fx keys i pre.length ks=true)
  (h:∀ X,good X→DopsB P ops pre e s1 (ks.filterMap fun p=>(T X)[p]?) e1) (hd:DetWC P ops fx keys T good post c (i+pre.length) l e1 K):DetWC P ops fx keys T good post c i (pre++l) e K:=by
 obtain ⟨e',h1,h2⟩:=hd
 exact ⟨e',DetW.pre hg1 (by simpa using hic) hk h h1,h2⟩
theorem DetWC.callX {d:Option Nat} {cl:Call} {t:TypeId} {pos:String} {af:Array Edge} {gd:Option (Nat × Bool)} {l:List Oper} {i:Nat} {f:FuncId} {args args':List PV} {v:PV} {K:Env→Prop} (tr:List (Nat × Nat))
  (hi:Nat.beq i c=true) (hk:trOK (masks ops.toList []) fx keys i tr=true)
  (hg:guard? ops ⟨d,.call cl,t,pos,af,gd⟩ (Env.keep (slotsOf ops ⟨d,.call cl,t,pos,af,gd⟩) e)=some true)
  (ha:acall cl (Env.keep (slotsOf ops ⟨d,.call cl,t,pos,af,gd⟩) e)=some (f,args)) (hw:PV.weaks args=args') (hc:callable P f=true)
  (h:∀ X,good X→∀ q∈tr,∀ s,(T X)[q.1]? =some s→ACalls P f args' s fun r s2=>r=v∧∃ Y,post Y∧(T Y)[q.2]? =some s2) (hd:DetWC P ops fx keys T good post c (i+1) l (e.put d v) K):DetWC P ops fx keys T good post c i (⟨d,.call cl,t,pos,af,gd⟩::l) e K:=by
 obtain ⟨e',h1,h2⟩:=hd
 refine ⟨e',DetW.wild (v:=v) tr (Nat.eq_of_beq_eq_true hi) hk ?_ h1,h2⟩
 subst hw
 intro X hX q hq s hs g w a hI hsl K Q hk
 have hE:=keep_ok hsl
 rw [guard_wanted hg hE]
 simp only [if_true]
 obtain ⟨vs,hrun,hra⟩:=acall_run (P:=P) (o:=⟨d,.call cl,t,pos,af,gd⟩) (a:=a) rfl hE ha hc
 left
 unfold Oper.wp
 rw [hrun,Oper.upon_enter]
 refine (h X hX q hq s hs g w vs hI (RA_weak _ _ hra)).mono ?_
 rintro e' w' ⟨v',g',r',s',rfl,hI',hR',hX',rfl,hT⟩
 exact hk s' _ _ _ hT hI' hX' hR'
theorem DetWC.eff {o:Oper} {l:List Oper} {i:Nat} {v:PV} {K:Env→Prop} (tr:List (Nat × Nat)) (hi:(!Nat.beq i c)=true) (hk:trOK (masks ops.toList []) fx keys i tr=true)
  (hg:guard? ops o (Env.keep (slotsOf ops o) e)=some true) (h:∀ X,good X→∀ q∈prsOf (T X) tr,acore P o.op (ev (Env.keep (slotsOf ops o) e)) q.1=some (v,q.2))
  (hd:DetWC P ops fx keys T good post c (i+1) l (e.put o.dst v) K):DetWC P ops fx keys T good post c i (o::l) e K:=by
 obtain ⟨e',h1,h2⟩:=hd
 refine ⟨e',DetW.cons (v:=v) tr (by intro h;subst h;simp at hi) hk ?_ h1,h2⟩
 intro X hX q hq s s' k1 k2
 exact DOp.of_effect hg fun g w a hI hE=>acore_run hI (fun x=>ev_R hE x) (h X hX _ (prsOf_mem hq k1 k2))
theorem DetWC.resAlloc {o:Oper} {l:List Oper} {i id:Nat} {t:TypeId} {z:PV} {K:Env→Prop} (tr:List (Nat × Nat)) (hi:(!Nat.beq i c)=true) (hk:trOK (masks ops.toList []) fx keys i tr=true)
  (hg:guard? ops o (Env.keep (slotsOf ops o) e)=some true) (ho:o.op=.alloc t) (hz:zpv P t=some z) (h:∀ X,good X→∀ q∈prsOf (T X) tr,q.1.blk id=some .res∧q.2=q.1.set id (some (.row t [z])))
  (hd:DetWC P ops fx keys T good post c (i+1) l (e.put o.dst (.ptr id 0 0)) K):DetWC P ops fx keys T good post c i (o::l) e K:=by
 obtain ⟨e',h1,h2⟩:=hd
 refine ⟨e',DetW.cons (v:=.ptr id 0 0) tr (by intro h;subst h;simp at hi) hk ?_ h1,h2⟩
 intro X hX q hq s s' k1 k2
 have h9:=h X hX _ (prsOf_mem hq k1 k2)
 have e9:s'=s.set id (some (.row t [z])):=h9.2
 rw [e9]
 exact DOp.of_effect hg fun g w a hI hE=>resAlloc_run hI h9.1 ho hz
end
end Go.PM
namespace Go.Proofs
open Go.PM
theorem Y26 {p:Prop} (h:p:=by kernel_rfl):p:=h
@[go_sem] theorem Tryz.td2:td Tryz.prog 2=TD.int Go.IntKind.i64:=Y26
@[go_sem] theorem Tryz.cz2:Tryz.prog.cellsOf 2=1:=Y26
@[go_sem] theorem Tryz.by2:Tryz.prog.bytesOf 2=8:=Y26
@[go_sem] theorem Tryz.ag2:aggO Tryz.prog 2=some false:=Y26
@[go_sem] theorem Tryz.zp2:zpv Tryz.prog 2=some (PV.int Go.IntKind.i64 (0)):=Y26
@[go_sem] theorem Tryz.td3:td Tryz.prog 3=TD.int Go.IntKind.i64:=Y26
@[go_sem] theorem Tryz.cz3:Tryz.prog.cellsOf 3=1:=Y26
@[go_sem] theorem Tryz.by3:Tryz.prog.bytesOf 3=8:=Y26
@[go_sem] theorem Tryz.ag3:aggO Tryz.prog 3=some false:=Y26
@[go_sem] theorem Tryz.zp3:zpv Tryz.prog 3=some (PV.int Go.IntKind.i64 (0)):=Y26
@[go_sem] theorem Tryz.td4:td Tryz.prog 4=TD.bool:=Y26
@[go_sem] theorem Tryz.cz4:Tryz.prog.cellsOf 4=1:=Y26
@[go_sem] theorem Tryz.by4:Tryz.prog.bytesOf 4=1:=Y26
@[go_sem] theorem Tryz.ag4:aggO Tryz.prog 4=some false:=Y26
@[go_sem] theorem Tryz.zp4:zpv Tryz.prog 4=some (PV.bool false):=Y26
@[go_sem] theorem Tryz.td5:td Tryz.prog 5=TD.int Go.IntKind.u8:=Y26
@[go_sem] theorem Tryz.cz5:Tryz.prog.cellsOf 5=1:=Y26
@[go_sem] theorem Tryz.by5:Tryz.prog.bytesOf 5=1:=Y26
@[go_sem] theorem Tryz.ag5:aggO Tryz.prog 5=some false:=Y26
@[go_sem] theorem Tryz.zp5:zpv Tryz.prog 5=some (PV.int Go.IntKind.u8 (0)):=Y26
@[go_sem] theorem Tryz.td9:td Tryz.prog 9=TD.str:=Y26
@[go_sem] theorem Tryz.cz9:Tryz.prog.cellsOf 9=1:=Y26
@[go_sem] theorem Tryz.by9:Tryz.prog.bytesOf 9=16:=Y26
@[go_sem] theorem Tryz.ag9:aggO Tryz.prog 9=some false:=Y26
@[go_sem] theorem Tryz.zp9:zpv Tryz.prog 9=some (PV.str { data:={ toList:=[] } }):=Y26
@[go_sem] theorem Tryz.td22:td Tryz.prog 22=TD.sl 3:=Y26
@[go_sem] theorem Tryz.cz22:Tryz.prog.cellsOf 22=1:=Y26
@[go_sem] theorem Tryz.by22:Tryz.prog.bytesOf 22=24:=Y26
@[go_sem] theorem Tryz.ag22:aggO Tryz.prog 22=some false:=Y26
@[go_sem] theorem Tryz.zp22:zpv Tryz.prog 22=some (PV.sl SK.nil []):=Y26
@[go_sem] theorem Tryz.td23:td Tryz.prog 23=TD.sl 39:=Y26
@[go_sem] theorem Tryz.cz23:Tryz.prog.cellsOf 23=1:=Y26
@[go_sem] theorem Tryz.by23:Tryz.prog.bytesOf 23=24:=Y26
@[go_sem] theorem Tryz.ag23:aggO Tryz.prog 23=some false:=Y26
@[go_sem] theorem Tryz.zp23:zpv Tryz.prog 23=some (PV.sl SK.nil []):=Y26
@[go_sem] theorem Tryz.td24:td Tryz.prog 24=TD.int Go.IntKind.u32:=Y26
@[go_sem] theorem Tryz.cz24:Tryz.prog.cellsOf 24=1:=Y26
@[go_sem] theorem Tryz.by24:Tryz.prog.bytesOf 24=4:=Y26
@[go_sem] theorem Tryz.ag24:aggO Tryz.prog 24=some false:=Y26
@[go_sem] theorem Tryz.zp24:zpv Tryz.prog 24=some (PV.int Go.IntKind.u32 (0)):=Y26
@[go_sem] theorem Tryz.td25:td Tryz.prog 25=TD.sl 59:=Y26
@[go_sem] theorem Tryz.cz25:Tryz.prog.cellsOf 25=1:=Y26
@[go_sem] theorem Tryz.by25:Tryz.prog.bytesOf 25=24:=Y26
@[go_sem] theorem Tryz.ag25:aggO Tryz.prog 25=some false:=Y26
@[go_sem] theorem Tryz.zp25:zpv Tryz.prog 25=some (PV.sl SK.nil []):=Y26
@[go_sem] theorem Tryz.td26:td Tryz.prog 26=TD.sl 117:=Y26
@[go_sem] theorem Tryz.cz26:Tryz.prog.cellsOf 26=1:=Y26
@[go_sem] theorem Tryz.by26:Tryz.prog.bytesOf 26=24:=Y26
@[go_sem] theorem Tryz.ag26:aggO Tryz.prog 26=some false:=Y26
@[go_sem] theorem Tryz.zp26:zpv Tryz.prog 26=some (PV.sl SK.nil []):=Y26
@[go_sem] theorem Tryz.td28:td Tryz.prog 28=TD.struct [(0,1,some false),(1,1,some false),(2,1,some false),(3,1,some false),(4,1,some false)]:=Y26
@[go_sem] theorem Tryz.cz28:Tryz.prog.cellsOf 28=5:=Y26
@[go_sem] theorem Tryz.by28:Tryz.prog.bytesOf 28=72:=Y26
@[go_sem] theorem Tryz.ag28:aggO Tryz.prog 28=some true:=Y26
@[go_sem] theorem Tryz.zp28:zpv Tryz.prog 28=some (PV.agg [PV.int Go.IntKind.i64 (0),PV.int Go.IntKind.u32 (0),PV.int Go.IntKind.i64 (0),PV.sl SK.nil [],PV.sl SK.nil []]):=Y26
@[go_sem] theorem Tryz.sp28:splaces Tryz.prog 28=some [(0,1),(1,1),(2,1),(3,1),(4,1)]:=Y26
@[go_sem] theorem Tryz.fs28:flatStruct Tryz.prog 28=some [TD.int Go.IntKind.i64,TD.int Go.IntKind.u32,TD.int Go.IntKind.i64,TD.sl 59,TD.sl 117]:=Y26
@[go_sem] theorem Tryz.td30:td Tryz.prog 30=TD.ptr 86:=Y26
@[go_sem] theorem Tryz.cz30:Tryz.prog.cellsOf 30=1:=Y26
@[go_sem] theorem Tryz.by30:Tryz.prog.bytesOf 30=8:=Y26
@[go_sem] theorem Tryz.ag30:aggO Tryz.prog 30=some false:=Y26
@[go_sem] theorem Tryz.zp30:zpv Tryz.prog 30=some PV.nilp:=Y26
@[go_sem] theorem Tryz.td32:td Tryz.prog 32=TD.ptr 89:=Y26
@[go_sem] theorem Tryz.cz32:Tryz.prog.cellsOf 32=1:=Y26
@[go_sem] theorem Tryz.by32:Tryz.prog.bytesOf 32=8:=Y26
@[go_sem] theorem Tryz.ag32:aggO Tryz.prog 32=some false:=Y26
@[go_sem] theorem Tryz.zp32:zpv Tryz.prog 32=some PV.nilp:=Y26
@[go_sem] theorem Tryz.td34:td Tryz.prog 34=TD.ptr 92:=Y26
@[go_sem] theorem Tryz.cz34:Tryz.prog.cellsOf 34=1:=Y26
@[go_sem] theorem Tryz.by34:Tryz.prog.bytesOf 34=8:=Y26
@[go_sem] theorem Tryz.ag34:aggO Tryz.prog 34=some false:=Y26
@[go_sem] theorem Tryz.zp34:zpv Tryz.prog 34=some PV.nilp:=Y26
@[go_sem] theorem Tryz.td37:td Tryz.prog 37=TD.ptr 121:=Y26
@[go_sem] theorem Tryz.cz37:Tryz.prog.cellsOf 37=1:=Y26
@[go_sem] theorem Tryz.by37:Tryz.prog.bytesOf 37=8:=Y26
@[go_sem] theorem Tryz.ag37:aggO Tryz.prog 37=some false:=Y26
@[go_sem] theorem Tryz.zp37:zpv Tryz.prog 37=some PV.nilp:=Y26
@[go_sem] theorem Tryz.td39:td Tryz.prog 39=TD.int Go.IntKind.u16:=Y26
@[go_sem] theorem Tryz.cz39:Tryz.prog.cellsOf 39=1:=Y26
@[go_sem] theorem Tryz.by39:Tryz.prog.bytesOf 39=2:=Y26
@[go_sem] theorem Tryz.ag39:aggO Tryz.prog 39=some false:=Y26
@[go_sem] theorem Tryz.zp39:zpv Tryz.prog 39=some (PV.int Go.IntKind.u16 (0)):=Y26
@[go_sem] theorem Tryz.td41:td Tryz.prog 41=TD.sl 5:=Y26
@[go_sem] theorem Tryz.cz41:Tryz.prog.cellsOf 41=1:=Y26
@[go_sem] theorem Tryz.by41:Tryz.prog.bytesOf 41=24:=Y26
@[go_sem] theorem Tryz.ag41:aggO Tryz.prog 41=some false:=Y26
@[go_sem] theorem Tryz.zp41:zpv Tryz.prog 41=some (PV.sl SK.nil []):=Y26
@[go_sem] theorem Tryz.td42:td Tryz.prog 42=TD.int Go.IntKind.i64:=Y26
@[go_sem] theorem Tryz.cz42:Tryz.prog.cellsOf 42=1:=Y26
@[go_sem] theorem Tryz.by42:Tryz.prog.bytesOf 42=8:=Y26
@[go_sem] theorem Tryz.ag42:aggO Tryz.prog 42=some false:=Y26
@[go_sem] theorem Tryz.zp42:zpv Tryz.prog 42=some (PV.int Go.IntKind.i64 (0)):=Y26
@[go_sem] theorem Tryz.td45:td Tryz.prog 45=TD.sl 4:=Y26
@[go_sem] theorem Tryz.cz45:Tryz.prog.cellsOf 45=1:=Y26
@[go_sem] theorem Tryz.by45:Tryz.prog.bytesOf 45=24:=Y26
@[go_sem] theorem Tryz.ag45:aggO Tryz.prog 45=some false:=Y26
@[go_sem] theorem Tryz.zp45:zpv Tryz.prog 45=some (PV.sl SK.nil []):=Y26
@[go_sem] theorem Tryz.td47:td Tryz.prog 47=TD.struct [(0,1,some false),(1,1,some false),(2,1,some false),(3,1,some false),(4,1,some false),(5,1,some false),(6,1,some false),(7,1,some false),(8,1,some false)]:=Y26
@[go_sem] theorem Tryz.cz47:Tryz.prog.cellsOf 47=9:=Y26
@[go_sem] theorem Tryz.by47:Tryz.prog.bytesOf 47=96:=Y26
@[go_sem] theorem Tryz.ag47:aggO Tryz.prog 47=some true:=Y26
@[go_sem] theorem Tryz.zp47:zpv Tryz.prog 47=some (PV.agg [PV.int Go.IntKind.i64 (0),PV.int Go.IntKind.i64 (0),PV.int Go.IntKind.i64 (0),PV.int Go.IntKind.i64 (0),PV.int Go.IntKind.i64 (0),PV.sl SK.nil [],PV.sl SK.nil [],PV.int Go.IntKind.u16 (0),PV.int Go.IntKind.u16 (0)]):=Y26
@[go_sem] theorem Tryz.sp47:splaces Tryz.prog 47=some [(0,1),(1,1),(2,1),(3,1),(4,1),(5,1),(6,1),(7,1),(8,1)]:=Y26
@[go_sem] theorem Tryz.fs47:flatStruct Tryz.prog 47=some [TD.int Go.IntKind.i64,TD.int Go.IntKind.i64,TD.int Go.IntKind.i64,TD.int Go.IntKind.i64,TD.int Go.IntKind.i64,TD.sl 4,TD.sl 39,TD.int Go.IntKind.u16,TD.int Go.IntKind.u16]:=Y26
@[go_sem] theorem Tryz.td49:td Tryz.prog 49=TD.struct [(0,1,some false),(1,1,some false),(2,1,some false)]:=Y26
@[go_sem] theorem Tryz.cz49:Tryz.prog.cellsOf 49=3:=Y26
@[go_sem] theorem Tryz.by49:Tryz.prog.bytesOf 49=40:=Y26
@[go_sem] theorem Tryz.ag49:aggO Tryz.prog 49=some true:=Y26
@[go_sem] theorem Tryz.zp49:zpv Tryz.prog 49=some (PV.agg [PV.int Go.IntKind.i64 (0),PV.int Go.IntKind.i64 (0),PV.sl SK.nil []]):=Y26
@[go_sem] theorem Tryz.sp49:splaces Tryz.prog 49=some [(0,1),(1,1),(2,1)]:=Y26
@[go_sem] theorem Tryz.fs49:flatStruct Tryz.prog 49=some [TD.int Go.IntKind.i64,TD.int Go.IntKind.i64,TD.sl 5]:=Y26
@[go_sem] theorem Tryz.td52:td Tryz.prog 52=TD.struct [(0,1,some false),(1,1,some false),(2,1,some false),(3,1,some false),(4,1,some false),(5,1,some false),(6,1,some false),(7,1,some false),(8,1,some false),(9,1,some false)]:=Y26
@[go_sem] theorem Tryz.cz52:Tryz.prog.cellsOf 52=10:=Y26
@[go_sem] theorem Tryz.by52:Tryz.prog.bytesOf 52=120:=Y26
@[go_sem] theorem Tryz.ag52:aggO Tryz.prog 52=some true:=Y26
@[go_sem] theorem Tryz.zp52:zpv Tryz.prog 52=some (PV.agg [PV.int Go.IntKind.i64 (0),PV.int Go.IntKind.i64 (0),PV.int Go.IntKind.i64 (0),PV.int Go.IntKind.i64 (0),PV.int Go.IntKind.i64 (0),PV.sl SK.nil [],PV.sl SK.nil [],PV.int Go.IntKind.u16 (0),PV.int Go.IntKind.u16 (0),PV.sl SK.nil []]):=Y26
@[go_sem] theorem Tryz.sp52:splaces Tryz.prog 52=some [(0,1),(1,1),(2,1),(3,1),(4,1),(5,1),(6,1),(7,1),(8,1),(9,1)]:=Y26
@[go_sem] theorem Tryz.fs52:flatStruct Tryz.prog 52=some [TD.int Go.IntKind.i64,TD.int Go.IntKind.i64,TD.int Go.IntKind.i64,TD.int Go.IntKind.i64,TD.int Go.IntKind.i64,TD.sl 4,TD.sl 39,TD.int Go.IntKind.u16,TD.int Go.IntKind.u16,TD.sl 5]:=Y26
@[go_sem] theorem Tryz.td59:td Tryz.prog 59=TD.struct [(0,1,some false),(1,1,some false),(2,1,some false),(3,1,some false)]:=Y26
@[go_sem] theorem Tryz.cz59:Tryz.prog.cellsOf 59=4:=Y26
@[go_sem] theorem Tryz.by59:Tryz.prog.bytesOf 59=32:=Y26
@[go_sem] theorem Tryz.ag59:aggO Tryz.prog 59=some true:=Y26
@[go_sem] theorem Tryz.zp59:zpv Tryz.prog 59=some (PV.agg [PV.int Go.IntKind.i64 (0),PV.int Go.IntKind.i64 (0),PV.int Go.IntKind.i64 (0),PV.int Go.IntKind.i64 (0)]):=Y26
@[go_sem] theorem Tryz.sp59:splaces Tryz.prog 59=some [(0,1),(1,1),(2,1),(3,1)]:=Y26
@[go_sem] theorem Tryz.fs59:flatStruct Tryz.prog 59=some [TD.int Go.IntKind.i64,TD.int Go.IntKind.i64,TD.int Go.IntKind.i64,TD.int Go.IntKind.i64]:=Y26
@[go_sem] theorem Tryz.td62:td Tryz.prog 62=TD.sl 70:=Y26
@[go_sem] theorem Tryz.cz62:Tryz.prog.cellsOf 62=1:=Y26
@[go_sem] theorem Tryz.by62:Tryz.prog.bytesOf 62=24:=Y26
@[go_sem] theorem Tryz.ag62:aggO Tryz.prog 62=some false:=Y26
@[go_sem] theorem Tryz.zp62:zpv Tryz.prog 62=some (PV.sl SK.nil []):=Y26
@[go_sem] theorem Tryz.td63:td Tryz.prog 63=TD.ptr 112:=Y26
@[go_sem] theorem Tryz.cz63:Tryz.prog.cellsOf 63=1:=Y26
@[go_sem] theorem Tryz.by63:Tryz.prog.bytesOf 63=8:=Y26
@[go_sem] theorem Tryz.ag63:aggO Tryz.prog 63=some false:=Y26
@[go_sem] theorem Tryz.zp63:zpv Tryz.prog 63=some PV.nilp:=Y26
@[go_sem] theorem Tryz.td65:td Tryz.prog 65=TD.ptr 67:=Y26
@[go_sem] theorem Tryz.cz65:Tryz.prog.cellsOf 65=1:=Y26
@[go_sem] theorem Tryz.by65:Tryz.prog.bytesOf 65=8:=Y26
@[go_sem] theorem Tryz.ag65:aggO Tryz.prog 65=some false:=Y26
@[go_sem] theorem Tryz.zp65:zpv Tryz.prog 65=some PV.nilp:=Y26
@[go_sem] theorem Tryz.td67:td Tryz.prog 67=TD.struct [(0,1,some false),(1,1,some false)]:=Y26
@[go_sem] theorem Tryz.cz67:Tryz.prog.cellsOf 67=2:=Y26
@[go_sem] theorem Tryz.by67:Tryz.prog.bytesOf 67=32:=Y26
@[go_sem] theorem Tryz.ag67:aggO Tryz.prog 67=some true:=Y26
@[go_sem] theorem Tryz.zp67:zpv Tryz.prog 67=some (PV.agg [PV.sl SK.nil [],PV.int Go.IntKind.i64 (0)]):=Y26
@[go_sem] theorem Tryz.sp67:splaces Tryz.prog 67=some [(0,1),(1,1)]:=Y26
@[go_sem] theorem Tryz.fs67:flatStruct Tryz.prog 67=some [TD.sl 3,TD.int Go.IntKind.i64]:=Y26
@[go_sem] theorem Tryz.td70:td Tryz.prog 70=TD.struct [(0,1,some false),(1,1,some false),(2,1,some false),(3,1,some false)]:=Y26
@[go_sem] theorem Tryz.cz70:Tryz.prog.cellsOf 70=4:=Y26
@[go_sem] theorem Tryz.by70:Tryz.prog.bytesOf 70=48:=Y26
@[go_sem] theorem Tryz.ag70:aggO Tryz.prog 70=some true:=Y26
@[go_sem] theorem Tryz.zp70:zpv Tryz.prog 70=some (PV.agg [PV.int Go.IntKind.i64 (0),PV.int Go.IntKind.i64 (0),PV.bool false,PV.sl SK.nil []]):=Y26
@[go_sem] theorem Tryz.sp70:splaces Tryz.prog 70=some [(0,1),(1,1),(2,1),(3,1)]:=Y26
@[go_sem] theorem Tryz.fs70:flatStruct Tryz.prog 70=some [TD.int Go.IntKind.i64,TD.int Go.IntKind.i64,TD.bool,TD.sl 5]:=Y26
@[go_sem] theorem Tryz.td75:td Tryz.prog 75=TD.sl 78:=Y26
@[go_sem] theorem Tryz.cz75:Tryz.prog.cellsOf 75=1:=Y26
@[go_sem] theorem Tryz.by75:Tryz.prog.bytesOf 75=24:=Y26
@[go_sem] theorem Tryz.ag75:aggO Tryz.prog 75=some false:=Y26
@[go_sem] theorem Tryz.zp75:zpv Tryz.prog 75=some (PV.sl SK.nil []):=Y26
@[go_sem] theorem Tryz.td78:td Tryz.prog 78=TD.struct [(0,1,some false),(1,1,some false),(2,1,some false)]:=Y26
@[go_sem] theorem Tryz.cz78:Tryz.prog.cellsOf 78=3:=Y26
@[go_sem] theorem Tryz.by78:Tryz.prog.bytesOf 78=40:=Y26
@[go_sem] theorem Tryz.ag78:aggO Tryz.prog 78=some true:=Y26
@[go_sem] theorem Tryz.zp78:zpv Tryz.prog 78=some (PV.agg [PV.int Go.IntKind.i64 (0),PV.int Go.IntKind.i64 (0),PV.sl SK.nil []]):=Y26
@[go_sem] theorem Tryz.sp78:splaces Tryz.prog 78=some [(0,1),(1,1),(2,1)]:=Y26
@[go_sem] theorem Tryz.fs78:flatStruct Tryz.prog 78=some [TD.int Go.IntKind.i64,TD.int Go.IntKind.i64,TD.sl 5]:=Y26
@[go_sem] theorem Tryz.td80:td Tryz.prog 80=TD.sl 28:=Y26
@[go_sem] theorem Tryz.cz80:Tryz.prog.cellsOf 80=1:=Y26
@[go_sem] theorem Tryz.by80:Tryz.prog.bytesOf 80=24:=Y26
@[go_sem] theorem Tryz.ag80:aggO Tryz.prog 80=some false:=Y26
@[go_sem] theorem Tryz.zp80:zpv Tryz.prog 80=some (PV.sl SK.nil []):=Y26
@[go_sem] theorem Tryz.td82:td Tryz.prog 82=TD.struct [(0,1,some false),(1,1,some false)]:=Y26
@[go_sem] theorem Tryz.cz82:Tryz.prog.cellsOf 82=2:=Y26
@[go_sem] theorem Tryz.by82:Tryz.prog.bytesOf 82=32:=Y26
@[go_sem] theorem Tryz.ag82:aggO Tryz.prog 82=some true:=Y26
@[go_sem] theorem Tryz.zp82:zpv Tryz.prog 82=some (PV.agg [PV.int Go.IntKind.i64 (0),PV.sl SK.nil []]):=Y26
@[go_sem] theorem Tryz.sp82:splaces Tryz.prog 82=some [(0,1),(1,1)]:=Y26
@[go_sem] theorem Tryz.fs82:flatStruct Tryz.prog 82=some [TD.int Go.IntKind.i64,TD.sl 28]:=Y26
@[go_sem] theorem Tryz.td84:td Tryz.prog 84=TD.arr 4 22:=Y26
@[go_sem] theorem Tryz.cz84:Tryz.prog.cellsOf 84=4:=Y26
@[go_sem] theorem Tryz.by84:Tryz.prog.bytesOf 84=96:=Y26
@[go_sem] theorem Tryz.ag84:aggO Tryz.prog 84=some true:=Y26
@[go_sem] theorem Tryz.zp84:zpv Tryz.prog 84=some (PV.agg [PV.sl SK.nil [],PV.sl SK.nil [],PV.sl SK.nil [],PV.sl SK.nil []]):=Y26
@[go_sem] theorem Tryz.td86:td Tryz.prog 86=TD.struct [(0,1,some false),(1,4,some true),(5,1,some false)]:=Y26
@[go_sem] theorem Tryz.cz86:Tryz.prog.cellsOf 86=6:=Y26
@[go_sem] theorem Tryz.by86:Tryz.prog.bytesOf 86=128:=Y26
@[go_sem] theorem Tryz.ag86:aggO Tryz.prog 86=some true:=Y26
@[go_sem] theorem Tryz.zp86:zpv Tryz.prog 86=some (PV.agg [PV.nilp,PV.sl SK.nil [],PV.sl SK.nil [],PV.sl SK.nil [],PV.sl SK.nil [],PV.sl SK.nil []]):=Y26
@[go_sem] theorem Tryz.sp86:splaces Tryz.prog 86=some [(0,1),(1,4),(5,1)]:=Y26
@[go_sem] theorem Tryz.td89:td Tryz.prog 89=TD.struct [(0,1,some false),(1,1,some false),(2,1,some false),(3,1,some false)]:=Y26
@[go_sem] theorem Tryz.cz89:Tryz.prog.cellsOf 89=4:=Y26
@[go_sem] theorem Tryz.by89:Tryz.prog.bytesOf 89=32:=Y26
@[go_sem] theorem Tryz.ag89:aggO Tryz.prog 89=some true:=Y26
@[go_sem] theorem Tryz.zp89:zpv Tryz.prog 89=some (PV.agg [PV.nilp,PV.int Go.IntKind.u8 (0),PV.int Go.IntKind.i64 (0),PV.int Go.IntKind.i64 (0)]):=Y26
@[go_sem] theorem Tryz.sp89:splaces Tryz.prog 89=some [(0,1),(1,1),(2,1),(3,1)]:=Y26
@[go_sem] theorem Tryz.fs89:flatStruct Tryz.prog 89=some [TD.ptr 121,TD.int Go.IntKind.u8,TD.int Go.IntKind.i64,TD.int Go.IntKind.i64]:=Y26
@[go_sem] theorem Tryz.td92:td Tryz.prog 92=TD.struct [(0,5,some true),(5,1,some false),(6,1,some false),(7,1,some false)]:=Y26
@[go_sem] theorem Tryz.cz92:Tryz.prog.cellsOf 92=8:=Y26
@[go_sem] theorem Tryz.by92:Tryz.prog.bytesOf 92=96:=Y26
@[go_sem] theorem Tryz.ag92:aggO Tryz.prog 92=some true:=Y26
@[go_sem] theorem Tryz.zp92:zpv Tryz.prog 92=some (PV.agg [PV.int Go.IntKind.i64 (0),PV.int Go.IntKind.u32 (0),PV.int Go.IntKind.i64 (0),PV.sl SK.nil [],PV.sl SK.nil [],PV.int Go.IntKind.i64 (0),PV.nilp,PV.nilp]):=Y26
@[go_sem] theorem Tryz.sp92:splaces Tryz.prog 92=some [(0,5),(5,1),(6,1),(7,1)]:=Y26
@[go_sem] theorem Tryz.td112:td Tryz.prog 112=TD.struct [(0,1,some false),(1,1,some false),(2,1,some false)]:=Y26
@[go_sem] theorem Tryz.cz112:Tryz.prog.cellsOf 112=3:=Y26
@[go_sem] theorem Tryz.by112:Tryz.prog.bytesOf 112=24:=Y26
@[go_sem] theorem Tryz.ag112:aggO Tryz.prog 112=some true:=Y26
@[go_sem] theorem Tryz.zp112:zpv Tryz.prog 112=some (PV.agg [PV.int Go.IntKind.i64 (0),PV.int Go.IntKind.i64 (0),PV.int Go.IntKind.i64 (0)]):=Y26
@[go_sem] theorem Tryz.sp112:splaces Tryz.prog 112=some [(0,1),(1,1),(2,1)]:=Y26
@[go_sem] theorem Tryz.fs112:flatStruct Tryz.prog 112=some [TD.int Go.IntKind.i64,TD.int Go.IntKind.i64,TD.int Go.IntKind.i64]:=Y26
@[go_sem] theorem Tryz.td113:td Tryz.prog 113=TD.fn:=Y26
@[go_sem] theorem Tryz.cz113:Tryz.prog.cellsOf 113=1:=Y26
@[go_sem] theorem Tryz.by113:Tryz.prog.bytesOf 113=8:=Y26
@[go_sem] theorem Tryz.ag113:aggO Tryz.prog 113=some false:=Y26
@[go_sem] theorem Tryz.zp113:zpv Tryz.prog 113=some PV.nilf:=Y26
@[go_sem] theorem Tryz.td114:td Tryz.prog 114=TD.int Go.IntKind.u64:=Y26
@[go_sem] theorem Tryz.cz114:Tryz.prog.cellsOf 114=1:=Y26
@[go_sem] theorem Tryz.by114:Tryz.prog.bytesOf 114=8:=Y26
@[go_sem] theorem Tryz.ag114:aggO Tryz.prog 114=some false:=Y26
@[go_sem] theorem Tryz.zp114:zpv Tryz.prog 114=some (PV.int Go.IntKind.u64 (0)):=Y26
@[go_sem] theorem Tryz.td117:td Tryz.prog 117=TD.struct [(0,1,some false),(1,1,some false)]:=Y26
@[go_sem] theorem Tryz.cz117:Tryz.prog.cellsOf 117=2:=Y26
@[go_sem] theorem Tryz.by117:Tryz.prog.bytesOf 117=16:=Y26
@[go_sem] theorem Tryz.ag117:aggO Tryz.prog 117=some true:=Y26
@[go_sem] theorem Tryz.zp117:zpv Tryz.prog 117=some (PV.agg [PV.int Go.IntKind.i64 (0),PV.int Go.IntKind.i64 (0)]):=Y26
@[go_sem] theorem Tryz.sp117:splaces Tryz.prog 117=some [(0,1),(1,1)]:=Y26
@[go_sem] theorem Tryz.fs117:flatStruct Tryz.prog 117=some [TD.int Go.IntKind.i64,TD.int Go.IntKind.i64]:=Y26
@[go_sem] theorem Tryz.td118:td Tryz.prog 118=TD.arr 2 45:=Y26
@[go_sem] theorem Tryz.cz118:Tryz.prog.cellsOf 118=2:=Y26
@[go_sem] theorem Tryz.by118:Tryz.prog.bytesOf 118=48:=Y26
@[go_sem] theorem Tryz.ag118:aggO Tryz.prog 118=some true:=Y26
@[go_sem] theorem Tryz.zp118:zpv Tryz.prog 118=some (PV.agg [PV.sl SK.nil [],PV.sl SK.nil []]):=Y26
@[go_sem] theorem Tryz.td119:td Tryz.prog 119=TD.arr 2 23:=Y26
@[go_sem] theorem Tryz.cz119:Tryz.prog.cellsOf 119=2:=Y26
@[go_sem] theorem Tryz.by119:Tryz.prog.bytesOf 119=48:=Y26
@[go_sem] theorem Tryz.ag119:aggO Tryz.prog 119=some true:=Y26
@[go_sem] theorem Tryz.zp119:zpv Tryz.prog 119=some (PV.agg [PV.sl SK.nil [],PV.sl SK.nil []]):=Y26
@[go_sem] theorem Tryz.td121:td Tryz.prog 121=TD.struct [(0,2,some true),(2,2,some true)]:=Y26
@[go_sem] theorem Tryz.cz121:Tryz.prog.cellsOf 121=4:=Y26
@[go_sem] theorem Tryz.by121:Tryz.prog.bytesOf 121=96:=Y26
@[go_sem] theorem Tryz.ag121:aggO Tryz.prog 121=some true:=Y26
@[go_sem] theorem Tryz.zp121:zpv Tryz.prog 121=some (PV.agg [PV.sl SK.nil [],PV.sl SK.nil [],PV.sl SK.nil [],PV.sl SK.nil []]):=Y26
@[go_sem] theorem Tryz.sp121:splaces Tryz.prog 121=some [(0,2),(2,2)]:=Y26
@[go_sem] theorem Tryz.td132:td Tryz.prog 132=TD.sl 157:=Y26
@[go_sem] theorem Tryz.cz132:Tryz.prog.cellsOf 132=1:=Y26
@[go_sem] theorem Tryz.by132:Tryz.prog.bytesOf 132=24:=Y26
@[go_sem] theorem Tryz.ag132:aggO Tryz.prog 132=some false:=Y26
@[go_sem] theorem Tryz.zp132:zpv Tryz.prog 132=some (PV.sl SK.nil []):=Y26
@[go_sem] theorem Tryz.td137:td Tryz.prog 137=TD.sl 52:=Y26
@[go_sem] theorem Tryz.cz137:Tryz.prog.cellsOf 137=1:=Y26
@[go_sem] theorem Tryz.by137:Tryz.prog.bytesOf 137=24:=Y26
@[go_sem] theorem Tryz.ag137:aggO Tryz.prog 137=some false:=Y26
@[go_sem] theorem Tryz.zp137:zpv Tryz.prog 137=some (PV.sl SK.nil []):=Y26
@[go_sem] theorem Tryz.td145:td Tryz.prog 145=TD.arr 4 3:=Y26
@[go_sem] theorem Tryz.cz145:Tryz.prog.cellsOf 145=4:=Y26
@[go_sem] theorem Tryz.by145:Tryz.prog.bytesOf 145=32:=Y26
@[go_sem] theorem Tryz.ag145:aggO Tryz.prog 145=some true:=Y26
@[go_sem] theorem Tryz.zp145:zpv Tryz.prog 145=some (PV.agg [PV.int Go.IntKind.i64 (0),PV.int Go.IntKind.i64 (0),PV.int Go.IntKind.i64 (0),PV.int Go.IntKind.i64 (0)]):=Y26
@[go_sem] theorem Tryz.td151:td Tryz.prog 151=TD.sl 155:=Y26
@[go_sem] theorem Tryz.cz151:Tryz.prog.cellsOf 151=1:=Y26
@[go_sem] theorem Tryz.by151:Tryz.prog.bytesOf 151=24:=Y26
@[go_sem] theorem Tryz.ag151:aggO Tryz.prog 151=some false:=Y26
@[go_sem] theorem Tryz.zp151:zpv Tryz.prog 151=some (PV.sl SK.nil []):=Y26
@[go_sem] theorem Tryz.td155:td Tryz.prog 155=TD.struct [(0,1,some false),(1,1,some false),(2,1,some false)]:=Y26
@[go_sem] theorem Tryz.cz155:Tryz.prog.cellsOf 155=3:=Y26
@[go_sem] theorem Tryz.by155:Tryz.prog.bytesOf 155=24:=Y26
@[go_sem] theorem Tryz.ag155:aggO Tryz.prog 155=some true:=Y26
@[go_sem] theorem Tryz.zp155:zpv Tryz.prog 155=some (PV.agg [PV.int Go.IntKind.i64 (0),PV.int Go.IntKind.i64 (0),PV.int Go.IntKind.i64 (0)]):=Y26
@[go_sem] theorem Tryz.sp155:splaces Tryz.prog 155=some [(0,1),(1,1),(2,1)]:=Y26
@[go_sem] theorem Tryz.fs155:flatStruct Tryz.prog 155=some [TD.int Go.IntKind.i64,TD.int Go.IntKind.i64,TD.int Go.IntKind.i64]:=Y26
@[go_sem] theorem Tryz.td157:td Tryz.prog 157=TD.struct [(0,9,some true),(9,1,some false)]:=Y26
@[go_sem] theorem Tryz.cz157:Tryz.prog.cellsOf 157=10:=Y26
@[go_sem] theorem Tryz.by157:Tryz.prog.bytesOf 157=104:=Y26
@[go_sem] theorem Tryz.ag157:aggO Tryz.prog 157=some true:=Y26
@[go_sem] theorem Tryz.zp157:zpv Tryz.prog 157=some (PV.agg [PV.int Go.IntKind.i64 (0),PV.int Go.IntKind.i64 (0),PV.int Go.IntKind.i64 (0),PV.int Go.IntKind.i64 (0),PV.int Go.IntKind.i64 (0),PV.sl SK.nil [],PV.sl SK.nil [],PV.int Go.IntKind.u16 (0),PV.int Go.IntKind.u16 (0),PV.bool false]):=Y26
@[go_sem] theorem Tryz.sp157:splaces Tryz.prog 157=some [(0,9),(9,1)]:=Y26
@[go_sem] theorem Tryz.td162:td Tryz.prog 162=TD.fn:=Y26
@[go_sem] theorem Tryz.cz162:Tryz.prog.cellsOf 162=1:=Y26
@[go_sem] theorem Tryz.by162:Tryz.prog.bytesOf 162=8:=Y26
@[go_sem] theorem Tryz.ag162:aggO Tryz.prog 162=some false:=Y26
@[go_sem] theorem Tryz.zp162:zpv Tryz.prog 162=some PV.nilf:=Y26
@[go_sem] theorem Tryz.td176:td Tryz.prog 176=TD.sl 178:=Y26
@[go_sem] theorem Tryz.cz176:Tryz.prog.cellsOf 176=1:=Y26
@[go_sem] theorem Tryz.by176:Tryz.prog.bytesOf 176=24:=Y26
@[go_sem] theorem Tryz.ag176:aggO Tryz.prog 176=some false:=Y26
@[go_sem] theorem Tryz.zp176:zpv Tryz.prog 176=some (PV.sl SK.nil []):=Y26
@[go_sem] theorem Tryz.td178:td Tryz.prog 178=TD.struct [(0,1,some false),(1,1,some false)]:=Y26
@[go_sem] theorem Tryz.cz178:Tryz.prog.cellsOf 178=2:=Y26
@[go_sem] theorem Tryz.by178:Tryz.prog.bytesOf 178=16:=Y26
@[go_sem] theorem Tryz.ag178:aggO Tryz.prog 178=some true:=Y26
@[go_sem] theorem Tryz.zp178:zpv Tryz.prog 178=some (PV.agg [PV.int Go.IntKind.i64 (0),PV.int Go.IntKind.i64 (0)]):=Y26
@[go_sem] theorem Tryz.sp178:splaces Tryz.prog 178=some [(0,1),(1,1)]:=Y26
@[go_sem] theorem Tryz.fs178:flatStruct Tryz.prog 178=some [TD.int Go.IntKind.i64,TD.int Go.IntKind.i64]:=Y26
@[go_sem] theorem Tryz.td184:td Tryz.prog 184=TD.fn:=Y26
@[go_sem] theorem Tryz.cz184:Tryz.prog.cellsOf 184=1:=Y26
@[go_sem] theorem Tryz.by184:Tryz.prog.bytesOf 184=8:=Y26
@[go_sem] theorem Tryz.ag184:aggO Tryz.prog 184=some false:=Y26
@[go_sem] theorem Tryz.zp184:zpv Tryz.prog 184=some PV.nilf:=Y26
@[go_sem] theorem Tryz.td199:td Tryz.prog 199=TD.arr 5 113:=Y26
@[go_sem] theorem Tryz.cz199:Tryz.prog.cellsOf 199=5:=Y26
@[go_sem] theorem Tryz.by199:Tryz.prog.bytesOf 199=40:=Y26
@[go_sem] theorem Tryz.ag199:aggO Tryz.prog 199=some true:=Y26
@[go_sem] theorem Tryz.zp199:zpv Tryz.prog 199=some (PV.agg [PV.nilf,PV.nilf,PV.nilf,PV.nilf,PV.nilf]):=Y26
@[go_sem] theorem Tryz.td203:td Tryz.prog 203=TD.fn:=Y26
@[go_sem] theorem Tryz.cz203:Tryz.prog.cellsOf 203=1:=Y26
@[go_sem] theorem Tryz.by203:Tryz.prog.bytesOf 203=8:=Y26
@[go_sem] theorem Tryz.ag203:aggO Tryz.prog 203=some false:=Y26
@[go_sem] theorem Tryz.zp203:zpv Tryz.prog 203=some PV.nilf:=Y26
@[go_sem] theorem Tryz.td205:td Tryz.prog 205=TD.arr 24 203:=Y26
@[go_sem] theorem Tryz.cz205:Tryz.prog.cellsOf 205=24:=Y26
@[go_sem] theorem Tryz.by205:Tryz.prog.bytesOf 205=192:=Y26
@[go_sem] theorem Tryz.ag205:aggO Tryz.prog 205=some true:=Y26
@[go_sem] theorem Tryz.zp205:zpv Tryz.prog 205=some (PV.agg [PV.nilf,PV.nilf,PV.nilf,PV.nilf,PV.nilf,PV.nilf,PV.nilf,PV.nilf,PV.nilf,PV.nilf,PV.nilf,PV.nilf,PV.nilf,PV.nilf,PV.nilf,PV.nilf,PV.nilf,PV.nilf,PV.nilf,PV.nilf,PV.nilf,PV.nilf,PV.nilf,PV.nilf]):=Y26
@[go_sem] theorem Tryz.cb2:callable Tryz.prog 2=true:=Y26
@[go_sem] theorem Tryz.cb3:callable Tryz.prog 3=true:=Y26
@[go_sem] theorem Tryz.cb4:callable Tryz.prog 4=true:=Y26
@[go_sem] theorem Tryz.cb5:callable Tryz.prog 5=true:=Y26
@[go_sem] theorem Tryz.cb6:callable Tryz.prog 6=true:=Y26
@[go_sem] theorem Tryz.cb7:callable Tryz.prog 7=true:=Y26
@[go_sem] theorem Tryz.cb8:callable Tryz.prog 8=true:=Y26
@[go_sem] theorem Tryz.cb9:callable Tryz.prog 9=true:=Y26
@[go_sem] theorem Tryz.cb10:callable Tryz.prog 10=true:=Y26
@[go_sem] theorem Tryz.cb11:callable Tryz.prog 11=true:=Y26
@[go_sem] theorem Tryz.cb12:callable Tryz.prog 12=true:=Y26
@[go_sem] theorem Tryz.cb13:callable Tryz.prog 13=true:=Y26
@[go_sem] theorem Tryz.cb14:callable Tryz.prog 14=true:=Y26
@[go_sem] theorem Tryz.cb15:callable Tryz.prog 15=true:=Y26
@[go_sem] theorem Tryz.cb16:callable Tryz.prog 16=true:=Y26
@[go_sem] theorem Tryz.cb17:callable Tryz.prog 17=true:=Y26
@[go_sem] theorem Tryz.cb18:callable Tryz.prog 18=true:=Y26
@[go_sem] theorem Tryz.cb19:callable Tryz.prog 19=true:=Y26
@[go_sem] theorem Tryz.cb20:callable Tryz.prog 20=true:=Y26
@[go_sem] theorem Tryz.cb21:callable Tryz.prog 21=true:=Y26
@[go_sem] theorem Tryz.cb22:callable Tryz.prog 22=true:=Y26
@[go_sem] theorem Tryz.cb23:callable Tryz.prog 23=true:=Y26
@[go_sem] theorem Tryz.cb24:callable Tryz.prog 24=true:=Y26
@[go_sem] theorem Tryz.cb25:callable Tryz.prog 25=true:=Y26
@[go_sem] theorem Tryz.cb26:callable Tryz.prog 26=true:=Y26
@[go_sem] theorem Tryz.cb27:callable Tryz.prog 27=true:=Y26
@[go_sem] theorem Tryz.cb28:callable Tryz.prog 28=true:=Y26
@[go_sem] theorem Tryz.cb29:callable Tryz.prog 29=true:=Y26
@[go_sem] theorem Tryz.cb30:callable Tryz.prog 30=true:=Y26
@[go_sem] theorem Tryz.cb31:callable Tryz.prog 31=true:=Y26
@[go_sem] theorem Tryz.cb32:callable Tryz.prog 32=true:=Y26
@[go_sem] theorem Tryz.cb33:callable Tryz.prog 33=true:=Y26
@[go_sem] theorem Tryz.cb34:callable Tryz.prog 34=true:=Y26
@[go_sem] theorem Tryz.cb35:callable Tryz.prog 35=true:=Y26
@[go_sem] theorem Tryz.cb36:callable Tryz.prog 36=true:=Y26
@[go_sem] theorem Tryz.cb37:callable Tryz.prog 37=true:=Y26
@[go_sem] theorem Tryz.cb38:callable Tryz.prog 38=true:=Y26
@[go_sem] theorem Tryz.cb39:callable Tryz.prog 39=true:=Y26
@[go_sem] theorem Tryz.cb40:callable Tryz.prog 40=true:=Y26
@[go_sem] theorem Tryz.cb41:callable Tryz.prog 41=true:=Y26
@[go_sem] theorem Tryz.cb42:callable Tryz.prog 42=true:=Y26
@[go_sem] theorem Tryz.cb43:callable Tryz.prog 43=true:=Y26
@[go_sem] theorem Tryz.cb44:callable Tryz.prog 44=true:=Y26
@[go_sem] theorem Tryz.cb45:callable Tryz.prog 45=true:=Y26
@[go_sem] theorem Tryz.cb46:callable Tryz.prog 46=true:=Y26
@[go_sem] theorem Tryz.cb47:callable Tryz.prog 47=true:=Y26
@[go_sem] theorem Tryz.cb48:callable Tryz.prog 48=true:=Y26
@[go_sem] theorem Tryz.cb49:callable Tryz.prog 49=true:=Y26
@[go_sem] theorem Tryz.cb50:callable Tryz.prog 50=true:=Y26
@[go_sem] theorem Tryz.cb51:callable Tryz.prog 51=true:=Y26
@[go_sem] theorem Tryz.cb52:callable Tryz.prog 52=true:=Y26
@[go_sem] theorem Tryz.cb53:callable Tryz.prog 53=true:=Y26
@[go_sem] theorem Tryz.cb54:callable Tryz.prog 54=true:=Y26
@[go_sem] theorem Tryz.cb55:callable Tryz.prog 55=true:=Y26
@[go_sem] theorem Tryz.cb56:callable Tryz.prog 56=true:=Y26
@[go_sem] theorem Tryz.cb57:callable Tryz.prog 57=true:=Y26
@[go_sem] theorem Tryz.cb58:callable Tryz.prog 58=true:=Y26
@[go_sem] theorem Tryz.cb59:callable Tryz.prog 59=true:=Y26
@[go_sem] theorem Tryz.cb60:callable Tryz.prog 60=true:=Y26
@[go_sem] theorem Tryz.cb61:callable Tryz.prog 61=true:=Y26
@[go_sem] theorem Tryz.cb62:callable Tryz.prog 62=true:=Y26
@[go_sem] theorem Tryz.cb63:callable Tryz.prog 63=true:=Y26
@[go_sem] theorem Tryz.cb64:callable Tryz.prog 64=true:=Y26
@[go_sem] theorem Tryz.cb65:callable Tryz.prog 65=true:=Y26
@[go_sem] theorem Tryz.cb66:callable Tryz.prog 66=true:=Y26
@[go_sem] theorem Tryz.cb67:callable Tryz.prog 67=true:=Y26
@[go_sem] theorem Tryz.cb68:callable Tryz.prog 68=true:=Y26
@[go_sem] theorem Tryz.cb69:callable Tryz.prog 69=true:=Y26
@[go_sem] theorem Tryz.cb70:callable Tryz.prog 70=true:=Y26
@[go_sem] theorem Tryz.cb71:callable Tryz.prog 71=true:=Y26
@[go_sem] theorem Tryz.cb72:callable Tryz.prog 72=true:=Y26
@[go_sem] theorem Tryz.cb73:callable Tryz.prog 73=true:=Y26
@[go_sem] theorem Tryz.cb74:callable Tryz.prog 74=true:=Y26
@[go_sem] theorem Tryz.cb75:callable Tryz.prog 75=true:=Y26
@[go_sem] theorem Tryz.cb76:callable Tryz.prog 76=true:=Y26
@[go_sem] theorem Tryz.cb77:callable Tryz.prog 77=true:=Y26
@[go_sem] theorem Tryz.cb78:callable Tryz.prog 78=true:=Y26
@[go_sem] theorem Tryz.cb79:callable Tryz.prog 79=true:=Y26
@[go_sem] theorem Tryz.cb80:callable Tryz.prog 80=true:=Y26
@[go_sem] theorem Tryz.cb81:callable Tryz.prog 81=true:=Y26
@[go_sem] theorem Tryz.cb82:callable Tryz.prog 82=true:=Y26
@[go_sem] theorem Tryz.cb83:callable Tryz.prog 83=true:=Y26
@[go_sem] theorem Tryz.cb84:callable Tryz.prog 84=true:=Y26
@[go_sem] theorem Tryz.cb85:callable Tryz.prog 85=true:=Y26
@[go_sem] theorem Tryz.cb86:callable Tryz.prog 86=true:=Y26
@[go_sem] theorem Tryz.cb87:callable Tryz.prog 87=true:=Y26
@[go_sem] theorem Tryz.cb88:callable Tryz.prog 88=true:=Y26
@[go_sem] theorem Tryz.cb89:callable Tryz.prog 89=true:=Y26
@[go_sem] theorem Tryz.cb90:callable Tryz.prog 90=true:=Y26
@[go_sem] theorem Tryz.cb91:callable Tryz.prog 91=true:=Y26
@[go_sem] theorem Tryz.cb92:callable Tryz.prog 92=true:=Y26
@[go_sem] theorem Tryz.cb93:callable Tryz.prog 93=true:=Y26
@[go_sem] theorem Tryz.cb94:callable Tryz.prog 94=true:=Y26
@[go_sem] theorem Tryz.cb95:callable Tryz.prog 95=true:=Y26
@[go_sem] theorem Tryz.cb96:callable Tryz.prog 96=true:=Y26
@[go_sem] theorem Tryz.cb97:callable Tryz.prog 97=true:=Y26
@[go_sem] theorem Tryz.cb98:callable Tryz.prog 98=true:=Y26
@[go_sem] theorem Tryz.cb99:callable Tryz.prog 99=true:=Y26
@[go_sem] theorem Tryz.cb100:callable Tryz.prog 100=true:=Y26
@[go_sem] theorem Tryz.cb101:callable Tryz.prog 101=true:=Y26
@[go_sem] theorem Tryz.cb102:callable Tryz.prog 102=true:=Y26
@[go_sem] theorem Tryz.cb103:callable Tryz.prog 103=true:=Y26
@[go_sem] theorem Tryz.cb104:callable Tryz.prog 104=true:=Y26
@[go_sem] theorem Tryz.cb105:callable Tryz.prog 105=true:=Y26
@[go_sem] theorem Tryz.cb106:callable Tryz.prog 106=true:=Y26
@[go_sem] theorem Tryz.cb107:callable Tryz.prog 107=true:=Y26
@[go_sem] theorem Tryz.cb108:callable Tryz.prog 108=true:=Y26
@[go_sem] theorem Tryz.cb109:callable Tryz.prog 109=true:=Y26
@[go_sem] theorem Tryz.cb110:callable Tryz.prog 110=true:=Y26
@[go_sem] theorem Tryz.cb111:callable Tryz.prog 111=true:=Y26
@[go_sem] theorem Tryz.cb112:callable Tryz.prog 112=true:=Y26
@[go_sem] theorem Tryz.cb113:callable Tryz.prog 113=true:=Y26
@[go_sem] theorem Tryz.cb114:callable Tryz.prog 114=true:=Y26
@[go_sem] theorem Tryz.cb115:callable Tryz.prog 115=true:=Y26
@[go_sem] theorem Tryz.cb116:callable Tryz.prog 116=true:=Y26
@[go_sem] theorem Tryz.cb117:callable Tryz.prog 117=true:=Y26
@[go_sem] theorem Tryz.cb118:callable Tryz.prog 118=true:=Y26
@[go_sem] theorem Tryz.cb119:callable Tryz.prog 119=true:=Y26
@[go_sem] theorem Tryz.cb120:callable Tryz.prog 120=true:=Y26
@[go_sem] theorem Tryz.cb121:callable Tryz.prog 121=true:=Y26
@[go_sem] theorem Tryz.cb122:callable Tryz.prog 122=true:=Y26
@[go_sem] theorem Tryz.cb123:callable Tryz.prog 123=true:=Y26
@[go_sem] theorem Tryz.cb124:callable Tryz.prog 124=true:=Y26
@[go_sem] theorem Tryz.cb125:callable Tryz.prog 125=true:=Y26
@[go_sem] theorem Tryz.cb126:callable Tryz.prog 126=true:=Y26
@[go_sem] theorem Tryz.cb127:callable Tryz.prog 127=true:=Y26
@[go_sem] theorem Tryz.cb128:callable Tryz.prog 128=true:=Y26
@[go_sem] theorem Tryz.cb129:callable Tryz.prog 129=true:=Y26
@[go_sem] theorem Tryz.cb130:callable Tryz.prog 130=true:=Y26
@[go_sem] theorem Tryz.cb131:callable Tryz.prog 131=true:=Y26
@[go_sem] theorem Tryz.cb132:callable Tryz.prog 132=true:=Y26
@[go_sem] theorem Tryz.cb133:callable Tryz.prog 133=true:=Y26
@[go_sem] theorem Tryz.cb134:callable Tryz.prog 134=true:=Y26
@[go_sem] theorem Tryz.cb135:callable Tryz.prog 135=true:=Y26
@[go_sem] theorem Tryz.cb136:callable Tryz.prog 136=true:=Y26
@[go_sem] theorem Tryz.cb137:callable Tryz.prog 137=true:=Y26
@[go_sem] theorem Tryz.cb138:callable Tryz.prog 138=true:=Y26
@[go_sem] theorem Tryz.cb139:callable Tryz.prog 139=true:=Y26
@[go_sem] theorem Tryz.cb140:callable Tryz.prog 140=true:=Y26
@[go_sem] theorem Tryz.cb141:callable Tryz.prog 141=true:=Y26
@[go_sem] theorem Tryz.cb142:callable Tryz.prog 142=true:=Y26
@[go_sem] theorem Tryz.cb143:callable Tryz.prog 143=true:=Y26
@[go_sem] theorem Tryz.cb144:callable Tryz.prog 144=true:=Y26
@[go_sem] theorem Tryz.cb145:callable Tryz.prog 145=true:=Y26
@[go_sem] theorem Tryz.cb146:callable Tryz.prog 146=true:=Y26
@[go_sem] theorem Tryz.cb147:callable Tryz.prog 147=true:=Y26
@[go_sem] theorem Tryz.cb148:callable Tryz.prog 148=true:=Y26
@[go_sem] theorem Tryz.cb149:callable Tryz.prog 149=true:=Y26
@[go_sem] theorem Tryz.cb150:callable Tryz.prog 150=true:=Y26
@[go_sem] theorem Tryz.cb151:callable Tryz.prog 151=true:=Y26
@[go_sem] theorem Tryz.cb152:callable Tryz.prog 152=true:=Y26
@[go_sem] theorem Tryz.cb153:callable Tryz.prog 153=true:=Y26
@[go_sem] theorem Tryz.cb154:callable Tryz.prog 154=true:=Y26
@[go_sem] theorem Tryz.cb155:callable Tryz.prog 155=true:=Y26
@[go_sem] theorem Tryz.cb156:callable Tryz.prog 156=true:=Y26
@[go_sem] theorem Tryz.cb157:callable Tryz.prog 157=true:=Y26
@[go_sem] theorem Tryz.cb158:callable Tryz.prog 158=true:=Y26
@[go_sem] theorem Tryz.cb159:callable Tryz.prog 159=true:=Y26
@[go_sem] theorem Tryz.cb160:callable Tryz.prog 160=true:=Y26
@[go_sem] theorem Tryz.cb161:callable Tryz.prog 161=true:=Y26
@[go_sem] theorem Tryz.cb162:callable Tryz.prog 162=true:=Y26
@[go_sem] theorem Tryz.cb163:callable Tryz.prog 163=true:=Y26
@[go_sem] theorem Tryz.cb164:callable Tryz.prog 164=true:=Y26
@[go_sem] theorem Tryz.cb165:callable Tryz.prog 165=true:=Y26
@[go_sem] theorem Tryz.cb166:callable Tryz.prog 166=true:=Y26
@[go_sem] theorem Tryz.cb167:callable Tryz.prog 167=true:=Y26
@[go_sem] theorem Tryz.cb168:callable Tryz.prog 168=true:=Y26
@[go_sem] theorem Tryz.cb169:callable Tryz.prog 169=true:=Y26
@[go_sem] theorem Tryz.cb170:callable Tryz.prog 170=true:=Y26
@[go_sem] theorem Tryz.cb171:callable Tryz.prog 171=true:=Y26
@[go_sem] theorem Tryz.cb172:callable Tryz.prog 172=true:=Y26
@[go_sem] theorem Tryz.cb173:callable Tryz.prog 173=true:=Y26
@[go_sem] theorem Tryz.cb174:callable Tryz.prog 174=true:=Y26
@[go_sem] theorem Tryz.cb175:callable Tryz.prog 175=true:=Y26
theorem Tryz.mixed:Tryz.prog.follows .mixedOrders=true:=Y26
end Go.Proofs
namespace Go.Proofs
open Go.PM
set_option maxHeartbeats 2000000
theorem Y27 {p:Prop} (h:p:=by simp only [PV.blw];exact ⟨fun t z e=>Y20,blws_u8 _ _⟩):p:=h
theorem clip_u8 {xs:List Int} {s:St}:ACalls Tryz.prog 48 [.sl .unk (xs.map (PV.int .u8))] s (fun r s'=>r=.sl .unc (xs.map (PV.int .u8))∧s'=s):=by
 refine go Tryz.func48 (k:=fun hwf H=>?_)
 have hfull:(xs.map (PV.int .u8)).take xs.length=xs.map (PV.int .u8):=by rw [← List.length_map (f:=(PV.int .u8)),List.take_length]
 have H:=aj hfull H
 refine rs (k:=rg [0] (k:=rs (k:=rg [2] (k:=rR (k:=?_)))))
 refine Ret.pureK (r:=.sl .unc (xs.map (PV.int .u8))) au Y27 hwf (fun _ _=>rfl) ⟨rfl,rfl⟩
theorem Y28 {p:Prop} (h:p:=by rw [wrap_i64 Y21];omega):p:=h
theorem Y29 {p:Prop} (h:p:=by
 refine rk (k:=rB (k:=rg [0,1,12,13] (k:=?_)))
 have hxy:x=y:=by simpa using hc2
 refine Run.lp ⟨⟨rfl,i+1,rfl,Y21,?_⟩,?_⟩
 ·rw [take_get hil,take_get hjl,hbe,hxe,hye,hxy]
 ·simp only [ivar,go_sem,↓reduceIte,Nat.reduceEqDiff]
  omega):p:=h
theorem Y79 {p:Prop} (h:p:=by have:=of_decide_eq_true hc1;omega):p:=h
theorem Y140 {p:Prop} (h:p:=by rw [map_get hil,hxe]):p:=h
theorem Y193 {p:Prop} (h:p:=by simp at hc0;omega):p:=h
theorem Y247 {p:Prop} (h:p:=by exact ⟨rfl,0,rfl,Y21,rfl⟩):p:=h
theorem equal_u8 {xs ys:List Int} (nx:xs.length<140737488355328) {s:St}:ACalls Tryz.prog 85 [.sl .unk (xs.map (PV.int .u8)),.sl .unk (ys.map (PV.int .u8))] s (fun r s'=>r=.bool (decide (xs=ys))∧s'=s):=by
 refine go Tryz.func85 (k:=fun hwf H=>?_)
 refine rs (k:=rg [0,1] (k:=rs (k:=rs (k:=rg [0,1,10] (k:=rc (ht:=fun hc0=>?_) (hf:=fun hc0=>?_))))))
 refine jO 1 ?_;rotate_left
 refine rk (k:=rs (k:=rs (k:=?_)))
 have hlen:xs.length=ys.length:=Y193
 refine rg [0,1,12,13] (k:=rb (k:=?_))
 refine Run.loop (fun e s'=>s'=s∧∃ i:Nat,e=[(0,.sl .unk (xs.map (PV.int .u8))),(1,.sl .unk (ys.map (PV.int .u8))),(12,.int .i64 xs.length),(13,.int .i64 i)]∧i≤xs.length∧xs.take i=ys.take i) (fun e s'=>xs.length-ivar e 13) ?_ ?_
 ·exact Y247
 rintro e s' ⟨hs,i,rfl,hi,hbe⟩
 subst s'
 refine rs (k:=rg [0,1,12,13,14] (k:=rs (k:=rc (ht:=fun hc1=>?_) (hf:=fun hc1=>?_))))
 refine rk (k:=rs (k:=rb (k:=rs (k:=?_))))
 have hil:i<xs.length:=Y79
 have hjl:i<ys.length:=Y21
 obtain ⟨x,hxe⟩:∃ z_,xs[i]'hil=z_:=⟨_,rfl⟩
 have hxx:(xs.map (PV.int .u8))[i]? =some (.int .u8 x):=Y140
 obtain ⟨y,hye⟩:∃ z_,ys[i]'hjl=z_:=⟨_,rfl⟩
 have hxy:(ys.map (PV.int .u8))[i]? =some (.int .u8 y):=by rw [map_get hjl,hye]
 have hw:IntKind.i64.wrap ((i:Int)+1)=((i+1:Nat):Int):=Y28
 have H:=aj hxx (aj hxy (aj hw H))
 refine rg [0,1,5,12,13] (k:=rs (k:=?_))
 refine Run.drawC [] [0,1,12,13,24] Tryz.mixed Y26 ?_
 refine DetC.all au ?_
 refine re (k:=rc (ht:=fun hc2=>?_) (hf:=fun hc2=>?_))
 refine jO 1 ?_;rotate_left
 ·exact Y29
 refine rX (k:=rs (k:=rg [4] (k:=rR (k:=rP (by simp only [Tryz.f85,go_sem];rfl) hwf ⟨?_,rfl⟩))))
 refine jO 2 ?_;rotate_left
 any_goals
  refine jI 1 ?_
  refine rs (k:=rg [4] (k:=rR (k:=rP (by simp only [Tryz.f85,go_sem];rfl) hwf ⟨?_,rfl⟩)))
  refine jO 2 ?_;rotate_left
 any_goals
  refine jI 2 ?_
  first
   |(have hne:xs≠ys:=by rintro rfl;simp at hc0
     rw [decide_eq_false hne];rfl)
   |(have hne:xs≠ys:=by
      rintro rfl
      rw [hxe] at hye
      subst hye
      simp at hc2
     rw [decide_eq_false hne];rfl)
   |(have hlen:xs.length=ys.length:=by simp at hc0;omega
     have:i=xs.length:=by have:=of_decide_eq_false hc1;omega
     rw [this,List.take_length,hlen,List.take_length] at hbe
     rw [decide_eq_true hbe];rfl)
theorem clone_u8_nil {s:St}:ACalls Tryz.prog 49 [.sl .nil []] s (fun r s'=>r=.sl .unk []∧s'=s):=by
 refine go Tryz.func49 (k:=fun hwf H=>?_)
 refine rs (k:=rg [0] (k:=rs (k:=rs (k:=rg [0,4] (k:=rc (ht:=fun hc0=>?_) (hf:=fun hc0=>?_))))))
 ·refine rs (k:=rg [2] (k:=rR (k:=rP (by simp only [Tryz.f49,go_sem];rfl) hwf ⟨?_,rfl⟩)))
  rfl
 ·cases hc0
theorem Y30 {p:Prop} (h:p:=by rw [Tryz.cz5];rfl):p:=h
theorem Y31 {p:Prop} (h:p:=by rw [Tryz.by5];decide):p:=h
theorem Y80 {p:Prop} (h:p:=by rw [Tryz.zp5];rfl):p:=h
theorem Y81 {p:Prop} (h:p:=by rw [Tryz.by5];simp;omega):p:=h
theorem Y82 {p:Prop} (h:p:=by first | exact ((Fr.refl hwf).tm htm (fun t z e=>Y20)).blk):p:=h
theorem Y141 {p:Prop} (h:p:=by intro el hel;cases hel):p:=h
theorem clone_u8_any {xs:List Int} (hb:xs.length*1≤140737488355328) {s:St}:ACalls Tryz.prog 49 [.sl .any (xs.map (PV.int .u8))] s (fun r s'=>r=.sl .unk (xs.map (PV.int .u8))∧s'=s):=by
 refine go Tryz.func49 (k:=fun hwf H=>?_)
 refine rs (k:=rg [0] (k:=rs (k:=rs (k:=rg [0,4] (k:=rc (ht:=fun hc0=>?_) (hf:=fun hc0=>?_))))))
 ·cases hc0
 ·refine rk (k:=rs (k:=rr (k:=rO (k:=ro (pre:=[_]) (k:=?_)))))
  refine RunO.grow' au au au Tryz.td41 Y80 Y141 (isEls_map (P:=Tryz.prog) (e:=5) (f:=PV.int .u8) (fun a=>⟨rfl,Y30⟩) _) Y31 Y81 (.inr (.inl (.inl rfl))) ?_
  intro k1 s1 hgr htm
  refine rh [2] (k:=rR (k:=?_))
  refine Ret.pure (by simp only [Tryz.f49,go_sem]<;>rfl) (r':=.sl .unk (xs.map (PV.int .u8))) (by rw [PV.weak,weaks_u8]) Y27 hwf Y82 ⟨?_,rfl⟩
  ·rfl
theorem clone_u8 {xs:List Int} (hb:xs.length*1≤140737488355328) {s:St}:ACalls Tryz.prog 49 [.sl .unk (xs.map (PV.int .u8))] s (fun r s'=>r=.sl .unk (xs.map (PV.int .u8))∧s'=s) :=
 ACalls.unk1 (fun h=>by rw [h];exact clone_u8_nil) (clone_u8_any hb)
theorem Y142 {p:Prop} (h:p:=by simp only [Tryz.f49,go_sem,↓reduceIte]<;>rfl):p:=h
theorem cloneg_u8_nil {s:St}:ACalls Tryz.prog 49 [.sl .nil []] s (fun r s'=>Fresh s s' r [] (Tryz.prog.cellsOf 5)):=by
 refine go Tryz.func49 (k:=fun hwf H=>?_)
 refine rs (k:=rg [0] (k:=rs (k:=rs (k:=rg [0,4] (k:=rc (ht:=fun hc0=>?_) (hf:=fun hc0=>?_))))))
 ·refine rs (k:=rg [2] (k:=rR (k:=?_)))
  exact Fresh.ret0 Y142 (Fr.refl hwf)
 ·cases hc0
theorem cloneg_u8_any {xs:List Int} (hb:xs.length*1≤140737488355328) {s:St}:ACalls Tryz.prog 49 [.sl .any (xs.map (PV.int .u8))] s (fun r s'=>Fresh s s' r (xs.map (PV.int .u8)) (Tryz.prog.cellsOf 5)):=by
 refine go Tryz.func49 (k:=fun hwf H=>?_)
 refine rs (k:=rg [0] (k:=rs (k:=rs (k:=rg [0,4] (k:=rc (ht:=fun hc0=>?_) (hf:=fun hc0=>?_))))))
 ·cases hc0
 ·refine rk (k:=rs (k:=rr (k:=rO (k:=ro (pre:=[_]) (k:=?_)))))
  refine RunO.grow' au au au Tryz.td41 Y80 Y141 (isEls_map (P:=Tryz.prog) (e:=5) (f:=PV.int .u8) (fun a=>⟨rfl,Y30⟩) _) Y31 Y81 (.inr (.inl (.inl rfl))) ?_
  intro k1 s1 hgr htm
  refine rh [2] (k:=rR (k:=?_))
  exact Fresh.ret Y142 ((Fr.refl hwf).tm htm (fun t z e=>Y20)) (by simpa using hgr) (fun t z e=>(htm.fresh t z e).elim (fun ⟨z',h⟩=>by cases h) id)
theorem cloneg_u8 {xs:List Int} (hb:xs.length*1≤140737488355328) {s:St}:ACalls Tryz.prog 49 [.sl .unk (xs.map (PV.int .u8))] s (fun r s'=>Fresh s s' r (xs.map (PV.int .u8)) (Tryz.prog.cellsOf 5)) :=
 ACalls.unk1 (fun h=>by rw [h];exact cloneg_u8_nil) (cloneg_u8_any hb)
theorem Y194 {p:Prop} (h:p:=by simp only [PV.blw];exact ⟨fun t z e=>Y20,blws_u16 _ _⟩):p:=h
theorem clip_u16 {xs:List Int} {s:St}:ACalls Tryz.prog 91 [.sl .unk (xs.map (PV.int .u16))] s (fun r s'=>r=.sl .unc (xs.map (PV.int .u16))∧s'=s):=by
 refine go Tryz.func91 (k:=fun hwf H=>?_)
 have hfull:(xs.map (PV.int .u16)).take xs.length=xs.map (PV.int .u16):=by rw [← List.length_map (f:=(PV.int .u16)),List.take_length]
 have H:=aj hfull H
 refine rs (k:=rg [0] (k:=rs (k:=rg [2] (k:=rR (k:=?_)))))
 refine Ret.pureK (r:=.sl .unc (xs.map (PV.int .u16))) au Y194 hwf (fun _ _=>rfl) ⟨rfl,rfl⟩
theorem equal_u16 {xs ys:List Int} (nx:xs.length<140737488355328) {s:St}:ACalls Tryz.prog 120 [.sl .unk (xs.map (PV.int .u16)),.sl .unk (ys.map (PV.int .u16))] s (fun r s'=>r=.bool (decide (xs=ys))∧s'=s):=by
 refine go Tryz.func120 (k:=fun hwf H=>?_)
 refine rs (k:=rg [0,1] (k:=rs (k:=rs (k:=rg [0,1,10] (k:=rc (ht:=fun hc0=>?_) (hf:=fun hc0=>?_))))))
 refine jO 1 ?_;rotate_left
 refine rk (k:=rs (k:=rs (k:=?_)))
 have hlen:xs.length=ys.length:=Y193
 refine rg [0,1,12,13] (k:=rb (k:=?_))
 refine Run.loop (fun e s'=>s'=s∧∃ i:Nat,e=[(0,.sl .unk (xs.map (PV.int .u16))),(1,.sl .unk (ys.map (PV.int .u16))),(12,.int .i64 xs.length),(13,.int .i64 i)]∧i≤xs.length∧xs.take i=ys.take i) (fun e s'=>xs.length-ivar e 13) ?_ ?_
 ·exact Y247
 rintro e s' ⟨hs,i,rfl,hi,hbe⟩
 subst s'
 refine rs (k:=rg [0,1,12,13,14] (k:=rs (k:=rc (ht:=fun hc1=>?_) (hf:=fun hc1=>?_))))
 refine rk (k:=rs (k:=rb (k:=rs (k:=?_))))
 have hil:i<xs.length:=Y79
 have hjl:i<ys.length:=Y21
 obtain ⟨x,hxe⟩:∃ z_,xs[i]'hil=z_:=⟨_,rfl⟩
 have hxx:(xs.map (PV.int .u16))[i]? =some (.int .u16 x):=Y140
 obtain ⟨y,hye⟩:∃ z_,ys[i]'hjl=z_:=⟨_,rfl⟩
 have hxy:(ys.map (PV.int .u16))[i]? =some (.int .u16 y):=by rw [map_get hjl,hye]
 have hw:IntKind.i64.wrap ((i:Int)+1)=((i+1:Nat):Int):=Y28
 have H:=aj hxx (aj hxy (aj hw H))
 refine rg [0,1,5,12,13] (k:=rs (k:=?_))
 refine Run.drawC [] [0,1,12,13,24] Tryz.mixed Y26 ?_
 refine DetC.all au ?_
 refine re (k:=rc (ht:=fun hc2=>?_) (hf:=fun hc2=>?_))
 refine jO 1 ?_;rotate_left
 ·exact Y29
 refine rX (k:=rs (k:=rg [4] (k:=rR (k:=rP (by simp only [Tryz.f120,go_sem];rfl) hwf ⟨?_,rfl⟩))))
 refine jO 2 ?_;rotate_left
 any_goals
  refine jI 1 ?_
  refine rs (k:=rg [4] (k:=rR (k:=rP (by simp only [Tryz.f120,go_sem];rfl) hwf ⟨?_,rfl⟩)))
  refine jO 2 ?_;rotate_left
 any_goals
  refine jI 2 ?_
  first
   |(have hne:xs≠ys:=by rintro rfl;simp at hc0
     rw [decide_eq_false hne];rfl)
   |(have hne:xs≠ys:=by
      rintro rfl
      rw [hxe] at hye
      subst hye
      simp at hc2
     rw [decide_eq_false hne];rfl)
   |(have hlen:xs.length=ys.length:=by simp at hc0;omega
     have:i=xs.length:=by have:=of_decide_eq_false hc1;omega
     rw [this,List.take_length,hlen,List.take_length] at hbe
     rw [decide_eq_true hbe];rfl)
theorem clone_u16_nil {s:St}:ACalls Tryz.prog 44 [.sl .nil []] s (fun r s'=>r=.sl .unk []∧s'=s):=by
 refine go Tryz.func44 (k:=fun hwf H=>?_)
 refine rs (k:=rg [0] (k:=rs (k:=rs (k:=rg [0,4] (k:=rc (ht:=fun hc0=>?_) (hf:=fun hc0=>?_))))))
 ·refine rs (k:=rg [2] (k:=rR (k:=rP (by simp only [Tryz.f44,go_sem];rfl) hwf ⟨?_,rfl⟩)))
  rfl
 ·cases hc0
theorem Y143 {p:Prop} (h:p:=by rw [Tryz.zp39];rfl):p:=h
theorem Y144 {p:Prop} (h:p:=by rw [Tryz.by39];decide):p:=h
theorem Y248 {p:Prop} (h:p:=by rw [Tryz.cz39];rfl):p:=h
theorem clone_u16_any {xs:List Int} (hb:xs.length*2≤140737488355328) {s:St}:ACalls Tryz.prog 44 [.sl .any (xs.map (PV.int .u16))] s (fun r s'=>r=.sl .unk (xs.map (PV.int .u16))∧s'=s):=by
 refine go Tryz.func44 (k:=fun hwf H=>?_)
 refine rs (k:=rg [0] (k:=rs (k:=rs (k:=rg [0,4] (k:=rc (ht:=fun hc0=>?_) (hf:=fun hc0=>?_))))))
 ·cases hc0
 ·refine rk (k:=rs (k:=rr (k:=rO (k:=ro (pre:=[_]) (k:=?_)))))
  refine RunO.grow' au au au Tryz.td23 Y143 Y141 (isEls_map (P:=Tryz.prog) (e:=39) (f:=PV.int .u16) (fun a=>⟨rfl,Y248⟩) _) Y144 (by rw [Tryz.by39];simp;omega) (.inr (.inl (.inl rfl))) ?_
  intro k1 s1 hgr htm
  refine rh [2] (k:=rR (k:=?_))
  refine Ret.pure (by simp only [Tryz.f44,go_sem]<;>rfl) (r':=.sl .unk (xs.map (PV.int .u16))) (by rw [PV.weak,weaks_u16]) Y194 hwf Y82 ⟨?_,rfl⟩
  ·rfl
theorem clone_u16 {xs:List Int} (hb:xs.length*2≤140737488355328) {s:St}:ACalls Tryz.prog 44 [.sl .unk (xs.map (PV.int .u16))] s (fun r s'=>r=.sl .unk (xs.map (PV.int .u16))∧s'=s) :=
 ACalls.unk1 (fun h=>by rw [h];exact clone_u16_nil) (clone_u16_any hb)
theorem Y32 {p:Prop} (h:p:=by
 simp only [ivar,go_sem,↓reduceIte,Nat.reduceEqDiff]
 omega):p:=h
theorem Y33 {p:Prop} (h:p:=by have:=of_decide_eq_false hc0;omega):p:=h
theorem Y83 {p:Prop} (h:p:=by have:=of_decide_eq_true hc0;omega):p:=h
theorem Y84 {p:Prop} (h:p:=by rw [← hxe];exact List.getElem_mem _):p:=h
theorem Y85 {p:Prop} (h:p:=by have:=of_decide_eq_false hc1;omega):p:=h
theorem crc_Of {l:List Int} (hb:OkB l) (hl:l.length<140737488355328) {s:St}:ACalls Tryz.prog 155 [.sl .unk (l.map (PV.int .u8))] s (fun r s'=>r=.int .u16 (crcOf l)∧s'=s):=by
 refine go Tryz.func155 (k:=fun hwf H=>?_)
 refine rs (k:=rg [0] (k:=rs (k:=rg [0,3] (k:=rs (k:=rs (k:=rg [3,7,8,9] (k:=rb (k:=?_))))))))
 refine Run.loop (fun e s'=>s'=s∧∃ (i:Nat) (n:Int),e=[(3,.int .u16 n),(7,.sl .unk (l.map (PV.int .u8))),(8,.int .i64 l.length),(9,.int .i64 (i:Int))]∧i≤l.length∧U16 n∧crcOf l=(l.drop i).foldl crcB n) (fun e s'=>l.length-ivar e 9) ?_ ?_
 ·exact ⟨rfl,0,65535,rfl,Y21,Y24,rfl⟩
 rintro e s' ⟨hs,i,n,rfl,hi,hn,hcr⟩
 subst s'
 refine rs (k:=rg [3,7,8,9,10] (k:=rs (k:=rc (ht:=fun hc0=>?_) (hf:=fun hc0=>?_))))
 refine rk (k:=rs (k:=rb (k:=rs (k:=?_))))
 have hil:i<l.length:=Y83
 obtain ⟨x,hxe⟩:∃ z_,l[i]'hil=z_:=⟨_,rfl⟩
 have hxx:(l.map (PV.int .u8))[i]? =some (.int .u8 x):=Y140
 have hw:IntKind.i64.wrap ((i:Int)+1)=((i+1:Nat):Int):=Y28
 have hx8:=hb x Y84
 have hx16:IntKind.u16.wrap x=x:=by rw [u16_wrap];unfold U8 at hx8;omega
 have H:=aj hxx (aj hw (aj hx16 H))
 refine rg [3,5,7,8,9] (k:=rs (k:=rg [3,7,8,9] (k:=rs (k:=rg [3,7,8,9,17] (k:=rb (k:=?_))))))
 refine Run.loop (fun e s'=>s'=s∧∃ (j:Nat) (m:Int),e=[(3,.int .u16 m),(7,.sl .unk (l.map (PV.int .u8))),(8,.int .i64 l.length),(9,.int .i64 (i:Int)),(17,.int .i64 (j:Int))]∧j≤8∧U16 m∧bitN (8-j) m=bitN 8 (ibits .xor .u16 n x)) (fun e s'=>8-ivar e 17) ?_ ?_
 ·exact ⟨rfl,0,_,rfl,Y21,ibits_u16 _ _ _,rfl⟩
 rintro e s' ⟨hs,j,m,rfl,hj,hm,hbn⟩
 subst s'
 refine rs (k:=rg [3,7,8,9,17,18] (k:=rs (k:=rc (ht:=fun hc1=>?_) (hf:=fun hc1=>?_))))
 refine rk (k:=rs (k:=rb (k:=rs (k:=rg [3,6,7,8,9,17] (k:=rs (k:=rg [3,6,7,8,9,17] (k:=rs (k:=rg [3,7,8,9,17,24] (k:=rc (ht:=fun hc2=>?_) (hf:=fun hc2=>?_))))))))))
 refine rg [3,7,8,9,17] (k:=rB (k:=rg [3,7,8,9,17] (k:=?_)))
 refine jO 1 ?_;rotate_left
 refine rk (k:=rB (k:=rg [3,7,8,9,17] (k:=?_)))
 refine jO 1 ?_;rotate_left
 ·refine rX (k:=rB (k:=rg [3,7,8,9] (k:=?_)))
  have hj8:8-j=0:=Y85
  rw [hj8] at hbn
  refine Run.lp ⟨⟨rfl,i+1,m,rfl,Y21,hm,?_⟩,?_⟩
  ·rw [hcr,drop_get hil,hxe,List.foldl_cons,crcB,← hbn];rfl
  ·exact Y32
 ·refine rX (k:=rs (k:=rg [2] (k:=rR (k:=rP (by simp only [Tryz.f155,go_sem];rfl) hwf ⟨?_,rfl⟩))))
  have:i=l.length:=Y33
  rw [hcr,this,List.drop_length];rfl
 any_goals
  refine jI 1 ?_
  have hj8:(j:Int)<8:=of_decide_eq_true hc1
  refine jO 2 ?_;rotate_left
 any_goals
  refine jI 2 ?_
  have hbn2:bitN (8-(j+1)) (bitS m)=bitN 8 (ibits .xor .u16 n x):=by rw [← hbn,show 8-j=(8-(j+1))+1 from Y21];rfl
  refine jO 3 ?_;rotate_left
 any_goals
  refine jI 3 ?_
  have hd:m.fdiv 2=m/2:=Int.fdiv_eq_ediv_of_nonneg _ Y22
  refine jO 4 ?_;rotate_left
 any_goals
  refine jI 4 ?_
  have hwj:IntKind.i64.wrap ((j:Int)+1)=((j+1:Nat):Int):=Y28
  refine jO 5 ?_;rotate_left
 any_goals
  refine jI 5 ?_
  refine Run.lp ⟨⟨rfl,j+1,bitS m,?_,Y21,bitS_ok hm,hbn2⟩,?_⟩
  refine jO 6 ?_;rotate_left
  ·simp only [ivar,go_sem,↓reduceIte,Nat.reduceEqDiff,hwj]
   omega
 any_goals
  refine jI 6 ?_
  have hc2':=hc2
  simp only [decide_eq_true_eq,decide_eq_false_iff_not] at hc2'
  simp [bitS,hc2',hd,hwj]
end Go.Proofs
namespace Go.Proofs
open Go.PM
set_option maxHeartbeats 2000000
theorem octet_Put {l:List Int} {n:Int} (hl:l.length+2≤140737488355328) {s:St}:ACalls Tryz.prog 72 [.sl .unk (l.map (PV.int .u8)),.int .i64 n] s (fun r s'=>r=.sl .unk ((l++num2 n).map (PV.int .u8))∧s'=s):=by
 refine go Tryz.func72 (k:=fun hwf H=>?_)
 refine rs (k:=rg [0,1] (k:=rs (k:=rr (k:=ro (pre:=[_]) (k:=?_)))))
 refine RunO.call au au Y26 ((cloneg_u8 (xs:=l) Y21).mono ?_)
 rintro r s1 ⟨F1,kk,rfl,hg,htk⟩
 refine ro (pre:=[_,_,_,_,_]) (k:=rO (k:=?_))
 refine RunO.grow' au au au Tryz.td41 Y80 (isEls_map (P:=Tryz.prog) (e:=5) (f:=PV.int .u8) (fun a=>⟨rfl,Y30⟩) _) (isEls_map (P:=Tryz.prog) (e:=5) (f:=PV.int .u8) (fun a=>⟨rfl,Y30⟩) [_,_]) Y31 Y81 (by simpa using hg) ?_
 intro k2 s2 hgr htm
 refine rh [4] (k:=rR (k:=?_))
 refine Ret.pure (by simp only [Tryz.f72,go_sem]<;>rfl) (r':=.sl .unk ((l++num2 n).map (PV.int .u8))) (by simp [PV.weak,weaks_map,num2,sealB,u8_wrap,u8_hi,Function.comp_def]<;>rfl) Y27 hwf (by first | exact (F1.tm htm (fun t z e=>(htk t z e).1)).blk) ⟨?_,rfl⟩
 ·rfl
theorem ref1_Put {l:List Int} {n:Int} (hn:I64 n) (hl:l.length+2≤140737488355328) {s:St}:ACalls Tryz.prog 56 [.sl .unk (l.map (PV.int .u8)),.int .i64 n] s (fun r s'=>r=.sl .unk ((l++num2 n).map (PV.int .u8))∧s'=s):=by
 refine go Tryz.func56 (k:=fun hwf H=>?_)
 refine rs (k:=rg [0,1] (k:=rs (k:=rr (k:=rO (k:=ro (pre:=[_]) (k:=?_))))))
 refine RunO.grow' au au au Tryz.td41 Y80 Y141 (isEls_map (P:=Tryz.prog) (e:=5) (f:=PV.int .u8) (fun a=>⟨rfl,Y30⟩) _) Y31 Y81 (.inr (.inl (.inl rfl))) ?_
 intro k1 s1 hgr1 htm1
 have hgr1':Grows s1 k1 l.length (Tryz.prog.cellsOf 5):=by simpa using hgr1
 refine ro (pre:=[_,_,_,_,_,_]) (k:=rO (k:=?_))
 refine RunO.grow' au au au Tryz.td41 Y80 (isEls_map (P:=Tryz.prog) (e:=5) (f:=PV.int .u8) (fun a=>⟨rfl,Y30⟩) _) (isEls_map (P:=Tryz.prog) (e:=5) (f:=PV.int .u8) (fun a=>⟨rfl,Y30⟩) [_,_]) Y31 Y81 (by simpa using hgr1') ?_
 intro k2 s2 hgr2 htm2
 refine rh [4] (k:=rR (k:=?_))
 refine Ret.pure (by simp only [Tryz.f56,go_sem]<;>rfl) (r':=.sl .unk ((l++num2 n).map (PV.int .u8))) (by simp [PV.weak,weaks_map,num2,sealB,u8_wrap,u8_hi,Function.comp_def,u64_wrap,hi_u64']<;>rfl) Y27 hwf (by first | exact (((Fr.refl hwf).tm htm1 (fun t z e=>Y20)).tm htm2 (fun t z e=>(htm1.fresh t z e).elim (fun ⟨z',h⟩=>by cases h) (fun h=>h.1))).blk) ⟨?_,rfl⟩
 ·rfl
theorem octet_Get {l:List Int} (hb:OkB l) {a:Int} (ha:I64 a) (hl:l.length≤140737488355328) {s:St}:ACalls Tryz.prog 121 [.sl .unk (l.map (PV.int .u8)),.int .i64 a] s (fun r s'=>r=.tuple [.int .i64 ((get2 l a).getD 0),.bool (get2 l a).isSome]∧s'=s):=by
 refine go Tryz.func121 (k:=fun hwf H=>?_)
 refine rs (k:=rg [0,1] (k:=rs (k:=rs (k:=?_))))
 have hw1:IntKind.i64.wrap ((l.length:Int)-2)=(l.length:Int)-2:=wrap_i64 Y21
 have H:=aj hw1 H
 refine rg [0,1,14] (k:=rc (ht:=fun hc0=>?_) (hf:=fun hc0=>?_))
 refine rs (k:=rg [4,5] (k:=rR (k:=rP (by simp only [Tryz.f121,go_sem];rfl) hwf ⟨?_,rfl⟩)))
 refine jO 1 ?_;rotate_left
 refine rk (k:=rs (k:=?_))
 have hcc:0≤a∧a+2≤l.length:=Y193
 obtain ⟨i,rfl⟩:∃ i:Nat,a=i:=⟨a.toNat,(Int.toNat_of_nonneg hcc.1).symm⟩
 have hi1:i<l.length:=Y21
 have hi2:i+1<l.length:=Y21
 obtain ⟨x,hxe⟩:∃ z_,l[i]'hi1=z_:=⟨_,rfl⟩
 obtain ⟨y,hye⟩:∃ z_,l[i+1]'hi2=z_:=⟨_,rfl⟩
 have hxx:(l.map (PV.int .u8))[i]? =some (.int .u8 x):=by rw [map_get hi1,hxe]
 have hyy:(l.map (PV.int .u8))[i+1]? =some (.int .u8 y):=by rw [map_get hi2,hye]
 have hx8:U8 x:=by rw [← hxe];exact hb _ (List.getElem_mem _)
 have hy8:U8 y:=by rw [← hye];exact hb _ (List.getElem_mem _)
 have hw:IntKind.i64.wrap ((i:Int)+1)=((i+1:Nat):Int):=Y28
 have hwx:IntKind.i64.wrap x=x:=wrap_i64 Y21
 have hwy:IntKind.i64.wrap y=y:=wrap_i64 Y21
 have hsh:IntKind.i64.wrap (x*256)=x*256:=wrap_i64 Y21
 have hor:ibits .or .i64 (x*256) y=256*x+y:=ibits_or2 hx8 hy8
 have hlt1:((i:Int)<(l.length:Int))=True:=eq_true Y21
 have hlt2:(((i+1:Nat):Int)<(l.length:Int))=True:=eq_true Y21
 have H:=aj hxx (aj hyy (aj hw (aj hwx (aj hwy (aj hsh (aj hor (aj hlt1 (aj hlt2 H))))))))
 refine Run.drawC [] [4,5] Tryz.mixed Y26 ?_
 refine DetC.all au ?_
 refine re (k:=rR (k:=rP (by simp only [Tryz.f121,go_sem];rfl) hwf ⟨?_,rfl⟩))
 refine jO 1 ?_;rotate_left
 any_goals
  refine jI 1 ?_
  first
   |(have:get2 l a=none:=by unfold get2;rw [if_neg Y193]
     rw [this];rfl)
   |(have:get2 l i=some (256*x+y):=by
      unfold get2
      rw [if_pos Y21,Int.toNat_natCast,List.getElem?_eq_getElem hi1,List.getElem?_eq_getElem hi2,hxe,hye];rfl
     rw [this];rfl)
theorem crc_Seal {l:List Int} (hb:OkB l) (hl:l.length+2≤140737488355328) {s:St}:ACalls Tryz.prog 144 [.sl .unk (l.map (PV.int .u8))] s (fun r s'=>r=.sl .unk ((sealB l).map (PV.int .u8))∧s'=s):=by
 refine go Tryz.func144 (k:=fun hwf H=>?_)
 refine rs (k:=rg [0] (k:=rs (k:=rr (k:=ro (pre:=[_]) (k:=?_)))))
 refine RunO.call au au Y26 ((crc_Of hb Y21).mono ?_)
 rintro r s1 ⟨rfl,hs⟩
 subst s1
 refine rh [0,3] (k:=rs (k:=rr (k:=ro (pre:=[_]) (k:=?_))))
 refine RunO.call au au Y26 ((clip_u8 (xs:=l)).mono ?_)
 rintro r s1 ⟨rfl,hs⟩
 subst s1
 refine ro (pre:=[_,_,_,_,_]) (k:=rO (k:=?_))
 refine RunO.grow' au au au Tryz.td41 Y80 (isEls_map (P:=Tryz.prog) (e:=5) (f:=PV.int .u8) (fun a=>⟨rfl,Y30⟩) _) (isEls_map (P:=Tryz.prog) (e:=5) (f:=PV.int .u8) (fun a=>⟨rfl,Y30⟩) [_,_]) Y31 Y81 (.inr (.inl (.inr rfl))) ?_
 intro k2 s2 hgr htm
 refine rh [2] (k:=rR (k:=?_))
 refine Ret.pure (by simp only [Tryz.f144,go_sem]<;>rfl) (r':=.sl .unk ((sealB l).map (PV.int .u8))) (by simp [PV.weak,weaks_map,num2,sealB,u8_wrap,u8_hi,Function.comp_def,crc_hi']<;>rfl) Y27 hwf Y82 ⟨?_,rfl⟩
 ·rfl
theorem Y86 {p:Prop} (h:p:=by simpa using hc0):p:=h
theorem crc_Open {l:List Int} (hb:OkB l) (hl:l.length≤140737488350000) {s:St}:ACalls Tryz.prog 145 [.sl .unk (l.map (PV.int .u8))] s (fun r s'=>r=.tuple [.sl .unk (((openB l).getD []).map (PV.int .u8)),.bool (openB l).isSome]∧s'=s):=by
 refine go Tryz.func145 (k:=fun hwf H=>?_)
 refine rs (k:=rg [0] (k:=rs (k:=?_)))
 have hw1:IntKind.i64.wrap ((l.length:Int)-2)=(l.length:Int)-2:=wrap_i64 Y21
 have H:=aj hw1 H
 refine rg [0,4] (k:=rs (k:=rs (k:=rr (k:=ro (pre:=[_,_,_]) (k:=rQ 10 (ht:=fun hg2=>?_) (hf:=fun hg2=>?_))))))
 refine rg0 (k:=rg0 (k:=rg0 (k:=rg0 (k:=rg0 (k:=rg0 (k:=rg0 (k:=rh [0,4,18] (k:=rc (ht:=fun hc0=>?_) (hf:=fun hc0=>?_)))))))))
 refine jO 1 ?_;rotate_left
 ·cases hc0
 have hn2:2≤l.length:=by simp at hg2;omega
 have hn3:((l.length:Int)-2).toNat=l.length-2:=Y21
 have hn0:(0≤(l.length:Int)-2)=True:=eq_true Y21
 have hn4:((l.length:Int)-2≤l.length)=True:=eq_true Y21
 have htk:(l.map (PV.int .u8)).take (l.length-2)=(l.take (l.length-2)).map (PV.int .u8):=List.map_take.symm
 have H:=aj hn3 (aj hn0 (aj hn4 (aj htk H)))
 refine rg1 (k:=rg1 (k:=rg1 (k:=rC (h:=crc_Seal (hb.take (l.length-2)) Y192) (k:=rg1 (k:=rC (h:=equal_u8 (xs:=sealB (l.take (l.length-2))) (ys:=l) (by rw [sealB_len];simp;omega)) (k:=rg1 (k:=rh [0,4,18] (k:=rc (ht:=fun hc0=>?_) (hf:=fun hc0=>?_)))))))))
 refine jO 1 ?_;rotate_left
 refine rk (k:=rs (k:=rr (k:=ro (pre:=[_,_,_]) (k:=rC (h:=clone_u8 (xs:=l.take (l.length-2)) Y192) (k:=rh [2,3] (k:=rR (k:=rP (by simp only [Tryz.f145,go_sem];rfl) hwf ⟨?_,rfl⟩)))))))
 refine jO 2 ?_;rotate_left
 any_goals
  refine jI 1 ?_
  refine rs (k:=rg [2,3] (k:=rR (k:=rP (by simp only [Tryz.f145,go_sem];rfl) hwf ⟨?_,rfl⟩)))
  refine jO 2 ?_;rotate_left
 any_goals
  refine jI 2 ?_
  first
   |(have:openB l=none:=by unfold openB;rw [if_neg (by simp at hg2;omega)]
     rw [this];simp only [PV.weak,PV.weaks,weaks_u8,Option.getD_some,Option.isSome_some,Option.getD_none,Option.isSome_none,List.map_nil])
   |(have:openB l=none:=by unfold openB;rw [if_neg (by simp at hc0;exact fun h=>hc0 h.2)]
     rw [this];simp only [PV.weak,PV.weaks,weaks_u8,Option.getD_some,Option.isSome_some,Option.getD_none,Option.isSome_none,List.map_nil])
   |(have:openB l=some (l.take (l.length-2)):=by unfold openB;rw [if_pos ⟨hn2,Y86⟩]
     rw [this];simp only [PV.weak,PV.weaks,weaks_u8,Option.getD_some,Option.isSome_some,Option.getD_none,Option.isSome_none,List.map_nil])
end Go.Proofs
namespace Go.Proofs
open Go.PM
set_option maxHeartbeats 2000000
end Go.Proofs
namespace Go.Proofs
open Go.PM
set_option maxHeartbeats 2000000
theorem Y87 {p:Prop} (h:p:=by
 have h9:=htm.nxt
 have h8:=F1.nxt
 rcases htm.fresh t z e with ⟨z',h⟩ | ⟨h1,h2⟩
 ·have:=htk t z' h;omega
 ·omega):p:=h
theorem octet_Bytes {l:List Int} (hl:l.length≤100000000) {s:St}:ACalls Tryz.prog 71 [.sl .unk (l.map (PV.int .u16))] s (fun r s'=>r=.sl .unk ((l.flatMap num2).map (PV.int .u8))∧s'=s):=by
 refine go Tryz.func71 (k:=fun hwf H=>?_)
 have hw2:IntKind.i64.wrap (2*(l.length:Int))=((2*l.length:Nat):Int):=Y28
 have H:=aj hw2 H
 refine rs (k:=rg [0] (k:=rs (k:=rr (k:=ro (pre:=[_,_,_]) (k:=?_)))))
 refine RunO.makeCap (n:=2*l.length) au au au Tryz.td41 (by rw [Tryz.zp5]) Y21 (by rw [Tryz.by5];omega) ?_
 refine rh [0,3] (k:=rs (k:=rs (k:=rg [3,10,11,12] (k:=rb (k:=?_)))))
 refine Run.loop (fun e s'=>Fr s s'∧∃ (i:Nat) (B:List Int) (kk:SK),e=[(3,.sl kk (B.map (PV.int .u8))),(10,.sl .unk (l.map (PV.int .u16))),(11,.int .i64 l.length),(12,.int .i64 (i:Int))]∧i≤l.length∧B=(l.take i).flatMap num2∧Grows s' kk B.length (Tryz.prog.cellsOf 5)∧(∀ t z,kk=.tok t z→s.nxt≤t∧t<s'.nxt)) (fun e s'=>l.length-ivar e 12) ?_ ?_
 ·simp only [Tryz.cz5]
  exact ⟨(Fr.refl hwf).new _,0,[],.tok s.nxt 1,rfl,Nat.zero_le _,rfl,.inr (.inr ⟨s.nxt,rfl,if_pos rfl⟩),fun t z e=>by cases e;simp only [nxt_new];omega⟩
 rintro e s1 ⟨F1,i,B,kk,rfl,hi,hB,hgr,htk⟩
 refine rs (k:=rg [3,10,11,12,13] (k:=rs (k:=rc (ht:=fun hc0=>?_) (hf:=fun hc0=>?_))))
 ·refine rk (k:=rs (k:=rb (k:=rs (k:=?_))))
  have hil:i<l.length:=Y83
  obtain ⟨x,hxe⟩:∃ z_,l[i]'hil=z_:=⟨_,rfl⟩
  have hxx:(l.map (PV.int .u16))[i]? =some (.int .u16 x):=Y140
  have hw:IntKind.i64.wrap ((i:Int)+1)=((i+1:Nat):Int):=Y28
  have hBl:B.length=2*i:=by rw [hB,flat2_len,List.length_take];omega
  have H:=aj hxx (aj hw H)
  refine rg [3,5,10,11,12] (k:=rr (k:=ro (pre:=[_,_,_,_,_,_]) (k:=rO (k:=?_))))
  refine RunO.grow' au au au Tryz.td41 Y80 (isEls_map (P:=Tryz.prog) (e:=5) (f:=PV.int .u8) (fun a=>⟨rfl,Y30⟩) B) (isEls_map (P:=Tryz.prog) (e:=5) (f:=PV.int .u8) (fun a=>⟨rfl,Y30⟩) [_,_]) Y31 Y81 (by simpa using hgr) ?_
  intro k2 s2 hgr2 htm
  refine rh [3,10,11,12] (k:=rB (k:=rg [3,10,11,12] (k:=?_)))
  simp only [List.length_map,List.length_cons,List.length_nil] at hgr2
  refine Run.lp ⟨⟨F1.tm htm (fun t z e=>(htk t z e).1),i+1,B++num2 x,k2,?_,Y21,?_,by simpa [num2] using hgr2,fun t z e=>?_⟩,?_⟩
  ·simp [num2,u8_wrap,u8_hi]
  ·rw [hB,take_get hil,hxe,List.flatMap_append];simp
  ·exact Y87
  ·exact Y32
 ·refine rX (k:=rs (k:=rg [2] (k:=rR (k:=?_))))
  have hie:i=l.length:=Y33
  refine Ret.pure (r':=.sl .unk (B.map (PV.int .u8))) (by simp only [Tryz.f71,go_sem,↓reduceIte]<;>rfl) (by rw [PV.weak,weaks_u8]) Y27 hwf F1.blk ⟨by rw [hB,hie,List.take_length],rfl⟩
theorem ref1_Bytes {l:List Int} (hl:l.length≤100000000) {s:St}:ACalls Tryz.prog 59 [.sl .unk (l.map (PV.int .u16))] s (fun r s'=>r=.sl .unk ((l.flatMap num2).map (PV.int .u8))∧s'=s):=by
 refine go Tryz.func59 (k:=fun hwf H=>?_)
 refine rs (k:=rg [0] (k:=rs (k:=rg [0,3] (k:=rs (k:=rs (k:=rg [3,6,7,8] (k:=rb (k:=?_))))))))
 refine Run.loop (fun e s'=>Fr s s'∧∃ (i:Nat) (B:List Int) (kk:SK),e=[(3,.sl kk (B.map (PV.int .u8))),(6,.sl .unk (l.map (PV.int .u16))),(7,.int .i64 l.length),(8,.int .i64 (i:Int))]∧i≤l.length∧B=(l.take i).flatMap num2∧Grows s' kk B.length (Tryz.prog.cellsOf 5)∧(∀ t z,kk=.tok t z→s.nxt≤t∧t<s'.nxt)) (fun e s'=>l.length-ivar e 8) ?_ ?_
 ·exact ⟨Fr.refl hwf,0,[],.nil,rfl,Nat.zero_le _,rfl,.inl ⟨rfl,rfl⟩,fun t z e=>Y20⟩
 rintro e s1 ⟨F1,i,B,kk,rfl,hi,hB,hgr,htk⟩
 refine rs (k:=rg [3,6,7,8,9] (k:=rs (k:=rc (ht:=fun hc0=>?_) (hf:=fun hc0=>?_))))
 ·refine rk (k:=rs (k:=rb (k:=rs (k:=?_))))
  have hil:i<l.length:=Y83
  obtain ⟨x,hxe⟩:∃ z_,l[i]'hil=z_:=⟨_,rfl⟩
  have hxx:(l.map (PV.int .u16))[i]? =some (.int .u16 x):=Y140
  have hw:IntKind.i64.wrap ((i:Int)+1)=((i+1:Nat):Int):=Y28
  have hBl:B.length=2*i:=by rw [hB,flat2_len,List.length_take];omega
  have H:=aj hxx (aj hw H)
  refine rg [3,5,6,7,8] (k:=rr (k:=ro (pre:=[_,_,_,_,_,_]) (k:=rO (k:=?_))))
  refine RunO.grow' au au au Tryz.td41 Y80 (isEls_map (P:=Tryz.prog) (e:=5) (f:=PV.int .u8) (fun a=>⟨rfl,Y30⟩) B) (isEls_map (P:=Tryz.prog) (e:=5) (f:=PV.int .u8) (fun a=>⟨rfl,Y30⟩) [_,_]) Y31 Y81 (by simpa using hgr) ?_
  intro k2 s2 hgr2 htm
  refine rh [3,6,7,8] (k:=rB (k:=rg [3,6,7,8] (k:=?_)))
  simp only [List.length_map,List.length_cons,List.length_nil] at hgr2
  refine Run.lp ⟨⟨F1.tm htm (fun t z e=>(htk t z e).1),i+1,B++num2 x,k2,?_,Y21,?_,by simpa [num2] using hgr2,fun t z e=>?_⟩,?_⟩
  ·simp [num2,u8_wrap,u8_hi]
  ·rw [hB,take_get hil,hxe,List.flatMap_append];simp
  ·exact Y87
  ·exact Y32
 ·refine rX (k:=rs (k:=rg [2] (k:=rR (k:=?_))))
  have hie:i=l.length:=Y33
  refine Ret.pure (r':=.sl .unk (B.map (PV.int .u8))) (by simp only [Tryz.f59,go_sem,↓reduceIte]<;>rfl) (by rw [PV.weak,weaks_u8]) Y27 hwf F1.blk ⟨by rw [hB,hie,List.take_length],rfl⟩
theorem Y34 {p:Prop} (h:p:=by simp only [PV.blw,PV.blws,and_true];exact fun t z e=>Y20):p:=h
theorem Y195 {p:Prop} (h:p:=by rw [tdiv_pos Y21];omega):p:=h
theorem Y249 {p:Prop} (h:p:=by rw [tmod_pos Y21];omega):p:=h
theorem octet_Words {b:List Int} (hb:OkB b) (hl:b.length≤140737488351232) {s:St}:ACalls Tryz.prog 122 [.sl .unk (b.map (PV.int .u8))] s (fun r s'=>r=.tuple [.sl .unk (((wordsB b).getD []).map (PV.int .u16)),.bool (wordsB b).isSome]∧s'=s):=by
 refine go Tryz.func122 (k:=fun hwf H=>?_)
 have h20:((2:Int)=0)=False:=Y22
 have hm2:((b.length:Int)).tmod 2=((b.length%2:Nat):Int):=Y249
 have hwm:IntKind.i64.wrap ((b.length%2:Nat):Int)=((b.length%2:Nat):Int):=wrap_i64 Y21
 have H:=aj h20 (aj hm2 (aj hwm H))
 refine rs (k:=rg [0] (k:=rs (k:=rs (k:=rg [0,11] (k:=rc (ht:=fun hc0=>?_) (hf:=fun hc0=>?_))))))
 refine rs (k:=rg [2,3] (k:=rR (k:=?_)))
 refine jO 1 ?_;rotate_left
 refine rk (k:=rs (k:=?_))
 have hev:b.length%2=0:=Y193
 have hq2:((b.length:Int)).tdiv 2=((b.length/2:Nat):Int):=Y195
 have hwq:IntKind.i64.wrap ((b.length/2:Nat):Int)=((b.length/2:Nat):Int):=wrap_i64 Y21
 have H:=aj hq2 (aj hwq H)
 refine rr (k:=ro (pre:=[_,_,_]) (k:=?_))
 refine RunO.makeCap (n:=b.length/2) au au au Tryz.td23 (by rw [Tryz.zp39]) Y21 (by rw [Tryz.by39];omega) ?_
 refine rh [0,4] (k:=rs (k:=rs (k:=rg [0,4,5] (k:=rb (k:=?_)))))
 refine Run.loop (fun e s'=>Fr s s'∧∃ (i:Nat) (W:List Int) (kk:SK),e=[(0,.sl .unk (b.map (PV.int .u8))),(4,.sl kk (W.map (PV.int .u16))),(5,.int .i64 ((2*i:Nat):Int))]∧2*i≤b.length∧W=wordsP (b.take (2*i))∧Grows s' kk W.length (Tryz.prog.cellsOf 39)∧(∀ t z,kk=.tok t z→s.nxt≤t∧t<s'.nxt)) (fun e s'=>b.length-ivar e 5) ?_ ?_
 ·simp only [Tryz.cz39]
  exact ⟨(Fr.refl hwf).new _,0,[],.tok s.nxt 1,rfl,Nat.zero_le _,rfl,.inr (.inr ⟨s.nxt,rfl,if_pos rfl⟩),fun t z e=>by cases e;simp only [nxt_new];omega⟩
 rintro e s1 ⟨F1,i,W,kk,rfl,hi,hW,hgr,htk⟩
 refine rs (k:=rs (k:=rg [0,4,5,19] (k:=rc (ht:=fun hc1=>?_) (hf:=fun hc1=>?_))))
 ·refine rk (k:=rs (k:=rb (k:=rs (k:=?_))))
  have hil:2*i<b.length:=Y79
  have hil1:2*i+1<b.length:=Y21
  obtain ⟨x,hxe⟩:∃ z_,b[2*i]'hil=z_:=⟨_,rfl⟩
  have hxx:(b.map (PV.int .u8))[2*i]? =some (.int .u8 x):=Y140
  obtain ⟨y,hye⟩:∃ z_,b[2*i+1]'hil1=z_:=⟨_,rfl⟩
  have hxy:(b.map (PV.int .u8))[2*i+1]? =some (.int .u8 y):=by rw [map_get hil1,hye]
  have hx8:U8 x:=by rw [← hxe];exact hb _ (List.getElem_mem _)
  have hy8:U8 y:=by rw [← hye];exact hb _ (List.getElem_mem _)
  have hw:IntKind.i64.wrap (((2*i:Nat):Int)+2)=((2*(i+1):Nat):Int):=Y28
  have hw1:IntKind.i64.wrap (((2*i:Nat):Int)+1)=((2*i+1:Nat):Int):=Y28
  have hg:get2 b ((2*i:Nat):Int)=some (256*x+y):=by
   unfold get2
   rw [if_pos Y21,Int.toNat_natCast,List.getElem?_eq_getElem hil,List.getElem?_eq_getElem hil1,hxe,hye];rfl
  have hwW:W.length=i:=by rw [hW,wordsP_len,List.length_take];omega
  have hu:IntKind.u16.wrap (256*x+y)=256*x+y:=by rw [u16_wrap];unfold U8 at hx8 hy8;omega
  have H:=aj hxx (aj hxy (aj hw (aj hw1 (aj hu H))))
  refine rr (k:=ro (pre:=[_,_]) (k:=?_))
  refine RunO.callw au au au Y26 ((octet_Get hb (a:=((2*i:Nat):Int)) (by unfold I64;omega) Y21).mono ?_)
  rintro r s9 ⟨rfl,hs⟩
  subst s9
  rw [hg]
  refine rh [0,4,5,6] (k:=rr (k:=ro (pre:=[_,_,_]) (k:=rO (k:=?_))))
  refine RunO.grow' au au au Tryz.td23 Y143 (isEls_map (P:=Tryz.prog) (e:=39) (f:=PV.int .u16) (fun a=>⟨rfl,Y248⟩) W) (isEls_map (P:=Tryz.prog) (e:=39) (f:=PV.int .u16) (fun a=>⟨rfl,Y248⟩) [_]) Y144 (by rw [Tryz.by39];simp;omega) (by simpa using hgr) ?_
  intro k2 s2 hgr2 htm
  refine rh [0,4,5] (k:=rB (k:=rg [0,4,5] (k:=?_)))
  simp only [List.length_map,List.length_cons,List.length_nil] at hgr2
  refine Run.lp ⟨⟨F1.tm htm (fun t z e=>(htk t z e).1),i+1,W++[256*x+y],k2,?_,Y21,?_,by simpa using hgr2,fun t z e=>?_⟩,?_⟩
  ·simp
  ·rw [hW,show 2*(i+1)=2*i+1+1 from Y21,take_get hil1,take_get hil,hxe,hye,List.append_assoc]
   exact (wordsP_snoc (by rw [List.length_take];omega)).symm
  ·exact Y87
  ·exact Y32
 refine rX (k:=rs (k:=rg [2,3] (k:=rR (k:=?_))))
 refine jO 1 ?_;rotate_left
 any_goals
  refine jI 1 ?_
  first
   |(have hie:2*i=b.length:=by have:=of_decide_eq_false hc1;omega
     have hev2:wordsB b=some (wordsP b):=if_pos hev
     refine Ret.pure (r':=.tuple [.sl .unk (W.map (PV.int .u16)),.bool true]) (by simp only [Tryz.f122,go_sem,↓reduceIte]<;>rfl) (by simp only [PV.weak,PV.weaks,weaks_u16]) (by simp only [PV.blw,PV.blws,blws_u16T,and_true];exact fun t z e=>Y20) hwf F1.blk ⟨by rw [hW,hie,List.take_length,hev2];rfl,rfl⟩)
   |(have hno:wordsB b=none:=if_neg Y193
     refine Ret.pure (r':=.tuple [.sl .unk [],.bool false]) (by simp only [Tryz.f122,go_sem,↓reduceIte]<;>rfl) (by simp only [PV.weak,PV.weaks]) Y34 hwf (fun _ _=>rfl) ⟨by rw [hno];rfl,rfl⟩)
end Go.Proofs
namespace Go.Proofs
open Go.PM
set_option maxHeartbeats 2000000
theorem Y145 {p:Prop} (h:p:=by rw [packI,List.getElem?_eq_getElem hil,hxe,hx];simp only [Option.getD_some,if_true,setBit,hd8,he8,List.map_set];rw [List.getElem?_eq_getElem hdl,hv];rfl):p:=h
theorem Y314 {p:Prop} (h:p:=by exact ⟨0,rfl,Nat.zero_le _,by rw [packI,hN,List.map_replicate]⟩):p:=h
theorem octet_Pack {l:List Bool} (hl:l.length≤140737488351232) {s:St}:ACalls Tryz.prog 70 [.sl .unk (l.map PV.bool)] s (fun r s'=>r=.sl .unk ((packB l).map (PV.int .u8))∧s'=s):=by
 refine go Tryz.func70 (k:=fun hwf H=>?_)
 obtain ⟨N,hN⟩:∃ N,(l.length+7)/8=N:=⟨_,rfl⟩
 have h80:((8:Int)=0)=False:=Y22
 have hwa:IntKind.i64.wrap ((l.length:Int)+8)=((l.length+8:Nat):Int):=Y28
 have hwb:IntKind.i64.wrap (((l.length+8:Nat):Int)-1)=((l.length+7:Nat):Int):=Y28
 have hq8:((l.length+7:Nat):Int).tdiv 8=(N:Int):=Y195
 have hwN:IntKind.i64.wrap (N:Int)=N:=wrap_i64 Y21
 have H:=aj h80 (aj hwa (aj hwb (aj hq8 (aj hwN H))))
 refine rs (k:=rg [0] (k:=rs (k:=rr (k:=ro (pre:=[_,_,_,_,_]) (k:=?_)))))
 refine RunO.makeOwn (n:=N) au au au Tryz.td41 (by rw [Tryz.zp5]) Y21 (by rw [Tryz.by5];omega) ?_
 refine rh [0,3] (k:=rs (k:=rs (k:=rg [3,12,13,14] (k:=rb (k:=?_)))))
 refine Run.loop (fun e s'=>∃ i:Nat,e=[(3,.own s.nxt 0 N),(12,.sl .unk (l.map PV.bool)),(13,.int .i64 l.length),(14,.int .i64 (i:Int))]∧i≤l.length∧s'=(s.new (.row 5 ((packI l i).map (PV.int .u8))))) (fun e s'=>l.length-ivar e 14) ?_ ?_
 ·exact Y314
 rintro e s1 ⟨i,rfl,hi,rfl⟩
 refine rs (k:=rg [3,12,13,14,15] (k:=rs (k:=rc (ht:=fun hc0=>?_) (hf:=fun hc0=>?_))))
 refine rk (k:=rs (k:=rb (k:=rs (k:=?_))))
 have hil:i<l.length:=Y83
 obtain ⟨x,hxe⟩:∃ z_,l[i]'hil=z_:=⟨_,rfl⟩
 have hxx:(l.map PV.bool)[i]? =some (.bool x):=Y140
 have hw:IntKind.i64.wrap ((i:Int)+1)=((i+1:Nat):Int):=Y28
 have H:=aj hxx (aj hw H)
 refine rg [3,4,5,12,13,14] (k:=rs (k:=rg [3,4,12,13,14,19] (k:=rc (ht:=fun hc1=>?_) (hf:=fun hc1=>?_))))
 obtain ⟨d8,hd8⟩:∃ d,i/8=d:=⟨_,rfl⟩
 obtain ⟨e8,he8⟩:∃ d,i%8=d:=⟨_,rfl⟩
 have hpl:(packI l i).length=N:=by rw [packI_len,hN]
 have hdl:d8<(packI l i).length:=Y21
 obtain ⟨v,hv⟩:∃ v,(packI l i)[d8]=v:=⟨_,rfl⟩
 have hvv:((packI l i).map (PV.int .u8))[d8]? =some (.int .u8 v):=by rw [map_get hdl,hv]
 have hq:(i:Int).tdiv 8=(d8:Int):=Y195
 have hm:(i:Int).tmod 8=(e8:Int):=Y249
 have hwd:IntKind.i64.wrap (d8:Int)=d8:=wrap_i64 Y21
 have hwe:IntKind.i64.wrap (e8:Int)=e8:=wrap_i64 Y21
 have hwu:IntKind.u64.wrap (e8:Int)=e8:=by rw [u64_wrap];omega
 have hdN:(d8<N)=True:=eq_true Y21
 have he0:(0≤(e8:Int))=True:=eq_true Y21
 have hbv:(1*2 ^ min e8 8%256:Int)=bitV e8:=rfl
 have H:=aj hvv (aj hq (aj hm (aj hwd (aj hwe (aj hwu (aj hdN (aj he0 (aj hbv H))))))))
 refine Run.drawC [10] [3,12,13,14] Tryz.mixed Y26 ?_
 refine DetC.pre (pre:=[_,_,_,_,_,_,_,_,_,_]) au ?_
 refine DetC.eff Y22 au au ?_
 refine DetC.nil ?_
 refine re (k:=rB (k:=rg [3,12,13,14] (k:=?_)))
 refine jO 1 ?_;rotate_left
 refine rk (k:=rB (k:=rg [3,12,13,14] (k:=?_)))
 refine jO 1 ?_;rotate_left
 ·refine rX (k:=rs (k:=rg [2] (k:=rR (k:=?_))))
  have hie:i=l.length:=Y33
  refine Ret.pureF 2 (r':=.sl .unk ((packB l).map (PV.int .u8))) (by simp only [Tryz.f70,go_sem]<;>rfl) (frz_own_t (by rw [packB_len,hN]) Y23 (by rw [blk_new_eq,hie];rfl)) Y27 hwf (fun j hj=>by rw [blk_new_ne Y21]) ⟨rfl,rfl⟩
 any_goals
  refine jI 1 ?_
  first
   |(have hx:x=true:=hc1
     refine Run.lp ⟨⟨i+1,rfl,Y21,Y145⟩,?_⟩
     simp only [ivar,go_sem,↓reduceIte,Nat.reduceEqDiff]
     omega)
   |(have hx:x=false:=hc1
     refine Run.lp ⟨⟨i+1,rfl,Y21,by rw [packI,List.getElem?_eq_getElem hil,hxe,hx];rfl⟩,?_⟩
     simp only [ivar,go_sem,↓reduceIte,Nat.reduceEqDiff]
     omega)
theorem ref1_Pack {l:List Bool} (hl:l.length≤140737488351232) {s:St}:ACalls Tryz.prog 58 [.sl .unk (l.map PV.bool)] s (fun r s'=>r=.sl .unk ((packB l).map (PV.int .u8))∧s'=s):=by
 refine go Tryz.func58 (k:=fun hwf H=>?_)
 obtain ⟨N,hN⟩:∃ N,(l.length+7)/8=N:=⟨_,rfl⟩
 have h80:((8:Int)=0)=False:=Y22
 have hwa:IntKind.i64.wrap ((l.length:Int)+7)=((l.length+7:Nat):Int):=Y28
 have hwb:IntKind.i64.wrap (((l.length+8:Nat):Int)-1)=((l.length+7:Nat):Int):=Y28
 have hq8:((l.length+7:Nat):Int).tdiv 8=(N:Int):=Y195
 have hwN:IntKind.i64.wrap (N:Int)=N:=wrap_i64 Y21
 have H:=aj h80 (aj hwa (aj hwb (aj hq8 (aj hwN H))))
 refine rs (k:=rg [0] (k:=rs (k:=rr (k:=ro (pre:=[_,_,_,_]) (k:=?_)))))
 refine RunO.makeOwn (n:=N) au au au Tryz.td41 (by rw [Tryz.zp5]) Y21 (by rw [Tryz.by5];omega) ?_
 refine rh [0,3] (k:=rs (k:=rs (k:=rg [3,11,12,13] (k:=rb (k:=?_)))))
 refine Run.loop (fun e s'=>∃ i:Nat,e=[(3,.own s.nxt 0 N),(11,.sl .unk (l.map PV.bool)),(12,.int .i64 l.length),(13,.int .i64 (i:Int))]∧i≤l.length∧s'=(s.new (.row 5 ((packI l i).map (PV.int .u8))))) (fun e s'=>l.length-ivar e 13) ?_ ?_
 ·exact Y314
 rintro e s1 ⟨i,rfl,hi,rfl⟩
 refine rs (k:=rg [3,11,12,13,14] (k:=rs (k:=rc (ht:=fun hc0=>?_) (hf:=fun hc0=>?_))))
 refine rk (k:=rs (k:=rb (k:=rs (k:=?_))))
 have hil:i<l.length:=Y83
 obtain ⟨x,hxe⟩:∃ z_,l[i]'hil=z_:=⟨_,rfl⟩
 have hxx:(l.map PV.bool)[i]? =some (.bool x):=Y140
 have hw:IntKind.i64.wrap ((i:Int)+1)=((i+1:Nat):Int):=Y28
 have H:=aj hxx (aj hw H)
 refine rg [3,4,5,11,12,13] (k:=rs (k:=rg [3,4,11,12,13,18] (k:=rc (ht:=fun hc1=>?_) (hf:=fun hc1=>?_))))
 obtain ⟨d8,hd8⟩:∃ d,i/8=d:=⟨_,rfl⟩
 obtain ⟨e8,he8⟩:∃ d,i%8=d:=⟨_,rfl⟩
 have hpl:(packI l i).length=N:=by rw [packI_len,hN]
 have hdl:d8<(packI l i).length:=Y21
 obtain ⟨v,hv⟩:∃ v,(packI l i)[d8]=v:=⟨_,rfl⟩
 have hvv:((packI l i).map (PV.int .u8))[d8]? =some (.int .u8 v):=by rw [map_get hdl,hv]
 have hq:(i:Int).tdiv 8=(d8:Int):=Y195
 have hm:(i:Int).tmod 8=(e8:Int):=Y249
 have hwd:IntKind.i64.wrap (d8:Int)=d8:=wrap_i64 Y21
 have hwe:IntKind.i64.wrap (e8:Int)=e8:=wrap_i64 Y21
 have hwu:IntKind.u64.wrap (e8:Int)=e8:=by rw [u64_wrap];omega
 have hdN:(d8<N)=True:=eq_true Y21
 have he0:(0≤(e8:Int))=True:=eq_true Y21
 have hbv:(1*2 ^ min e8 8%256:Int)=bitV e8:=rfl
 have H:=aj hvv (aj hq (aj hm (aj hwd (aj hwe (aj hwu (aj hdN (aj he0 (aj hbv H))))))))
 refine rg [3,11,12,13] (k:=rB (k:=rg [3,11,12,13] (k:=?_)))
 refine jO 1 ?_;rotate_left
 refine rk (k:=rB (k:=rg [3,11,12,13] (k:=?_)))
 refine jO 1 ?_;rotate_left
 ·refine rX (k:=rs (k:=rg [2] (k:=rR (k:=?_))))
  have hie:i=l.length:=Y33
  refine Ret.pureF 2 (r':=.sl .unk ((packB l).map (PV.int .u8))) (by simp only [Tryz.f58,go_sem]<;>rfl) (frz_own_t (by rw [packB_len,hN]) Y23 (by rw [blk_new_eq,hie];rfl)) Y27 hwf (fun j hj=>by rw [blk_new_ne Y21]) ⟨rfl,rfl⟩
 any_goals
  refine jI 1 ?_
  first
   |(have hx:x=true:=hc1
     refine Run.lp ⟨⟨i+1,rfl,Y21,Y145⟩,?_⟩
     simp only [ivar,go_sem,↓reduceIte,Nat.reduceEqDiff]
     omega)
   |(have hx:x=false:=hc1
     refine Run.lp ⟨⟨i+1,rfl,Y21,by rw [packI,List.getElem?_eq_getElem hil,hxe,hx];rfl⟩,?_⟩
     simp only [ivar,go_sem,↓reduceIte,Nat.reduceEqDiff]
     omega)
end Go.Proofs
namespace Go.Proofs
open Go.PM
set_option maxHeartbeats 2000000
attribute [local go_sem] weaks_bools blws_boolsT
theorem Y196 {p:Prop} (h:p:=by simp only [Tryz.f107,go_sem,↓reduceIte]<;>rfl):p:=h
theorem octet_Open {b:List Int} (hb:OkB b) (hl:b.length≤140737488351232) {n:Int} (hn:I64 n) (hnb:n≤140737488351232∨b.length≤10000000) {s:St}:ACalls Tryz.prog 107 [.sl .unk (b.map (PV.int .u8)),.int .i64 n] s (fun r s'=>r=.tuple [.sl .unk (((openN b n).getD []).map PV.bool),.bool (openN b n).isSome]∧s'=s):=by
 refine go Tryz.func107 (k:=fun hwf H=>?_)
 have h80:((8:Int)=0)=False:=Y22
 have hw8:IntKind.i64.wrap ((b.length:Int)*8)=b.length*8:=wrap_i64 Y21
 have H:=aj h80 H
 refine rs (k:=rg [0,1] (k:=rs (k:=rs (k:=rg [0,1,25] (k:=rc (ht:=fun hc0=>?_) (hf:=fun hc0=>?_))))))
 refine jO 1 ?_;rotate_left
 refine rk (k:=rs (k:=?_))
 have hc0':=hc0
 simp only [Bool.or_eq_false_iff,decide_eq_false_iff_not,Bool.not_eq_false',decide_eq_true_eq] at hc0'
 obtain ⟨⟨q1,q2⟩,q3⟩:=hc0'
 obtain ⟨m,rfl⟩:∃ m:Nat,n=m:=⟨n.toNat,(Int.toNat_of_nonneg Y21).symm⟩
 rw [hw8] at q2
 have hml:m≤8*b.length:=Y21
 have hN:(m+7)/8=b.length:=by
  rw [wrap_i64 (n:=(m:Int)+8) Y21,wrap_i64 (n:=(m:Int)+8-1) Y21] at q3
  rw [tdiv_pos Y21] at q3
  rw [wrap_i64 Y21] at q3
  omega
 refine rr (k:=ro (pre:=[_]) (k:=?_))
 refine RunO.makeOwn (n:=m) au au au Tryz.td45 (by rw [Tryz.zp4]) Y21 (by rw [Tryz.by4];omega) ?_
 refine rh [0,6] (k:=rs (k:=rs (k:=rg [0,6,29,30] (k:=rb (k:=?_)))))
 refine Run.loop (fun e s'=>∃ i:Nat,e=[(0,.sl .unk (b.map (PV.int .u8))),(6,.own s.nxt 0 m),(29,.int .i64 m),(30,.int .i64 (i:Int))]∧i≤m∧s'=(s.new (.row 4 ((openRow b m i).map PV.bool)))) (fun e s'=>m-ivar e 30) ?_ ?_
 ·exact ⟨0,rfl,Nat.zero_le _,by rw [openRow_zero,List.map_replicate]⟩
 rintro e s1 ⟨i,rfl,hi,rfl⟩
 refine rs (k:=rg [0,6,29,30,31] (k:=rs (k:=rc (ht:=fun hc1=>?_) (hf:=fun hc1=>?_))))
 ·refine rk (k:=rs (k:=rb (k:=rs (k:=?_))))
  have him:i<m:=Y79
  have hw:IntKind.i64.wrap ((i:Int)+1)=((i+1:Nat):Int):=Y28
  have H:=aj hw H
  refine rg [0,6,7,29,30] (k:=?_)
  obtain ⟨d8,hd8⟩:∃ d,i/8=d:=⟨_,rfl⟩
  obtain ⟨e8,he8⟩:∃ d,i%8=d:=⟨_,rfl⟩
  have hdl:d8<b.length:=Y21
  obtain ⟨v,hv⟩:∃ v,b[d8]=v:=⟨_,rfl⟩
  have hvv:(b.map (PV.int .u8))[d8]? =some (.int .u8 v):=by rw [map_get hdl,hv]
  have hq:(i:Int).tdiv 8=(d8:Int):=Y195
  have hm:(i:Int).tmod 8=(e8:Int):=Y249
  have hwd:IntKind.i64.wrap (d8:Int)=d8:=wrap_i64 Y21
  have hwe:IntKind.i64.wrap (e8:Int)=e8:=wrap_i64 Y21
  have hwu:IntKind.u64.wrap (e8:Int)=e8:=by rw [u64_wrap];omega
  have he0:(0≤(e8:Int))=True:=eq_true Y21
  have hbit:decide (ibits .and .u8 (v.fdiv (2 ^ min e8 8)) 1=1)=bitAt b i:=by
   unfold bitAt
   rw [hd8,he8,List.getElem?_eq_getElem hdl,hv];rfl
  have hrl:(openRow b m i).length=m:=by simp [openRow]
  have hro:((openRow b m i).map PV.bool)[i]? =some (.bool ((openRow b m i)[i]'Y21)):=map_get Y21
  have himT:(i<m)=True:=eq_true him
  have H:=aj hvv (aj hq (aj hm (aj hwd (aj hwe (aj hwu (aj he0 (aj hbit (aj hro (aj himT H)))))))))
  refine rg [0,6,29,30] (k:=rB (k:=rg [0,6,29,30] (k:=?_)))
  refine Run.lp ⟨⟨i+1,rfl,Y21,by rw [← openRow_set b him,List.map_set]⟩,?_⟩
  simp only [ivar,go_sem,↓reduceIte,Nat.reduceEqDiff]
  omega
 refine rX (k:=rs (k:=rs (k:=?_)))
 have hie:i=m:=Y85
 subst hie
 rw [openRow_all]
 have hbl:(openBits b i).length=i:=by simp [openBits]
 refine rr (k:=?_)
 refine RunO.thaw 6 s.nxt 2 (v:=.sl .unk ((openBits b i).map PV.bool)) (by simp (disch:=omega) only [go_sem,↓reduceIte];exact frz_own_bools (t:=4) hbl.symm Y23 blk_new_eq) (by simp only [PV.blw,blws_boolsT];exact ⟨fun t z e=>Y20,trivial⟩) ?_
 refine ro (pre:=[_]) (k:=rC (h:=octet_Pack (l:=openBits b i) Y21) (k:=ro (pre:=[_]) (k:=rC (h:=equal_u8 (xs:=packB (openBits b i)) (ys:=b) (by rw [packB_len];omega)) (k:=rh [6,51] (k:=rc (ht:=fun hc2=>?_) (hf:=fun hc2=>?_))))))
 refine jO 1 ?_;rotate_left
 refine rk (k:=rs (k:=rg [4,5] (k:=rR (k:=?_))))
 refine jO 2 ?_;rotate_left
 any_goals
  refine jI 1 ?_
  refine rs (k:=rg [4,5] (k:=rR (k:=?_)))
  refine jO 2 ?_;rotate_left
 any_goals
  refine jI 2 ?_
  first
   |(have hyes:openN b (i:Int)=some (openBits b i):=by
      unfold openN
      rw [Int.toNat_natCast,if_pos ⟨Y21,Y21,Y21,by simpa using hc2⟩]
     refine Ret.pure (r':=.tuple [.sl .unk ((openBits b i).map PV.bool),.bool true]) Y196 (by simp only [PV.weak,PV.weaks,weaks_bools]) (by simp only [PV.blw,PV.blws,blws_boolsT,and_true];exact fun t z e=>Y20) hwf (fun j hj=>by simp (disch:=omega) only [go_sem]) ⟨by rw [hyes];rfl,rfl⟩)
   |(have hno:openN b (i:Int)=none:=by
      unfold openN
      rw [Int.toNat_natCast,if_neg]
      rintro ⟨_,_,_,h⟩
      simp [h] at hc2
     refine Ret.pure (r':=.tuple [.sl .unk [],.bool false]) Y196 (by simp only [PV.weak,PV.weaks]) Y34 hwf (fun j hj=>by simp (disch:=omega) only [go_sem]) ⟨by rw [hno];rfl,rfl⟩)
   |(have hno:openN b n=none:=by
      unfold openN
      rw [if_neg]
      rintro ⟨r1,r2,r3,_⟩
      have hc0':=hc0
      simp only [Bool.or_eq_true,decide_eq_true_eq,Bool.not_eq_true',decide_eq_false_iff_not] at hc0'
      rw [hw8,wrap_i64 (n:=n+8) Y21,wrap_i64 (n:=n+8-1) Y21,tdiv_pos Y21,wrap_i64 Y21] at hc0'
      omega
     refine Ret.pure (r':=.tuple [.sl .unk [],.bool false]) Y196 (by simp only [PV.weak,PV.weaks]) Y34 hwf (fun _ _=>rfl) ⟨by rw [hno];rfl,rfl⟩)
attribute [local go_sem] weaks_bools blws_boolsT
end Go.Proofs
namespace Go.Proofs
open Go.PM
set_option maxHeartbeats 2000000
theorem pdu_function {fn:Int} {s:St}:ACalls Tryz.prog 82 [.int .i64 fn] s (fun r s'=>r=.bool (hasF fn)∧s'=s):=by
 refine go Tryz.func82 (k:=fun hwf H=>?_)
 refine rs (k:=rg [0] (k:=rs (k:=rs (k:=rg [3] (k:=rb (k:=rs (k:=rs (k:=rg [3,4] (k:=rc (ht:=fun hc0=>?_) (hf:=fun hc0=>?_))))))))))
 refine rk (k:=rc (ht:=fun hc11=>?_) (hf:=fun hc11=>?_))
 refine jO 1 ?_;rotate_left
 ·exact Bool.noConfusion (hc0.symm.trans hc11)
 refine rs (k:=rg [3,4] (k:=rc (ht:=fun hc1=>?_) (hf:=fun hc1=>?_)))
 refine rk (k:=rc (ht:=fun hc11=>?_) (hf:=fun hc11=>?_))
 refine jO 1 ?_;rotate_left
 ·exact Bool.noConfusion (hc1.symm.trans hc11)
 refine rs (k:=rg [3,4] (k:=rc (ht:=fun hc2=>?_) (hf:=fun hc2=>?_)))
 refine rk (k:=rc (ht:=fun hc11=>?_) (hf:=fun hc11=>?_))
 refine jO 1 ?_;rotate_left
 ·exact Bool.noConfusion (hc2.symm.trans hc11)
 refine rs (k:=rg [3,4] (k:=rc (ht:=fun hc3=>?_) (hf:=fun hc3=>?_)))
 refine rk (k:=rc (ht:=fun hc11=>?_) (hf:=fun hc11=>?_))
 refine jO 1 ?_;rotate_left
 ·exact Bool.noConfusion (hc3.symm.trans hc11)
 refine rs (k:=rg [3,4] (k:=rc (ht:=fun hc4=>?_) (hf:=fun hc4=>?_)))
 refine rk (k:=rc (ht:=fun hc11=>?_) (hf:=fun hc11=>?_))
 refine jO 1 ?_;rotate_left
 ·exact Bool.noConfusion (hc4.symm.trans hc11)
 refine rs (k:=rg [3,4] (k:=rc (ht:=fun hc5=>?_) (hf:=fun hc5=>?_)))
 refine rk (k:=rc (ht:=fun hc11=>?_) (hf:=fun hc11=>?_))
 refine jO 1 ?_;rotate_left
 ·exact Bool.noConfusion (hc5.symm.trans hc11)
 refine rs (k:=rg [3,4] (k:=rc (ht:=fun hc6=>?_) (hf:=fun hc6=>?_)))
 refine rk (k:=rc (ht:=fun hc11=>?_) (hf:=fun hc11=>?_))
 refine jO 1 ?_;rotate_left
 ·exact Bool.noConfusion (hc6.symm.trans hc11)
 refine rs (k:=rg [3,4] (k:=rc (ht:=fun hc7=>?_) (hf:=fun hc7=>?_)))
 refine rk (k:=rc (ht:=fun hc11=>?_) (hf:=fun hc11=>?_))
 refine jO 1 ?_;rotate_left
 ·exact Bool.noConfusion (hc7.symm.trans hc11)
 refine rs (k:=rg [3,4] (k:=rc (ht:=fun hc8=>?_) (hf:=fun hc8=>?_)))
 refine rk (k:=rc (ht:=fun hc11=>?_) (hf:=fun hc11=>?_))
 refine jO 1 ?_;rotate_left
 ·exact Bool.noConfusion (hc8.symm.trans hc11)
 refine rs (k:=rg [3,4] (k:=rc (ht:=fun hc9=>?_) (hf:=fun hc9=>?_)))
 refine rk (k:=rc (ht:=fun hc11=>?_) (hf:=fun hc11=>?_))
 refine jO 1 ?_;rotate_left
 ·exact Bool.noConfusion (hc9.symm.trans hc11)
 refine rs (k:=rg [3,4] (k:=rc (ht:=fun hc10=>?_) (hf:=fun hc10=>?_)))
 refine rk (k:=rc (ht:=fun hc11=>?_) (hf:=fun hc11=>?_))
 refine jO 1 ?_;rotate_left
 ·exact Bool.noConfusion (hc10.symm.trans hc11)
 refine rg [4] (k:=rc (ht:=fun hc11=>?_) (hf:=fun hc11=>?_))
 refine jO 1 ?_;rotate_left
 refine rk (k:=rB (k:=rs (k:=rg [2] (k:=rR (k:=rP (by simp only [Tryz.f82,go_sem];rfl) hwf ⟨?_,rfl⟩)))))
 refine jO 2 ?_;rotate_left
 any_goals
  refine jI 1 ?_
  refine rs (k:=rg [2] (k:=rR (k:=rP (by simp only [Tryz.f82,go_sem];rfl) hwf ⟨?_,rfl⟩)))
  refine jO 2 ?_;rotate_left
 any_goals
  refine jI 2 ?_
  first
   |(have:hasF fn=true:=by
      unfold hasF
      refine decide_eq_true ?_
      simp only [decide_eq_true_eq,decide_eq_false_iff_not] at *
      omega
     rw [this];rfl)
   |(have:hasF fn=false:=by
      unfold hasF
      refine decide_eq_false ?_
      simp only [decide_eq_true_eq,decide_eq_false_iff_not] at *
      omega
     rw [this];rfl)
theorem pdu_reads {fn:Int} {s:St}:ACalls Tryz.prog 130 [.int .i64 fn] s (fun r s'=>r=.bool (readsF fn)∧s'=s):=by
 refine go Tryz.func130 (k:=fun hwf H=>?_)
 refine rs (k:=rg [0] (k:=rs (k:=rg [2] (k:=rR (k:=rP (by simp only [Tryz.f130,go_sem];rfl) hwf ⟨?_,rfl⟩)))))
 unfold readsF;by_cases h1:1≤fn<;>by_cases h2:fn≤4<;>simp [h1,h2,PV.weak]
theorem pdu_within {n:Int} {s:St}:ACalls Tryz.prog 113 [.int .i64 n] s (fun r s'=>r=.bool (wordF n)∧s'=s):=by
 refine go Tryz.func113 (k:=fun hwf H=>?_)
 refine rs (k:=rg [0] (k:=rs (k:=rg [2] (k:=rR (k:=rP (by simp only [Tryz.f113,go_sem];rfl) hwf ⟨?_,rfl⟩)))))
 unfold wordF;by_cases h1:0≤n<;>by_cases h2:n≤65535<;>simp [h1,h2,PV.weak]
attribute [local go_sem] Req.pv
theorem pdu_bits {q:Req} {s:St}:ACalls Tryz.prog 114 [q.pv] s (fun r s'=>r=.int .i64 (bitsF q)∧s'=s):=by
 refine go Tryz.func114 (k:=fun hwf H=>?_)
 refine rs (k:=rg [1] (k:=rs (k:=rs (k:=rg [1,4] (k:=rb (k:=rs (k:=rg [1,4,5] (k:=rc (ht:=fun hc0=>?_) (hf:=fun hc0=>?_)))))))))
 refine jO 1 ?_;rotate_left
 refine rs (k:=rg [1,7] (k:=rc (ht:=fun hc1=>?_) (hf:=fun hc1=>?_)))
 refine jO 1 ?_;rotate_left
 refine rk (k:=rB (k:=rs (k:=rg [2] (k:=rR (k:=rP (by simp only [Tryz.f114,go_sem];rfl) hwf ⟨?_,rfl⟩)))))
 refine jO 2 ?_;rotate_left
 any_goals
  refine jI 1 ?_
  refine rs (k:=rg [2] (k:=rR (k:=rP (by simp only [Tryz.f114,go_sem];rfl) hwf ⟨?_,rfl⟩)))
  refine jO 2 ?_;rotate_left
 any_goals
  refine jI 2 ?_
  unfold bitsF;simp only [decide_eq_true_eq,decide_eq_false_iff_not] at *;simp_all [PV.weak]
attribute [local go_sem] Req.pv
theorem Y315 {p:Prop} (h:p:=by exact Bool.noConfusion (hc0.symm.trans hc1)):p:=h
theorem pdu_vals {q:Req} {s:St}:ACalls Tryz.prog 115 [q.pv] s (fun r s'=>r=.int .i64 (valsF q)∧s'=s):=by
 refine go Tryz.func115 (k:=fun hwf H=>?_)
 refine rs (k:=rg [1] (k:=rs (k:=rs (k:=rg [1,4] (k:=rb (k:=rs (k:=rs (k:=rg [1,4,5] (k:=rc (ht:=fun hc0=>?_) (hf:=fun hc0=>?_))))))))))
 refine rk (k:=rc (ht:=fun hc1=>?_) (hf:=fun hc1=>?_))
 refine jO 1 ?_;rotate_left
 ·exact Y315
 refine rg [1,4,5] (k:=rc (ht:=fun hc1=>?_) (hf:=fun hc1=>?_))
 refine jO 1 ?_;rotate_left
 refine rs (k:=rg [1,4,8] (k:=rc (ht:=fun hc2=>?_) (hf:=fun hc2=>?_)))
 refine jO 1 ?_;rotate_left
 refine rs (k:=rg [1,12] (k:=rc (ht:=fun hc3=>?_) (hf:=fun hc3=>?_)))
 refine jO 1 ?_;rotate_left
 refine rk (k:=rB (k:=rs (k:=rg [2] (k:=rR (k:=rP (by simp only [Tryz.f115,go_sem];rfl) hwf ⟨?_,rfl⟩)))))
 refine jO 2 ?_;rotate_left
 any_goals
  refine jI 1 ?_
  refine rs (k:=rg [2] (k:=rR (k:=rP (by simp only [Tryz.f115,go_sem];rfl) hwf ⟨?_,rfl⟩)))
  refine jO 2 ?_;rotate_left
 any_goals
  refine jI 2 ?_
  unfold valsF;simp only [decide_eq_true_eq,decide_eq_false_iff_not] at *;simp_all [PV.weak]
end Go.Proofs
namespace Go.Proofs
open Go.PM
set_option maxHeartbeats 2000000
attribute [local go_sem] Req.pv
theorem Y250 {p:Prop} (h:p:=by simp only [Tryz.f112,go_sem];rfl):p:=h
set_option maxRecDepth 100000 in
theorem pdu_fields {q:Req} {s:St}:ACalls Tryz.prog 112 [q.pv] s (fun r s'=>r=.bool (fieldsF q)∧s'=s):=by
 refine go Tryz.func112 (k:=fun hwf H=>?_)
 refine rs (k:=rg [1] (k:=rs (k:=rg [1,3] (k:=rs (k:=rr (k:=ro (pre:=[_,_]) (k:=rC (h:=pdu_reads) (k:=rh [1,3,4] (k:=rs (k:=rg [1,3,4,5] (k:=rs (k:=?_))))))))))))
 obtain ⟨P1,hP1⟩:∃ b,(decide (¬ q.fn=8∧¬ q.fn=17))=b:=⟨_,rfl⟩
 refine rrA [some 35,some 36,some 37,some 38,some 39,some 40,some 41,some 42,some 43,some 44,some 45,some 46,some 47,some 48,some 49,some 50,some 51,some 52,some 53,some 54,some 55,some 56,some 57,some 58,some 59,some 60,some 61,some 62,some 63,some 64,some 65,some 66,some 67,some 68,some 69,some 70,some 71,some 72,some 73,some 74,some 75,some 76,some 77,some 78,some 79,some 80,some 81,some 2] (k:=fun ops hops=>?_)
 have H:=aj hops H
 refine ro (pre:=[_,_]) (k:=rQ 36 (ht:=fun hg1=>?_) (hf:=fun hg1=>?_))
 refine rg0 (k:=rg0 (k:=rg0 (k:=ro (pre:=[_,_]) (k:=rQ 41 (ht:=fun hg6=>?_) (hf:=fun hg6=>?_)))))
 refine jO 1 ?_;rotate_left
 ·cases hg6
 refine rg1 (k:=rg1 (k:=rg1 (k:=ro (pre:=[_,_]) (k:=rQ 41 (ht:=fun hg6=>?_) (hf:=fun hg6=>?_)))))
 refine jO 1 ?_;rotate_left
 refine rg0 (k:=rg0 (k:=rgU (k:=rgU (k:=rgU (k:=rg0 (k:=ro (pre:=[_,_]) (k:=rQ 49 (ht:=fun hg14=>?_) (hf:=fun hg14=>?_))))))))
 ·cases hg14
 refine jO 2 ?_;rotate_left
 any_goals
  refine jI 1 ?_
  refine rg1 (k:=rg1 (k:=rQ 43 (ht:=fun hg8=>?_) (hf:=fun hg8=>?_)))
  refine jO 3 ?_;rotate_left
  refine jO 4 ?_;rotate_left
 any_goals
  refine jI 4 ?_
  refine rg1 (k:=rg1 (k:=rg1 (k:=rg1 (k:=ro (pre:=[_,_]) (k:=rQ 49 (ht:=fun hg14=>?_) (hf:=fun hg14=>?_))))))
  refine jO 5 ?_;rotate_left
  refine jO 2 ?_;rotate_left
 any_goals
  refine jI 3 ?_
  refine rg0 (k:=rg0 (k:=rg0 (k:=rg1 (k:=ro (pre:=[_,_]) (k:=rQ 49 (ht:=fun hg14=>?_) (hf:=fun hg14=>?_))))))
  refine jO 5 ?_;rotate_left
  ·cases hg14
 any_goals
  refine jI 5 ?_
  refine rg1 (k:=rg1 (k:=rg1 (k:=rg1 (k:=rQ 53 (ht:=fun hg18=>?_) (hf:=fun hg18=>?_)))))
  refine jO 6 ?_;rotate_left
  refine jO 7 ?_;rotate_left
 any_goals
  refine jI 7 ?_
  refine rg1 (k:=rg1 (k:=rg1 (k:=rg1 (k:=ro (pre:=[_,_]) (k:=rQ 59 (ht:=fun hg24=>?_) (hf:=fun hg24=>?_))))))
  refine jO 8 ?_;rotate_left
  refine jO 9 ?_;rotate_left
 any_goals
  refine jI 6 ?_
  refine rg0 (k:=rg0 (k:=rg0 (k:=rg1 (k:=ro (pre:=[_,_]) (k:=rQ 59 (ht:=fun hg24=>?_) (hf:=fun hg24=>?_))))))
  refine jO 8 ?_;rotate_left
  ·cases hg24
 any_goals
  refine jI 8 ?_
  refine rg1 (k:=rg1 (k:=rg1 (k:=rg1 (k:=rQ 63 (ht:=fun hg28=>?_) (hf:=fun hg28=>?_)))))
  refine jO 10 ?_;rotate_left
  refine jO 11 ?_;rotate_left
 any_goals
  refine jI 11 ?_
  refine rg1 (k:=rg1 (k:=rg1 (k:=rg1 (k:=ro (pre:=[_,_]) (k:=rQ 69 (ht:=fun hg34=>?_) (hf:=fun hg34=>?_))))))
  refine jO 12 ?_;rotate_left
  refine jO 13 ?_;rotate_left
 any_goals
  refine jI 10 ?_
  refine rg0 (k:=rg0 (k:=rg0 (k:=rg1 (k:=ro (pre:=[_,_]) (k:=rQ 69 (ht:=fun hg34=>?_) (hf:=fun hg34=>?_))))))
  refine jO 12 ?_;rotate_left
  ·cases hg34
 any_goals
  refine jI 12 ?_
  refine rg1 (k:=rg1 (k:=rQ 71 (ht:=fun hg36=>?_) (hf:=fun hg36=>?_)))
  refine jO 14 ?_;rotate_left
  refine jO 15 ?_;rotate_left
 any_goals
  refine jI 15 ?_
  refine rg1 (k:=rg1 (k:=rg1 (k:=rg1 (k:=rQ 75 (ht:=fun hg40=>?_) (hf:=fun hg40=>?_)))))
  refine jO 16 ?_;rotate_left
  refine jO 17 ?_;rotate_left
 any_goals
  refine jI 2 ?_
  refine rg0 (k:=rg0 (k:=rg0 (k:=rg0 (k:=rgU (k:=rgU (k:=rgU (k:=rg0 (k:=ro (pre:=[_,_]) (k:=rQ 59 (ht:=fun hg24=>?_) (hf:=fun hg24=>?_))))))))))
  ·cases hg24
  refine jO 9 ?_;rotate_left
 any_goals
  refine jI 9 ?_
  refine rg0 (k:=rg0 (k:=rg0 (k:=rg0 (k:=rgU (k:=rgU (k:=rgU (k:=rg0 (k:=ro (pre:=[_,_]) (k:=rQ 69 (ht:=fun hg34=>?_) (hf:=fun hg34=>?_))))))))))
  ·cases hg34
  refine jO 13 ?_;rotate_left
 any_goals
  refine jI 13 ?_
  refine rg0 (k:=rg0 (k:=rgU (k:=rgU (k:=rgU (k:=rgU (k:=rgU (k:=rgU (k:=rgU (k:=rgU (k:=rg0 (k:=rh [2] (k:=rR (k:=rP Y250 hwf ⟨?_,rfl⟩)))))))))))))
  refine jO 18 ?_;rotate_left
 any_goals
  refine jI 14 ?_
  refine rg0 (k:=rg0 (k:=rg0 (k:=rg0 (k:=rgU (k:=rgU (k:=rgU (k:=rg0 (k:=rg1 (k:=rh [2] (k:=rR (k:=rP Y250 hwf ⟨?_,rfl⟩)))))))))))
  refine jO 18 ?_;rotate_left
 any_goals
  refine jI 16 ?_
  refine rg1 (k:=rg1 (k:=rg1 (k:=rg1 (k:=rg1 (k:=rh [2] (k:=rR (k:=rP Y250 hwf ⟨?_,rfl⟩)))))))
  refine jO 18 ?_;rotate_left
 any_goals
  refine jI 17 ?_
  refine rg0 (k:=rg0 (k:=rg0 (k:=rg1 (k:=rg1 (k:=rh [2] (k:=rR (k:=rP Y250 hwf ⟨?_,rfl⟩)))))))
  refine jO 18 ?_;rotate_left
 any_goals
  refine jI 18 ?_
  simp only [fieldsF,readsF,decide_eq_true_eq,decide_eq_false_iff_not,Bool.and_eq_true,Bool.or_eq_true,Bool.not_eq_true',Bool.and_eq_false_iff,Bool.or_eq_false_iff,Bool.not_eq_false'] at *
  refine jO 19 ?_;rotate_left
 any_goals
  refine jI 19 ?_
  first
   |(rw [decide_eq_true Y21];rfl)
   |(rw [decide_eq_false Y21];rfl)
   |(simp only [PV.weak];congr 1;simp only [decide_eq_decide];omega)
end Go.Proofs
namespace Go.Proofs
open Go.PM
set_option maxHeartbeats 2000000
attribute [local go_sem] weaks_bools Req.pv
set_option maxRecDepth 100000 in
theorem pdu_Right {q:Req} {s:St}:ACalls Tryz.prog 93 [q.pv] s (fun r s'=>r=.int .i64 (rightF q)∧s'=s):=by
 refine go Tryz.func93 (k:=fun hwf H=>?_)
 refine rs (k:=rg [1] (k:=rs (k:=rb (k:=rs (k:=rr (k:=ro (pre:=[_,_]) (k:=rC (h:=pdu_function) (k:=rh [1,3] (k:=rc (ht:=fun hc0=>?_) (hf:=fun hc0=>?_))))))))))
 refine jO 1 ?_;rotate_left
 refine rs (k:=rr (k:=ro (pre:=[_]) (k:=rC (h:=pdu_fields (q:=q)) (k:=ro (pre:=[_,_]) (k:=rQ 12 (ht:=fun hg3=>?_) (hf:=fun hg3=>?_))))))
 refine rg0 (k:=rg0 (k:=rg0 (k:=rg0 (k:=ro (pre:=[_,_]) (k:=rQ 18 (ht:=fun hg9=>?_) (hf:=fun hg9=>?_))))))
 refine jO 2 ?_;rotate_left
 ·cases hg9
 refine rg1 (k:=rg1 (k:=rC (h:=pdu_within) (k:=rg1 (k:=ro (pre:=[_,_]) (k:=rQ 18 (ht:=fun hg9=>?_) (hf:=fun hg9=>?_))))))
 refine jO 2 ?_;rotate_left
 refine rg1 (k:=rg1 (k:=rC (h:=pdu_within) (k:=rg1 (k:=ro (pre:=[_,_]) (k:=rQ 24 (ht:=fun hg15=>?_) (hf:=fun hg15=>?_))))))
 refine jO 3 ?_;rotate_left
 refine rg1 (k:=rg1 (k:=rC (h:=pdu_within) (k:=rg1 (k:=ro (pre:=[_,_]) (k:=rQ 30 (ht:=fun hg21=>?_) (hf:=fun hg21=>?_))))))
 refine jO 4 ?_;rotate_left
 refine rg1 (k:=rg1 (k:=rC (h:=pdu_within) (k:=rg1 (k:=rh [1,8] (k:=rc (ht:=fun hc1=>?_) (hf:=fun hc1=>?_))))))
 refine jO 1 ?_;rotate_left
 refine rs (k:=?_)
 refine Run.drawC [] [36] Tryz.mixed Y26 ?_
 refine DetC.pre (pre:=[_,_,_,_]) au ?_
 refine DetC.call au au au Y26 (pdu_bits (q:=q)) ?_
 refine DetC.pre (pre:=[_,_]) au ?_
 rcases hd6:(!decide ((q.bits.length:Int)=bitsF q)) with _ | _
 have H:=aj hd6 H
 refine DetC.gdo au au ?_
 refine DetC.gdo au au ?_
 refine DetC.gdo au au ?_
 refine DetC.gdo au au ?_
 refine DetC.call au au au Y26 (pdu_vals (q:=q)) ?_
 refine DetC.gdo au au ?_
 refine DetC.all au ?_
 refine re (k:=rc (ht:=fun hc2=>?_) (hf:=fun hc2=>?_))
 refine jO 1 ?_;rotate_left
 refine rk (k:=rB (k:=rs (k:=rg [2] (k:=rR (k:=rP (by simp only [Tryz.f93,go_sem];rfl) hwf ⟨?_,rfl⟩)))))
 refine jO 5 ?_;rotate_left
 have H:=aj hd6 H
 refine DetC.gskip' au ?_
 refine DetC.gskip' au ?_
 refine DetC.gskip' au ?_
 refine DetC.gskip' au ?_
 refine DetC.gskip' au ?_
 refine DetC.gskip' au ?_
 refine DetC.all au ?_
 refine re (k:=rc (ht:=fun hc2=>?_) (hf:=fun hc2=>?_))
 refine jO 1 ?_;rotate_left
 ·cases hc2
 any_goals
  refine jI 2 ?_
  refine rg0 (k:=rg0 (k:=rg0 (k:=rg0 (k:=ro (pre:=[_,_]) (k:=rQ 24 (ht:=fun hg15=>?_) (hf:=fun hg15=>?_))))))
  refine jO 3 ?_;rotate_left
  ·cases hg15
 any_goals
  refine jI 3 ?_
  refine rg0 (k:=rg0 (k:=rg0 (k:=rg0 (k:=ro (pre:=[_,_]) (k:=rQ 30 (ht:=fun hg21=>?_) (hf:=fun hg21=>?_))))))
  refine jO 4 ?_;rotate_left
  ·cases hg21
 any_goals
  refine jI 4 ?_
  refine rg0 (k:=rg0 (k:=rg0 (k:=rg0 (k:=rh [1,8] (k:=rc (ht:=fun hc1=>?_) (hf:=fun hc1=>?_))))))
  refine jO 1 ?_;rotate_left
  ·cases hc1
 any_goals
  refine jI 1 ?_
  refine rs (k:=rg [2] (k:=rR (k:=rP (by simp only [Tryz.f93,go_sem];rfl) hwf ⟨?_,rfl⟩)))
  refine jO 5 ?_;rotate_left
 any_goals
  refine jI 5 ?_
  unfold rightF
  refine jO 6 ?_;rotate_left
 any_goals
  refine jI 6 ?_
  simp only [decide_eq_true_eq,decide_eq_false_iff_not,Bool.not_eq_true',Bool.not_eq_false',Bool.or_eq_true,Bool.or_eq_false_iff] at *
  simp_all [PV.weak]<;>intros<;>omega
end Go.Proofs
namespace Go.Proofs
open Go.PM
set_option maxHeartbeats 2000000
theorem ref3_Has {fn:Int} {s:St}:ACalls Tryz.prog 52 [.int .i64 fn] s (fun r s'=>r=.bool (hasF fn)∧s'=s):=by
 refine go Tryz.func52 (k:=fun hwf H=>?_)
 refine rs (k:=rg [0] (k:=rs (k:=rg [2] (k:=rR (k:=rP (by simp only [Tryz.f52,go_sem];rfl) hwf ⟨?_,rfl⟩)))))
 unfold hasF
 simp only [PV.weak]
 congr 1
 rw [Bool.eq_iff_iff]
 simp only [Bool.or_eq_true,Bool.and_eq_true,decide_eq_true_eq]
 omega
theorem ref3_word {n:Int} {s:St}:ACalls Tryz.prog 54 [.int .i64 n] s (fun r s'=>r=.bool (wordF n)∧s'=s):=by
 refine go Tryz.func54 (k:=fun hwf H=>?_)
 refine rs (k:=rg [0] (k:=rs (k:=rg [2] (k:=rR (k:=rP (by simp only [Tryz.f54,go_sem];rfl) hwf ⟨?_,rfl⟩)))))
 unfold wordF;by_cases h1:0≤n<;>by_cases h2:n≤65535<;>simp [h1,h2,PV.weak]
def usesF (fn:Int):List Int:=if 1≤fn∧fn≤4 then [97,99] else if fn=5 then [97,98] else if fn=6 then [97,118] else if fn=8 then [115,118] else if fn=15 then [97,99,98] else if fn=16 then [97,99,118] else if fn=22 then [97,109] else if fn=23 then [97,99,119,118] else []
theorem Y146 {p:Prop} (h:p:=by exact Bool.noConfusion (hc2.symm.trans hc3)):p:=h
theorem Y316 {p:Prop} (h:p:=by exact Bool.noConfusion (hc0.symm.trans hc3)):p:=h
theorem Y317 {p:Prop} (h:p:=by exact Bool.noConfusion (hc1.symm.trans hc3)):p:=h
theorem ref3_uses {fn:Int} {s:St}:ACalls Tryz.prog 53 [.int .i64 fn] s (fun r s'=>r=.str (strB (usesF fn))∧s'=s):=by
 refine go Tryz.func53 (k:=fun hwf H=>?_)
 refine rs (k:=rg [0] (k:=rs (k:=rs (k:=rg [3] (k:=rb (k:=rs (k:=rs (k:=rg [3,4] (k:=rc (ht:=fun hc0=>?_) (hf:=fun hc0=>?_))))))))))
 refine rk (k:=rc (ht:=fun hc3=>?_) (hf:=fun hc3=>?_))
 refine jO 1 ?_;rotate_left
 ·exact Y316
 refine rs (k:=rg [3,4] (k:=rc (ht:=fun hc1=>?_) (hf:=fun hc1=>?_)))
 refine rk (k:=rc (ht:=fun hc3=>?_) (hf:=fun hc3=>?_))
 refine jO 1 ?_;rotate_left
 ·exact Y317
 refine rs (k:=rg [3,4] (k:=rc (ht:=fun hc2=>?_) (hf:=fun hc2=>?_)))
 refine rk (k:=rc (ht:=fun hc3=>?_) (hf:=fun hc3=>?_))
 refine jO 1 ?_;rotate_left
 ·exact Y146
 refine rg [3,4] (k:=rc (ht:=fun hc3=>?_) (hf:=fun hc3=>?_))
 refine jO 1 ?_;rotate_left
 refine rs (k:=rg [3,9] (k:=rc (ht:=fun hc4=>?_) (hf:=fun hc4=>?_)))
 refine jO 1 ?_;rotate_left
 refine rs (k:=rg [3,11] (k:=rc (ht:=fun hc5=>?_) (hf:=fun hc5=>?_)))
 refine jO 1 ?_;rotate_left
 refine rs (k:=rg [3,13] (k:=rc (ht:=fun hc6=>?_) (hf:=fun hc6=>?_)))
 refine jO 1 ?_;rotate_left
 refine rs (k:=rg [3,15] (k:=rc (ht:=fun hc7=>?_) (hf:=fun hc7=>?_)))
 refine jO 1 ?_;rotate_left
 refine rs (k:=rg [3,17] (k:=rc (ht:=fun hc8=>?_) (hf:=fun hc8=>?_)))
 refine jO 1 ?_;rotate_left
 refine rs (k:=rg [3,19] (k:=rc (ht:=fun hc9=>?_) (hf:=fun hc9=>?_)))
 refine jO 1 ?_;rotate_left
 refine rs (k:=rg [21] (k:=rc (ht:=fun hc10=>?_) (hf:=fun hc10=>?_)))
 refine jO 1 ?_;rotate_left
 refine rk (k:=rB (k:=rs (k:=rg [2] (k:=rR (k:=rP (by simp only [Tryz.f53,go_sem];rfl) hwf ⟨?_,rfl⟩)))))
 refine jO 2 ?_;rotate_left
 any_goals
  refine jI 1 ?_
  refine rs (k:=rg [2] (k:=rR (k:=rP (by simp only [Tryz.f53,go_sem];rfl) hwf ⟨?_,rfl⟩)))
  refine jO 2 ?_;rotate_left
 any_goals
  refine jI 2 ?_
  simp only [decide_eq_true_eq,decide_eq_false_iff_not] at *
  refine jO 3 ?_;rotate_left
 any_goals
  refine jI 3 ?_
  unfold usesF
  refine jO 4 ?_;rotate_left
 any_goals
  refine jI 4 ?_
  first
   |(rw [if_pos Y21];rfl)
   |(rw [if_neg Y21,if_pos Y21];rfl)
   |(rw [if_neg Y21,if_neg Y21,if_pos Y21];rfl)
   |(rw [if_neg Y21,if_neg Y21,if_neg Y21,if_pos Y21];rfl)
   |(rw [if_neg Y21,if_neg Y21,if_neg Y21,if_neg Y21,if_pos Y21];rfl)
   |(rw [if_neg Y21,if_neg Y21,if_neg Y21,if_neg Y21,if_neg Y21,if_pos Y21];rfl)
   |(rw [if_neg Y21,if_neg Y21,if_neg Y21,if_neg Y21,if_neg Y21,if_neg Y21,if_pos Y21];rfl)
   |(rw [if_neg Y21,if_neg Y21,if_neg Y21,if_neg Y21,if_neg Y21,if_neg Y21,if_neg Y21,if_pos Y21];rfl)
   |(rw [if_neg Y21,if_neg Y21,if_neg Y21,if_neg Y21,if_neg Y21,if_neg Y21,if_neg Y21,if_neg Y21];rfl)
theorem strB_size (l:List Int):(strB l).size=l.length:=by
 unfold strB
 show ((l.map toB).toArray).size=_
 simp
theorem strB_get {l:List Int} {i:Nat} (h:i<l.length):(strB l)[i]? =some (toB l[i]):=by
 have hs:i<(strB l).size:=by rw [strB_size];exact h
 rw [getElem?_pos (strB l) i hs]
 congr 1
 have e:(strB l).data[i]'hs=toB l[i]:=by
  simp only [strB,List.getElem_toArray,List.getElem_map]
 exact e
theorem toB_nat {x:Int} (h:U8 x):((toB x).toNat:Int)=x:=by
 unfold toB U8 at *
 rw [UInt8.toNat_ofNat']
 omega
theorem ref3_in {l:List Int} (hl:OkB l) (hn:l.length≤1000) {c:Int} {s:St}:ACalls Tryz.prog 35 [.str (strB l),.int .u8 c] s (fun r s'=>r=.bool (decide (c∈l))∧s'=s):=by
 refine go Tryz.func35 (k:=fun hwf H=>?_)
 have hsz:(strB l).size=l.length:=strB_size l
 have H:=aj hsz H
 refine rs (k:=rg [0,1] (k:=rs (k:=rs (k:=rg [0,1,5] (k:=rb (k:=?_))))))
 refine Run.loop (fun e s'=>s'=s∧∃ i:Nat,e=[(0,.str (strB l)),(1,.int .u8 c),(5,.int .i64 (i:Int))]∧i≤l.length∧c∉l.take i) (fun e s'=>l.length-ivar e 5) ?_ ?_
 ·exact ⟨rfl,0,rfl,Nat.zero_le _,Y23⟩
 rintro e s1 ⟨hs,i,rfl,hi,hno⟩
 subst s1
 refine rs (k:=rs (k:=rg [0,1,5,9] (k:=rc (ht:=fun hc0=>?_) (hf:=fun hc0=>?_))))
 refine rk (k:=rs (k:=rb (k:=rs (k:=?_))))
 have hil:i<l.length:=Y83
 obtain ⟨x,hxe⟩:∃ x,l[i]'hil=x:=⟨_,rfl⟩
 have hix:(strB l)[i]? =some (toB x):=by rw [strB_get hil,hxe]
 have hto:((toB x).toNat:Int)=x:=toB_nat (by rw [← hxe];exact hl _ (List.getElem_mem _))
 have hw:IntKind.i64.wrap ((i:Int)+1)=((i+1:Nat):Int):=Y28
 have H:=aj hix (aj hto (aj hw H))
 refine rg [0,1,5,16] (k:=rc (ht:=fun hc1=>?_) (hf:=fun hc1=>?_))
 refine rs (k:=rg [4] (k:=rR (k:=rP (by simp only [Tryz.f35,go_sem];rfl) hwf ⟨?_,rfl⟩)))
 refine jO 1 ?_;rotate_left
 ·refine rk (k:=rB (k:=rg [0,1,5] (k:=?_)))
  refine Run.lp ⟨⟨rfl,i+1,rfl,Y21,?_⟩,?_⟩
  ·rw [take_get hil,hxe]
   have:=of_decide_eq_false hc1
   simp only [List.mem_append,List.mem_singleton,not_or]
   exact ⟨hno,fun h=>this h.symm⟩
  ·exact Y32
 refine rX (k:=rs (k:=rg [4] (k:=rR (k:=rP (by simp only [Tryz.f35,go_sem];rfl) hwf ⟨?_,rfl⟩))))
 refine jO 1 ?_;rotate_left
 any_goals
  refine jI 1 ?_
  first
   |(have:c∈l:=by have h:=of_decide_eq_true hc1;rw [← h,← hxe];exact List.getElem_mem _
     rw [decide_eq_true this];rfl)
   |(have hie:i=l.length:=by have:=of_decide_eq_false hc0;omega
     rw [hie,List.take_length] at hno
     rw [decide_eq_false hno];rfl)
end Go.Proofs

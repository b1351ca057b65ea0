import Derived.Test.YtdeiiaohdcpecaaGreatB0
import Derived.Attr
import Derived.OpenShut
import Derived.SizedLaws
import Derived.ChangeOld
import Derived.WalkKit
import Derived.ProofKit
import Derived.KernelRfl
set_option linter.unusedVariables false
set_option linter.unusedSimpArgs false
namespace Go.PM
open Go
theorem zfx (e:Env):∀ (l:List Nat) (i:Nat),(i∈l∧(Env.keep l e).get i=e.get i)∨(Env.keep l e).get i=.junk
 | [],i=>.inr rfl
 | x::l,i=>by
   simp only [Env.keep,List.map_cons,Env.get]
   split
   ·rename_i h;subst h;exact .inl ⟨Y1,rfl⟩
   ·rcases zfx e l i with ⟨h1,h2⟩ | h
    ·exact .inl ⟨by simp [h1],h2⟩
    ·exact .inr h
theorem vP {g w e l} {tmps:Array Value} (h:∀ j∈l,R g w (Env.get e j) (tmps.getD j undef)):yY g w (Env.keep l e) tmps:=by
 intro i
 rcases zfx e l i with ⟨h1,h2⟩ | h2
 ·rw [h2];exact h i h1
 ·rw [h2];simp [R]
def Wv (P:Program) (op:Op) (rv:Operand→PV) (s:St):Option PV :=
 match op with
 | .buildSlice t len parts=>match wP P t len parts.toList rv with
   | some els=>some (.sl .clip els)
   | none=>none
 | _=>XQ P op rv s
theorem zfe {P:Program} {op:Op} {rv:Operand→PV} {s s':St} (h:uf op=false):XQ P op rv s=XQ P op rv s':=by
 cases op<;>first | rfl |(simp [uf] at h)
theorem XV {P:Program} {op:Op} {rv:Operand→PV} {s s':St} (h:uf op=false):Wv P op rv s=Wv P op rv s':=by
 unfold Wv
 cases op<;>first | rfl | exact zfe h
theorem VX {P:Program} {g s w v rv} {a:Act} {o:Oper} (h:Inv P g s w) (hrv:∀ x,R g w (rv x) (a.eval x)) (ha:Wv P o.op rv s=some v):vT P o g w a v s:=by
 have pureCase:XQ P o.op rv s=some v→vT P o g w a v s:=fun hp=>by
  obtain ⟨val,h1,h2⟩:=Ue h hrv hp
  exact ⟨val,w,g,.inl h1,h,Ext.refl _ _,h2⟩
 unfold Wv at ha
 cases hop:o.op with
 | buildSlice t len parts =>
   rw [hop] at ha
   simp only at ha
   cases hb:wP P t len parts.toList rv with
   | none=>rw [hb] at ha;cases ha
   | some els =>
     rw [hb] at ha
     cases ha
     obtain ⟨val,w',r1,r2,r3,r4⟩:=Xm h hrv hb
     refine ⟨val,w',g,.inl ?_,r2,r3,r4⟩
     unfold execOp
     rw [hop]
     simp only [ze,zo,r1]
 | _=>rw [hop] at ha;exact pureCase zg3
def zal (P:Program) (ops:Array Oper) (o:Oper) (e:Env) (s:St):Option PV :=
 match o.guard with
 | none=>Wv P o.op (ev e) s
 | some (j,want)=>match VE ops j want e with
   | none=>none
   | some (n,c)=>match Wv P o.op (fun x=>ung n c (ev e x)) s with
     | some v=>some (.gd n c v)
     | none=>none
theorem DOp.of_effect {P:Program} {ops:Array Oper} {o:Oper} {e:Env} {s s1:St} {v:PV} (hg:guard? ops o (Env.keep (zu ops o) e)=some true)
  (h:∀ g w (a:Act),Inv P g s w→yY g w (Env.keep (zu ops o) e) a.tmps→vT P o g w a v s1):DOp P ops o e s v s1:=by
 intro g w a hI hsl K Q hk
 have hE:=vP hsl
 rw [yR hg hE]
 simp only [if_true]
 obtain ⟨val,w',g',hr,k1,k2,k3⟩:=h g w a hI hE
 left
 unfold Oper.wp
 rcases hr with hr | ⟨hr,rfl⟩
 ·rw [hr,Oper.upon_value];exact hk val w' g' k1 k2 k3
 ·rw [hr,Oper.upon_skip];exact hk _ w' g' k1 k2 k3
theorem ZQ {P:Program} {ops:Array Oper} {o:Oper} {e:Env} {s:St} {v:PV} (h:zal P ops o (Env.keep (zu ops o) e) s=some v):DOp P ops o e s v s:=by
 unfold zal at h
 cases hg:o.guard with
 | none =>
   rw [hg] at h
   exact DOp.of_effect (by unfold guard?;rw [hg]) fun g w a hI hE=>VX hI (fun x=>xE hE x) h
 | some jw =>
   obtain ⟨j,want⟩:=jw
   rw [hg] at h
   simp only at h
   split at h
   ·cases h
   rename_i n c hcd
   split at h
   ·rename_i u hu
    cases h
    cases c with
    | true =>
      intro g w a hI hsl K Q hk
      have hE:=vP hsl
      rw [uY hg hcd hE]
      simp only [if_true]
      obtain ⟨val,w',g',hr,k2,k3,k4⟩:=VX (o:=o) (a:=a) hI (fun x=>zkM n true rfl (xE hE x)) hu
      have hk4:R g' w' (.gd n true u) val:=by simp only [R];exact ⟨fun _=>k4,fun x=>by cases x⟩
      left
      unfold Oper.wp
      rcases hr with hr | ⟨hr,rfl⟩
      ·rw [hr,Oper.upon_value];exact hk val w' g' k2 k3 hk4
      ·rw [hr,Oper.upon_skip];exact hk _ w' g' k2 k3 hk4
    | false =>
      intro g w a hI hsl K Q hk
      rw [uY hg hcd (vP hsl)]
      simp only [Bool.false_eq_true,if_false]
      exact hk undef w g hI (Ext.refl _ _) zoa
   ·cases h
theorem zhi {P:Program} {ops:Array Oper} {o:Oper} {e:Env} {s s':St} (ht:uf o.op=false):zal P ops o e s=zal P ops o e s':=by
 unfold zal
 cases o.guard with
 | none=>exact XV ht
 | some jw =>
   obtain ⟨j,want⟩:=jw
   simp only
   cases VE ops j want e with
   | none=>rfl
   | some nc=>obtain ⟨n,c⟩:=nc;simp only;rw [XV (s:=s) (s':=s') ht]
def zdT (P:Program) (ops:Array Oper):List Oper→Env→St→Option Env
 | [],e,_=>some e
 | o::l,e,s=>match zal P ops o (Env.keep (zu ops o) e) s with
   | some v=>zdT P ops l (Env.put e o.dst v) s
   | none=>none
def znj (P:Program) (ops:Array Oper) (l:List Oper) (d:Option Nat) (e:Env) (s:St) (r:Option PV):Option Env :=
 match r with
 | some v=>zdT P ops l (Env.put e d v) s
 | none=>none
theorem zkk (P:Program) (ops:Array Oper) (e:Env) (s:St):zdT P ops [] e s=some e:=rfl
theorem zdq (P:Program) (ops:Array Oper) (o:Oper) (l:List Oper) (e:Env) (s:St):zdT P ops (o::l) e s=znj P ops l o.dst e s (zal P ops o (Env.keep (zu ops o) e) s):=rfl
theorem zbm (P:Program) (ops:Array Oper) (l:List Oper) (d:Option Nat) (e:Env) (s:St) (v:PV):znj P ops l d e s (some v)=zdT P ops l (Env.put e d v) s:=rfl
section
variable {P:Program} {ops:Array Oper} {ws:List Nat} {e e':Env} {s s':St}
theorem zkV {p:Prop} (h:p:=by cases h;exact hd):p:=h
theorem Det.pre:∀ {pre:List Oper} {l:List Oper} {i:Nat} {e e1:Env},zdT P ops pre e s=some e1→Det P ops ws (i+pre.length) l e1 s e' s'→Det P ops ws i (pre++l) e s e' s'
 | [],l,i,e,e1,h,hd=>zkV
 | o::pre,l,i,e,e1,h,hd=>by
   rw [zdq] at h
   cases hv:zal P ops o (Env.keep (zu ops o) e) s with
   | none=>rw [hv] at h;cases h
   | some v =>
     rw [hv,zbm] at h
     refine Det.cons (ZQ hv) (fun _=>rfl) (fun ht _ s2=>ZQ (by rw [zhi (s':=s) ht];exact hv)) ?_
     refine Det.pre h ?_
     simp only [List.length_cons] at hd
     rw [show i+1+pre.length=i+(pre.length+1) from Y2]
     exact hd
theorem Det.all {l:List Oper} {i:Nat} {e1:Env} (h:zdT P ops l e s=some e1):Det P ops ws i l e s e1 s:=by
 have:=Det.pre (ws:=ws) (l:=[]) (i:=i) (e':=e1) (s':=s) h Det.nil
 simpa using this
theorem Det.call {d:Option Nat} {c:Call} {t:TypeId} {pos:String} {af:Array Edge} {gd:Option (Nat × Bool)} {l:List Oper} {i:Nat} {f:FuncId} {args args':List PV} {v:PV}
  (hg:guard? ops ⟨d,.call c,t,pos,af,gd⟩ (Env.keep (zu ops ⟨d,.call c,t,pos,af,gd⟩) e)=some true)
  (ha:vn c (Env.keep (zu ops ⟨d,.call c,t,pos,af,gd⟩) e)=some (f,args)) (hw:PV.weaks args=args') (hc:zb P f=true)
  (h:za P f args' s fun r s1=>r=v∧s1=s) (hd:Det P ops ws (i+1) l (e.put d v) s e' s'):Det P ops ws i (⟨d,.call c,t,pos,af,gd⟩::l) e s e' s':=by
 subst hw
 refine Det.cons (v:=v) (s1:=s) ?_ (fun _=>rfl) (fun ht=>by simp [uf] at ht) hd
 intro g w a hI hsl K Q hk
 have hE:=vP hsl
 rw [yR hg hE]
 simp only [if_true]
 obtain ⟨vs,hrun,hra⟩:=wS (P:=P) (o:=⟨d,.call c,t,pos,af,gd⟩) (a:=a) rfl hE ha hc
 left
 unfold Oper.wp
 rw [hrun,Oper.upon_enter]
 refine (h g w vs hI (we _ _ hra)).mono ?_
 rintro e' w' ⟨v',g',r',s',rfl,hI',hR',hX',rfl,rfl⟩
 exact hk _ _ _ hI' hX' hR'
theorem zap {p:Prop} (h:p:=by simpa using hi):p:=h
theorem Det.eff {o:Oper} {l:List Oper} {i:Nat} {v:PV} {s1:St} (hi:ws.contains i=true) (hg:guard? ops o (Env.keep (zu ops o) e)=some true)
  (ha:uV P o.op (ev (Env.keep (zu ops o) e)) s=some (v,s1)) (hd:Det P ops ws (i+1) l (e.put o.dst v) s1 e' s'):Det P ops ws i (o::l) e s e' s':=by
 have hi':i∈ws:=zap
 exact Det.cons (DOp.of_effect hg fun g w a hI hE=>wY hI (fun x=>xE hE x) ha) (fun h=>absurd hi' h) (fun _ h=>absurd hi' h) hd
theorem Det.append {d:Option Nat} {x y:Operand} {t ty:TypeId} {pos:String} {af:Array Edge} {gd:Option (Nat × Bool)} {l:List Oper} {i:Nat} {el:TypeId} {kx ky:SK} {xs ys:List PV} {v:PV} {s1:St} (hi:ws.contains i=true)
  (hg:guard? ops ⟨d,.call ⟨.builtin .append,#[x,y],#[t,t]⟩,ty,pos,af,gd⟩ (Env.keep (zu ops ⟨d,.call ⟨.builtin .append,#[x,y],#[t,t]⟩,ty,pos,af,gd⟩) e)=some true)
  (hx:ev e x=.sl kx xs) (hy:ev e y=.sl ky ys) (htd:td P t=.sl el) (hz:(zpv P el).isSome=true)
  (hex:xg P el xs) (hey:xg P el ys) (hb0:0<P.bytesOf el) (hlen:(xs.length+ys.length)*P.bytesOf el≤140737488355328) (ha:yQ P el kx xs ys s=some (v,s1))
  (hd:Det P ops ws (i+1) l (e.put d v) s1 e' s'):Det P ops ws i (⟨d,.call ⟨.builtin .append,#[x,y],#[t,t]⟩,ty,pos,af,gd⟩::l) e s e' s':=by
 have hi':i∈ws:=zap
 refine Det.cons (DOp.of_effect hg fun g w a hI hE=>?_) (fun h=>absurd hi' h) (fun _ h=>absurd hi' h) hd
 have hkeep:∀ z:Operand,z=x∨z=y→ev (Env.keep (zu ops ⟨d,.call ⟨.builtin .append,#[x,y],#[t,t]⟩,ty,pos,af,gd⟩) e) z=ev e z:=by
  intro z hz
  cases z with
  | tmp j =>
    simp only [ev]
    have hmem:j∈zu ops ⟨d,.call ⟨.builtin .append,#[x,y],#[t,t]⟩,ty,pos,af,gd⟩:=by
     unfold zu
     simp only [Op.operands,Call.operands]
     rcases hz with rfl | rfl<;>simp
    have:∀ (l:List Nat),j∈l→(Env.keep l e).get j=e.get j:=by
     intro l
     induction l with
     | nil=>intro h;simp at h
     | cons q l ih =>
       intro h
       simp only [Env.keep,List.map_cons,Env.get]
       split
       ·rename_i hq;subst hq;rfl
       ·rename_i hq
        simp at h
        rcases h with h | h
        ·exact absurd h hq
        ·exact ih h
    exact this _ hmem
  | const v=>rfl
  | func f=>rfl
  | global g=>rfl
 have h1:=xE hE x
 have h2:=xE hE y
 rw [hkeep x (.inl rfl),hx] at h1
 rw [hkeep y (.inr rfl),hy] at h2
 obtain ⟨val,w',g',r1,r2,r3,r4⟩:=Xu (ty:=ty) hI h1 h2 htd hz hex hey hb0 hlen ha
 refine ⟨val,w',g',.inl ?_,r2,r3,r4⟩
 unfold execOp
 simp only [resolve,ze,zo,invoke,builtin]
 have:Array.map a.eval #[x,y]= #[a.eval x,a.eval y]:=Y1
 rw [this,r1]
theorem Y7 {p:Prop} (h:p:=by
 show (if i+(o::l).length=i then e else E (i+(o::l).length))=e'
 rw [List.length_cons,if_neg Y2,show i+(l.length+1)=i+1+l.length from Y2];exact a3):p:=h
theorem Y8 {p:Prop} (h:p:=by
 show (if i+(o::l).length=i then s else S (i+(o::l).length))=s'
 rw [List.length_cons,if_neg Y2,show i+(l.length+1)=i+1+l.length from Y2];exact a4):p:=h
theorem zp0 {p:Prop} (h:p:=by
 exact
                      (fun j o'=>by
  have:=hl (j+1) o'
  rw [show i+1+j=i+(j+1) from Y2]
  simpa using this)):p:=h
theorem zoT {p:Prop} (h:p:=by
 subst e1
 rw [h0] at ho';cases ho'
 simp only [if_true,show ¬ (k+1=k) from Y2,if_false]
 rw [a1,a2]
 exact ⟨rfl,h2,h1,h3⟩):p:=h
theorem Det.lists:∀ {i l e s e' s'},Det P ops ws i l e s e' s'→(∀ j (o:Oper),l[j]? =some o↔ops[i+j]? =some o) →
  ∃ (V:Nat→PV) (S:Nat→St) (E:Nat→Env),E i=e∧S i=s∧E (i+l.length)=e'∧S (i+l.length)=s'∧∀ k (o:Oper),i≤k→ops[k]? =some o →
   E (k+1)=(E k).put o.dst (V k)∧(k∉ws→S (k+1)=S k)∧DOp P ops o (E k) (S k) (V k) (S (k+1))∧(uf o.op=false→k∉ws→∀ s,DOp P ops o (E k) s (V k) s):=by
 intro i l e s e' s' h
 induction h with
 | nil =>
   rename_i i e s
   intro hl
   refine ⟨fun _=>.junk,fun _=>s,fun _=>e,rfl,rfl,rfl,rfl,fun k o hk ho=>?_⟩
   have:=(hl (k-i) o).2 (by rw [show i+(k-i)=k from Y2];exact ho)
   simp at this
 | cons h1 h2 h3 hd ih =>
   rename_i i o l e s v s1 e' s'
   intro hl
   obtain ⟨V,S,E,a1,a2,a3,a4,a5⟩:=ih zp0
   have h0:ops[i]? =some o:=by have:=(hl 0 o).1 Y1;simpa using this
   refine ⟨fun k=>if k=i then v else V k,fun k=>if k=i then s else S k,fun k=>if k=i then e else E k,if_pos rfl,if_pos rfl,?_,?_,?_⟩
   ·exact Y7
   ·exact Y8
   ·intro k o' hk ho'
    by_cases e1:k=i
    ·exact zoT
    ·simp only [e1,show ¬ (k+1=i) from Y2,if_false]
     exact a5 k o' Y2 ho'
variable {N:Nat} {k:List KI} {rt:Env→St→Prop}
theorem Y65 {p:Prop} (h:p:=by
 intro i o ho
 exact List.all_eq_true.1 ok.1 o (by simpa using Array.mem_of_getElem? ho)):p:=h
theorem zjb {p:Prop} (h:p:=by refine Nat.le_trans (List.length_filter_le _ _) Y1):p:=h
theorem zi9 {p:Prop} (h:p:=by
 intro j
 rw [hnone]
 exact Xi hX1 _ _ (hE j)):p:=h
theorem Run.draw {id:Nat} (ws:List Nat) (hm:P.follows .mixedOrders=true) (hs:YM ops ws=true) (hd:Det P ops ws 0 ops.toList e s e' s') (l:List Nat) (h:Run P N k (Env.keep l e') s' rt) :
  Run P N (.code (.region id ops true)::k) e s rt:=by
 intro ok
 simp only [okK,okC,Bool.and_eq_true] at ok
 intro _ g w a hI hE hdf hN
 obtain ⟨V,S,E,a1,a2,a3,a4,a5⟩:=hd.lists (fun j o=>Y1)
 simp only [Nat.zero_add,Array.length_toList] at a3 a4
 refine wp_region_any hm ?_
 obtain ⟨hI1,hX1⟩:=wV hI (w.drawn+1)
 have hnone:∀ (p:Nat→Bool) (n:Nat),zH p (fun k=>(Array.replicate ops.size false).getD k false) n=none:=by
  intro p n
  induction n with
  | zero=>rfl
  | succ n ih =>
    unfold zH
    have:(Array.replicate ops.size false).getD n false=false:=by
     rw [Array.getD_eq_getD_getElem?]
     cases hx:(Array.replicate ops.size false)[n]? with
     | none=>rfl
     | some b=>have:=Array.mem_of_getElem? hx;simp at this;rw [this.2];rfl
    rw [this,ih];simp
 refine any_order (ws:=ws) (N:=N) (e0:=e) (V:=V) (S:=S) (E:=E) (g0:=g) (w0:=w) hs ?_ a1 (fun i o ho=>(a5 i o (Nat.zero_le _) ho).1) (fun i o ho=>(a5 i o (Nat.zero_le _) ho).2.1)
  (fun i o ho=>(a5 i o (Nat.zero_le _) ho).2.2.1) (fun i o ho=>(a5 i o (Nat.zero_le _) ho).2.2.2) ?_ ops.size _ g s _ a Y1 ?_ ?_ hI1 hX1 hdf hN ?_ ?_
 ·exact Y65
 ·intro g' w' a' k1 k2 k3 k4 k5
  rw [a4] at k1
  rw [a3] at k2
  exact ⟨g',Env.keep l e',s',k1,k2.env (VD e' l),k3,k4,k5,h ok.2⟩
 ·exact zjb
 ·intro k o ho hk
  have hk:(Array.replicate ops.size false).getD k false=true:=hk
  rw [Array.getD_eq_getD_getElem?] at hk
  cases hx:(Array.replicate ops.size false)[k]? with
  | none=>rw [hx] at hk;cases hk
  | some b=>have:=Array.mem_of_getElem? hx;simp at this;rw [hx,this.2] at hk;cases hk
 ·exact zi9
 ·rw [hnone];exact a2.symm
end
end Go.PM
namespace Go.PM
open Go
def zd8 (P:Program) (t:TypeId) (name:String):Option (FuncId × Bool × TypeId) :=
 match P.info? t with
 | none=>none
 | some i=>match i.methods.find? (·.name==name),P.underlying t with
   | some m,some (.pointer e)=>match m.path.toList,m.func with
     | [],some (f,pr)=>some (f,pr,e)
     | _,_=>none
   | _,_=>none
theorem zll (x:Value) (ys:Array Value):(#[x]++ys)[0]? =some x:=by
 rw [← Array.getElem?_toList]
 simp
theorem zkR (x:Value) (ys:Array Value):(#[x]++ys).extract 1 (#[x]++ys).size=ys:=by
 rcases ys with ⟨l⟩
 apply Array.ext'
 simp
theorem zmI {P:Program} {w:World} (ts:Array TypeId) (ty:TypeId) (p:Addr) (x y:ByteArray):(Builtin.ssaWrapNilChk_ ts ty #[.pointer (some p),.string x,.string y]).run P w=.ok (.pointer (some p)) w:=rfl
theorem zaS {P:Program} {t:TypeId} {name:String} {f:FuncId} {pr:Bool} {e:TypeId} (h:zd8 P t name=some (f,pr,e)) (fuel:Nat) (w:World) (p:Addr) {val:Value} (hv:(loadVar e p).run P w=.ok val w∨pr=true) :
  (method (fuel+1) t (.pointer (some p)) name).run P w=.ok (f,if pr then .pointer (some p) else val) w:=by
 unfold zd8 at h
 cases hi:P.info? t with
 | none=>rw [hi] at h;cases h
 | some i =>
   rw [hi] at h
   simp only at h
   split at h
   ·rename_i m e' hm hu
    split at h
    ·rename_i f' pr' hp hf
     cases h
     have hpe:m.path= #[]:=by apply Array.ext';simpa using hp
     unfold method
     simp only [ze,xU hi,hm,hp,follow,zo,hf]
     unfold receiverAt
     simp only [ze,zh hu]
     cases pr with
     | true=>simp only [Place.get,zo,if_true]
     | false =>
       have hv':(loadVar e p).run P w=.ok val w:=by rcases hv with hv | hv;exact hv;cases hv
       simp only [Place.get,zo,ze,hpe,Array.isEmpty,List.size_toArray,List.length_nil,decide_true,if_true,zmI,strVal,asAddr,hv',Bool.false_eq_true,if_false]
    ·cases h
   ·cases h
def zas (P:Program) (c:Call) (e:Env) (s:St):Option (FuncId × List PV) :=
 match c.callee with
 | .invoke recv name=>match ev e recv with
   | .iface t (.ptr id i j)=>match zd8 P t name with
     | some (f,true,_)=>some (f,.ptr id i j::c.args.toList.map (ev e))
     | some (f,false,el)=>match UO P el (.ptr id i j) s with
       | some v=>some (f,v::c.args.toList.map (ev e))
       | none=>none
     | none=>none
   | _=>none
 | _=>none
theorem zfa {P:Program} {c:Call} {o:Oper} {g s w e f args} {a:Act} (hop:o.op=.call c) (hI:Inv P g s w) (hE:yY g w e a.tmps) (h:zas P c e s=some (f,args)) (hc:zb P f=true) :
  ∃ vs:Array Value,(execOp a.eval o).run P w=.ok (.enter f vs) w∧RA g w args vs.toList:=by
 unfold zas at h
 obtain ⟨callee,cargs,ats⟩:=c
 simp only at h
 cases callee with
 | invoke recv name =>
   simp only at h
   split at h
   case h_2=>cases h
   rename_i t id i j hev
   have hx:=xE hE recv
   rw [hev] at hx
   simp only [R] at hx
   obtain ⟨x,hx,hlt,b,sz,hrow,rfl⟩:=hx
   have hptr:R g w (.ptr id i j) (.pointer (some ⟨b,i*sz+j,none⟩)):=by simp only [R];exact ⟨hlt,b,sz,hrow,rfl⟩
   have fuel:∃ n,P.types.size+Made.depth=n+1:=⟨P.types.size+Made.depth-1,by unfold Made.depth;omega⟩
   obtain ⟨n,hn⟩:=fuel
   have go:∀ rv:Value,(method (n+1) t (.pointer (some ⟨b,i*sz+j,none⟩)) name).run P w=.ok (f,rv) w→(execOp a.eval o).run P w=.ok (.enter f (#[rv]++cargs.map a.eval)) w:=by
    intro rv hm
    unfold execOp
    rw [hop]
    simp only [resolve,hx,ze,zo,invoke]
    simp only [zll,zkR]
    unfold callMethod
    simp only [ze]
    rw [show (program.run P w)=.ok P w from rfl]
    simp only [hn,hm]
    exact Vj hc
   split at h
   ·rename_i f' e' hm
    cases h
    have:=zaS (w:=w) (val:=undef) hm n ⟨b,i*sz+j,none⟩ (.inr rfl)
    refine ⟨_,go _ this,?_⟩
    simp only [if_true,Array.toList_append,List.toList_toArray,List.cons_append,List.nil_append,Array.toList_map,RA]
    exact ⟨_,_,rfl,hptr,zh8 hE _⟩
   ·rename_i f' el hm
    split at h
    ·rename_i v hl
     cases h
     obtain ⟨val,hv,hr⟩:=Ux hI hptr hl
     have hv':(loadVar el ⟨b,i*sz+j,none⟩).run P w=.ok val w:=by
      unfold Instr.loadAt at hv
      simpa only [Instr.sureAddr,ze,zo] using hv
     have:=zaS (w:=w) (val:=val) hm n ⟨b,i*sz+j,none⟩ (.inl hv')
     refine ⟨_,go _ this,?_⟩
     simp only [Bool.false_eq_true,if_false,Array.toList_append,List.toList_toArray,List.cons_append,List.nil_append,Array.toList_map,RA]
     exact ⟨_,_,rfl,hr,zh8 hE _⟩
    ·cases h
   ·cases h
 | _=>cases h
section
variable {P:Program} {N:Nat} {k:List KI} {e:Env} {s:St} {rt:Env→St→Prop}
theorem zm.invoke {ops:Array Oper} {d:Option Nat} {c:Call} {t:TypeId} {pos:String} {af:Array Edge} {gd:Option (Nat × Bool)} {l:List Oper} {f:FuncId} {args:List PV}
  (hg:guard? ops ⟨d,.call c,t,pos,af,gd⟩ e=some true) (ha:zas P c e s=some (f,args)) (hc:zb P f=true)
  (h:za P f args s fun r s'=>zm P N ops l k (e.put d r) s' rt):zm P N ops (⟨d,.call c,t,pos,af,gd⟩::l) k e s rt :=
 zm.call_ hg (fun g w a hI hE=>zfa rfl hI hE ha hc) h
end
end Go.PM
namespace Go.PM
open Go
theorem ziy (s:St) (b b':Blk):(s.new b).set s.nxt (some b')=s.new b':=by
 simp only [St.new,St.set,St.mk.injEq,true_and]
 funext i
 split<;>rfl
theorem zaB (s:St) (b:Blk) (id:Nat) (b':Option Blk) (h:id≠s.nxt):(s.new b).set id b'=(s.set id b').new b:=by
 simp only [St.new,St.set,St.mk.injEq,true_and]
 funext i
 by_cases h1:i=id
 ·subst h1;simp [h]
 ·simp [h1]
theorem ye (s:St) (id:Nat) (b b':Option Blk):(s.set id b).set id b'=s.set id b':=by
 simp only [St.set,St.mk.injEq,true_and]
 funext i
 split<;>rfl
def zhL (P:Program) (e:TypeId) (id len:Nat) (ys:List PV) (s:St):Option (PV × St) :=
 match s.blk id with
 | some (.row ty els)=>if ys≠[]∧P.cellsOf e=P.cellsOf ty∧len≤els.length then some (.own s.nxt 0 (len+ys.length),(s.set id none).new (.row ty (els.take len++ys))) else none
 | _=>none
def wB (P:Program) (e:TypeId) (k:SK) (xs ys:List PV) (s:St):Option (PV × St) :=
 match k with
 | .nil | .clip | .unc=>if ys≠[] then some (.own s.nxt 0 (xs.length+ys.length),s.new (.row e (xs++ys))) else none
 | _=>none
theorem YD {P:Program} {g s w t ty e k k2 xs ys v s' va vb} (h:Inv P g s w) (hx:R g w (.sl k xs) va) (hy:R g w (.sl k2 ys) vb) (htd:td P t=.sl e) (hz:(zpv P e).isSome=true)
  (hex:xg P e xs) (hey:xg P e ys) (hb0:0<P.bytesOf e) (hlen:(xs.length+ys.length)*P.bytesOf e≤140737488355328) (ha:wB P e k xs ys s=some (v,s')) :
  ∃ val w' g',(Builtin.append_ #[t,t] ty #[va,vb]).run P w=.ok val w'∧Inv P g' s' w'∧Ext g w g' w'∧R g' w' v val:=by
 have hkind:(k=.nil∨k=.clip∨k=.unc)∧ys≠[]∧v=.own s.nxt 0 (xs.length+ys.length)∧s'=s.new (.row e (xs++ys)):=by
  unfold wB at ha
  split at ha
  all_goals first |(cases ha;done) | skip
  all_goals
   split at ha
   ·rename_i hc;cases ha;exact ⟨Y1,hc,rfl,rfl⟩
   ·cases ha
 obtain ⟨hk,hys,rfl,rfl⟩:=hkind
 have hu:=xp htd
 obtain ⟨z,hz⟩:=Option.isSome_iff_exists.1 hz
 obtain ⟨zv,hz1,hz2,hz3,hz4,hpos,hz6,hz7⟩:=yZ (P:=P) (w:=w) hz
 obtain ⟨i,hi,hsz⟩:=vA hpos
 have hiz:i.zero=some zv:=by
  unfold zeroValue at hz1
  rw [ze,xU hi] at hz1
  simp only at hz1
  cases hq:i.zero with
  | none=>rw [hq] at hz1;simp [unsupported,Sem.run] at hz1
  | some z'=>rw [hq] at hz1;simp [zo] at hz1;subst hz1;rfl
 have hby:P.bytesOf e=i.bytes:=zlX
 obtain ⟨us,hus,hru⟩:=zbw hy
 have hue:=wG hey hru
 have hul:=zV hru
 have hn:=hus.len (P:=P)
 have hm:0<us.length:=by rw [← hul];exact List.length_pos_iff.2 hys
 obtain ⟨base,cap,vs,rfl,hvs,hrv,hcap⟩:∃ base cap vs,va=.slice base vs.length cap∧uP w va vs∧RA g w xs vs∧cap=vs.length:=by
  have hnil:R g w (.sl .nil xs) va→∃ base cap vs,va=.slice base vs.length cap∧uP w va vs∧RA g w xs vs∧cap=vs.length:=fun hx=>by
   obtain ⟨e1,e2⟩:=ZO.1 hx
   exact ⟨none,0,[],by simpa using e1,.inl ⟨none,0,e1,rfl⟩,by rw [e2];simp [RA],rfl⟩
  have hclip:R g w (.sl .clip xs) va→∃ base cap vs,va=.slice base vs.length cap∧uP w va vs∧RA g w xs vs∧cap=vs.length:=fun hx=>by
   rcases uZ hx Y1 rfl with ⟨b,o,cap,sz,vs,e1,h1,h2,h3,h4,h5,h6,h7,h8⟩ | ⟨_,rfl,x,e1⟩
   case inr=>exact ⟨_,0,[],by simpa using e1,.inl ⟨_,0,e1,rfl⟩,zaZ,rfl⟩
   have hl:=zV h8
   exact ⟨_,cap,vs,zkT,.inr ⟨b,o,cap,zkT,h5⟩,h8,by rw [← hl];exact h3 rfl⟩
  rcases hk with rfl | rfl | rfl
  ·exact hnil hx
  ·exact hclip hx
  ·rcases zdw.1 hx with hx | hx
   ·exact hnil hx
   ·exact hclip hx
 have hve:=wG hex hrv
 have hvl:=zV hrv
 have ho:=hvs.drew.cells (P:=P) (size:=P.cellsOf e) (fun v hv=>(hve v hv).1)
 have hn':=hus.drew.cells (P:=P) (size:=P.cellsOf e) (fun v hv=>(hue v hv).1)
 rw [← hsz] at ho hn'
 have hfit:=growslice_fits (need:=vs.length+us.length) (old:=cap) (bytes:=i.bytes) Y2 (by rw [← hby,← hul,← hvl];exact hlen)
 have hrun:=zaN (P:=P) (w:=w) (t:=t) (ty:=ty) hu hi hiz hn ho hn' Y2 (by
  have:=Nat.le_mul_of_pos_right (xs.length+ys.length) hb0
  omega) hfit
 have hge:=grownCap_ge w (vs.length+us.length) cap e
 obtain ⟨hI1,hE1⟩:=wV h (w.drawn+1)
 have hcat:∀ v∈vs++us,v.cells.size=P.cellsOf e∧∀ x∈v.cells.toList,x.flat=true:=by
  intro v hv
  rcases List.mem_append.1 hv with hv | hv
  ·exact hve v hv
  ·exact hue v hv
 obtain ⟨g',m1,m2,m3,m4⟩:=XG (t:=e) (ty:=e) (els:=xs++ys) (vs:=vs++us) (c:=(flat vs).toArray++(flat us).toArray++Builtin.zeroCells zv.cells (grownCap w (vs.length+us.length) cap e-(vs.length+us.length))) hI1 hpos
  (yN (yX hE1 _ _ hrv) (yX hE1 _ _ hru)) (by rw [wA];simp) hcat
 refine ⟨_,_,g',hrun,m1,hE1.trans m2,?_⟩
 simp only [R]
 refine ⟨by rw [m4];exact Nat.lt_succ_self _,w.heap.size,P.cellsOf e,grownCap w (vs.length+us.length) cap e,m3,Y2,by rw [hul,hvl];simp,?_⟩
 have hcz:=Vc { w with drawn:=w.drawn+1 } ((flat vs).toArray++(flat us).toArray++Builtin.zeroCells zv.cells (grownCap w (vs.length+us.length) cap e-(vs.length+us.length))) e (0,0)
 show (0+grownCap w (vs.length+us.length) cap e)*P.cellsOf e≤yJ (World.newB { w with drawn:=w.drawn+1 } _) ({ w with drawn:=w.drawn+1 }:World).heap.size
 rw [hcz]
 simp only [Array.size_append,List.size_toArray,size_zeroCells,hz4,yp (fun v hv=>(hve v hv).1),yp (fun v hv=>(hue v hv).1)]
 rw [← Nat.add_mul,← Nat.add_mul]
 apply Nat.mul_le_mul_right
 omega
section
variable {P:Program} {N:Nat} {k:List KI} {e:Env} {s:St} {rt:Env→St→Prop}
theorem ZS {P:Program} {w w':World} {a:Act} {o:Oper} {x y:Operand} {t:TypeId} {val:Value} (hop:o.op=.call ⟨.builtin .append,#[x,y],#[t,t]⟩)
  (h:(Builtin.append_ #[t,t] o.type #[a.eval x,a.eval y]).run P w=.ok val w'):(execOp a.eval o).run P w=.ok (.value val) w':=by
 unfold execOp
 rw [hop]
 simp only [resolve,ze,zo,invoke,builtin]
 have:Array.map a.eval #[x,y]= #[a.eval x,a.eval y]:=Y1
 rw [this,h]
theorem zm.appendFirst {ops:Array Oper} {d:Option Nat} {x y:Operand} {t ty:TypeId} {pos:String} {af:Array Edge} {gd:Option (Nat × Bool)} {l:List Oper} {el:TypeId} {kx ky:SK} {xs ys:List PV} {v:PV} {s':St}
  (hg:guard? ops ⟨d,.call ⟨.builtin .append,#[x,y],#[t,t]⟩,ty,pos,af,gd⟩ e=some true) (hx:ev e x=.sl kx xs) (hy:ev e y=.sl ky ys) (htd:td P t=.sl el) (hz:(zpv P el).isSome=true)
  (hex:xg P el xs) (hey:xg P el ys) (hb0:0<P.bytesOf el) (hlen:(xs.length+ys.length)*P.bytesOf el≤140737488355328) (ha:wB P el kx xs ys s=some (v,s'))
  (h:zm P N ops l k (e.put d v) s' rt):zm P N ops (⟨d,.call ⟨.builtin .append,#[x,y],#[t,t]⟩,ty,pos,af,gd⟩::l) k e s rt:=by
 refine zm.eff hg (fun g w a hI hE=>?_) h
 have h1:=xE hE x
 have h2:=xE hE y
 rw [hx] at h1
 rw [hy] at h2
 obtain ⟨val,w',g',r1,r2,r3,r4⟩:=YD (ty:=ty) hI h1 h2 htd hz hex hey hb0 hlen ha
 exact ⟨val,w',g',.inl (ZS rfl r1),r2,r3,r4⟩
end
end Go.PM
namespace Go.PM
open Go
theorem znc (i:Nat):Env.get [] i=.junk:=rfl
theorem zln (k:Nat) (v:PV) (e:Env) (i:Nat):Env.get ((k,v)::e) i=if i=k then v else Env.get e i:=rfl
theorem zlt (e:Env) (d:Nat) (v:PV):Env.put e (some d) v=(d,v)::e:=rfl
theorem zkP (e:Env) (v:PV):Env.put e none v=e:=rfl
theorem znP (e:Env) (t:Nat):ev e (.tmp t)=e.get t:=rfl
theorem zlH (e:Env) (f:FuncId):ev e (.func f)=.fn (.func f) [] []:=rfl
theorem znQ (e:Env) (k:IntKind) (n:Int):ev e (.const (.int k n))=.int k n:=rfl
theorem znd (e:Env) (b:Bool):ev e (.const (.bool b))=.bool b:=rfl
theorem zoi (e:Env) (s:ByteArray):ev e (.const (.string s))=.str s:=rfl
theorem zm3 (e:Env):ev e (.const (.pointer none))=.nilp:=rfl
theorem zmM (e:Env):ev e (.const (.slice none 0 0))=.sl .nil []:=rfl
theorem zmx (e:Env):ev e (.const (.map none))=.nilm:=rfl
theorem zlU (e:Env):ev e (.const .nilFunc)=.nilf:=rfl
theorem zmd (e:Env):ev e (.const .nilIface)=.nili:=rfl
theorem zku (e:Env):Env.keep [] e=[]:=rfl
theorem zjA (i:Nat) (l:List Nat) (e:Env):Env.keep (i::l) e=(i,e.get i)::Env.keep l e:=rfl
theorem YN (s:St) (b:Blk) (i:Nat):(s.new b).blk i=if i=s.nxt then some b else s.blk i:=rfl
theorem zq (s:St) (b:Blk):(s.new b).nxt=s.nxt+1:=rfl
theorem wd (s:St) (id:Nat) (b:Option Blk) (i:Nat):(s.set id b).blk i=if i=id then b else s.blk i:=rfl
theorem zy (s:St) (id:Nat) (b:Option Blk):(s.set id b).blk id=b:=if_pos rfl
theorem zt (s:St) (id:Nat) (b:Option Blk):(s.set id b).nxt=s.nxt:=rfl
attribute [go_sem] znc zln zlt zkP znP zlH znQ znd zoi zm3 zmM zmx zlU zmd zku zjA YN zq wd zt ziy
attribute [go_sem] zkS zcF zaz zkc uV XQ zmz UO zgt zdF zgx spl Xc YH zeI zdX zd0 VQ ug Yb
 zmG zlL zaD aUn zie Vq zdP zik zhm zmw zm0 YL ZN ung zii VE Uf guard? ziS zhD zg0 zjM zjQ zmb zkf zkW ziz ziB zlw zob PV.cells PV.ok vn Xp zl6 zhf zbu zkk zdq zbm zal Wv zu wP zas zhL wB Yv Op.operands Call.operands zau Xf Vw ZT Vs ZL zfT
theorem zhl (i:Nat):uS i []=[]:=rfl
theorem zfN (i:Nat) (p:PV) (ps:List PV):uS i (p::ps)=(i,p)::uS (i+1) ps:=rfl
attribute [go_sem] zhl zfN List.getElem?_cons_zero List.getElem?_cons_succ List.getElem?_toArray Option.bind_some Option.map_some Option.map_none List.length_cons List.length_nil List.drop_succ_cons List.drop_zero List.take_succ_cons List.take_zero
 List.set_cons_zero List.set_cons_succ List.head?_cons and_true true_and and_self Bool.or_false Bool.false_or Bool.and_false Bool.false_and Bool.true_and Bool.and_true Bool.not_true Bool.not_false Bool.true_or Bool.or_true
 beq_true beq_false beq_self_eq_true cond_true cond_false List.map_cons List.map_nil List.all_cons List.all_nil if_true if_false Bool.false_eq_true List.cons_append List.nil_append List.append_nil List.filterMap_cons List.filterMap_nil Option.toList_some Option.toList_none List.map_cons List.map_nil List.isEmpty_nil Nat.zero_add Nat.add_zero ne_eq not_true_eq_false not_false_eq_true
 Bool.cond_false_right Bool.cond_false_left Bool.cond_true_left Bool.cond_true_right Bool.not_or_self Bool.or_not_self Bool.not_not Bool.not_and_self Option.some.injEq Option.getD_some Option.getD_none Int.toNat_natCast
theorem nx1 (n:Nat):(n=n+1)=False:=Y1
theorem ny1 (n:Nat):(n+1=n)=False:=Y1
theorem nx2 (n:Nat):(n=n+2)=False:=Y1
theorem ny2 (n:Nat):(n+2=n)=False:=Y1
theorem nx3 (n:Nat):(n=n+3)=False:=Y1
theorem ny3 (n:Nat):(n+3=n)=False:=Y1
theorem nx4 (n:Nat):(n=n+4)=False:=Y1
theorem ny4 (n:Nat):(n+4=n)=False:=Y1
theorem nx5 (n:Nat):(n=n+5)=False:=Y1
theorem ny5 (n:Nat):(n+5=n)=False:=Y1
theorem nx6 (n:Nat):(n=n+6)=False:=Y1
theorem ny6 (n:Nat):(n+6=n)=False:=Y1
theorem nx7 (n:Nat):(n=n+7)=False:=Y1
theorem ny7 (n:Nat):(n+7=n)=False:=Y1
theorem nx8 (n:Nat):(n=n+8)=False:=Y1
theorem ny8 (n:Nat):(n+8=n)=False:=Y1
theorem nx9 (n:Nat):(n=n+9)=False:=Y1
theorem ny9 (n:Nat):(n+9=n)=False:=Y1
theorem zqA (n:Nat):(n=n+10)=False:=Y1
theorem zqB (n:Nat):(n+10=n)=False:=Y1
theorem zqE (n:Nat):(n=n+11)=False:=Y1
theorem zqF (n:Nat):(n+11=n)=False:=Y1
theorem zqh (n:Nat):(n=n+12)=False:=Y1
theorem zqm (n:Nat):(n+12=n)=False:=Y1
theorem zqH (n:Nat):(n=n+13)=False:=Y1
theorem zqv (n:Nat):(n+13=n)=False:=Y1
theorem zqw (n:Nat):(n=n+14)=False:=Y1
theorem zqo (n:Nat):(n+14=n)=False:=Y1
theorem zqk (n:Nat):(n=n+15)=False:=Y1
theorem zqs (n:Nat):(n+15=n)=False:=Y1
theorem zqG (n:Nat):(n=n+16)=False:=Y1
theorem zqC (n:Nat):(n+16=n)=False:=Y1
theorem zqq (n:Nat):(n=n+17)=False:=Y1
theorem zqN (n:Nat):(n+17=n)=False:=Y1
theorem zqt (n:Nat):(n=n+18)=False:=Y1
theorem zqI (n:Nat):(n+18=n)=False:=Y1
theorem zqK (n:Nat):(n=n+19)=False:=Y1
theorem zqn (n:Nat):(n+19=n)=False:=Y1
theorem zqz (n:Nat):(n=n+20)=False:=Y1
theorem zqy (n:Nat):(n+20=n)=False:=Y1
theorem zqJ (n:Nat):(n=n+21)=False:=Y1
theorem zqu (n:Nat):(n+21=n)=False:=Y1
theorem zqr (n:Nat):(n=n+22)=False:=Y1
theorem zqi (n:Nat):(n+22=n)=False:=Y1
theorem zql (n:Nat):(n=n+23)=False:=Y1
theorem zqp (n:Nat):(n+23=n)=False:=Y1
theorem zqx (n:Nat):(n=n+24)=False:=Y1
theorem zqM (n:Nat):(n+24=n)=False:=Y1
attribute [go_sem] nx1 ny1 nx2 ny2 nx3 ny3 nx4 ny4 nx5 ny5 nx6 ny6 nx7 ny7 nx8 ny8 nx9 ny9 zqA zqB zqE zqF zqh zqm zqH zqv zqw zqo zqk zqs zqG zqC zqq zqN zqt zqI zqK zqn zqz zqy zqJ zqu zqr zqi zql zqp zqx zqM
attribute [go_sem] PV.weak PV.weaks PV.blw PV.blws SK.base
theorem xc {α:Type} (f:α→PV) (h:∀ x,(f x).weak=f x) (l:List α):PV.weaks (l.map f)=l.map f:=by
 rw [uj,List.map_map]
 exact List.map_congr_left fun x _=>h x
theorem wo {α:Type} (f:α→PV) (n:Nat) (h:∀ x,(f x).blw n):∀ (l:List α),PV.blws n (l.map f)
 | []=>by simp only [List.map_nil,PV.blws]
 | x::l=>by simp only [List.map_cons,PV.blws];exact ⟨h x,wo f n h l⟩
end Go.PM
namespace Go.PM
open Go
section
variable {P:Program} {N:Nat} {k:List KI} {e e':Env} {s:St} {rt:Env→St→Prop}
theorem zm.live' {ops:Array Oper} (l:List Nat) (he:Env.keep l e=e') (h:Run P N k e' s rt):zm P N ops [] k e s rt:=by
 subst he;exact zm.live l h
def zj (P:Program) (ops:Array Oper) (ws:List Nat) (i:Nat) (l:List Oper) (e:Env) (s:St) (K:Env→St→Prop):Prop:=∃ e' s',Det P ops ws i l e s e' s'∧K e' s'
theorem Run.drawC {ops:Array Oper} {id:Nat} (ws:List Nat) (l:List Nat) (hm:P.follows .mixedOrders=true) (hs:YM ops ws=true)
  (hd:zj P ops ws 0 ops.toList e s (fun e2 s2=>Run P N k (Env.keep l e2) s2 rt)):Run P N (.code (.region id ops true)::k) e s rt:=by
 obtain ⟨e2,s2,h1,h2⟩:=hd
 exact Run.draw ws hm hs h1 l h2
theorem zj.nil {ops:Array Oper} {ws:List Nat} {i:Nat} {K:Env→St→Prop} (h:K e s):zj P ops ws i [] e s K:=⟨e,s,Det.nil,h⟩
theorem zj.pre {ops:Array Oper} {ws:List Nat} {i:Nat} {K:Env→St→Prop} {pre l:List Oper} {e1:Env} (h:zdT P ops pre e s=some e1) (hd:zj P ops ws (i+pre.length) l e1 s K):zj P ops ws i (pre++l) e s K:=by
 obtain ⟨e2,s2,h1,h2⟩:=hd
 exact ⟨e2,s2,Det.pre h h1,h2⟩
theorem zj.all {ops:Array Oper} {ws:List Nat} {i:Nat} {K:Env→St→Prop} {l:List Oper} {e1:Env} (h:zdT P ops l e s=some e1) (hk:K e1 s):zj P ops ws i l e s K:=⟨e1,s,Det.all h,hk⟩
theorem zj.call {ops:Array Oper} {ws:List Nat} {i:Nat} {K:Env→St→Prop} {d:Option Nat} {c:Call} {t:TypeId} {pos:String} {af:Array Edge} {gd:Option (Nat × Bool)} {l:List Oper} {f:FuncId} {args args':List PV} {v:PV}
  (hg:guard? ops ⟨d,.call c,t,pos,af,gd⟩ (Env.keep (zu ops ⟨d,.call c,t,pos,af,gd⟩) e)=some true)
  (ha:vn c (Env.keep (zu ops ⟨d,.call c,t,pos,af,gd⟩) e)=some (f,args)) (hw:PV.weaks args=args') (hc:zb P f=true)
  (h:za P f args' s fun r s1=>r=v∧s1=s) (hd:zj P ops ws (i+1) l (e.put d v) s K):zj P ops ws i (⟨d,.call c,t,pos,af,gd⟩::l) e s K:=by
 obtain ⟨e2,s2,h1,h2⟩:=hd
 exact ⟨e2,s2,Det.call hg ha hw hc h h1,h2⟩
theorem zj.eff {ops:Array Oper} {ws:List Nat} {i:Nat} {K:Env→St→Prop} {o:Oper} {l:List Oper} {v:PV} {s1:St} (hi:ws.contains i=true) (hg:guard? ops o (Env.keep (zu ops o) e)=some true)
  (ha:uV P o.op (ev (Env.keep (zu ops o) e)) s=some (v,s1)) (hd:zj P ops ws (i+1) l (e.put o.dst v) s1 K):zj P ops ws i (o::l) e s K:=by
 obtain ⟨e2,s2,h1,h2⟩:=hd
 exact ⟨e2,s2,Det.eff hi hg ha h1,h2⟩
theorem zj.effect {ops:Array Oper} {ws:List Nat} {i:Nat} {K:Env→St→Prop} {o:Oper} {l:List Oper} {v:PV} {s1:St} (hi:ws.contains i=true) (hg:guard? ops o (Env.keep (zu ops o) e)=some true)
  (he:∀ g w (a:Act),Inv P g s w→yY g w (Env.keep (zu ops o) e) a.tmps→vT P o g w a v s1) (hd:zj P ops ws (i+1) l (e.put o.dst v) s1 K):zj P ops ws i (o::l) e s K:=by
 obtain ⟨e2,s2,h1,h2⟩:=hd
 have hi':i∈ws:=zap
 exact ⟨e2,s2,Det.cons (DOp.of_effect hg he) (fun h=>absurd hi' h) (fun _ h=>absurd hi' h) h1,h2⟩
theorem zj.appendFirst {ops:Array Oper} {ws:List Nat} {i:Nat} {K:Env→St→Prop} {d:Option Nat} {x y:Operand} {t ty:TypeId} {pos:String} {af:Array Edge} {gd:Option (Nat × Bool)} {l:List Oper} {el:TypeId} {kx ky:SK} {xs ys:List PV} {v:PV} {s1:St}
  (hi:ws.contains i=true) (hg:guard? ops ⟨d,.call ⟨.builtin .append,#[x,y],#[t,t]⟩,ty,pos,af,gd⟩ (Env.keep (zu ops ⟨d,.call ⟨.builtin .append,#[x,y],#[t,t]⟩,ty,pos,af,gd⟩) e)=some true)
  (hx:ev (Env.keep (zu ops ⟨d,.call ⟨.builtin .append,#[x,y],#[t,t]⟩,ty,pos,af,gd⟩) e) x=.sl kx xs) (hy:ev (Env.keep (zu ops ⟨d,.call ⟨.builtin .append,#[x,y],#[t,t]⟩,ty,pos,af,gd⟩) e) y=.sl ky ys)
  (htd:td P t=.sl el) (hz:(zpv P el).isSome=true) (hex:xg P el xs) (hey:xg P el ys) (hb0:0<P.bytesOf el) (hlen:(xs.length+ys.length)*P.bytesOf el≤140737488355328) (ha:wB P el kx xs ys s=some (v,s1))
  (hd:zj P ops ws (i+1) l (e.put d v) s1 K):zj P ops ws i (⟨d,.call ⟨.builtin .append,#[x,y],#[t,t]⟩,ty,pos,af,gd⟩::l) e s K:=by
 refine zj.effect hi hg (fun g w a hI hE=>?_) hd
 have h1:=xE hE x
 have h2:=xE hE y
 rw [hx] at h1
 rw [hy] at h2
 obtain ⟨val,w',g',r1,r2,r3,r4⟩:=YD (ty:=ty) hI h1 h2 htd hz hex hey hb0 hlen ha
 exact ⟨val,w',g',.inl (ZS rfl r1),r2,r3,r4⟩
theorem zm.bcase {ops:Array Oper} {l:List Oper} {b:Bool} (i:Nat) (hi:e.get i=.bool b) (ht:b=true→zm P N ops l k ((i,.bool true)::e) s rt) (hf:b=false→zm P N ops l k ((i,.bool false)::e) s rt):zm P N ops l k e s rt:=by
 intro ok okk idx hidx g w a hI hE hd hN
 have hv:=hE i
 rw [hi] at hv
 cases b with
 | true=>exact ht rfl ok okk idx hidx g w a hI (hE.cons hv) hd hN
 | false=>exact hf rfl ok okk idx hidx g w a hI (hE.cons hv) hd hN
def xB (e:Env) (i:Nat):Nat:=match e.get i with
 | .int _ n=>n.toNat
 | _=>0
theorem zi {n:Int} (h: -9223372036854775808≤n∧n≤9223372036854775807):IntKind.i64.wrap n=n:=by
 simp [IntKind.wrap,IntKind.signed,IntKind.bits]
 omega
theorem Run.envEq' (he:e=e') (h:Run P N k e' s rt):Run P N k e s rt:=by
 subst he;exact h
end
end Go.PM
namespace Go.PM
open Go
def yA (s:St) (k:SK) (n z:Nat):Prop:=k=.nil∧n=0∨(k=.clip∨k=.unc)∨∃ t,k=.tok t z∧s.blk t=some (.tok n)
theorem zle {s:St} (h:s.wf) (b:Blk):(s.new b).wf:=fun i hi=>by
 have hi:s.nxt+1≤i:=hi
 show (if i=s.nxt then some b else s.blk i)=none
 rw [if_neg Y2]
 exact h i Y2
structure YP (s s':St) (k k':SK):Prop where
 wf:s.wf→s'.wf
 nxt:s.nxt≤s'.nxt
 rest:∀ i,i<s.nxt→(∀ z,k≠.tok i z)→s'.blk i=s.blk i
 fresh:∀ i z,k'=.tok i z→(∃ z',k=.tok i z')∨s.nxt≤i∧i<s'.nxt
theorem yA.mono {s s':St} {k:SK} {n z:Nat} (h:yA s k n z) (hf:∀ t,k=.tok t z→s'.blk t=s.blk t):yA s' k n z:=by
 rcases h with h | h | ⟨t,h1,h2⟩
 ·exact .inl h
 ·exact .inr (.inl h)
 ·exact .inr (.inr ⟨t,h1,by rw [hf t h1];exact h2⟩)
theorem yA.ne {s:St} {k:SK} {n z t z':Nat} {b:Blk} (h:yA s k n z) (hk:k=.tok t z') (i:Nat) (hb:s.blk i=some b) (hr:∀ n,b≠.tok n):t≠i:=by
 rintro rfl
 rcases h with ⟨h,_⟩ | h | ⟨t',h1,h2⟩
 ·rw [hk] at h;cases h
 ·rw [hk] at h;rcases h with h | h<;>cases h
 ·rw [hk] at h1;cases h1;rw [hb] at h2;exact hr _ (Option.some.inj h2)
theorem yA.append {P:Program} {s:St} {e:TypeId} {k:SK} {xs ys:List PV} (h:yA s k xs.length (P.cellsOf e)) (hy:ys≠[]) :
  ∃ k' s',yQ P e k xs ys s=some (.sl k' (xs++ys),s')∧yA s' k' (xs.length+ys.length) (P.cellsOf e)∧YP s s' k k':=by
 have new:(k=.nil∨k=.clip∨k=.unc)→yQ P e k xs ys s=some (.sl (.tok s.nxt (P.cellsOf e)) (xs++ys),s.new (.tok (xs.length+ys.length)))∧yA (s.new (.tok (xs.length+ys.length))) (.tok s.nxt (P.cellsOf e)) (xs.length+ys.length) (P.cellsOf e)∧YP s (s.new (.tok (xs.length+ys.length))) k (.tok s.nxt (P.cellsOf e)):=by
  intro hk
  refine ⟨?_,.inr (.inr ⟨s.nxt,rfl,by simp [St.new]⟩),⟨fun hwf=>zle hwf _,Nat.le_succ _,fun i hi _=>?_,fun i z e=>.inr (by cases e;exact ⟨Nat.le_refl _,Nat.lt_succ_self _⟩)⟩⟩
  ·unfold yQ
   rw [if_neg hy]
   rcases hk with rfl | rfl | rfl<;>rfl
  ·show (if i=s.nxt then _ else s.blk i)=s.blk i
   rw [if_neg Y2]
 rcases h with ⟨rfl,_⟩ | h | ⟨t,rfl,ht⟩
 ·exact ⟨_,_,new (.inl rfl)⟩
 ·exact ⟨_,_,new (.inr h)⟩
 ·refine ⟨.tok t (P.cellsOf e),s.set t (some (.tok (xs.length+ys.length))),?_,.inr (.inr ⟨t,rfl,zy _ _ _⟩),⟨fun hwf i hi=>by
   rw [wd]
   split
   ·rename_i e
    subst e
    rw [hwf i hi] at ht
    cases ht
   ·exact hwf i hi,Nat.le_refl _,fun i hi hk=>?_,fun i z e=>.inl ⟨_,by cases e;rfl⟩⟩⟩
  ·unfold yQ
   rw [if_neg hy]
   simp only [ht]
   simp only [and_self,if_true]
  ·rw [wd,if_neg]
   rintro rfl
   exact hk _ rfl
section
variable {P:Program} {N:Nat} {k:List KI} {e e':Env} {s:St} {rt:Env→St→Prop}
theorem zm.grow {ops:Array Oper} {d:Option Nat} {x y:Operand} {t ty:TypeId} {pos:String} {af:Array Edge} {gd:Option (Nat × Bool)} {l:List Oper} {el:TypeId} {kx ky:SK} {xs ys:List PV}
  (hg:guard? ops ⟨d,.call ⟨.builtin .append,#[x,y],#[t,t]⟩,ty,pos,af,gd⟩ e=some true) (hx:ev e x=.sl kx xs) (hy:ev e y=.sl ky ys) (htd:td P t=.sl el) (hz:(zpv P el).isSome=true)
  (hex:xg P el xs) (hey:xg P el ys) (hb0:0<P.bytesOf el) (hlen:(xs.length+ys.length)*P.bytesOf el≤140737488355328) (hgr:yA s kx xs.length (P.cellsOf el)) (hys:ys≠[])
  (h:∀ k' s',yA s' k' (xs.length+ys.length) (P.cellsOf el)→YP s s' kx k'→zm P N ops l k (e.put d (.sl k' (xs++ys))) s' rt) :
  zm P N ops (⟨d,.call ⟨.builtin .append,#[x,y],#[t,t]⟩,ty,pos,af,gd⟩::l) k e s rt:=by
 obtain ⟨k',s',h1,h2,h3⟩:=hgr.append (P:=P) hys
 exact zm.append hg hx hy htd hz hex hey hb0 hlen h1 (h k' s' h2 h3)
theorem yA.append' {P:Program} {s:St} {e:TypeId} {k:SK} {xs ys:List PV} (h:yA s k xs.length (P.cellsOf e)) :
  ∃ k' s',yQ P e k xs ys s=some (.sl k' (xs++ys),s')∧yA s' k' (xs.length+ys.length) (P.cellsOf e)∧YP s s' k k':=by
 by_cases hy:ys=[]
 ·subst hy
  exact ⟨k,s,by unfold yQ;rw [if_pos rfl,List.append_nil],ziG,⟨fun h=>h,Nat.le_refl _,fun _ _ _=>rfl,fun i z e=>.inl ⟨z,e⟩⟩⟩
 ·exact h.append hy
theorem zm.grow' {ops:Array Oper} {d:Option Nat} {x y:Operand} {t ty:TypeId} {pos:String} {af:Array Edge} {gd:Option (Nat × Bool)} {l:List Oper} {el:TypeId} {kx ky:SK} {xs ys:List PV}
  (hg:guard? ops ⟨d,.call ⟨.builtin .append,#[x,y],#[t,t]⟩,ty,pos,af,gd⟩ e=some true) (hx:ev e x=.sl kx xs) (hy:ev e y=.sl ky ys) (htd:td P t=.sl el) (hz:(zpv P el).isSome=true)
  (hex:xg P el xs) (hey:xg P el ys) (hb0:0<P.bytesOf el) (hlen:(xs.length+ys.length)*P.bytesOf el≤140737488355328) (hgr:yA s kx xs.length (P.cellsOf el))
  (h:∀ k' s',yA s' k' (xs.length+ys.length) (P.cellsOf el)→YP s s' kx k'→zm P N ops l k (e.put d (.sl k' (xs++ys))) s' rt) :
  zm P N ops (⟨d,.call ⟨.builtin .append,#[x,y],#[t,t]⟩,ty,pos,af,gd⟩::l) k e s rt:=by
 obtain ⟨k',s',h1,h2,h3⟩:=hgr.append' (P:=P) (ys:=ys)
 exact zm.append hg hx hy htd hz hex hey hb0 hlen h1 (h k' s' h2 h3)
theorem zj.grow {ops:Array Oper} {ws:List Nat} {i:Nat} {K:Env→St→Prop} {d:Option Nat} {x y:Operand} {t ty:TypeId} {pos:String} {af:Array Edge} {gd:Option (Nat × Bool)} {l:List Oper} {el:TypeId} {kx ky:SK} {xs ys:List PV}
  (hi:ws.contains i=true) (hg:guard? ops ⟨d,.call ⟨.builtin .append,#[x,y],#[t,t]⟩,ty,pos,af,gd⟩ (Env.keep (zu ops ⟨d,.call ⟨.builtin .append,#[x,y],#[t,t]⟩,ty,pos,af,gd⟩) e)=some true)
  (hx:ev e x=.sl kx xs) (hy:ev e y=.sl ky ys) (htd:td P t=.sl el) (hz:(zpv P el).isSome=true)
  (hex:xg P el xs) (hey:xg P el ys) (hb0:0<P.bytesOf el) (hlen:(xs.length+ys.length)*P.bytesOf el≤140737488355328) (hgr:yA s kx xs.length (P.cellsOf el)) (hys:ys≠[])
  (h:∀ k' s',yA s' k' (xs.length+ys.length) (P.cellsOf el)→YP s s' kx k'→zj P ops ws (i+1) l (e.put d (.sl k' (xs++ys))) s' K) :
  zj P ops ws i (⟨d,.call ⟨.builtin .append,#[x,y],#[t,t]⟩,ty,pos,af,gd⟩::l) e s K:=by
 obtain ⟨k',s',h1,h2,h3⟩:=hgr.append (P:=P) hys
 obtain ⟨e2,s2,d1,d2⟩:=h k' s' h2 h3
 exact ⟨e2,s2,Det.append hi hg hx hy htd hz hex hey hb0 hlen h1 d1,d2⟩
end
def Uv (ops:Array Oper) (o:Oper) (e:Env):Bool :=
 match o.guard with
 | none=>false
 | some (j,_)=>match (ops[j]?).bind (fun o=>o.dst) with
   | none=>false
   | some d=>match Env.get e d with
     | .tuple []=>true
     | _=>false
theorem WA {g w ops o e} {a:Act} (h:Uv ops o e=true) (hE:yY g w e a.tmps):Region.wanted o (yielded ops a.tmps)=false:=by
 unfold Uv at h
 unfold Region.wanted
 cases hg:o.guard with
 | none=>rw [hg] at h;cases h
 | some x =>
   obtain ⟨j,want⟩:=x
   rw [hg] at h
   simp only at h ⊢
   cases hd:(ops[j]?).bind (fun o=>o.dst) with
   | none=>rw [hd] at h;cases h
   | some d =>
     rw [hd] at h
     simp only at h
     split at h
     case h_2=>cases h
     rename_i hb
     have hv:=hE d
     rw [hb] at hv
     simp only [R,RA] at hv
     obtain ⟨x,hx,hx2⟩:=hv
     unfold yielded
     rw [hd]
     simp only [Option.bind_some]
     rw [Array.getD_eq_getD_getElem?] at hx
     cases hq:a.tmps[d]? with
     | none=>rfl
     | some v =>
       rw [hq] at hx
       simp only [Option.getD_some] at hx
       subst hx
       rfl
section
variable {P:Program} {N:Nat} {k:List KI} {e:Env} {s:St} {rt:Env→St→Prop}
theorem zol {p:Prop} (h:p:=by simp only [R,RA];exact ⟨#[],rfl,rfl⟩):p:=h
theorem zm.gskip' {ops:Array Oper} {o:Oper} {l:List Oper} (hg:guard? ops o e=some false) (h:zm P N ops l k (e.put o.dst (.tuple [])) s rt):zm P N ops (o::l) k e s rt:=by
 intro ok okk idx hidx g w a hI hE hd hN
 obtain ⟨i,r,rfl,ho,hr⟩:=Yh hidx
 simp only [List.all_cons,Bool.and_eq_true] at ok
 have hw:=yR hg hE
 simp only [wpOps,ho,hw,if_false,Bool.false_eq_true]
 exact h ok.2 okk r hr g w (a.put o.dst undef) hI (hE.put hN (vV ok.1) zol) Y58 zf1
theorem zm.gskipU {ops:Array Oper} {o:Oper} {l:List Oper} (hg:Uv ops o e=true) (h:zm P N ops l k (e.put o.dst (.tuple [])) s rt):zm P N ops (o::l) k e s rt:=by
 intro ok okk idx hidx g w a hI hE hd hN
 obtain ⟨i,r,rfl,ho,hr⟩:=Yh hidx
 simp only [List.all_cons,Bool.and_eq_true] at ok
 have hw:=WA hg hE
 simp only [wpOps,ho,hw,if_false,Bool.false_eq_true]
 exact h ok.2 okk r hr g w (a.put o.dst undef) hI (hE.put hN (vV ok.1) zol) Y58 zf1
end
attribute [go_sem] Uv Wr xG
theorem za.wf {P:Program} {f:FuncId} {args:List PV} {s:St} {Q:PV→St→Prop} (h:za P f args s Q):za P f args s (fun r s'=>s'.wf∧Q r s') :=
 fun g w vs hI hR=>(h g w vs hI hR).mono fun e w' ⟨v,g',r,s',h1,h2,h3,h4,h5⟩=>⟨v,g',r,s',h1,h2,h3,h4,h2.wf,h5⟩
theorem zp {α:Type} {P:Program} {e:TypeId} {f:α→PV} (h:∀ a,(f a).ok=true∧(f a).cells.length=P.cellsOf e) (l:List α):xg P e (l.map f):=by
 intro x hx
 obtain ⟨a,_,rfl⟩:=List.mem_map.1 hx
 exact h a
end Go.PM
namespace Go.PM
open Go
theorem vB (v:Value):∀ (n i:Nat),i<n*v.cells.size→(flat (List.replicate n v))[i]? =v.cells.toList[i%v.cells.size]?
 | 0,i,h=>by simp at h
 | n+1,i,h=>by
   rw [List.replicate_succ]
   show (v.cells.toList++flat (List.replicate n v))[i]? =_
   by_cases h1:i<v.cells.size
   ·rw [List.getElem?_append_left (by simpa using h1),Nat.mod_eq_of_lt h1]
   ·rw [List.getElem?_append_right (by simpa using h1),Array.length_toList,vB v n (i-v.cells.size) (by rw [Nat.succ_mul] at h;omega),← Nat.mod_eq_sub_mod Y2]
theorem za5 (v:Value) (n:Nat):(Builtin.zeroCells v.cells n).toList=flat (List.replicate n v):=by
 apply List.ext_getElem?
 intro i
 have hl:(flat (List.replicate n v)).length=n*v.cells.size:=by
  rw [yp (sz:=v.cells.size) (fun u hu=>by rw [(List.mem_replicate.1 hu).2]),List.length_replicate]
 by_cases hi:i<n*v.cells.size
 ·rw [vB v n i hi]
  have hs:0<v.cells.size:=Nat.pos_of_ne_zero (by intro e;rw [e] at hi;simp at hi)
  have hm:i%v.cells.size<v.cells.size:=Nat.mod_lt _ hs
  unfold Builtin.zeroCells
  rw [Array.getElem?_toList,Array.getElem?_eq_getElem zap,Array.getElem_map,Array.getElem_range,List.getElem?_eq_getElem (by simpa using hm)]
  rw [getElem!_pos v.cells _ hm]
  simp
 ·rw [List.getElem?_eq_none (l:=(Builtin.zeroCells v.cells n).toList) (by rw [Array.length_toList,size_zeroCells];omega),List.getElem?_eq_none (by rw [hl];omega)]
def zhB (P:Program) (e:TypeId) (id off len:Nat) (s:St):Option St :=
 match s.blk id,zpv P e with
 | some (.row ty els),some z=>if 0<len∧P.cellsOf e=P.cellsOf ty∧off+len≤els.length then some (s.set id (some (.row ty (els.take off++List.replicate len z++els.drop (off+len))))) else none
 | _,_=>none
theorem vQ {g w p v} (h:R g w p v):∀ n,RA g w (List.replicate n p) (List.replicate n v)
 | 0=>rfl
 | n+1=>by
   rw [List.replicate_succ,List.replicate_succ]
   simp only [RA]
   exact ⟨v,_,rfl,h,vQ h n⟩
theorem zqb {p:Prop} (h:p:=by
 rw [yn _ _ _ _ _ _ Y2]
 have hq:=uX a2 (off*P.cellsOf tyr)
 rw [← hft] at hq
 exact hq j hj):p:=h
theorem zhT {P:Program} {g s w t ty e id off len va s'} (h:Inv P g s w) (hx:R g w (.own id off len) va) (htd:td P t=.sl e) (ha:zhB P e id off len s=some s') :
  ∃ w',(Builtin.clear_ #[t] ty #[va]).run P w=.ok (.tuple #[]) w'∧Inv P g s' w'∧Ext g w g w':=by
 unfold zhB at ha
 split at ha
 case h_2=>cases ha
 rename_i tyr els z hbl hz
 split at ha
 case isFalse=>cases ha
 rename_i hc
 obtain ⟨hl0,hce,hle⟩:=hc
 cases ha
 have hu:=xp htd
 obtain ⟨zv,hz1,hz2,hz3,hz4,hpos,hz6,hz7⟩:=yZ (P:=P) (w:=w) hz
 have hat:=h.at' id
 rw [hbl] at hat
 obtain ⟨_,hlv,b,vs,hr,hrp,hrow⟩:=hat
 obtain ⟨a1,a2,a3,a4⟩:=hrow
 have hvl:=zV a4
 simp only [R] at hx
 obtain ⟨_,b',sz',cap,hr',hcap,rfl,hcs⟩:=hx
 rw [hr] at hr';cases hr'
 have hsz':∀ v∈vs,v.cells.size=P.cellsOf tyr:=fun v hv=>(a3 v hv).1
 have hflt:∀ x∈zv.cells.toList,x.flat=true:=by
  cases hzv:zv with
  | agg cs=>rw [hzv] at hz3;simp only [VA] at hz3;exact fun x hx=>List.all_eq_true.1 hz3 x hx
  | tuple vs=>exact absurd hzv (hz6 vs)
  | _=>intro x hx;simp [Value.cells] at hx;subst hx;rfl
 have hzr:R g w z zv:=by rw [hz2];exact YY g w zv (fun cs e x hx=>hflt x (by rw [e];simpa [Value.cells] using hx))
 have hfz:(flat (List.replicate len zv)).length=len*P.cellsOf tyr:=by
  rw [yp (sz:=P.cellsOf tyr) (fun u hu=>by rw [(List.mem_replicate.1 hu).2,hz4,hce]),List.length_replicate]
 have hfit:off*P.cellsOf tyr+(flat (List.replicate len zv)).length≤yJ w b:=by
  rw [hfz,← Nat.add_mul]
  exact Nat.le_trans (Nat.mul_le_mul_right _ Y2) hcs
 have hft:flat (vs.take off)=(flat vs).take (off*P.cellsOf tyr):=Wj vs _ hsz' off
 have hfd:flat (vs.drop (off+len))=(flat vs).drop ((off+len)*P.cellsOf tyr):=Yp vs _ hsz' (off+len)
 have hlt:(flat (vs.take off)).length=off*P.cellsOf tyr:=by
  rw [yp (sz:=P.cellsOf tyr) (fun v hv=>hsz' v (List.mem_of_mem_take hv)),List.length_take,Nat.min_eq_left Y2]
 have hcells:zT (yd w b (off*P.cellsOf tyr) (flat (List.replicate len zv))) b 0 (flat (vs.take off++List.replicate len zv++vs.drop (off+len))):=by
  rw [wA,wA,xa,xa]
  refine ⟨⟨fun j hj=>?_,?_⟩,fun j hj=>?_⟩
  ·exact zqb
  ·rw [hlt,Nat.zero_add]
   exact wj _ _ _ _ hfit
  ·rw [List.length_append,hlt,hfz,Nat.zero_add]
   rw [yn _ _ _ _ _ _ (by rw [hfz];omega)]
   have hq:=xQ a2 ((off+len)*P.cellsOf tyr)
   rw [← hfd] at hq
   have:=hq j hj
   rw [Nat.zero_add,Nat.add_mul] at this
   exact this
 have hcat:∀ v∈vs.take off++List.replicate len zv++vs.drop (off+len),v.cells.size=P.cellsOf tyr∧∀ x∈v.cells.toList,x.flat=true:=by
  intro v hv
  rcases List.mem_append.1 hv with hv | hv
  ·rcases List.mem_append.1 hv with hv | hv
   ·exact a3 v (List.mem_of_mem_take hv)
   ·rw [(List.mem_replicate.1 hv).2];exact ⟨by rw [hz4,hce],hflt⟩
  ·exact a3 v (List.mem_of_mem_drop hv)
 obtain ⟨k1,k2⟩:=Ya (els':=els.take off++List.replicate len z++els.drop (off+len)) (vs':=vs.take off++List.replicate len zv++vs.drop (off+len)) (o:=off*P.cellsOf tyr) (xs:=flat (List.replicate len zv)) h hbl hr hcells hcat
  (yN (yN (Zb _ a4) (vQ hzr len)) (vz _ a4))
 refine ⟨_,?_,k1,k2⟩
 have hst:=wR P b (flat (List.replicate len zv)) w (off*P.cellsOf tyr) 0 (by
  intro v hv
  simp only [flat,List.mem_flatMap] at hv
  obtain ⟨u,hu1,hu2⟩:=hv
  rw [(List.mem_replicate.1 hu1).2] at hu2
  exact hflt v hu2) a1 (by simpa using hfit)
 unfold Builtin.clear_
 obtain ⟨len',rfl⟩:∃ k,len=k+1:=⟨len-1,Y2⟩
 simp only [List.getElem?_toArray,List.getElem?_cons_zero,ze,zh hu,hz1,za5,hst,zo,Nat.add_zero]
section
variable {P:Program} {N:Nat} {k:List KI} {e e':Env} {s:St} {rt:Env→St→Prop}
theorem zm.clear {ops:Array Oper} {d:Option Nat} {x:Operand} {t ty:TypeId} {pos:String} {af:Array Edge} {gd:Option (Nat × Bool)} {l:List Oper} {el:TypeId} {id off len:Nat} {s':St}
  (hg:guard? ops ⟨d,.call ⟨.builtin .clear,#[x],#[t]⟩,ty,pos,af,gd⟩ e=some true) (hx:ev e x=.own id off len) (htd:td P t=.sl el) (ha:zhB P el id off len s=some s')
  (h:zm P N ops l k (e.put d (.tuple [])) s' rt):zm P N ops (⟨d,.call ⟨.builtin .clear,#[x],#[t]⟩,ty,pos,af,gd⟩::l) k e s rt:=by
 refine zm.eff hg (fun g w a hI hE=>?_) h
 have h1:=xE hE x
 rw [hx] at h1
 obtain ⟨w',r1,r2,r3⟩:=zhT (ty:=ty) hI h1 htd ha
 refine ⟨.tuple #[],w',g,.inl ?_,r2,r3,by simp only [R];exact ⟨#[],rfl,rfl⟩⟩
 unfold execOp
 simp only [resolve,ze,zo,invoke,builtin]
 have:Array.map a.eval #[x]= #[a.eval x]:=Y1
 rw [this]
 unfold Go.invoke
 simp only [builtin,ze,r1,zo]
end
end Go.PM
namespace Go.PM
open Go
theorem YU {P:Program} {ops:Array Oper} {Q:Exit→Act→World→Prop} {n:Nat} (hcut:∀ i j,n≤j→j<ops.size→i<j→((zX ops.toList []).getD j 0).testBit i=true)
  (hedge:∀ (j:Nat) (oj:Oper),ops[j]? =some oj→∀ e∈oj.after,Region.binds .any e=true→e.on<j)
  (hmask:∀ (L:Nat→Prop),DC ops L→∀ (k:Nat) (o:Oper),ops[k]? =some o→(∀ e∈o.after,Region.binds .any e=true→L e.on)→∀ b,((zX ops.toList []).getD k 0).testBit b=true→L b) :
  ∀ (d fuel m:Nat) (listed:Array Bool) (a:Act) (w:World),m+d=ops.size→d≤fuel→n≤m→(∀ k,listed.getD k false=decide (k<m))→listed.size=ops.size→DC ops (fun k=>listed.getD k false=true) →
   wpOps P ops Q (List.range' m d) a w→wpAny P .any ops Q fuel listed a w:=by
 intro d
 induction d with
 | zero =>
   intro fuel m listed a w hmd hf hnm hl hsz hdc h
   have hr:Region.ready .any ops listed=[]:=by
    cases hr:Region.ready .any ops listed with
    | nil=>rfl
    | cons x xs =>
      have hx:x∈Region.ready .any ops listed:=by rw [hr];simp
      obtain ⟨h0,o,ho,_⟩:=mem_ready.1 hx
      have hx':=(Array.getElem?_eq_some_iff.1 ho).1
      have:=hl x
      rw [Array.getD_eq_getD_getElem?,Array.getElem?_eq_getElem Y2] at this h0
      simp only [Option.getD_some] at this h0
      rw [h0] at this
      simp at this;omega
   cases fuel with
   | zero=>exact ⟨hr,h⟩
   | succ f =>
     refine ⟨fun _=>h,fun i hi=>?_⟩
     rw [hr] at hi;simp at hi
 | succ d ih =>
   intro fuel m listed a w hmd hf hnm hl hsz hdc h
   obtain ⟨f,rfl⟩:∃ f,fuel=f+1:=⟨fuel-1,Y2⟩
   have hm:m<ops.size:=Y2
   obtain ⟨om,hom⟩:∃ o,ops[m]? =some o:=⟨ops[m],Y1⟩
   have hgt:∀ k,k<ops.size→listed.getD k true=listed.getD k false:=fun k hk=>by
    rw [Array.getD_eq_getD_getElem?,Array.getD_eq_getD_getElem?,Array.getElem?_eq_getElem Y2];rfl
   have hmr:m∈Region.ready .any ops listed:=mem_ready.2 ⟨by rw [hgt m hm,hl m];simp,om,hom,fun e he hb=>by rw [hl];simpa using hedge m om hom e he hb⟩
   refine ⟨fun hr=>?_,fun i hi=>?_⟩
   ·rw [hr] at hmr;simp at hmr
   obtain ⟨h0,o,ho,hedges⟩:=mem_ready.1 hi
   have hlt:=(Array.getElem?_eq_some_iff.1 ho).1
   have hge:m≤i:=by
    rw [hgt i hlt,hl i] at h0
    simpa using h0
   have him:i=m:=by
    by_cases he:i=m
    ·exact he
    ·have:listed.getD m false=true:=hmask _ hdc i o ho hedges m (hcut m i Y2 hlt Y2)
     rw [hl m] at this
     simp at this
   subst him
   rw [List.range'_succ,wpOps_cons] at h
   refine wpOp_mono (fun a' w' h'=>?_) h
   have hgd:∀ k,(listed.setIfInBounds i true).getD k false=if k=i then true else listed.getD k false:=by
    intro k
    by_cases e:k=i
    ·exact Y62
    ·exact Y64
   refine ih f (i+1) _ a' w' Y2 Y2 Y2 (fun k=>?_) zi7 ?_ h'
   ·rw [hgd,hl k]
    by_cases e:k=i
    ·subst e;simp
    ·rw [if_neg e]
     congr 1
     exact propext ⟨fun x=>Y2,fun x=>Y2⟩
   ·intro k ok hk hlk e he hb
    have hlk:(listed.setIfInBounds i true).getD k false=true:=hlk
    show (listed.setIfInBounds i true).getD e.on false=true
    rw [hgd] at hlk ⊢
    split
    ·rfl
    ·by_cases e1:k=i
     ·subst e1
      rw [ho] at hk;cases hk
      exact hedges e he hb
     ·rw [if_neg e1] at hlk
      exact hdc k ok hk hlk e he hb
theorem Y9 {p:Prop} (h:p:=by
 refine Nat.le_trans ?_ hcnt
 have e1:((List.range ops.size).filter fun k=> !listed.getD k true)=((List.range ops.size).filter fun k=>decide (n≤k)):=by
  apply List.filter_congr
  intro k hk
  have hk:=List.mem_range.1 hk
  have h3:listed.getD k true=listed.getD k false:=by
   rw [Array.getD_eq_getD_getElem?,Array.getD_eq_getD_getElem?,Array.getElem?_eq_getElem Y2];rfl
  rw [h3]
  by_cases hkn:k<n
  ·rw [hall' k hkn];simp;omega
  ·rw [hhi k Y2];simp;omega
 rw [e1]
 have e2:∀ m,((List.range m).filter fun k=>decide (n≤k)).length=m-n:=by
  intro m
  induction m with
  | zero=>simp
  | succ m ih =>
    rw [List.range_succ,List.filter_append,List.length_append,ih]
    by_cases h:n≤m
    ·simp [h];omega
    ·simp [h];omega
 rw [e2];exact Nat.le_refl _):p:=h
theorem Y10 {p:Prop} (h:p:=by
 intro hr
 exfalso
 apply hfull
 have hall:∀ m k,k≤m→k<ops.size→listed.getD k false=true:=by
  intro m
  induction m with
  | zero =>
    intro k hk hlt
    have:k=0:=by omega
    subst this
    exact any_order.ready_all hr hedge hsz (fun i hi=>Y2) hlt
  | succ m ihm =>
    intro k hk hlt
    exact any_order.ready_all hr hedge hsz (fun i hi=>ihm i Y2 Y2) hlt
 exact fun k hk=>hall k k (Nat.le_refl _) Y2):p:=h
theorem Y11 {p:Prop} (h:p:=by
 have:zH (xH ops j) (fun k=>(listed.setIfInBounds i true).getD k false) n=zH (xH ops j) (fun k=>listed.getD k false) n:=by
  refine ya fun k hk hp=>?_
  rw [hgd,if_neg]
  rintro rfl
  rw [yr ho] at hp
  exact hw hp
 rw [this]
 have h3:=Xi hX' _ _ (hslots j)
 cases hdst:o.dst with
 | none=>exact h3
 | some d =>
   have hjd:d≠j:=by
    rintro rfl
    exact hw (by simp [zQ,hdst])
   simp only [Act.put]
   rw [Array.getD_eq_getD_getElem?,Array.getElem?_setIfInBounds,if_neg hjd,← Array.getD_eq_getD_getElem?]
   exact h3):p:=h
theorem Y66 {p:Prop} (h:p:=by
 intro k
 by_cases hkn:k<n
 ·rw [hall' k hkn];simp [hkn]
 ·rw [hhi k Y2];simp [hkn]):p:=h
theorem Y67 {p:Prop} (h:p:=by
 have hni:i∉ws:=by simpa using hw
 have:zH (fun k=>ws.contains k) (fun k=>(listed.setIfInBounds i true).getD k false) n=zH (fun k=>ws.contains k) (fun k=>listed.getD k false) n:=by
  refine ya fun k hk hp=>?_
  rw [hgd',if_neg]
  rintro rfl
  exact hni zg1
 rw [this,← hstore]
 exact hS i o hin ho hni):p:=h
theorem znU {p:Prop} (h:p:=by
 have:ws.contains i=false:=by simpa using hw
 rw [this,hS i o Y2 ho hw,ih Y2];simp):p:=h
theorem zmO {p:Prop} (h:p:=by exact fin _ listed g s w a hsz hcnt hdc hhi hI hX hd hn hslots hstore hfull):p:=h
theorem zmA {p:Prop} (h:p:=by
 exfalso
 exact hfull fun k hk=>hanc k (hcut k i Y2 hlt Y2)):p:=h
theorem zlG {p:Prop} (h:p:=by exact (fun k hk=>by rw [hgd,if_neg Y2];exact hhi k hk)):p:=h
theorem zcj {P:Program} {ops:Array Oper} {ws:List Nat} {N:Nat} {e0:Env} {Q:Exit→Act→World→Prop} {V:Nat→PV} {S:Nat→St} {E:Nat→Env} {g0:G} {w0:World} {n:Nat}
  (hnsz:n≤ops.size) (hcut:∀ i j,n≤j→j<ops.size→i<j→((zX ops.toList []).getD j 0).testBit i=true) (hok:YM ops ws=true) (hN:∀ (i:Nat) (o:Oper),ops[i]? =some o→zbu N o=true)
  (hE0:E 0=e0) (hE:∀ (i:Nat) (o:Oper),i<n→ops[i]? =some o→E (i+1)=(E i).put o.dst (V i))
  (hS:∀ (i:Nat) (o:Oper),i<n→ops[i]? =some o→i∉ws→S (i+1)=S i)
  (hD:∀ (i:Nat) (o:Oper),i<n→ops[i]? =some o→DOp P ops o (E i) (S i) (V i) (S (i+1)))
  (hF:∀ (i:Nat) (o:Oper),i<n→ops[i]? =some o→uf o.op=false→i∉ws→∀ s,DOp P ops o (E i) s (V i) s)
  (hQ:∀ g w (a:Act),Inv P g (S n) w→yY g w (E n) a.tmps→Ext g0 w0 g w→a.defers=[]→a.tmps.size=N→wpOps P ops Q (List.range' n (ops.size-n)) a w) :
  ∀ (fuel:Nat) (listed:Array Bool) (g:G) (s:St) (w:World) (a:Act),listed.size=ops.size →
   ((List.range ops.size).filter fun k=> !listed.getD k true).length≤fuel→DC ops (fun k=>listed.getD k false=true)→(∀ k,n≤k→listed.getD k false=false) →
   Inv P g s w→Ext g0 w0 g w→a.defers=[]→a.tmps.size=N →
   (∀ j,R g w (match zH (xH ops j) (fun k=>listed.getD k false) n with | none=>e0.get j | some k=>V k) (a.tmps.getD j undef)) →
   s=(match zH (fun k=>ws.contains k) (fun k=>listed.getD k false) n with | none=>S 0 | some k=>S (k+1)) →
   wpAny P .any ops Q fuel listed a w:=by
 have hpair:∀ (i j:Nat) (oi oj:Oper),i<j→ops[i]? =some oi→ops[j]? =some oj→YX ops ws i j oi oj=true→((zX ops.toList []).getD j 0).testBit i=true:=by
  intro i j oi oj hij h1 h2 hc
  unfold YM at hok
  have:=List.all_eq_true.1 hok j (List.mem_range.2 (Array.getElem?_eq_some_iff.1 h2).1)
  rw [h2] at this
  simp only [Bool.and_eq_true] at this
  have:=List.all_eq_true.1 this.2 i (List.mem_range.2 hij)
  rw [h1] at this
  simp only [hc,Bool.not_true,Bool.false_or] at this
  exact this
 have hedge:∀ (j:Nat) (oj:Oper),ops[j]? =some oj→∀ e∈oj.after,Region.binds .any e=true→e.on<j:=by
  intro j oj h2 e he hb
  unfold YM at hok
  have:=List.all_eq_true.1 hok j (List.mem_range.2 (Array.getElem?_eq_some_iff.1 h2).1)
  rw [h2] at this
  simp only [Bool.and_eq_true] at this
  have:=List.all_eq_true.1 this.1 e (by simpa using he)
  simpa [hb] using this
 have hmask:∀ (L:Nat→Prop),DC ops L→∀ (k:Nat) (o:Oper),ops[k]? =some o→(∀ e∈o.after,Region.binds .any e=true→L e.on)→∀ b,((zX ops.toList []).getD k 0).testBit b=true→L b :=
  fun L hdc=>ur hdc ops.toList [] Y1 zki zlu
 have hEget:∀ i,i≤n→∀ j,(E i).get j=(match zH (xH ops j) (fun _=>true) i with | none=>e0.get j | some k=>V k):=by
  intro i
  induction i with
  | zero=>intro _ j;rw [hE0];rfl
  | succ i ih =>
    intro hi j
    obtain ⟨o,ho⟩:∃ o,ops[i]? =some o:=⟨ops[i]'Y2,Y1⟩
    rw [hE i o Y2 ho]
    unfold zH
    rw [yr ho,Bool.and_true]
    unfold zQ
    cases hd:o.dst with
    | none=>simp only [Env.put];rw [ih Y2 j];simp
    | some d =>
      simp only [Env.put,Env.get]
      by_cases hjd:j=d
      ·subst hjd;simp
      ·exact Y63
 have hSget:∀ i,i≤n→S i=(match zH (fun k=>ws.contains k) (fun _=>true) i with | none=>S 0 | some k=>S (k+1)):=by
  intro i
  induction i with
  | zero=>intro _;rfl
  | succ i ih =>
    intro hi
    obtain ⟨o,ho⟩:∃ o,ops[i]? =some o:=⟨ops[i]'Y2,Y1⟩
    unfold zH
    by_cases hw:i∈ws
    ·exact zmj
    ·exact znU
 intro fuel
 have fin:∀ (fuel:Nat) (listed:Array Bool) (g:G) (s:St) (w:World) (a:Act),listed.size=ops.size →
   ((List.range ops.size).filter fun k=> !listed.getD k true).length≤fuel→DC ops (fun k=>listed.getD k false=true)→(∀ k,n≤k→listed.getD k false=false) →
   Inv P g s w→Ext g0 w0 g w→a.defers=[]→a.tmps.size=N →
   (∀ j,R g w (match zH (xH ops j) (fun k=>listed.getD k false) n with | none=>e0.get j | some k=>V k) (a.tmps.getD j undef)) →
   s=(match zH (fun k=>ws.contains k) (fun k=>listed.getD k false) n with | none=>S 0 | some k=>S (k+1))→(∀ k,k<n→listed.getD k false=true) →
   wpAny P .any ops Q fuel listed a w:=by
  intro fuel listed g s w a hsz hcnt hdc hhi hI hX hd hn hslots hstore hall'
  refine YU (n:=n) hcut hedge hmask (ops.size-n) fuel n listed a w Y2 ?_ (Nat.le_refl _) ?_ hsz hdc ?_
  ·exact Y9
  ·exact Y66
  ·exact Y3
 induction fuel with
 | zero =>
   intro listed g s w a hsz hcnt hdc hhi hI hX hd hn hslots hstore
   refine fin 0 listed g s w a hsz hcnt hdc hhi hI hX hd hn hslots hstore ?_
   have hall:∀ k,k<ops.size→listed.getD k true=true:=by
    intro k hk
    have:(List.range ops.size).filter (fun k=> !listed.getD k true)=[]:=List.length_eq_zero_iff.1 Y2
    have:=List.filter_eq_nil_iff.1 this k (List.mem_range.2 hk)
    simpa using this
   intro k hk
   have:=hall k Y2
   rw [Array.getD_eq_getD_getElem?,Array.getElem?_eq_getElem Y2] at this ⊢
   exact this
 | succ fuel ih =>
   intro listed g s w a hsz hcnt hdc hhi hI hX hd hn hslots hstore
   by_cases hfull:∀ k,k<n→listed.getD k false=true
   ·exact zmO
   refine ⟨?_,?_⟩
   ·exact Y10
   ·intro i hi
    obtain ⟨h0,o,ho,hedges⟩:=mem_ready.1 hi
    have hlt:=(Array.getElem?_eq_some_iff.1 ho).1
    have hnl:listed.getD i false=false:=by
     rw [Array.getD_eq_getD_getElem?,Array.getElem?_eq_getElem Y2] at h0 ⊢
     exact h0
    have hanc:=hmask _ hdc i o ho hedges
    have hin:i<n:=by
     by_cases h:i<n
     ·exact h
     ·exact zmA
    have before:∀ (k:Nat) (ok:Oper),ops[k]? =some ok→k<i→YX ops ws k i ok o=true→listed.getD k false=true :=
     fun k ok hk hki hc=>hanc k (hpair k i ok o hki hk ho hc)
    have behind:∀ (k:Nat) (ok:Oper),ops[k]? =some ok→i<k→YX ops ws i k o ok=true→listed.getD k false=false:=by
     intro k ok hk hki hc
     cases hlk:listed.getD k false with
     | false=>rfl
     | true =>
       have this:listed.getD i false=true:=hmask _ hdc k ok hk (hdc k ok hk hlk) i (hpair i k o ok hki ho hk hc)
       rw [hnl] at this;cases this
    have cell:∀ p:Nat→Bool,(∀ (k:Nat) (ok:Oper),ops[k]? =some ok→k<i→p k=true→YX ops ws k i ok o=true)→(∀ (k:Nat) (ok:Oper),ops[k]? =some ok→i<k→p k=true→YX ops ws i k o ok=true) →
      zH p (fun k=>listed.getD k false) n=zH p (fun _=>true) i∧∀ k,i<k→k<n→(p k&&listed.getD k false)=false:=by
     intro p h1 h2
     have hb:∀ k,i<k→k<n→(p k&&listed.getD k false)=false:=by
      intro k hk hkn
      cases hp:p k with
      | false=>rfl
      | true =>
        obtain ⟨ok,hok'⟩:∃ o,ops[k]? =some o:=⟨ops[k]'Y2,Y1⟩
        rw [behind k ok hok' hk (h2 k ok hok' hk hp)];rfl
     refine ⟨?_,hb⟩
     rw [ul (i:=i) Y2 Y4]
     refine ya fun k hk hp=>?_
     obtain ⟨ok,hok'⟩:∃ o,ops[k]? =some o:=⟨ops[k]'Y2,Y1⟩
     exact before k ok hok' hk (h1 k ok hok' hk hp)
    have hsl:∀ j∈zu ops o,R g w ((E i).get j) (a.tmps.getD j undef):=by
     intro j hj
     have:=(cell (xH ops j) (by
      intro k ok hk hki hp
      rw [yr hk] at hp
      simp only [zQ,beq_iff_eq] at hp
      unfold YX
      rw [hp]
      simp [hj]
     ) (by
      intro k ok hk hki hp
      rw [yr hk] at hp
      simp only [zQ,beq_iff_eq] at hp
      unfold YX
      rw [hp]
      simp [hj]
     )).1
     have h3:=hslots j
     rw [this] at h3
     rw [hEget i Y2 j]
     exact h3
    have rest:∀ (s':St) val w' g',s'=(match zH (fun k=>ws.contains k) (fun k=>(listed.setIfInBounds i true).getD k false) n with | none=>S 0 | some k=>S (k+1)) →
      Inv P g' s' w'→Ext g w g' w'→R g' w' (V i) val→wpAny P .any ops Q fuel (listed.setIfInBounds i true) (a.put o.dst val) w':=by
     intro s' val w' g' hs' hI' hX' hR'
     have hgd:∀ k,(listed.setIfInBounds i true).getD k false=if k=i then true else listed.getD k false:=by
      intro k
      by_cases e:k=i
      ·exact Y62
      ·exact Y64
     refine ih _ g' s' w' _ zi7 ?_ ?_ zlG hI' (hX.trans hX') Y58 zkX ?_ hs'
     ·exact Y5
     ·exact Y6
     ·intro j
      have hokd:=vV (hN i o ho)
      by_cases hw:zQ o j=true
      ·have hdst:o.dst=some j:=by simpa [zQ] using hw
       have:=(cell (xH ops j) zpg zoL).2
       rw [Zv (i:=i) hin (by rw [yr ho];exact hw) (by rw [hgd];simp) znp]
       simp only [Act.put,hdst]
       have hjN:j<a.tmps.size:=by rw [hn];exact hokd j hdst
       rw [Array.getD_eq_getD_getElem?,Array.getElem?_setIfInBounds]
       simp [hjN,hR']
      ·exact Y11
    have hgd':∀ k,(listed.setIfInBounds i true).getD k false=if k=i then true else listed.getD k false:=by
     intro k
     by_cases e:k=i
     ·exact Y62
     ·exact Y64
    unfold wpOp
    rw [ho]
    simp only
    by_cases hfree:uf o.op=false∧i∉ws
    ·
     refine hF i o hin ho hfree.1 hfree.2 s g w a hI hsl _ _ fun val w' g' k1 k2 k3=>rest s val w' g' ?_ k1 k2 k3
     rw [hstore]
     have:zH (fun k=>ws.contains k) (fun k=>(listed.setIfInBounds i true).getD k false) n=zH (fun k=>ws.contains k) (fun k=>listed.getD k false) n:=by
      refine ya fun k hk hp=>?_
      rw [hgd',if_neg]
      rintro rfl
      exact hfree.2 zg1
     rw [this]
    ·
     have htw:uf o.op=true∨ws.contains i=true:=by
      by_cases h1:uf o.op=false
      ·exact znX
      ·left;simpa using h1
     have hcs:=cell (fun k=>ws.contains k) zpU zoJ
     have hs:s=S i:=znJ
     subst hs
     refine hD i o hin ho g w a hI hsl _ _ fun val w' g' k1 k2 k3=>rest _ val w' g' ?_ k1 k2 k3
     by_cases hw:ws.contains i=true
     ·rw [Zv (i:=i) hin hw (by rw [hgd'];simp) zmc]
     ·exact Y67
def UD (ops:Array Oper) (n:Nat):Bool :=
 let ms:=zX ops.toList []
 (List.range ops.size).all fun j=>decide (j<n)||(List.range j).all fun i=>(ms.getD j 0).testBit i
theorem Zr {ops:Array Oper} {n:Nat} (h:UD ops n=true):∀ i j,n≤j→j<ops.size→i<j→((zX ops.toList []).getD j 0).testBit i=true:=by
 intro i j h1 h2 h3
 unfold UD at h
 have:=List.all_eq_true.1 h j (List.mem_range.2 h2)
 simp only [Bool.or_eq_true,decide_eq_true_eq] at this
 rcases this with h' | h'
 ·omega
 ·exact List.all_eq_true.1 h' i (List.mem_range.2 h3)
section
variable {P:Program} {ops:Array Oper} {ws:List Nat} {e e':Env} {s s':St} {N:Nat} {k:List KI} {rt:Env→St→Prop}
theorem Y12 {p:Prop} (h:p:=by
 simp only [e1,show ¬ (k+1=i) from Y2,if_false]
 exact a5 k o' Y2 (by simp only [List.length_cons] at hk2;omega) ho'):p:=h
theorem Y68 {p:Prop} (h:p:=by have:=(hl 0 o) Y1;simpa using this):p:=h
theorem Det.lists':∀ {i l e s e' s'},Det P ops ws i l e s e' s'→(∀ j (o:Oper),l[j]? =some o→ops[i+j]? =some o) →
  ∃ (V:Nat→PV) (S:Nat→St) (E:Nat→Env),E i=e∧S i=s∧E (i+l.length)=e'∧S (i+l.length)=s'∧∀ k (o:Oper),i≤k→k<i+l.length→ops[k]? =some o →
   E (k+1)=(E k).put o.dst (V k)∧(k∉ws→S (k+1)=S k)∧DOp P ops o (E k) (S k) (V k) (S (k+1))∧(uf o.op=false→k∉ws→∀ s,DOp P ops o (E k) s (V k) s):=by
 intro i l e s e' s' h
 induction h with
 | nil =>
   rename_i i e s
   intro hl
   refine ⟨fun _=>.junk,fun _=>s,fun _=>e,rfl,rfl,rfl,rfl,fun k o hk hk2 ho=>?_⟩
   simp at hk2;omega
 | cons h1 h2 h3 hd ih =>
   rename_i i o l e s v s1 e' s'
   intro hl
   obtain ⟨V,S,E,a1,a2,a3,a4,a5⟩:=ih zp0
   have h0:ops[i]? =some o:=Y68
   refine ⟨fun k=>if k=i then v else V k,fun k=>if k=i then s else S k,fun k=>if k=i then e else E k,if_pos rfl,if_pos rfl,?_,?_,?_⟩
   ·exact Y7
   ·exact Y8
   ·intro k o' hk hk2 ho'
    by_cases e1:k=i
    ·exact zoT
    ·exact Y12
theorem zn4 {p:Prop} (h:p:=by refine List.all_eq_true.2 fun o ho=>List.all_eq_true.1 ok.1 o (List.mem_of_mem_drop ho)):p:=h
theorem zoM {p:Prop} (h:p:=by
 rw [List.getElem?_range' hi]
 have:min n ops.size+1*i=n+i:=by omega
 simp only [Option.map_some,this,Nat.add_comm]
 rw [Array.getElem?_eq_getElem Y2]
 rfl):p:=h
theorem Y13 {p:Prop} (h:p:=by
 intro g' w' a' k1 k2 k3 k4 k5
 rw [a4] at k1
 rw [a3] at k2
 refine zm.eff.wpOps_mono' (fun _ _ _=>Yz.trans k3) (h ?_ ok.2 _ ?_ g' w' a' k1 k2 k4 k5)
 ·exact zn4
 ·apply List.ext_getElem?
  intro i
  simp only [List.getElem?_map,List.getElem?_drop,List.getElem?_range',Array.getElem?_toList]
  by_cases hi:i<ops.size-min n ops.size
  ·exact zoM
  ·rw [List.getElem?_eq_none Vb,Array.getElem?_eq_none Y2]
   rfl):p:=h
theorem Y69 {p:Prop} (h:p:=by
 intro k o ho hk
 have hk:(Array.replicate ops.size false).getD k false=true:=hk
 rw [hrepl] at hk;cases hk):p:=h
theorem Run.drawCut {id:Nat} (n:Nat) (ws:List Nat) (hm:P.follows .mixedOrders=true) (hs:YM ops ws=true) (hc:UD ops n=true) (hd:zj P ops ws 0 (ops.toList.take n) e s (fun e' s'=>zm P N ops (ops.toList.drop n) k e' s' rt)) :
  Run P N (.code (.region id ops true)::k) e s rt:=by
 obtain ⟨e',s',hd,h⟩:=hd
 intro ok
 simp only [okK,okC,Bool.and_eq_true] at ok
 intro _ g w a hI hE hdf hN
 obtain ⟨V,S,E,a1,a2,a3,a4,a5⟩:=hd.lists' (fun j o ho=>by
  rw [List.getElem?_take] at ho
  split at ho
  ·simpa using ho
  ·cases ho)
 have hlen:(ops.toList.take n).length=min n ops.size:=Y1
 simp only [Nat.zero_add,hlen] at a3 a4 a5
 have hmin:min n ops.size≤ops.size:=Nat.min_le_right _ _
 refine wp_region_any hm ?_
 obtain ⟨hI1,hX1⟩:=wV hI (w.drawn+1)
 have hnone:∀ (p:Nat→Bool) (n:Nat),zH p (fun k=>(Array.replicate ops.size false).getD k false) n=none:=by
  intro p n
  induction n with
  | zero=>rfl
  | succ n ih =>
    unfold zH
    have:(Array.replicate ops.size false).getD n false=false:=by
     rw [Array.getD_eq_getD_getElem?]
     cases hx:(Array.replicate ops.size false)[n]? with
     | none=>rfl
     | some b=>have:=Array.mem_of_getElem? hx;simp at this;rw [this.2];rfl
    rw [this,ih];simp
 have hrepl:∀ k,(Array.replicate ops.size false).getD k false=false:=by
  intro k
  rw [Array.getD_eq_getD_getElem?]
  cases hx:(Array.replicate ops.size false)[k]? with
  | none=>rfl
  | some b=>have:=Array.mem_of_getElem? hx;simp at this;rw [this.2];rfl
 have hcut:∀ i j,min n ops.size≤j→j<ops.size→i<j→((zX ops.toList []).getD j 0).testBit i=true :=
  fun i j h1 h2 h3=>Zr hc i j Y2 h2 h3
 refine zcj (ws:=ws) (N:=N) (e0:=e) (V:=V) (S:=S) (E:=E) (g0:=g) (w0:=w) (n:=min n ops.size) hmin hcut hs ?_ a1 (fun i o hi ho=>(a5 i o (Nat.zero_le _) hi ho).1) (fun i o hi ho=>(a5 i o (Nat.zero_le _) hi ho).2.1)
  (fun i o hi ho=>(a5 i o (Nat.zero_le _) hi ho).2.2.1) (fun i o hi ho=>(a5 i o (Nat.zero_le _) hi ho).2.2.2) ?_ ops.size _ g s _ a Y1 ?_ ?_ (fun k _=>hrepl k) hI1 hX1 hdf hN ?_ ?_
 ·exact Y65
 ·exact Y13
 ·exact zjb
 ·exact Y69
 ·exact zi9
 ·rw [hnone];exact a2.symm
theorem zj.skip_ {o:Oper} {l:List Oper} {i:Nat} {K:Env→St→Prop} (hw:∀ g w (a:Act),yY g w (Env.keep (zu ops o) e) a.tmps→Region.wanted o (yielded ops a.tmps)=false) (hd:zj P ops ws (i+1) l (e.put o.dst (.tuple [])) s K):zj P ops ws i (o::l) e s K:=by
 obtain ⟨e2,s2,h1,h2⟩:=hd
 have key:∀ s,DOp P ops o e s (.tuple []) s:=by
  intro s g w a hI hsl K Q hk
  rw [hw g w a (vP hsl)]
  simp only [Bool.false_eq_true,if_false]
  exact hk undef w g hI (Ext.refl _ _) zol
 exact ⟨e2,s2,Det.cons (key s) (fun _=>rfl) (fun _ _ s=>key s) h1,h2⟩
theorem zj.gdo {o:Oper} {l:List Oper} {i:Nat} {K:Env→St→Prop} {v:PV} (hg:guard? ops o (Env.keep (zu ops o) e)=some true) (ha:Wv P o.op (ev (Env.keep (zu ops o) e)) s=some v) (hd:zj P ops ws (i+1) l (e.put o.dst v) s K):zj P ops ws i (o::l) e s K:=by
 obtain ⟨e2,s2,h1,h2⟩:=hd
 have key:∀ s,Wv P o.op (ev (Env.keep (zu ops o) e)) s=some v→DOp P ops o e s v s:=fun s ha=>DOp.of_effect hg fun g w a hI hE=>VX hI (fun x=>xE hE x) ha
 exact ⟨e2,s2,Det.cons (key s ha) (fun _=>rfl) (fun ht _ s2=>key s2 (by rw [XV (s':=s) ht];exact ha)) h1,h2⟩
theorem zj.gskip' {o:Oper} {l:List Oper} {i:Nat} {K:Env→St→Prop} (hg:guard? ops o (Env.keep (zu ops o) e)=some false) (hd:zj P ops ws (i+1) l (e.put o.dst (.tuple [])) s K):zj P ops ws i (o::l) e s K :=
 zj.skip_ (fun g w a hE=>yR hg hE) hd
theorem zj.gskipU {o:Oper} {l:List Oper} {i:Nat} {K:Env→St→Prop} (hg:Uv ops o (Env.keep (zu ops o) e)=true) (hd:zj P ops ws (i+1) l (e.put o.dst (.tuple [])) s K):zj P ops ws i (o::l) e s K :=
 zj.skip_ (fun g w a hE=>WA hg hE) hd
end
end Go.PM
namespace Go.PM
open Go
def PV.frz (wk:Bool) (s:St) (q:Nat→Bool):Nat→PV→PV
 | 0,p=>p.weak
 | n+1,.own id off len=>if q id=true then .own id off len else match s.blk id with
   | some (.row _ els)=>if off+len≤els.length then .sl .unk (((els.drop off).take len).map (PV.frz wk s q n)) else .junk
   | _=>.junk
 | n+1,.sl k els=>.sl (if wk then .unk else k) (els.map (PV.frz wk s q n))
 | n+1,.agg cs=>.agg (cs.map (PV.frz wk s q n))
 | n+1,.tuple cs=>.tuple (cs.map (PV.frz wk s q n))
 | _+1,p=>p.weak
theorem uz {g:G} {w:World} {m:Nat} {q:Nat→Bool} {f:PV→PV} (hf:∀ p v,(f p).blw m→R g w p v→R (g.keep m q) w (f p) v):∀ (ps:List PV) (vs:List Value),PV.blws m (ps.map f)→RA g w ps vs→RA (g.keep m q) w (ps.map f) vs
 | [],vs,_,h=>by simpa only [List.map_nil,RA] using h
 | p::ps,vs,hb,h=>by
   simp only [List.map_cons,PV.blws,RA] at hb h ⊢
   obtain ⟨v,r,rfl,h1,h2⟩:=h
   exact ⟨v,r,rfl,hf p v hb.1 h1,uz hf ps r hb.2 h2⟩
theorem zfw {w:World} {b o:Nat} {xs:List Value} (h:zT w b o xs) (i n:Nat):zT w b (o+i) ((xs.drop i).take n):=by
 intro j hj
 simp only [List.length_take,List.length_drop] at hj
 rw [List.getElem_take,List.getElem_drop,Nat.add_assoc]
 exact h (i+j) Y2
theorem zi6 {P:Program} {g:G} {s:St} {w:World} (h:Inv P g s w) {id b n:Nat} {q:Nat→Bool} (hl:g.live id=true) (hr:g.rows id=some (b,n)) (hq:q id=false) (m k:Nat):(g.keep m q).free b k:=by
 refine ⟨?_,fun e he=>?_⟩
 ·rintro ⟨i,z,hz,hlv⟩
  simp only [G.keep,Bool.and_eq_true] at hz hlv
  have:=h.inj i id b z n hlv.2 hl hz hr
  subst this
  rw [hq] at hlv
  exact absurd hlv.1 Y1
 ·have:(g.keep m q).lim b=g.lim b:=rfl
  rw [this,h.rlim id b n hl hr] at he
  cases he
theorem zlv {P:Program} {g:G} {s:St} {w:World} (h:Inv P g s w) (m:Nat) (wk:Bool) (q:Nat→Bool):∀ (n:Nat) (p:PV) (v:Value),(p.frz wk s q n).blw m→R g w p v→R (g.keep m q) w (p.frz wk s q n) v:=by
 intro n
 have leaf:∀ (p:PV) (v:Value),p.weak.blw m→R g w p v→R (g.keep m q) w p.weak v:=fun p v hb hr=>zbq (ZA g m q) _ _ hb (XZ p v hr)
 induction n with
 | zero=>exact leaf
 | succ n ih =>
   intro p v hb hr
   cases p with
   | own id off len =>
     unfold PV.frz at hb ⊢
     split at hb
     ·rename_i hq
      rw [if_pos hq]
      exact zbq (ZA g m q) _ _ hb hr
     ·rename_i hq
      rw [if_neg hq]
      split at hb
      ·rename_i t els hbl
       split at hb
       ·rename_i hle
        rw [if_pos hle]
        have hat:=h.at' id
        rw [hbl] at hat
        obtain ⟨_,hlv,b,vs,hrow,hpos,_,hc,hsz,hra⟩:=hat
        simp only [R] at hr
        obtain ⟨hlt,b',sz,cap,hrow',hcap,rfl,hcs⟩:=hr
        rw [hrow] at hrow'
        cases hrow'
        have hvl:=zV hra
        have hra':=Zb len (vz off hra)
        simp only [PV.blw] at hb
        simp only [R]
        refine ⟨(vs.drop off).take len,uz ih _ _ hb.2 hra',.inr ?_⟩
        have hlen:(((els.drop off).take len).map (PV.frz wk s q n)).length=len:=Vb
        have hss:∀ v∈(vs.drop off).take len,v.cells.size=P.cellsOf t:=fun v hv=>(hsz v (List.mem_of_mem_drop (List.mem_of_mem_take hv))).1
        refine .inl ⟨b,off*P.cellsOf t,cap,P.cellsOf t,by rw [hlen],by rw [hlen];omega,hpos,(fun e=>zbE),fun _=>zi6 h hlv hrow (by simpa using hq) _ _,?_,hss,zfd⟩
        rw [Wj _ (P.cellsOf t) (fun v hv=>(hsz v (List.mem_of_mem_drop hv)).1),Yp _ (P.cellsOf t) (fun v hv=>(hsz v hv).1)]
        have:=zfw hc (off*P.cellsOf t) (len*P.cellsOf t)
        rwa [Nat.zero_add] at this
       ·rename_i hle
        rw [if_neg hle]
        simp only [R]
      ·simp only [R]
   | sl k els =>
     unfold PV.frz at hb ⊢
     simp only [PV.blw] at hb
     simp only [R] at hr ⊢
     obtain ⟨vs,h1,h2⟩:=hr
     refine ⟨vs,uz ih _ _ hb.2 h1,?_⟩
     rw [List.length_map]
     cases wk with
     | true=>exact WJ (ZA g m q) zfd (UV h2)
     | false=>exact WJ (ZA g m q) hb.1 h2
   | agg cs =>
     unfold PV.frz at hb ⊢
     simp only [PV.blw] at hb
     simp only [R] at hr ⊢
     obtain ⟨a,h1,h2,h3⟩:=hr
     exact ⟨a,h1,h2,uz ih _ _ hb h3⟩
   | tuple cs =>
     unfold PV.frz at hb ⊢
     simp only [PV.blw] at hb
     simp only [R] at hr ⊢
     obtain ⟨a,h1,h3⟩:=hr
     exact ⟨a,h1,uz ih _ _ hb h3⟩
   | _=>exact leaf _ v hb hr
section
variable {P:Program} {fn:Func} {args:List PV} {s0:St} {Q:PV→St→Prop} {e:Env} {s:St}
theorem Ret.keepF {r r':PV} (wk:Bool) (fuel n:Nat) (p:Nat→Bool) (hr:Xp P fn.results.toList e s=some r) (hr':∀ g w v,R g w (r.frz wk s p fuel) v→R g w r' v) (hn:s0.nxt≤n) (hb:(r.frz wk s p fuel).blw n)
  (hp:∀ i,p i=true→s.blk i≠none→i<n) (hk:∀ i b,p i=true→s.blk i=some b→s0.blk i=some b∨b.blw n) (h:Q r' (s.keep n p)):Ret P fn args s0 Q e s:=by
 refine ⟨r,hr,_,_,h,fun g0 w0 g w hI0 hX hI v hv=>⟨g.keep n p,Yw hI n p hp ?_,hr' _ _ _ (zlv hI n wk p fuel _ _ hb hv),Ut hX n (by rw [hI0.nxt];exact hn) p⟩⟩
 intro i b hpi hbi
 rcases hk i b hpi hbi with q | q
 ·have:=hI0.blw q
  exact Ret.keep.blw_mono (s0:=s0) (n:=s0.nxt) hn b this
 ·exact q
theorem Ret.pureF {r r':PV} (fuel:Nat) (hr:Xp P fn.results.toList e s=some r) (hr':r.frz true s (fun i=>decide (i<s0.nxt)) fuel=r') (hb:r'.blw s0.nxt) (hwf:s0.wf) (hk:∀ i,i<s0.nxt→s.blk i=s0.blk i) (h:Q r' s0):Ret P fn args s0 Q e s:=by
 have e1:s.keep s0.nxt (fun i=>decide (i<s0.nxt))=s0:=by
  cases s0 with
  | mk n f =>
    simp only [St.keep,St.mk.injEq,true_and]
    funext i
    by_cases hi:i<n
    ·exact zlm
    ·exact Y61
 subst hr'
 refine Ret.keepF true fuel s0.nxt (fun i=>decide (i<s0.nxt)) hr (fun _ _ _ h=>h) (Nat.le_refl _) hb (fun i hi _=>of_decide_eq_true hi) ?_ ziE
 intro i b hi hbi
 rw [hk i (of_decide_eq_true hi)] at hbi
 exact .inl hbi
end
def Yy (e:TypeId) (s:St) (lo:Nat) (v:PV) (els:List PV):Prop :=
 v=.sl .nil []∧els=[]∨∃ L zs,v=.own L 0 els.length∧lo≤L∧s.blk L=some (.row e zs)∧els.length≤zs.length∧zs.take els.length=els
theorem Yy.nil (e:TypeId) (s:St) (lo:Nat):Yy e s lo (.sl .nil []) []:=.inl ⟨rfl,rfl⟩
theorem Yy.keep {e:TypeId} {s s':St} {lo:Nat} {v:PV} {els:List PV} (h:Yy e s lo v els) (hk:∀ L z n,v=.own L z n→s'.blk L=s.blk L):Yy e s' lo v els:=by
 rcases h with h | ⟨L,zs,h1,h2,h3,h4⟩
 ·exact .inl h
 ·exact .inr ⟨L,zs,h1,h2,by rw [hk L _ _ h1];exact h3,h4⟩
theorem Yy.lt {e:TypeId} {s:St} (hwf:s.wf) {lo:Nat} {v:PV} {els:List PV} (h:Yy e s lo v els) {L z n:Nat} (hv:v=.own L z n):lo≤L∧L<s.nxt:=by
 rcases h with ⟨h,_⟩ | ⟨L',zs,h1,h2,h3,h4⟩
 ·rw [hv] at h;cases h
 ·rw [h1] at hv;cases hv
  refine ⟨h2,?_⟩
  rcases Nat.lt_or_ge L s.nxt with h | h
  ·exact h
  ·rw [hwf L h] at h3;cases h3
theorem Yy.frz {e:TypeId} {s:St} {lo:Nat} {v:PV} {els:List PV} (h:Yy e s lo v els) {wk:Bool} {q:Nat→Bool} (hq:∀ L z n,v=.own L z n→q L=false) (n:Nat):v.frz wk s q (n+1)=.sl .unk (els.map (PV.frz wk s q n))∨els=[]∧v.frz wk s q (n+1)=.sl .nil []:=by
 rcases h with ⟨rfl,rfl⟩ | ⟨L,zs,rfl,h2,h3,h4,h5⟩
 ·cases wk with
  | true=>exact .inl rfl
  | false=>exact .inr ⟨rfl,rfl⟩
 ·left
  unfold PV.frz
  rw [if_neg (by rw [hq L 0 _ rfl];simp),h3]
  simp only [Nat.zero_add,List.drop_zero]
  rw [if_pos h4,h5]
theorem Yy.out {e:TypeId} {s:St} {lo:Nat} {v:PV} {els:List PV} (h:Yy e s lo v els) {wk:Bool} {q:Nat→Bool} (hq:∀ L z n,v=.own L z n→q L=false) (n m:Nat) (hb:PV.blws m (els.map (PV.frz wk s q n))) :
  (v.frz wk s q (n+1)).blw m∧∀ g w u,R g w (v.frz wk s q (n+1)) u→R g w (.sl .unk (els.map (PV.frz wk s q n))) u:=by
 rcases h.frz hq n with e | ⟨rfl,e⟩
 ·rw [e]
  exact ⟨by simp only [PV.blw];exact ⟨zfd,hb⟩,fun _ _ _ h=>h⟩
 ·rw [e]
  exact ⟨by simp only [PV.blw];exact ⟨zfd,hb⟩,fun g w u h=>XE.2 (.inl h)⟩
theorem Yy.len {P:Program} {t e e':TypeId} {s:St} {lo:Nat} {v:PV} {els:List PV} (h:Yy e s lo v els) (ht:td P t=.sl e'):zhm P t v s=some (.int .i64 els.length):=by
 rcases h with ⟨rfl,rfl⟩ | ⟨L,zs,rfl,h2,h3,h4,h5⟩
 ·unfold zhm;simp [ht]
 ·unfold zhm;simp only [ht]
section
variable {P:Program} {N:Nat} {k:List KI} {e:Env} {s:St} {rt:Env→St→Prop}
end
section
variable {P:Program} {fn:Func} {args:List PV} {s0:St} {Q:PV→St→Prop} {e:Env} {s:St}
end
end Go.PM
namespace Go.PM
open Go
section
variable {P:Program} {N:Nat} {k:List KI} {e:Env} {s:St} {rt:Env→St→Prop}
theorem Run.join {x:KI} (J:Env→St→Prop) (hj:∀ e s,J e s→Run P N k e s rt) (h:(∀ e s,J e s→Run P N k e s rt)→Run P N (x::k) e s rt):Run P N (x::k) e s rt:=h hj
theorem AWP.env {c:Code} {e e':Env} {Q:AQ} (he:∀ i,Env.get e' i=e.get i∨Env.get e' i=.junk) (h:AWP P N c e' s Q):AWP P N c e s Q :=
 fun ok g w a h1 h2 h3 h4=>h ok g w a h1 (h2.env he) h3 h4
theorem Run.prune {c:Code} {e':Env} (l:List Nat) (he:Env.keep l e=e') (h:Run P N (.code c::k) e' s rt):Run P N (.code c::k) e s rt:=by
 subst he
 intro ok
 exact AWP.env (VD e l) (h ok)
end
end Go.PM
namespace Go.PM
open Go
def xZ (ops:Array Oper) (ws:List Nat) (fr:Nat→Bool) (i j:Nat) (oi oj:Oper):Bool :=
 (match oi.dst with | some d=>oj.dst==some d||(zu ops oj).contains d | none=>false) ||
 (match oj.dst with | some d=>(zu ops oi).contains d | none=>false) ||
 (ws.contains i&&(!fr j||ws.contains j))||(ws.contains j&&(!fr i||ws.contains i))
def wD (ops:Array Oper) (ws:List Nat) (fr:Nat→Bool):Bool :=
 let ms:=zX ops.toList []
 (List.range ops.size).all fun j=>match ops[j]? with
   | none=>false
   | some oj=>(oj.after.toList.all fun e=> !Region.binds .any e||decide (e.on<j)) &&
     (List.range j).all fun i=>match ops[i]? with
       | none=>false
       | some oi=> !xZ ops ws fr i j oi oj||(ms.getD j 0).testBit i
theorem zbk {p l:Nat→Bool}:∀ {n k:Nat},zH p l n=some k→k<n
 | 0,k,h=>by simp [zH] at h
 | n+1,k,h=>by
   unfold zH at h
   split at h
   ·cases h;omega
   ·have:=zbk h;omega
theorem Y14 {p:Prop} (h:p:=by
 intro j
 have hokd:=vV (hN i o ho)
 by_cases hw:zQ o j=true
 ·have hdst:o.dst=some j:=by simpa [zQ] using hw
  have:=(cell (xH ops j) (by
   intro k ok hk hki hp
   rw [yr hk] at hp
   simp only [zQ,beq_iff_eq] at hp
   unfold xZ;rw [hp];simp [hdst]) (by
   intro k ok hk hki hp
   rw [yr hk] at hp
   simp only [zQ,beq_iff_eq] at hp
   unfold xZ;rw [hdst];simp [hp])).2
  rw [Zv (i:=i) hin (by rw [yr ho];exact hw) (by rw [hgd];simp) znp]
  simp only [Act.put,hdst]
  have hjN:j<a.tmps.size:=by rw [hn];exact hokd j hdst
  rw [Array.getD_eq_getD_getElem?,Array.getElem?_setIfInBounds]
  simp [hjN,hR']
 ·have:zH (xH ops j) (fun k=>(listed.setIfInBounds i true).getD k false) n=zH (xH ops j) (fun k=>listed.getD k false) n:=by
   refine ya fun k hk hp=>?_
   rw [hgd,if_neg]
   rintro rfl
   rw [yr ho] at hp
   exact hw hp
  rw [this]
  have h3:=Xi hX' _ _ (hslots j)
  cases hdst:o.dst with
  | none=>exact h3
  | some d =>
    have hjd:d≠j:=by
     rintro rfl
     exact hw (by simp [zQ,hdst])
    simp only [Act.put]
    rw [Array.getD_eq_getD_getElem?,Array.getElem?_setIfInBounds,if_neg hjd,← Array.getD_eq_getD_getElem?]
    exact h3):p:=h
theorem zgg {P:Program} {ops:Array Oper} {ws:List Nat} {N:Nat} {e0:Env} {Q:Exit→Act→World→Prop} {V:Nat→PV} {S:Nat→St} {E:Nat→Env} {g0:G} {w0:World} {n:Nat} {fr:Nat→Bool}
  (hnsz:n≤ops.size) (hcut:∀ i j,n≤j→j<ops.size→i<j→((zX ops.toList []).getD j 0).testBit i=true) (hok:wD ops ws fr=true) (hN:∀ (i:Nat) (o:Oper),ops[i]? =some o→zbu N o=true)
  (hE0:E 0=e0) (hE:∀ (i:Nat) (o:Oper),i<n→ops[i]? =some o→E (i+1)=(E i).put o.dst (V i))
  (hS:∀ (i:Nat) (o:Oper),i<n→ops[i]? =some o→i∉ws→S (i+1)=S i)
  (hD:∀ (i:Nat) (o:Oper),i<n→ops[i]? =some o→DOp P ops o (E i) (S i) (V i) (S (i+1)))
  (hF:∀ (i:Nat) (o:Oper),i<n→ops[i]? =some o→fr i=true→i∉ws→∀ k,k≤n→DOp P ops o (E i) (S k) (V i) (S k))
  (hQ:∀ g w (a:Act),Inv P g (S n) w→yY g w (E n) a.tmps→Ext g0 w0 g w→a.defers=[]→a.tmps.size=N→wpOps P ops Q (List.range' n (ops.size-n)) a w) :
  ∀ (fuel:Nat) (listed:Array Bool) (g:G) (s:St) (w:World) (a:Act),listed.size=ops.size →
   ((List.range ops.size).filter fun k=> !listed.getD k true).length≤fuel→DC ops (fun k=>listed.getD k false=true)→(∀ k,n≤k→listed.getD k false=false) →
   Inv P g s w→Ext g0 w0 g w→a.defers=[]→a.tmps.size=N →
   (∀ j,R g w (match zH (xH ops j) (fun k=>listed.getD k false) n with | none=>e0.get j | some k=>V k) (a.tmps.getD j undef)) →
   s=(match zH (fun k=>ws.contains k) (fun k=>listed.getD k false) n with | none=>S 0 | some k=>S (k+1)) →
   wpAny P .any ops Q fuel listed a w:=by
 have hpair:∀ (i j:Nat) (oi oj:Oper),i<j→ops[i]? =some oi→ops[j]? =some oj→xZ ops ws fr i j oi oj=true→((zX ops.toList []).getD j 0).testBit i=true:=by
  intro i j oi oj hij h1 h2 hc
  unfold wD at hok
  have:=List.all_eq_true.1 hok j (List.mem_range.2 (Array.getElem?_eq_some_iff.1 h2).1)
  rw [h2] at this
  simp only [Bool.and_eq_true] at this
  have:=List.all_eq_true.1 this.2 i (List.mem_range.2 hij)
  rw [h1] at this
  simp only [hc,Bool.not_true,Bool.false_or] at this
  exact this
 have hedge:∀ (j:Nat) (oj:Oper),ops[j]? =some oj→∀ e∈oj.after,Region.binds .any e=true→e.on<j:=by
  intro j oj h2 e he hb
  unfold wD at hok
  have:=List.all_eq_true.1 hok j (List.mem_range.2 (Array.getElem?_eq_some_iff.1 h2).1)
  rw [h2] at this
  simp only [Bool.and_eq_true] at this
  have:=List.all_eq_true.1 this.1 e (by simpa using he)
  simpa [hb] using this
 have hmask:∀ (L:Nat→Prop),DC ops L→∀ (k:Nat) (o:Oper),ops[k]? =some o→(∀ e∈o.after,Region.binds .any e=true→L e.on)→∀ b,((zX ops.toList []).getD k 0).testBit b=true→L b :=
  fun L hdc=>ur hdc ops.toList [] Y1 zki zlu
 have hEget:∀ i,i≤n→∀ j,(E i).get j=(match zH (xH ops j) (fun _=>true) i with | none=>e0.get j | some k=>V k):=by
  intro i
  induction i with
  | zero=>intro _ j;rw [hE0];rfl
  | succ i ih =>
    intro hi j
    obtain ⟨o,ho⟩:∃ o,ops[i]? =some o:=⟨ops[i]'Y2,Y1⟩
    rw [hE i o Y2 ho]
    unfold zH
    rw [yr ho,Bool.and_true]
    unfold zQ
    cases hd:o.dst with
    | none=>simp only [Env.put];rw [ih Y2 j];simp
    | some d =>
      simp only [Env.put,Env.get]
      by_cases hjd:j=d
      ·subst hjd;simp
      ·exact Y63
 have hSget:∀ i,i≤n→S i=(match zH (fun k=>ws.contains k) (fun _=>true) i with | none=>S 0 | some k=>S (k+1)):=by
  intro i
  induction i with
  | zero=>intro _;rfl
  | succ i ih =>
    intro hi
    obtain ⟨o,ho⟩:∃ o,ops[i]? =some o:=⟨ops[i]'Y2,Y1⟩
    unfold zH
    by_cases hw:i∈ws
    ·exact zmj
    ·exact znU
 intro fuel
 have fin:∀ (fuel:Nat) (listed:Array Bool) (g:G) (s:St) (w:World) (a:Act),listed.size=ops.size →
   ((List.range ops.size).filter fun k=> !listed.getD k true).length≤fuel→DC ops (fun k=>listed.getD k false=true)→(∀ k,n≤k→listed.getD k false=false) →
   Inv P g s w→Ext g0 w0 g w→a.defers=[]→a.tmps.size=N →
   (∀ j,R g w (match zH (xH ops j) (fun k=>listed.getD k false) n with | none=>e0.get j | some k=>V k) (a.tmps.getD j undef)) →
   s=(match zH (fun k=>ws.contains k) (fun k=>listed.getD k false) n with | none=>S 0 | some k=>S (k+1))→(∀ k,k<n→listed.getD k false=true) →
   wpAny P .any ops Q fuel listed a w:=by
  intro fuel listed g s w a hsz hcnt hdc hhi hI hX hd hn hslots hstore hall'
  refine YU (n:=n) hcut hedge hmask (ops.size-n) fuel n listed a w Y2 ?_ (Nat.le_refl _) ?_ hsz hdc ?_
  ·exact Y9
  ·exact Y66
  ·exact Y3
 induction fuel with
 | zero =>
   intro listed g s w a hsz hcnt hdc hhi hI hX hd hn hslots hstore
   refine fin 0 listed g s w a hsz hcnt hdc hhi hI hX hd hn hslots hstore ?_
   have hall:∀ k,k<ops.size→listed.getD k true=true:=by
    intro k hk
    have:(List.range ops.size).filter (fun k=> !listed.getD k true)=[]:=List.length_eq_zero_iff.1 Y2
    have:=List.filter_eq_nil_iff.1 this k (List.mem_range.2 hk)
    simpa using this
   intro k hk
   have:=hall k Y2
   rw [Array.getD_eq_getD_getElem?,Array.getElem?_eq_getElem Y2] at this ⊢
   exact this
 | succ fuel ih =>
   intro listed g s w a hsz hcnt hdc hhi hI hX hd hn hslots hstore
   by_cases hfull:∀ k,k<n→listed.getD k false=true
   ·exact zmO
   refine ⟨?_,?_⟩
   ·exact Y10
   ·intro i hi
    obtain ⟨h0,o,ho,hedges⟩:=mem_ready.1 hi
    have hlt:=(Array.getElem?_eq_some_iff.1 ho).1
    have hnl:listed.getD i false=false:=by
     rw [Array.getD_eq_getD_getElem?,Array.getElem?_eq_getElem Y2] at h0 ⊢
     exact h0
    have hanc:=hmask _ hdc i o ho hedges
    have hin:i<n:=by
     by_cases h:i<n
     ·exact h
     ·exact zmA
    have before:∀ (k:Nat) (ok:Oper),ops[k]? =some ok→k<i→xZ ops ws fr k i ok o=true→listed.getD k false=true :=
     fun k ok hk hki hc=>hanc k (hpair k i ok o hki hk ho hc)
    have behind:∀ (k:Nat) (ok:Oper),ops[k]? =some ok→i<k→xZ ops ws fr i k o ok=true→listed.getD k false=false:=by
     intro k ok hk hki hc
     cases hlk:listed.getD k false with
     | false=>rfl
     | true =>
       have this:listed.getD i false=true:=hmask _ hdc k ok hk (hdc k ok hk hlk) i (hpair i k o ok hki ho hk hc)
       rw [hnl] at this;cases this
    have cell:∀ p:Nat→Bool,(∀ (k:Nat) (ok:Oper),ops[k]? =some ok→k<i→p k=true→xZ ops ws fr k i ok o=true)→(∀ (k:Nat) (ok:Oper),ops[k]? =some ok→i<k→p k=true→xZ ops ws fr i k o ok=true) →
      zH p (fun k=>listed.getD k false) n=zH p (fun _=>true) i∧∀ k,i<k→k<n→(p k&&listed.getD k false)=false:=by
     intro p h1 h2
     have hb:∀ k,i<k→k<n→(p k&&listed.getD k false)=false:=by
      intro k hk hkn
      cases hp:p k with
      | false=>rfl
      | true =>
        obtain ⟨ok,hok'⟩:∃ o,ops[k]? =some o:=⟨ops[k]'Y2,Y1⟩
        rw [behind k ok hok' hk (h2 k ok hok' hk hp)];rfl
     refine ⟨?_,hb⟩
     rw [ul (i:=i) Y2 Y4]
     refine ya fun k hk hp=>?_
     obtain ⟨ok,hok'⟩:∃ o,ops[k]? =some o:=⟨ops[k]'Y2,Y1⟩
     exact before k ok hok' hk (h1 k ok hok' hk hp)
    have hsl:∀ j∈zu ops o,R g w ((E i).get j) (a.tmps.getD j undef):=by
     intro j hj
     have:=(cell (xH ops j) (by
      intro k ok hk hki hp
      rw [yr hk] at hp
      simp only [zQ,beq_iff_eq] at hp
      unfold xZ
      rw [hp]
      simp [hj]
     ) (by
      intro k ok hk hki hp
      rw [yr hk] at hp
      simp only [zQ,beq_iff_eq] at hp
      unfold xZ
      rw [hp]
      simp [hj]
     )).1
     have h3:=hslots j
     rw [this] at h3
     rw [hEget i Y2 j]
     exact h3
    have rest:∀ (s':St) val w' g',s'=(match zH (fun k=>ws.contains k) (fun k=>(listed.setIfInBounds i true).getD k false) n with | none=>S 0 | some k=>S (k+1)) →
      Inv P g' s' w'→Ext g w g' w'→R g' w' (V i) val→wpAny P .any ops Q fuel (listed.setIfInBounds i true) (a.put o.dst val) w':=by
     intro s' val w' g' hs' hI' hX' hR'
     have hgd:∀ k,(listed.setIfInBounds i true).getD k false=if k=i then true else listed.getD k false:=by
      intro k
      by_cases e:k=i
      ·exact Y62
      ·exact Y64
     refine ih _ g' s' w' _ zi7 ?_ ?_ zlG hI' (hX.trans hX') Y58 zkX ?_ hs'
     ·exact Y5
     ·exact Y6
     ·exact Y14
    have hgd':∀ k,(listed.setIfInBounds i true).getD k false=if k=i then true else listed.getD k false:=by
     intro k
     by_cases e:k=i
     ·exact Y62
     ·exact Y64
    unfold wpOp
    rw [ho]
    simp only
    by_cases hfree:fr i=true∧i∉ws
    ·
     obtain ⟨kk,hkk,hsk⟩:∃ kk,kk≤n∧s=S kk:=by
      rw [hstore]
      cases hlw:zH (fun k=>ws.contains k) (fun k=>listed.getD k false) n with
      | none=>exact ⟨0,Nat.zero_le _,rfl⟩
      | some k=>exact ⟨k+1,zbk hlw,rfl⟩
     subst hsk
     refine hF i o hin ho hfree.1 hfree.2 kk hkk g w a hI hsl _ _ fun val w' g' k1 k2 k3=>rest (S kk) val w' g' ?_ k1 k2 k3
     rw [hstore]
     have:zH (fun k=>ws.contains k) (fun k=>(listed.setIfInBounds i true).getD k false) n=zH (fun k=>ws.contains k) (fun k=>listed.getD k false) n:=by
      refine ya fun k hk hp=>?_
      rw [hgd',if_neg]
      rintro rfl
      exact hfree.2 zg1
     rw [this]
    ·
     have htw:(!fr i)=true∨ws.contains i=true:=by
      by_cases h1:fr i=true
      ·exact znX
      ·left;simpa using h1
     have hcs:=cell (fun k=>ws.contains k) (by
      intro k ok hk hki hp
      unfold xZ
      rcases htw with h | h<;>simp only [hp,h,Bool.true_or,Bool.or_true,Bool.and_self]) (by
      intro k ok hk hki hp
      unfold xZ
      rcases htw with h | h<;>simp only [hp,h,Bool.true_or,Bool.or_true,Bool.and_self])
     have hs:s=S i:=znJ
     subst hs
     refine hD i o hin ho g w a hI hsl _ _ fun val w' g' k1 k2 k3=>rest _ val w' g' ?_ k1 k2 k3
     by_cases hw:ws.contains i=true
     ·rw [Zv (i:=i) hin hw (by rw [hgd'];simp) zmc]
     ·exact Y67
inductive XB (P:Program) (ops:Array Oper) (ws:List Nat) (σ:List St):Nat→List Oper→Env→St→Env→St→Prop
 | nil {i e s}:s∈σ→XB P ops ws σ i [] e s e s
 | cons {i o l e s v e' s'}:i∉ws→(∀ s∈σ,DOp P ops o e s v s)→s∈σ→XB P ops ws σ (i+1) l (e.put o.dst v) s e' s'→XB P ops ws σ i (o::l) e s e' s'
 | ef {i o l e s v s1 e' s'}:i∈ws→s∈σ→DOp P ops o e s v s1→XB P ops ws σ (i+1) l (e.put o.dst v) s1 e' s'→XB P ops ws σ i (o::l) e s e' s'
section
variable {P:Program} {ops:Array Oper} {ws:List Nat} {σ:List St} {e e':Env} {s s' s0:St} {N:Nat} {k:List KI} {rt:Env→St→Prop}
def zG (P:Program) (ops:Array Oper) (ws:List Nat) (σ:List St) (i:Nat) (l:List Oper) (e:Env) (s:St) (K:Env→St→Prop):Prop:=∃ e' s',XB P ops ws σ i l e s e' s'∧K e' s'
theorem zG.nil {i:Nat} {K:Env→St→Prop} (hs:s∈σ) (h:K e s):zG P ops ws σ i [] e s K:=⟨e,s,.nil hs,h⟩
def vN (P:Program) (ops:Array Oper):List Oper→Env→St→List St→Env→Prop
 | [],e,_,_,e1=>e=e1
 | o::l,e,s,σ,e1=>∃ v,zal P ops o (Env.keep (zu ops o) e) s=some v∧(∀ s∈σ,zal P ops o (Env.keep (zu ops o) e) s=some v)∧vN P ops l (e.put o.dst v) s σ e1
theorem zn5 {p:Prop} (h:p:=by exact (fun a ha=>by have:=hi a ha;omega)):p:=h
theorem XB.pre (hs:s∈σ):∀ {pre:List Oper} {l:List Oper} {i:Nat} {e e1 e':Env},(∀ a∈ws,a<i∨i+pre.length≤a)→vN P ops pre e s σ e1→XB P ops ws σ (i+pre.length) l e1 s e' s'→XB P ops ws σ i (pre++l) e s e' s'
 | [],l,i,e,e1,e',_,h,hd=>zkV
 | o::pre,l,i,e,e1,e',hi,h,hd=>by
   simp only [List.length_cons] at hi hd
   obtain ⟨v,hv,hv',h⟩:=h
   refine XB.cons (fun hm=>by have:=hi i hm;omega) (fun s hs=>ZQ (hv' s hs)) hs ?_
   refine XB.pre hs zn5 h ?_
   rw [show i+1+pre.length=i+(pre.length+1) from Y2]
   exact hd
theorem zG.pre {pre l:List Oper} {i:Nat} {e1:Env} {K:Env→St→Prop} (hi:∀ a∈ws,a<i∨i+pre.length≤a) (hs:s∈σ) (h:vN P ops pre e s σ e1) (hd:zG P ops ws σ (i+pre.length) l e1 s K):zG P ops ws σ i (pre++l) e s K:=by
 obtain ⟨e',s',h1,h2⟩:=hd
 exact ⟨e',s',XB.pre hs hi h h1,h2⟩
theorem zG.all {l:List Oper} {i:Nat} {e1:Env} {K:Env→St→Prop} (hi:∀ a∈ws,a<i∨i+l.length≤a) (hs:s∈σ) (h:vN P ops l e s σ e1) (hk:K e1 s):zG P ops ws σ i l e s K:=by
 have:=zG.pre (P:=P) (ops:=ops) (l:=[]) hi hs h (zG.nil hs hk)
 simpa using this
theorem DOp.of_call {d:Option Nat} {c:Call} {t:TypeId} {pos:String} {af:Array Edge} {gd:Option (Nat × Bool)} {f:FuncId} {args args':List PV} {v:PV} {s:St}
  (hg:guard? ops ⟨d,.call c,t,pos,af,gd⟩ (Env.keep (zu ops ⟨d,.call c,t,pos,af,gd⟩) e)=some true)
  (ha:vn c (Env.keep (zu ops ⟨d,.call c,t,pos,af,gd⟩) e)=some (f,args)) (hw:PV.weaks args=args') (hc:zb P f=true)
  (h:za P f args' s fun r s1=>r=v∧s1=s):DOp P ops ⟨d,.call c,t,pos,af,gd⟩ e s v s:=by
 subst hw
 intro g w a hI hsl K Q hk
 have hE:=vP hsl
 rw [yR hg hE]
 simp only [if_true]
 obtain ⟨vs,hrun,hra⟩:=wS (P:=P) (o:=⟨d,.call c,t,pos,af,gd⟩) (a:=a) rfl hE ha hc
 left
 unfold Oper.wp
 rw [hrun,Oper.upon_enter]
 refine (h g w vs hI (we _ _ hra)).mono ?_
 rintro e' w' ⟨v',g',r',s',rfl,hI',hR',hX',rfl,rfl⟩
 exact hk _ _ _ hI' hX' hR'
theorem zG.call {d:Option Nat} {c:Call} {t:TypeId} {pos:String} {af:Array Edge} {gd:Option (Nat × Bool)} {l:List Oper} {i:Nat} {f:FuncId} {args args':List PV} {v:PV} {K:Env→St→Prop} (hi:ws.contains i=false)
  (hg:guard? ops ⟨d,.call c,t,pos,af,gd⟩ (Env.keep (zu ops ⟨d,.call c,t,pos,af,gd⟩) e)=some true)
  (ha:vn c (Env.keep (zu ops ⟨d,.call c,t,pos,af,gd⟩) e)=some (f,args)) (hw:PV.weaks args=args') (hc:zb P f=true)
  (hs:s∈σ) (h:∀ s∈σ,za P f args' s fun r s2=>r=v∧s2=s) (hd:zG P ops ws σ (i+1) l (e.put d v) s K):zG P ops ws σ i (⟨d,.call c,t,pos,af,gd⟩::l) e s K:=by
 obtain ⟨e',s',h1,h2⟩:=hd
 exact ⟨e',s',XB.cons zap (fun s hs=>DOp.of_call hg ha hw hc (h s hs)) hs h1,h2⟩
theorem zG.eff {o:Oper} {l:List Oper} {i:Nat} {v:PV} {s1:St} {K:Env→St→Prop} (hi:ws.contains i=true) (hs:s∈σ) (hg:guard? ops o (Env.keep (zu ops o) e)=some true)
  (ha:uV P o.op (ev (Env.keep (zu ops o) e)) s=some (v,s1)) (hd:zG P ops ws σ (i+1) l (e.put o.dst v) s1 K):zG P ops ws σ i (o::l) e s K:=by
 obtain ⟨e',s',h1,h2⟩:=hd
 exact ⟨e',s',XB.ef zap hs (DOp.of_effect hg fun g w a hI hE=>wY hI (fun x=>xE hE x) ha) h1,h2⟩
theorem zG.callE {d:Option Nat} {c:Call} {t:TypeId} {pos:String} {af:Array Edge} {gd:Option (Nat × Bool)} {l:List Oper} {i:Nat} {f:FuncId} {args args':List PV} {v:PV} {s1:St} {K:Env→St→Prop} (hi:ws.contains i=true) (hs:s∈σ)
  (hg:guard? ops ⟨d,.call c,t,pos,af,gd⟩ (Env.keep (zu ops ⟨d,.call c,t,pos,af,gd⟩) e)=some true)
  (ha:vn c (Env.keep (zu ops ⟨d,.call c,t,pos,af,gd⟩) e)=some (f,args)) (hw:PV.weaks args=args') (hc:zb P f=true)
  (h:za P f args' s fun r s2=>r=v∧s2=s1) (hd:zG P ops ws σ (i+1) l (e.put d v) s1 K):zG P ops ws σ i (⟨d,.call c,t,pos,af,gd⟩::l) e s K:=by
 obtain ⟨e',s',h1,h2⟩:=hd
 refine ⟨e',s',XB.ef (v:=v) (s1:=s1) zap hs ?_ h1,h2⟩
 subst hw
 intro g w a hI hsl K Q hk
 have hE:=vP hsl
 rw [yR hg hE]
 simp only [if_true]
 obtain ⟨vs,hrun,hra⟩:=wS (P:=P) (o:=⟨d,.call c,t,pos,af,gd⟩) (a:=a) rfl hE ha hc
 left
 unfold Oper.wp
 rw [hrun,Oper.upon_enter]
 refine (h g w vs hI (we _ _ hra)).mono ?_
 rintro e' w' ⟨v',g',r',s',rfl,hI',hR',hX',rfl,rfl⟩
 exact hk _ _ _ hI' hX' hR'
theorem Y15 {p:Prop} (h:p:=by
 exact
                        (fun j o'=>by
  have:=hl (j+1) o'
  rw [show i+1+j=i+(j+1) from Y2]
  simpa using this)):p:=h
theorem Y16 {p:Prop} (h:p:=by
 intro k hk hk2
 simp only [List.length_cons] at hk2
 by_cases e1:k=i
 ·simp only [e1,if_true];exact hs
 ·simp only [e1,if_false];exact a6 k Y2 Y2):p:=h
theorem zqd {p:Prop} (h:p:=by
 intro k o' hk hk2 ho'
 by_cases e1:k=i
 ·subst e1
  rw [h0] at ho';cases ho'
  simp only [if_true,show ¬ (k+1=k) from Y2,if_false]
  rw [a1,a2]
  exact ⟨rfl,fun e=>absurd hin e,h1⟩
 ·exact Y12):p:=h
theorem XB.lists:∀ {i l e s e' s'},XB P ops ws σ i l e s e' s'→(∀ j (o:Oper),l[j]? =some o→ops[i+j]? =some o) →
  ∃ (V:Nat→PV) (S:Nat→St) (E:Nat→Env),E i=e∧S i=s∧E (i+l.length)=e'∧S (i+l.length)=s'∧(∀ k,i≤k→k≤i+l.length→S k∈σ)∧∀ k (o:Oper),i≤k→k<i+l.length→ops[k]? =some o →
   E (k+1)=(E k).put o.dst (V k)∧(k∉ws→S (k+1)=S k∧∀ s∈σ,DOp P ops o (E k) s (V k) s)∧DOp P ops o (E k) (S k) (V k) (S (k+1)):=by
 intro i l e s e' s' h
 induction h with
 | nil hs =>
   rename_i i e s
   intro hl
   refine ⟨fun _=>.junk,fun _=>s,fun _=>e,rfl,rfl,rfl,rfl,fun k _ _=>hs,fun k o hk hk2 ho=>?_⟩
   simp at hk2;omega
 | cons hne h1 hs hd ih =>
   rename_i i o l e s v e' s'
   intro hl
   obtain ⟨V,S,E,a1,a2,a3,a4,a6,a5⟩:=ih Y15
   have h0:ops[i]? =some o:=Y68
   refine ⟨fun k=>if k=i then v else V k,fun k=>if k=i then s else S k,fun k=>if k=i then e else E k,if_pos rfl,if_pos rfl,?_,?_,?_,?_⟩
   ·exact Y7
   ·exact Y8
   ·exact Y16
   ·intro k o' hk hk2 ho'
    by_cases e1:k=i
    ·subst e1
     rw [h0] at ho';cases ho'
     simp only [if_true,show ¬ (k+1=k) from Y2,if_false]
     rw [a1,a2]
     exact ⟨rfl,fun _=>⟨rfl,h1⟩,h1 _ hs⟩
    ·exact Y12
 | ef hin hs h1 hd ih =>
   rename_i i o l e s v s1 e' s'
   intro hl
   obtain ⟨V,S,E,a1,a2,a3,a4,a6,a5⟩:=ih Y15
   have h0:ops[i]? =some o:=Y68
   refine ⟨fun k=>if k=i then v else V k,fun k=>if k=i then s else S k,fun k=>if k=i then e else E k,if_pos rfl,if_pos rfl,?_,?_,?_,?_⟩
   ·exact Y7
   ·exact Y8
   ·exact Y16
   ·exact zqd
theorem Run.drawM {id:Nat} (n:Nat) (ws:List Nat) (σ:List St) (hm:P.follows .mixedOrders=true) (hs:wD ops ws (fun _=>true)=true) (hc:UD ops n=true)
  (hd:zG P ops ws σ 0 (ops.toList.take n) e s0 (fun e' s'=>zm P N ops (ops.toList.drop n) k e' s' rt)):Run P N (.code (.region id ops true)::k) e s0 rt:=by
 obtain ⟨e',s',hd,h⟩:=hd
 intro ok
 simp only [okK,okC,Bool.and_eq_true] at ok
 intro _ g w ac hI hE hdf hN
 obtain ⟨V,S,E,a1,a2,a3,a4,a6,a5⟩:=hd.lists (fun j o ho=>by
  rw [List.getElem?_take] at ho
  split at ho
  ·simpa using ho
  ·cases ho)
 have hlen:(ops.toList.take n).length=min n ops.size:=Y1
 simp only [Nat.zero_add,hlen] at a3 a4 a5 a6
 have hmin:min n ops.size≤ops.size:=Nat.min_le_right _ _
 refine wp_region_any hm ?_
 obtain ⟨hI1,hX1⟩:=wV hI (w.drawn+1)
 have hrepl:∀ k,(Array.replicate ops.size false).getD k false=false:=by
  intro k
  rw [Array.getD_eq_getD_getElem?]
  cases hx:(Array.replicate ops.size false)[k]? with
  | none=>rfl
  | some b=>have:=Array.mem_of_getElem? hx;simp at this;rw [this.2];rfl
 have hnone:∀ (p:Nat→Bool) (n:Nat),zH p (fun k=>(Array.replicate ops.size false).getD k false) n=none:=by
  intro p n
  induction n with
  | zero=>rfl
  | succ n ih=>unfold zH;rw [hrepl,ih];simp
 have hcut:∀ i j,min n ops.size≤j→j<ops.size→i<j→((zX ops.toList []).getD j 0).testBit i=true :=
  fun i j h1 h2 h3=>Zr hc i j Y2 h2 h3
 refine zgg (ws:=ws) (N:=N) (e0:=e) (V:=V) (S:=S) (E:=E) (g0:=g) (w0:=w) (n:=min n ops.size) (fr:=fun _=>true) hmin hcut hs ?_ a1 (fun i o hi ho=>(a5 i o (Nat.zero_le _) hi ho).1)
  (fun i o hi ho hne=>((a5 i o (Nat.zero_le _) hi ho).2.1 hne).1) (fun i o hi ho=>(a5 i o (Nat.zero_le _) hi ho).2.2)
  (fun i o hi ho _ hne k hk=>((a5 i o (Nat.zero_le _) hi ho).2.1 hne).2 _ (a6 k (Nat.zero_le _) hk)) ?_ ops.size _ g s0 _ ac Y1 ?_ ?_ (fun k _=>hrepl k) hI1 hX1 hdf hN ?_ ?_
 ·exact Y65
 ·exact Y13
 ·exact zjb
 ·exact Y69
 ·exact zi9
 ·rw [hnone];exact a2.symm
structure Fr (s s':St):Prop where
 wf:s'.wf
 nxt:s.nxt≤s'.nxt
 blk:∀ i,i<s.nxt→s'.blk i=s.blk i
theorem Fr.refl {s:St} (h:s.wf):Fr s s:=⟨h,Nat.le_refl _,fun _ _=>rfl⟩
theorem Fr.trans {a b c:St} (h:Fr a b) (k:Fr b c):Fr a c:=⟨k.wf,Nat.le_trans h.nxt k.nxt,fun i hi=>by rw [k.blk i (Nat.lt_of_lt_of_le hi h.nxt),h.blk i hi]⟩
theorem Fr.new {s s':St} (h:Fr s s') (b:Blk):Fr s (s'.new b) :=
 ⟨zle h.wf b,Nat.le_trans h.nxt (Nat.le_succ _),fun i hi=>by
  show (if i=s'.nxt then some b else s'.blk i)=s.blk i
  rw [if_neg (by have:=h.nxt;omega),h.blk i hi]⟩
theorem Fr.set {s s':St} (h:Fr s s') {id:Nat} (h1:s.nxt≤id) (h2:id<s'.nxt) (b:Option Blk):Fr s (s'.set id b) :=
 ⟨fun i hi=>by
  have hi:s'.nxt≤i:=hi
  show (if i=id then b else s'.blk i)=none
  rw [if_neg Y2];exact h.wf i hi,h.nxt,fun i hi=>by
  show (if i=id then b else s'.blk i)=s.blk i
  rw [if_neg Y2,h.blk i hi]⟩
theorem Fr.lt {s s':St} (h:Fr s s') {i:Nat} {b:Blk} (hb:s.blk i=some b) (hwf:s.wf):s'.blk i=some b:=by
 rw [h.blk i ?_,hb]
 rcases Nat.lt_or_ge i s.nxt with k | k
 ·exact k
 ·rw [hwf i k] at hb;cases hb
theorem Fr.newset {s s':St} (h:Fr s s') {id:Nat} (b:Blk) (b':Option Blk) (hid:id=s'.nxt):Fr s ((s'.new b).set id b'):=by
 subst hid
 exact (h.new b).set h.nxt (Nat.lt_succ_self _) b'
theorem za.unk1 {P:Program} {f:FuncId} {els rest:List PV} {s:St} {Q:PV→St→Prop} (h1:els=[]→za P f (.sl .nil []::rest) s Q) (h2:za P f (.sl .any els::rest) s Q):za P f (.sl .unk els::rest) s Q:=by
 intro g w vs hI hR
 simp only [RA] at hR
 obtain ⟨v,r,hv,hx,hr⟩:=hR
 rcases XE.1 hx with hx | hx
 ·have he:=(ZO.1 hx).2
  subst he
  exact h1 rfl g w vs hI (by simp only [RA];exact ⟨v,r,hv,hx,hr⟩)
 ·exact h2 g w vs hI (by simp only [RA];exact ⟨v,r,hv,hx,hr⟩)
theorem Fr.tm {a s s':St} {k k':SK} (h:Fr a s) (m:YP s s' k k') (hk:∀ t z,k=.tok t z→a.nxt≤t):Fr a s' :=
 ⟨m.wf h.wf,Nat.le_trans h.nxt m.nxt,fun i hi=>by rw [m.rest i (Nat.lt_of_lt_of_le hi h.nxt) (fun z e=>by have:=hk i z e;omega),h.blk i hi]⟩
theorem Ret.pureK {P:Program} {fn:Func} {args:List PV} {s0:St} {Q:PV→St→Prop} {e:Env} {s:St} {r:PV} (hr:Xp P fn.results.toList e s=some r) (hb:r.blw s0.nxt) (hwf:s0.wf) (hk:∀ i,i<s0.nxt→s.blk i=s0.blk i) (h:Q r s0):Ret P fn args s0 Q e s:=by
 have e1:s.keep s0.nxt (fun i=>decide (i<s0.nxt))=s0:=by
  cases s0 with
  | mk n f =>
    simp only [St.keep,St.mk.injEq,true_and]
    funext i
    by_cases hi:i<n
    ·exact zlm
    ·exact Y61
 refine ⟨r,hr,r,s.keep s0.nxt (fun i=>decide (i<s0.nxt)),ziE,fun g0 w0 g w hI0 hX hI v hv=>⟨g.keep s0.nxt _,Yw hI s0.nxt _ (fun i hi _=>of_decide_eq_true hi) ?_,zbq (ZA g s0.nxt _) _ _ hb hv,Ut hX s0.nxt (by rw [hI0.nxt];exact Nat.le_refl _) _⟩⟩
 intro i b hi hbi
 rw [hk i (of_decide_eq_true hi)] at hbi
 exact hI0.blw hbi
structure Kp (s s':St) (l:List (Nat × Blk)):Prop where
 fr:Fr s s'
 all:∀ p∈l,p.1<s'.nxt∧s'.blk p.1=some p.2
theorem Kp.nil {s s':St} (h:Fr s s'):Kp s s' []:=⟨h,fun p hp=>by cases hp⟩
theorem Kp.new {s s':St} {l:List (Nat × Blk)} (h:Kp s s' l) (b:Blk):Kp s (s'.new b) l :=
 ⟨h.fr.new b,fun p hp=>by
  have:=h.all p hp
  exact ⟨Nat.lt_succ_of_lt this.1,by rw [show (s'.new b).blk p.1=if p.1=s'.nxt then some b else s'.blk p.1 from rfl,if_neg Y2];exact this.2⟩⟩
theorem Kp.push {s s':St} {l:List (Nat × Blk)} (h:Kp s s' l) (b:Blk):Kp s (s'.new b) ((s'.nxt,b)::l) :=
 ⟨h.fr.new b,fun p hp=>by
  rcases List.mem_cons.1 hp with rfl | hp
  ·exact ⟨Nat.lt_succ_self _,if_pos rfl⟩
  ·exact (h.new b).all p hp⟩
theorem Kp.newset {s s':St} {l:List (Nat × Blk)} (h:Kp s s' l) {id:Nat} (b:Blk) (b':Option Blk) (hid:id=s'.nxt):Kp s ((s'.new b).set id b') l :=
 ⟨h.fr.newset b b' hid,fun p hp=>by
  have h1:=h.all p hp
  have h2:=(h.new b).all p hp
  refine ⟨h2.1,?_⟩
  show (if p.1=id then b' else (s'.new b).blk p.1)=_
  rw [if_neg Y2];exact h2.2⟩
theorem Kp.pushset {s s':St} {l:List (Nat × Blk)} (h:Kp s s' l) {id:Nat} (b b':Blk) (hid:id=s'.nxt):Kp s ((s'.new b).set id (some b')) ((id,b')::l) :=
 ⟨h.fr.newset b (some b') hid,fun p hp=>by
  rcases List.mem_cons.1 hp with rfl | hp
  ·exact ⟨by show id<s'.nxt+1;omega,if_pos rfl⟩
  ·exact (h.newset b (some b') hid).all p hp⟩
theorem Kp.setset {s s':St} {l:List (Nat × Blk)} {id:Nat} {b b':Blk} (h:Kp s s' ((id,b)::l)) (hd:∀ p∈l,p.1≠id) (hlo:s.nxt≤id):Kp s (s'.set id (some b')) ((id,b')::l):=by
 have h0:=h.all _ (List.mem_cons_self)
 refine ⟨h.fr.set hlo h0.1 _,fun p hp=>?_⟩
 rcases List.mem_cons.1 hp with rfl | hp
 ·exact ⟨h0.1,if_pos rfl⟩
 ·have:=h.all p (List.mem_cons_of_mem _ hp)
  refine ⟨this.1,?_⟩
  show (if p.1=id then some b' else s'.blk p.1)=_
  rw [if_neg (hd p hp)];exact this.2
theorem Kp.tl {s s':St} {p:Nat × Blk} {l:List (Nat × Blk)} (h:Kp s s' (p::l)):Kp s s' l:=⟨h.fr,fun q hq=>h.all q (List.mem_cons_of_mem _ hq)⟩
theorem Kp.hd {s s':St} {p:Nat × Blk} {l:List (Nat × Blk)} (h:Kp s s' (p::l)):s'.blk p.1=some p.2:=(h.all p List.mem_cons_self).2
theorem Kp.lt {s s':St} {p:Nat × Blk} {l:List (Nat × Blk)} (h:Kp s s' (p::l)):p.1<s'.nxt:=(h.all p List.mem_cons_self).1
theorem Kp.ne {s s':St} {p:Nat × Blk} {l:List (Nat × Blk)} (h:Kp s s' (p::l)) (n:Nat):(p.1=s'.nxt+n)=False:=eq_false (by have:=h.lt;omega)
theorem St.set_self {s:St} {i:Nat} {b:Option Blk} (h:s.blk i=b):s.set i b=s:=by
 cases s with
 | mk n f =>
   simp only [St.set,St.mk.injEq,true_and]
   funext k
   by_cases hk:k=i
   ·subst hk;rw [if_pos rfl];exact h.symm
   ·rw [if_neg hk]
theorem Kp.setbase {s s':St} {l:List (Nat × Blk)} {i:Nat} {b:Option Blk} (h:Kp (s.set i b) s' l) (hi:i<s.nxt) (hd:∀ p∈l,p.1≠i) (b':Option Blk):Kp (s.set i b') (s'.set i b') l:=by
 have hn:s.nxt≤s'.nxt:=h.fr.nxt
 refine ⟨⟨fun j hj=>?_,hn,fun j hj=>?_⟩,fun p hp=>⟨(h.all p hp).1,?_⟩⟩
 ·have hj:s'.nxt≤j:=hj
  show (if j=i then b' else s'.blk j)=none
  rw [if_neg Y2];exact h.fr.wf j hj
 ·show (if j=i then b' else s'.blk j)=if j=i then b' else s.blk j
  split
  ·rfl
  ·rename_i hji
   have:=h.fr.blk j hj
   rw [this]
   show (if j=i then b else s.blk j)=s.blk j
   rw [if_neg hji]
 ·show (if p.1=i then b' else s'.blk p.1)=_
  rw [if_neg (hd p hp)];exact (h.all p hp).2
theorem xN {s:St} (hwf:s.wf) {i:Nat} {b:Blk} (h:s.blk i=some b):i<s.nxt:=by
 rcases Nat.lt_or_ge i s.nxt with k | k
 ·exact k
 ·rw [hwf i k] at h;cases h
theorem zad {p:St→Prop}:(∀ s∈([]:List St),p s)↔True:=Y1
attribute [go_sem] Array.toList_append Option.toArray_none Option.toArray_some vN exists_eq_left' List.forall_mem_cons zad
end
end Go.PM
namespace Go.PM
open Go
theorem zfR {P:Program} {ops:Array Oper} {ws:List Nat} {N:Nat} {e0:Env} {Q:Exit→Act→World→Prop} {V:Nat→PV} {S:Nat→St} {E:Nat→Env} {g0:G} {w0:World} {n:Nat} {al:Nat} {Gf:St→St}
  (hnsz:n≤ops.size) (hcut:∀ i j,n≤j→j<ops.size→i<j→((zX ops.toList []).getD j 0).testBit i=true) (hok:wD ops ws (fun _=>true)=true) (hal:al<n) (haw:al∉ws) (hN:∀ (i:Nat) (o:Oper),ops[i]? =some o→zbu N o=true)
  (hE0:E 0=e0) (hE:∀ (i:Nat) (o:Oper),i<n→ops[i]? =some o→E (i+1)=(E i).put o.dst (V i))
  (hS:∀ (i:Nat) (o:Oper),i<n→ops[i]? =some o→i∉ws→S (i+1)=S i)
  (hD:∀ (i:Nat) (o:Oper),i<n→ops[i]? =some o→i∈ws→(((zX ops.toList []).getD i 0).testBit al=false→DOp P ops o (E i) (S i) (V i) (S (i+1)))∧DOp P ops o (E i) (Gf (S i)) (V i) (Gf (S (i+1))))
  (hF:∀ (i:Nat) (o:Oper),i<n→ops[i]? =some o→i∉ws→i≠al→∀ k,k≤n→DOp P ops o (E i) (S k) (V i) (S k)∧DOp P ops o (E i) (Gf (S k)) (V i) (Gf (S k)))
  (hA:∀ (o:Oper),ops[al]? =some o→∀ k,k≤n→DOp P ops o (E al) (S k) (V al) (Gf (S k)))
  (hQ:∀ g w (a:Act),Inv P g (Gf (S n)) w→yY g w (E n) a.tmps→Ext g0 w0 g w→a.defers=[]→a.tmps.size=N→wpOps P ops Q (List.range' n (ops.size-n)) a w) :
  ∀ (fuel:Nat) (listed:Array Bool) (g:G) (s:St) (w:World) (a:Act),listed.size=ops.size →
   ((List.range ops.size).filter fun k=> !listed.getD k true).length≤fuel→DC ops (fun k=>listed.getD k false=true)→(∀ k,n≤k→listed.getD k false=false) →
   Inv P g s w→Ext g0 w0 g w→a.defers=[]→a.tmps.size=N →
   (∀ j,R g w (match zH (xH ops j) (fun k=>listed.getD k false) n with | none=>e0.get j | some k=>V k) (a.tmps.getD j undef)) →
   s=(if listed.getD al false=true then Gf (match zH (fun k=>ws.contains k) (fun k=>listed.getD k false) n with | none=>S 0 | some k=>S (k+1)) else (match zH (fun k=>ws.contains k) (fun k=>listed.getD k false) n with | none=>S 0 | some k=>S (k+1))) →
   wpAny P .any ops Q fuel listed a w:=by
 have hpair:∀ (i j:Nat) (oi oj:Oper),i<j→ops[i]? =some oi→ops[j]? =some oj→xZ ops ws (fun _=>true) i j oi oj=true→((zX ops.toList []).getD j 0).testBit i=true:=by
  intro i j oi oj hij h1 h2 hc
  unfold wD at hok
  have:=List.all_eq_true.1 hok j (List.mem_range.2 (Array.getElem?_eq_some_iff.1 h2).1)
  rw [h2] at this
  simp only [Bool.and_eq_true] at this
  have:=List.all_eq_true.1 this.2 i (List.mem_range.2 hij)
  rw [h1] at this
  simp only [hc,Bool.not_true,Bool.false_or] at this
  exact this
 have hedge:∀ (j:Nat) (oj:Oper),ops[j]? =some oj→∀ e∈oj.after,Region.binds .any e=true→e.on<j:=by
  intro j oj h2 e he hb
  unfold wD at hok
  have:=List.all_eq_true.1 hok j (List.mem_range.2 (Array.getElem?_eq_some_iff.1 h2).1)
  rw [h2] at this
  simp only [Bool.and_eq_true] at this
  have:=List.all_eq_true.1 this.1 e (by simpa using he)
  simpa [hb] using this
 have hmask:∀ (L:Nat→Prop),DC ops L→∀ (k:Nat) (o:Oper),ops[k]? =some o→(∀ e∈o.after,Region.binds .any e=true→L e.on)→∀ b,((zX ops.toList []).getD k 0).testBit b=true→L b :=
  fun L hdc=>ur hdc ops.toList [] Y1 zki zlu
 have hEget:∀ i,i≤n→∀ j,(E i).get j=(match zH (xH ops j) (fun _=>true) i with | none=>e0.get j | some k=>V k):=by
  intro i
  induction i with
  | zero=>intro _ j;rw [hE0];rfl
  | succ i ih =>
    intro hi j
    obtain ⟨o,ho⟩:∃ o,ops[i]? =some o:=⟨ops[i]'Y2,Y1⟩
    rw [hE i o Y2 ho]
    unfold zH
    rw [yr ho,Bool.and_true]
    unfold zQ
    cases hd:o.dst with
    | none=>simp only [Env.put];rw [ih Y2 j];simp
    | some d =>
      simp only [Env.put,Env.get]
      by_cases hjd:j=d
      ·subst hjd;simp
      ·exact Y63
 have hSget:∀ i,i≤n→S i=(match zH (fun k=>ws.contains k) (fun _=>true) i with | none=>S 0 | some k=>S (k+1)):=by
  intro i
  induction i with
  | zero=>intro _;rfl
  | succ i ih =>
    intro hi
    obtain ⟨o,ho⟩:∃ o,ops[i]? =some o:=⟨ops[i]'Y2,Y1⟩
    unfold zH
    by_cases hw:i∈ws
    ·exact zmj
    ·exact znU
 intro fuel
 have fin:∀ (fuel:Nat) (listed:Array Bool) (g:G) (s:St) (w:World) (a:Act),listed.size=ops.size →
   ((List.range ops.size).filter fun k=> !listed.getD k true).length≤fuel→DC ops (fun k=>listed.getD k false=true)→(∀ k,n≤k→listed.getD k false=false) →
   Inv P g s w→Ext g0 w0 g w→a.defers=[]→a.tmps.size=N →
   (∀ j,R g w (match zH (xH ops j) (fun k=>listed.getD k false) n with | none=>e0.get j | some k=>V k) (a.tmps.getD j undef)) →
   s=(if listed.getD al false=true then Gf (match zH (fun k=>ws.contains k) (fun k=>listed.getD k false) n with | none=>S 0 | some k=>S (k+1)) else (match zH (fun k=>ws.contains k) (fun k=>listed.getD k false) n with | none=>S 0 | some k=>S (k+1)))→(∀ k,k<n→listed.getD k false=true) →
   wpAny P .any ops Q fuel listed a w:=by
  intro fuel listed g s w a hsz hcnt hdc hhi hI hX hd hn hslots hstore hall'
  refine YU (n:=n) hcut hedge hmask (ops.size-n) fuel n listed a w Y2 ?_ (Nat.le_refl _) ?_ hsz hdc ?_
  ·exact Y9
  ·exact Y66
  ·refine hQ g w a ?_ ?_ hX hd hn
   ·rw [hSget _ (Nat.le_refl _),← ya (l:=fun k=>listed.getD k false) (fun k hk _=>hall' k hk)]
    rw [if_pos (hall' al hal)] at hstore
    rw [← hstore];exact hI
   ·exact zpw
 induction fuel with
 | zero =>
   intro listed g s w a hsz hcnt hdc hhi hI hX hd hn hslots hstore
   refine fin 0 listed g s w a hsz hcnt hdc hhi hI hX hd hn hslots hstore ?_
   have hall:∀ k,k<ops.size→listed.getD k true=true:=by
    intro k hk
    have:(List.range ops.size).filter (fun k=> !listed.getD k true)=[]:=List.length_eq_zero_iff.1 Y2
    have:=List.filter_eq_nil_iff.1 this k (List.mem_range.2 hk)
    simpa using this
   intro k hk
   have:=hall k Y2
   rw [Array.getD_eq_getD_getElem?,Array.getElem?_eq_getElem Y2] at this ⊢
   exact this
 | succ fuel ih =>
   intro listed g s w a hsz hcnt hdc hhi hI hX hd hn hslots hstore
   by_cases hfull:∀ k,k<n→listed.getD k false=true
   ·exact zmO
   refine ⟨?_,?_⟩
   ·exact Y10
   ·intro i hi
    obtain ⟨h0,o,ho,hedges⟩:=mem_ready.1 hi
    have hlt:=(Array.getElem?_eq_some_iff.1 ho).1
    have hnl:listed.getD i false=false:=by
     rw [Array.getD_eq_getD_getElem?,Array.getElem?_eq_getElem Y2] at h0 ⊢
     exact h0
    have hanc:=hmask _ hdc i o ho hedges
    have hin:i<n:=by
     by_cases h:i<n
     ·exact h
     ·exact zmA
    have before:∀ (k:Nat) (ok:Oper),ops[k]? =some ok→k<i→xZ ops ws (fun _=>true) k i ok o=true→listed.getD k false=true :=
     fun k ok hk hki hc=>hanc k (hpair k i ok o hki hk ho hc)
    have behind:∀ (k:Nat) (ok:Oper),ops[k]? =some ok→i<k→xZ ops ws (fun _=>true) i k o ok=true→listed.getD k false=false:=by
     intro k ok hk hki hc
     cases hlk:listed.getD k false with
     | false=>rfl
     | true =>
       have this:listed.getD i false=true:=hmask _ hdc k ok hk (hdc k ok hk hlk) i (hpair i k o ok hki ho hk hc)
       rw [hnl] at this;cases this
    have cell:∀ p:Nat→Bool,(∀ (k:Nat) (ok:Oper),ops[k]? =some ok→k<i→p k=true→xZ ops ws (fun _=>true) k i ok o=true)→(∀ (k:Nat) (ok:Oper),ops[k]? =some ok→i<k→p k=true→xZ ops ws (fun _=>true) i k o ok=true) →
      zH p (fun k=>listed.getD k false) n=zH p (fun _=>true) i∧∀ k,i<k→k<n→(p k&&listed.getD k false)=false:=by
     intro p h1 h2
     have hb:∀ k,i<k→k<n→(p k&&listed.getD k false)=false:=by
      intro k hk hkn
      cases hp:p k with
      | false=>rfl
      | true =>
        obtain ⟨ok,hok'⟩:∃ o,ops[k]? =some o:=⟨ops[k]'Y2,Y1⟩
        rw [behind k ok hok' hk (h2 k ok hok' hk hp)];rfl
     refine ⟨?_,hb⟩
     rw [ul (i:=i) Y2 Y4]
     refine ya fun k hk hp=>?_
     obtain ⟨ok,hok'⟩:∃ o,ops[k]? =some o:=⟨ops[k]'Y2,Y1⟩
     exact before k ok hok' hk (h1 k ok hok' hk hp)
    have hsl:∀ j∈zu ops o,R g w ((E i).get j) (a.tmps.getD j undef):=by
     intro j hj
     have:=(cell (xH ops j) (by
      intro k ok hk hki hp
      rw [yr hk] at hp
      simp only [zQ,beq_iff_eq] at hp
      unfold xZ
      rw [hp]
      simp [hj]
     ) (by
      intro k ok hk hki hp
      rw [yr hk] at hp
      simp only [zQ,beq_iff_eq] at hp
      unfold xZ
      rw [hp]
      simp [hj]
     )).1
     have h3:=hslots j
     rw [this] at h3
     rw [hEget i Y2 j]
     exact h3
    have rest:∀ (s':St) val w' g',s'=(if (listed.setIfInBounds i true).getD al false=true then Gf (match zH (fun k=>ws.contains k) (fun k=>(listed.setIfInBounds i true).getD k false) n with | none=>S 0 | some k=>S (k+1)) else (match zH (fun k=>ws.contains k) (fun k=>(listed.setIfInBounds i true).getD k false) n with | none=>S 0 | some k=>S (k+1))) →
      Inv P g' s' w'→Ext g w g' w'→R g' w' (V i) val→wpAny P .any ops Q fuel (listed.setIfInBounds i true) (a.put o.dst val) w':=by
     intro s' val w' g' hs' hI' hX' hR'
     have hgd:∀ k,(listed.setIfInBounds i true).getD k false=if k=i then true else listed.getD k false:=by
      intro k
      by_cases e:k=i
      ·exact Y62
      ·exact Y64
     refine ih _ g' s' w' _ zi7 ?_ ?_ zlG hI' (hX.trans hX') Y58 zkX ?_ hs'
     ·exact Y5
     ·exact Y6
     ·exact Y14
    have hgd':∀ k,(listed.setIfInBounds i true).getD k false=if k=i then true else listed.getD k false:=by
     intro k
     by_cases e:k=i
     ·exact Y62
     ·exact Y64
    unfold wpOp
    rw [ho]
    simp only
    have hbase:∃ kk,kk≤n∧(match zH (fun k=>ws.contains k) (fun k=>listed.getD k false) n with | none=>S 0 | some k=>S (k+1))=S kk:=by
     cases hlw:zH (fun k=>ws.contains k) (fun k=>listed.getD k false) n with
     | none=>exact ⟨0,Nat.zero_le _,rfl⟩
     | some k=>exact ⟨k+1,zbk hlw,rfl⟩
    by_cases hia:i=al
    ·
     subst hia
     obtain ⟨kk,hkk,hbk⟩:=hbase
     have hsk:s=S kk:=by rw [hstore,if_neg (by rw [hnl];simp),hbk]
     subst hsk
     refine hA o ho kk hkk g w a hI hsl _ _ fun val w' g' k1 k2 k3=>rest _ val w' g' ?_ k1 k2 k3
     rw [hgd',if_pos rfl]
     have:zH (fun k=>ws.contains k) (fun k=>(listed.setIfInBounds i true).getD k false) n=zH (fun k=>ws.contains k) (fun k=>listed.getD k false) n:=by
      refine ya fun k hk hp=>?_
      rw [hgd',if_neg]
      rintro rfl
      exact haw zg1
     rw [this,hbk];rfl
    ·have hgal:(listed.setIfInBounds i true).getD al false=listed.getD al false:=by rw [hgd',if_neg (fun e=>hia e.symm)]
     by_cases hfree:i∉ws
     ·
      obtain ⟨kk,hkk,hbk⟩:=hbase
      have hsame:zH (fun k=>ws.contains k) (fun k=>(listed.setIfInBounds i true).getD k false) n=zH (fun k=>ws.contains k) (fun k=>listed.getD k false) n:=by
       refine ya fun k hk hp=>?_
       rw [hgd',if_neg]
       rintro rfl
       exact hfree zg1
      have hboth:=hF i o hin ho hfree hia kk hkk
      have hd:DOp P ops o (E i) s (V i) s:=by
       rw [hstore,hbk]
       split
       ·exact hboth.2
       ·exact hboth.1
      refine hd g w a hI hsl _ _ fun val w' g' k1 k2 k3=>rest s val w' g' ?_ k1 k2 k3
      rw [hgal,hsame,← hstore]
     ·
      have htw:ws.contains i=true:=by simpa using hfree
      have hcs:=cell (fun k=>ws.contains k) (by
       intro k ok hk hki hp
       unfold xZ
       simp only [hp,htw,Bool.or_true,Bool.and_self,Bool.not_true]) (by
       intro k ok hk hki hp
       unfold xZ
       simp only [hp,htw,Bool.or_true,Bool.and_self,Bool.not_true])
      have hs0:(match zH (fun k=>ws.contains k) (fun k=>listed.getD k false) n with | none=>S 0 | some k=>S (k+1))=S i:=by rw [hcs.1];exact (hSget i Y2).symm
      have hs1:zH (fun k=>ws.contains k) (fun k=>(listed.setIfInBounds i true).getD k false) n=some i :=
       Zv (i:=i) hin htw (by rw [hgd'];simp) zmc
      have hboth:=hD i o hin ho (by simpa using hfree)
      have hd:DOp P ops o (E i) s (V i) (if listed.getD al false=true then Gf (S (i+1)) else S (i+1)):=by
       rw [hstore,hs0]
       split
       ·exact hboth.2
       ·rename_i hnal
        refine hboth.1 ?_
        cases hm:((zX ops.toList []).getD i 0).testBit al with
        | false=>rfl
        | true=>exact absurd (hanc al hm) hnal
      refine hd g w a hI hsl _ _ fun val w' g' k1 k2 k3=>rest _ val w' g' ?_ k1 k2 k3
      rw [hgal,hs1]
inductive ZE (P:Program) (ops:Array Oper) (ws:List Nat) (al:Nat) (Gf:St→St) (σ:List St):Nat→List Oper→Env→St→Env→St→Prop
 | nil {i e s}:s∈σ→ZE P ops ws al Gf σ i [] e s e s
 | cons {i o l e s v e' s'}:i∉ws→i≠al→(∀ s∈σ,DOp P ops o e s v s∧DOp P ops o e (Gf s) v (Gf s))→s∈σ→ZE P ops ws al Gf σ (i+1) l (e.put o.dst v) s e' s'→ZE P ops ws al Gf σ i (o::l) e s e' s'
 | ef {i o l e s v s1 e' s'}:i∈ws→s∈σ→DOp P ops o e s v s1→DOp P ops o e (Gf s) v (Gf s1)→ZE P ops ws al Gf σ (i+1) l (e.put o.dst v) s1 e' s'→ZE P ops ws al Gf σ i (o::l) e s e' s'
 | ef2 {i o l e s v s1 e' s'}:i∈ws→s∈σ→((zX ops.toList []).getD i 0).testBit al=true→DOp P ops o e (Gf s) v (Gf s1)→ZE P ops ws al Gf σ (i+1) l (e.put o.dst v) s1 e' s'→ZE P ops ws al Gf σ i (o::l) e s e' s'
 | al {i o l e s v e' s'}:i=al→(∀ s∈σ,DOp P ops o e s v (Gf s))→s∈σ→ZE P ops ws al Gf σ (i+1) l (e.put o.dst v) s e' s'→ZE P ops ws al Gf σ i (o::l) e s e' s'
section
variable {P:Program} {ops:Array Oper} {ws:List Nat} {al:Nat} {Gf:St→St} {σ:List St} {e e':Env} {s s' s0:St} {N:Nat} {k:List KI} {rt:Env→St→Prop}
theorem ZE.lists (haw:al∉ws):∀ {i l e s e' s'},ZE P ops ws al Gf σ i l e s e' s'→(∀ j (o:Oper),l[j]? =some o→ops[i+j]? =some o) →
  ∃ (V:Nat→PV) (S:Nat→St) (E:Nat→Env),E i=e∧S i=s∧E (i+l.length)=e'∧S (i+l.length)=s'∧(∀ k,i≤k→k≤i+l.length→S k∈σ)∧∀ k (o:Oper),i≤k→k<i+l.length→ops[k]? =some o →
   E (k+1)=(E k).put o.dst (V k)∧(k∉ws→S (k+1)=S k)∧(k∉ws→k≠al→∀ s∈σ,DOp P ops o (E k) s (V k) s∧DOp P ops o (E k) (Gf s) (V k) (Gf s)) ∧
   (k∈ws→(((zX ops.toList []).getD k 0).testBit al=false→DOp P ops o (E k) (S k) (V k) (S (k+1)))∧DOp P ops o (E k) (Gf (S k)) (V k) (Gf (S (k+1))))∧(k=al→∀ s∈σ,DOp P ops o (E k) s (V k) (Gf s)):=by
 intro i l e s e' s' h
 have glue:∀ {i:Nat} {o:Oper} {l:List Oper} {e:Env} {s:St} {v:PV} {s1:St} {e':Env} {s':St},s∈σ→(i∉ws→s1=s) →
   (i∉ws→i≠al→∀ s∈σ,DOp P ops o e s v s∧DOp P ops o e (Gf s) v (Gf s))→(i∈ws→(((zX ops.toList []).getD i 0).testBit al=false→DOp P ops o e s v s1)∧DOp P ops o e (Gf s) v (Gf s1))→(i=al→∀ s∈σ,DOp P ops o e s v (Gf s)) →
   ((∀ j (o:Oper),l[j]? =some o→ops[i+1+j]? =some o)→∃ (V:Nat→PV) (S:Nat→St) (E:Nat→Env),E (i+1)=e.put o.dst v∧S (i+1)=s1∧E (i+1+l.length)=e'∧S (i+1+l.length)=s'∧(∀ k,i+1≤k→k≤i+1+l.length→S k∈σ)∧∀ k (o:Oper),i+1≤k→k<i+1+l.length→ops[k]? =some o →
     E (k+1)=(E k).put o.dst (V k)∧(k∉ws→S (k+1)=S k)∧(k∉ws→k≠al→∀ s∈σ,DOp P ops o (E k) s (V k) s∧DOp P ops o (E k) (Gf s) (V k) (Gf s)) ∧
     (k∈ws→(((zX ops.toList []).getD k 0).testBit al=false→DOp P ops o (E k) (S k) (V k) (S (k+1)))∧DOp P ops o (E k) (Gf (S k)) (V k) (Gf (S (k+1))))∧(k=al→∀ s∈σ,DOp P ops o (E k) s (V k) (Gf s))) →
   (∀ j (o':Oper),(o::l)[j]? =some o'→ops[i+j]? =some o')→∃ (V:Nat→PV) (S:Nat→St) (E:Nat→Env),E i=e∧S i=s∧E (i+(o::l).length)=e'∧S (i+(o::l).length)=s'∧(∀ k,i≤k→k≤i+(o::l).length→S k∈σ)∧∀ k (o':Oper),i≤k→k<i+(o::l).length→ops[k]? =some o' →
     E (k+1)=(E k).put o'.dst (V k)∧(k∉ws→S (k+1)=S k)∧(k∉ws→k≠al→∀ s∈σ,DOp P ops o' (E k) s (V k) s∧DOp P ops o' (E k) (Gf s) (V k) (Gf s)) ∧
     (k∈ws→(((zX ops.toList []).getD k 0).testBit al=false→DOp P ops o' (E k) (S k) (V k) (S (k+1)))∧DOp P ops o' (E k) (Gf (S k)) (V k) (Gf (S (k+1))))∧(k=al→∀ s∈σ,DOp P ops o' (E k) s (V k) (Gf s)):=by
  intro i o l e s v s1 e' s' hs hne hfree hef hal ih hl
  obtain ⟨V,S,E,a1,a2,a3,a4,a6,a5⟩:=ih Y15
  have h0:ops[i]? =some o:=Y68
  refine ⟨fun k=>if k=i then v else V k,fun k=>if k=i then s else S k,fun k=>if k=i then e else E k,if_pos rfl,if_pos rfl,?_,?_,?_,?_⟩
  ·exact Y7
  ·exact Y8
  ·exact Y16
  ·intro k o' hk hk2 ho'
   by_cases e1:k=i
   ·subst e1
    rw [h0] at ho';cases ho'
    simp only [if_true,show ¬ (k+1=k) from Y2,if_false]
    rw [a1,a2]
    exact ⟨rfl,hne,hfree,hef,hal⟩
   ·exact Y12
 induction h with
 | nil hs =>
   rename_i i e s
   intro hl
   refine ⟨fun _=>.junk,fun _=>s,fun _=>e,rfl,rfl,rfl,rfl,fun k _ _=>hs,fun k o hk hk2 ho=>?_⟩
   simp at hk2;omega
 | cons hne hna h1 hs hd ih=>exact glue hs (fun _=>rfl) (fun _ _=>h1) (fun h=>absurd h hne) (fun h=>absurd h hna) ih
 | ef hin hs h1 h2 hd ih=>exact glue hs (fun h=>absurd hin h) (fun h=>absurd hin h) (fun _=>⟨fun _=>h1,h2⟩) (fun h=>absurd (h ▸ hin) haw) ih
 | ef2 hin hs hm h2 hd ih=>exact glue hs (fun h=>absurd hin h) (fun h=>absurd hin h) (fun _=>⟨fun h=>(by rw [hm] at h;cases h),h2⟩) (fun h=>absurd (h ▸ hin) haw) ih
 | al heq h1 hs hd ih=>exact glue hs (fun _=>rfl) (fun _ h=>absurd heq h) (fun h=>absurd (heq ▸ h) haw) (fun _=>h1) ih
def xI (P:Program) (ops:Array Oper) (ws:List Nat) (al:Nat) (Gf:St→St) (σ:List St) (i:Nat) (l:List Oper) (e:Env) (s:St) (K:Env→St→Prop):Prop:=∃ e' s',ZE P ops ws al Gf σ i l e s e' s'∧K e' s'
theorem xI.nil {i:Nat} {K:Env→St→Prop} (hs:s∈σ) (h:K e s):xI P ops ws al Gf σ i [] e s K:=⟨e,s,.nil hs,h⟩
theorem ZE.pre (hs:s∈σ):∀ {pre:List Oper} {l:List Oper} {i:Nat} {e e1 e':Env},(∀ a∈al::ws,a<i∨i+pre.length≤a)→vN P ops pre e s (σ++σ.map Gf) e1→ZE P ops ws al Gf σ (i+pre.length) l e1 s e' s'→ZE P ops ws al Gf σ i (pre++l) e s e' s'
 | [],l,i,e,e1,e',_,h,hd=>zkV
 | o::pre,l,i,e,e1,e',hi,h,hd=>by
   simp only [List.length_cons] at hi hd
   obtain ⟨v,hv,hv',h⟩:=h
   refine ZE.cons (fun hm=>by have:=hi i (List.mem_cons_of_mem _ hm);omega) (fun hm=>by have:=hi i (by rw [hm];exact List.mem_cons_self);omega)
    (fun s hs=>⟨ZQ (hv' s (List.mem_append_left _ hs)),ZQ (hv' (Gf s) (List.mem_append_right _ (List.mem_map_of_mem hs)))⟩) hs ?_
   refine ZE.pre hs zn5 h ?_
   rw [show i+1+pre.length=i+(pre.length+1) from Y2]
   exact hd
theorem xI.pre {pre l:List Oper} {i:Nat} {e1:Env} {K:Env→St→Prop} (hi:∀ a∈al::ws,a<i∨i+pre.length≤a) (hs:s∈σ) (h:vN P ops pre e s (σ++σ.map Gf) e1) (hd:xI P ops ws al Gf σ (i+pre.length) l e1 s K):xI P ops ws al Gf σ i (pre++l) e s K:=by
 obtain ⟨e',s',h1,h2⟩:=hd
 exact ⟨e',s',ZE.pre hs hi h h1,h2⟩
theorem xI.all {l:List Oper} {i:Nat} {e1:Env} {K:Env→St→Prop} (hi:∀ a∈al::ws,a<i∨i+l.length≤a) (hs:s∈σ) (h:vN P ops l e s (σ++σ.map Gf) e1) (hk:K e1 s):xI P ops ws al Gf σ i l e s K:=by
 have:=xI.pre (P:=P) (ops:=ops) (l:=[]) hi hs h (xI.nil hs hk)
 simpa using this
theorem xI.callE {d:Option Nat} {c:Call} {t:TypeId} {pos:String} {af:Array Edge} {gd:Option (Nat × Bool)} {l:List Oper} {i:Nat} {f:FuncId} {args args':List PV} {v:PV} {s1:St} {K:Env→St→Prop} (hi:ws.contains i=true) (hs:s∈σ)
  (hg:guard? ops ⟨d,.call c,t,pos,af,gd⟩ (Env.keep (zu ops ⟨d,.call c,t,pos,af,gd⟩) e)=some true)
  (ha:vn c (Env.keep (zu ops ⟨d,.call c,t,pos,af,gd⟩) e)=some (f,args)) (hw:PV.weaks args=args') (hc:zb P f=true)
  (h:za P f args' s fun r s2=>r=v∧s2=s1) (h':za P f args' (Gf s) fun r s2=>r=v∧s2=Gf s1) (hd:xI P ops ws al Gf σ (i+1) l (e.put d v) s1 K):xI P ops ws al Gf σ i (⟨d,.call c,t,pos,af,gd⟩::l) e s K:=by
 obtain ⟨e',s',h1,h2⟩:=hd
 subst hw
 have key:∀ sa sb,(za P f (PV.weaks args) sa fun r s2=>r=v∧s2=sb)→DOp P ops ⟨d,.call c,t,pos,af,gd⟩ e sa v sb:=by
  intro sa sb h g w a hI hsl K Q hk
  have hE:=vP hsl
  rw [yR hg hE]
  simp only [if_true]
  obtain ⟨vs,hrun,hra⟩:=wS (P:=P) (o:=⟨d,.call c,t,pos,af,gd⟩) (a:=a) rfl hE ha hc
  left
  unfold Oper.wp
  rw [hrun,Oper.upon_enter]
  refine (h g w vs hI (we _ _ hra)).mono ?_
  rintro e' w' ⟨v',g',r',s',rfl,hI',hR',hX',rfl,rfl⟩
  exact hk _ _ _ hI' hX' hR'
 exact ⟨e',s',ZE.ef (v:=v) (s1:=s1) zap hs (key _ _ h) (key _ _ h') h1,h2⟩
theorem xI.call {d:Option Nat} {c:Call} {t:TypeId} {pos:String} {af:Array Edge} {gd:Option (Nat × Bool)} {l:List Oper} {i:Nat} {f:FuncId} {args args':List PV} {v:PV} {K:Env→St→Prop} (hi:ws.contains i=false) (hna:i≠al)
  (hg:guard? ops ⟨d,.call c,t,pos,af,gd⟩ (Env.keep (zu ops ⟨d,.call c,t,pos,af,gd⟩) e)=some true)
  (ha:vn c (Env.keep (zu ops ⟨d,.call c,t,pos,af,gd⟩) e)=some (f,args)) (hw:PV.weaks args=args') (hc:zb P f=true)
  (hs:s∈σ) (h:∀ s,za P f args' s fun r s2=>r=v∧s2=s) (hd:xI P ops ws al Gf σ (i+1) l (e.put d v) s K):xI P ops ws al Gf σ i (⟨d,.call c,t,pos,af,gd⟩::l) e s K:=by
 obtain ⟨e',s',h1,h2⟩:=hd
 exact ⟨e',s',ZE.cons zap hna (fun s _=>⟨DOp.of_call hg ha hw hc (h s),DOp.of_call hg ha hw hc (h (Gf s))⟩) hs h1,h2⟩
theorem xI.alloc {o:Oper} {l:List Oper} {i:Nat} {v:PV} {K:Env→St→Prop} (hi:i=al) (hs:s∈σ) (hg:guard? ops o (Env.keep (zu ops o) e)=some true)
  (ha:∀ s∈σ,uV P o.op (ev (Env.keep (zu ops o) e)) s=some (v,Gf s)) (hd:xI P ops ws al Gf σ (i+1) l (e.put o.dst v) s K):xI P ops ws al Gf σ i (o::l) e s K:=by
 obtain ⟨e',s',h1,h2⟩:=hd
 exact ⟨e',s',ZE.al hi (fun s hs=>DOp.of_effect hg fun g w a hI hE=>wY hI (fun x=>xE hE x) (ha s hs)) hs h1,h2⟩
theorem Run.drawG {id:Nat} (n:Nat) (ws:List Nat) (al:Nat) (Gf:St→St) (σ:List St) (hm:P.follows .mixedOrders=true) (hs:wD ops ws (fun _=>true)=true) (hc:UD ops n=true) (han:al<min n ops.size) (haw:al∉ws)
  (hd:xI P ops ws al Gf σ 0 (ops.toList.take n) e s0 (fun e' s'=>zm P N ops (ops.toList.drop n) k e' (Gf s') rt)):Run P N (.code (.region id ops true)::k) e s0 rt:=by
 obtain ⟨e',s',hd,h⟩:=hd
 intro ok
 simp only [okK,okC,Bool.and_eq_true] at ok
 intro _ g w ac hI hE hdf hN
 obtain ⟨V,S,E,a1,a2,a3,a4,a6,a5⟩:=hd.lists haw (fun j o ho=>by
  rw [List.getElem?_take] at ho
  split at ho
  ·simpa using ho
  ·cases ho)
 have hlen:(ops.toList.take n).length=min n ops.size:=Y1
 simp only [Nat.zero_add,hlen] at a3 a4 a5 a6
 have hmin:min n ops.size≤ops.size:=Nat.min_le_right _ _
 refine wp_region_any hm ?_
 obtain ⟨hI1,hX1⟩:=wV hI (w.drawn+1)
 have hrepl:∀ k,(Array.replicate ops.size false).getD k false=false:=by
  intro k
  rw [Array.getD_eq_getD_getElem?]
  cases hx:(Array.replicate ops.size false)[k]? with
  | none=>rfl
  | some b=>have:=Array.mem_of_getElem? hx;simp at this;rw [this.2];rfl
 have hnone:∀ (p:Nat→Bool) (n:Nat),zH p (fun k=>(Array.replicate ops.size false).getD k false) n=none:=by
  intro p n
  induction n with
  | zero=>rfl
  | succ n ih=>unfold zH;rw [hrepl,ih];simp
 have hcut:∀ i j,min n ops.size≤j→j<ops.size→i<j→((zX ops.toList []).getD j 0).testBit i=true :=
  fun i j h1 h2 h3=>Zr hc i j Y2 h2 h3
 refine zfR (ws:=ws) (N:=N) (e0:=e) (V:=V) (S:=S) (E:=E) (g0:=g) (w0:=w) (n:=min n ops.size) (al:=al) (Gf:=Gf) hmin hcut hs han haw ?_ a1 (fun i o hi ho=>(a5 i o (Nat.zero_le _) hi ho).1)
  (fun i o hi ho hne=>(a5 i o (Nat.zero_le _) hi ho).2.1 hne) (fun i o hi ho hin=>(a5 i o (Nat.zero_le _) hi ho).2.2.2.1 hin)
  (fun i o hi ho hne hna k hk=>(a5 i o (Nat.zero_le _) hi ho).2.2.1 hne hna _ (a6 k (Nat.zero_le _) hk)) (fun o ho k hk=>(a5 al o (Nat.zero_le _) han ho).2.2.2.2 rfl _ (a6 k (Nat.zero_le _) hk)) ?_ ops.size _ g s0 _ ac Y1 ?_ ?_ (fun k _=>hrepl k) hI1 hX1 hdf hN ?_ ?_
 ·exact Y65
 ·exact Y13
 ·exact zjb
 ·exact Y69
 ·exact zi9
 ·rw [hnone,if_neg (by rw [hrepl];simp)];exact a2.symm
end
end Go.PM
namespace Go.PM
open Go
inductive Xg (P:Program) (ops:Array Oper) (ws lc:List Nat) (σ:List St):Nat→List Oper→Env→St→Env→St→Prop
 | nil {i e s}:s∈σ→Xg P ops ws lc σ i [] e s e s
 | cons {i o l e s v e' s'}:i∉ws→(∀ s∈σ,DOp P ops o e s v s)→s∈σ→Xg P ops ws lc σ (i+1) l (e.put o.dst v) s e' s'→Xg P ops ws lc σ i (o::l) e s e' s'
 | lo {i o l e s v e' s'}:i∉ws→i∈lc→DOp P ops o e s v s→s∈σ→Xg P ops ws lc σ (i+1) l (e.put o.dst v) s e' s'→Xg P ops ws lc σ i (o::l) e s e' s'
 | ef {i o l e s v s1 e' s'}:i∈ws→s∈σ→DOp P ops o e s v s1→Xg P ops ws lc σ (i+1) l (e.put o.dst v) s1 e' s'→Xg P ops ws lc σ i (o::l) e s e' s'
section
variable {P:Program} {ops:Array Oper} {ws lc:List Nat} {σ:List St} {e e':Env} {s s' s0:St} {N:Nat} {k:List KI} {rt:Env→St→Prop}
def ue (P:Program) (ops:Array Oper) (ws lc:List Nat) (σ:List St) (i:Nat) (l:List Oper) (e:Env) (s:St) (K:Env→St→Prop):Prop:=∃ e' s',Xg P ops ws lc σ i l e s e' s'∧K e' s'
theorem ue.nil {i:Nat} {K:Env→St→Prop} (hs:s∈σ) (h:K e s):ue P ops ws lc σ i [] e s K:=⟨e,s,.nil hs,h⟩
theorem Xg.pre (hs:s∈σ):∀ {pre:List Oper} {l:List Oper} {i:Nat} {e e1 e':Env},(∀ a∈ws,a<i∨i+pre.length≤a)→vN P ops pre e s σ e1→Xg P ops ws lc σ (i+pre.length) l e1 s e' s'→Xg P ops ws lc σ i (pre++l) e s e' s'
 | [],l,i,e,e1,e',_,h,hd=>zkV
 | o::pre,l,i,e,e1,e',hi,h,hd=>by
   simp only [List.length_cons] at hi hd
   obtain ⟨v,hv,hv',h⟩:=h
   refine Xg.cons (fun hm=>by have:=hi i hm;omega) (fun s hs=>ZQ (hv' s hs)) hs ?_
   refine Xg.pre hs zn5 h ?_
   rw [show i+1+pre.length=i+(pre.length+1) from Y2]
   exact hd
theorem ue.pre {pre l:List Oper} {i:Nat} {e1:Env} {K:Env→St→Prop} (hi:∀ a∈ws,a<i∨i+pre.length≤a) (hs:s∈σ) (h:vN P ops pre e s σ e1) (hd:ue P ops ws lc σ (i+pre.length) l e1 s K):ue P ops ws lc σ i (pre++l) e s K:=by
 obtain ⟨e',s',h1,h2⟩:=hd
 exact ⟨e',s',Xg.pre hs hi h h1,h2⟩
theorem ue.all {l:List Oper} {i:Nat} {e1:Env} {K:Env→St→Prop} (hi:∀ a∈ws,a<i∨i+l.length≤a) (hs:s∈σ) (h:vN P ops l e s σ e1) (hk:K e1 s):ue P ops ws lc σ i l e s K:=by
 have:=ue.pre (P:=P) (ops:=ops) (lc:=lc) (l:=[]) hi hs h (ue.nil hs hk)
 simpa using this
theorem ue.call {d:Option Nat} {c:Call} {t:TypeId} {pos:String} {af:Array Edge} {gd:Option (Nat × Bool)} {l:List Oper} {i:Nat} {f:FuncId} {args args':List PV} {v:PV} {K:Env→St→Prop} (hi:ws.contains i=false)
  (hg:guard? ops ⟨d,.call c,t,pos,af,gd⟩ (Env.keep (zu ops ⟨d,.call c,t,pos,af,gd⟩) e)=some true)
  (ha:vn c (Env.keep (zu ops ⟨d,.call c,t,pos,af,gd⟩) e)=some (f,args)) (hw:PV.weaks args=args') (hc:zb P f=true)
  (hs:s∈σ) (h:∀ s∈σ,za P f args' s fun r s2=>r=v∧s2=s) (hd:ue P ops ws lc σ (i+1) l (e.put d v) s K):ue P ops ws lc σ i (⟨d,.call c,t,pos,af,gd⟩::l) e s K:=by
 obtain ⟨e',s',h1,h2⟩:=hd
 exact ⟨e',s',Xg.cons zap (fun s hs=>DOp.of_call hg ha hw hc (h s hs)) hs h1,h2⟩
theorem ue.eff {o:Oper} {l:List Oper} {i:Nat} {v:PV} {s1:St} {K:Env→St→Prop} (hi:ws.contains i=true) (hs:s∈σ) (hg:guard? ops o (Env.keep (zu ops o) e)=some true)
  (ha:uV P o.op (ev (Env.keep (zu ops o) e)) s=some (v,s1)) (hd:ue P ops ws lc σ (i+1) l (e.put o.dst v) s1 K):ue P ops ws lc σ i (o::l) e s K:=by
 obtain ⟨e',s',h1,h2⟩:=hd
 exact ⟨e',s',Xg.ef zap hs (DOp.of_effect hg fun g w a hI hE=>wY hI (fun x=>xE hE x) ha) h1,h2⟩
theorem ue.callE {d:Option Nat} {c:Call} {t:TypeId} {pos:String} {af:Array Edge} {gd:Option (Nat × Bool)} {l:List Oper} {i:Nat} {f:FuncId} {args args':List PV} {v:PV} {s1:St} {K:Env→St→Prop} (hi:ws.contains i=true) (hs:s∈σ)
  (hg:guard? ops ⟨d,.call c,t,pos,af,gd⟩ (Env.keep (zu ops ⟨d,.call c,t,pos,af,gd⟩) e)=some true)
  (ha:vn c (Env.keep (zu ops ⟨d,.call c,t,pos,af,gd⟩) e)=some (f,args)) (hw:PV.weaks args=args') (hc:zb P f=true)
  (h:za P f args' s fun r s2=>r=v∧s2=s1) (hd:ue P ops ws lc σ (i+1) l (e.put d v) s1 K):ue P ops ws lc σ i (⟨d,.call c,t,pos,af,gd⟩::l) e s K:=by
 obtain ⟨e',s',h1,h2⟩:=hd
 refine ⟨e',s',Xg.ef (v:=v) (s1:=s1) zap hs ?_ h1,h2⟩
 subst hw
 intro g w a hI hsl K Q hk
 have hE:=vP hsl
 rw [yR hg hE]
 simp only [if_true]
 obtain ⟨vs,hrun,hra⟩:=wS (P:=P) (o:=⟨d,.call c,t,pos,af,gd⟩) (a:=a) rfl hE ha hc
 left
 unfold Oper.wp
 rw [hrun,Oper.upon_enter]
 refine (h g w vs hI (we _ _ hra)).mono ?_
 rintro e' w' ⟨v',g',r',s',rfl,hI',hR',hX',rfl,rfl⟩
 exact hk _ _ _ hI' hX' hR'
theorem Xg.lists:∀ {i l e s e' s'},Xg P ops ws lc σ i l e s e' s'→(∀ j (o:Oper),l[j]? =some o→ops[i+j]? =some o) →
  ∃ (V:Nat→PV) (S:Nat→St) (E:Nat→Env),E i=e∧S i=s∧E (i+l.length)=e'∧S (i+l.length)=s'∧(∀ k,i≤k→k≤i+l.length→S k∈σ)∧∀ k (o:Oper),i≤k→k<i+l.length→ops[k]? =some o →
   E (k+1)=(E k).put o.dst (V k)∧(k∉ws→S (k+1)=S k∧(k∉lc→∀ s∈σ,DOp P ops o (E k) s (V k) s))∧DOp P ops o (E k) (S k) (V k) (S (k+1)):=by
 intro i l e s e' s' h
 induction h with
 | nil hs =>
   rename_i i e s
   intro hl
   refine ⟨fun _=>.junk,fun _=>s,fun _=>e,rfl,rfl,rfl,rfl,fun k _ _=>hs,fun k o hk hk2 ho=>?_⟩
   simp at hk2;omega
 | cons hne h1 hs hd ih =>
   rename_i i o l e s v e' s'
   intro hl
   obtain ⟨V,S,E,a1,a2,a3,a4,a6,a5⟩:=ih Y15
   have h0:ops[i]? =some o:=Y68
   refine ⟨fun k=>if k=i then v else V k,fun k=>if k=i then s else S k,fun k=>if k=i then e else E k,if_pos rfl,if_pos rfl,?_,?_,?_,?_⟩
   ·exact Y7
   ·exact Y8
   ·exact Y16
   ·intro k o' hk hk2 ho'
    by_cases e1:k=i
    ·subst e1
     rw [h0] at ho';cases ho'
     simp only [if_true,show ¬ (k+1=k) from Y2,if_false]
     rw [a1,a2]
     exact ⟨rfl,fun _=>⟨rfl,fun _=>h1⟩,h1 _ hs⟩
    ·exact Y12
 | lo hne hlc h1 hs hd ih =>
   rename_i i o l e s v e' s'
   intro hl
   obtain ⟨V,S,E,a1,a2,a3,a4,a6,a5⟩:=ih Y15
   have h0:ops[i]? =some o:=Y68
   refine ⟨fun k=>if k=i then v else V k,fun k=>if k=i then s else S k,fun k=>if k=i then e else E k,if_pos rfl,if_pos rfl,?_,?_,?_,?_⟩
   ·exact Y7
   ·exact Y8
   ·exact Y16
   ·intro k o' hk hk2 ho'
    by_cases e1:k=i
    ·subst e1
     rw [h0] at ho';cases ho'
     simp only [if_true,show ¬ (k+1=k) from Y2,if_false]
     rw [a1,a2]
     exact ⟨rfl,fun _=>⟨rfl,fun h=>absurd hlc h⟩,h1⟩
    ·exact Y12
 | ef hin hs h1 hd ih =>
   rename_i i o l e s v s1 e' s'
   intro hl
   obtain ⟨V,S,E,a1,a2,a3,a4,a6,a5⟩:=ih Y15
   have h0:ops[i]? =some o:=Y68
   refine ⟨fun k=>if k=i then v else V k,fun k=>if k=i then s else S k,fun k=>if k=i then e else E k,if_pos rfl,if_pos rfl,?_,?_,?_,?_⟩
   ·exact Y7
   ·exact Y8
   ·exact Y16
   ·exact zqd
end
end Go.PM
namespace Go.PM
open Go
theorem zbX {z:Value} {n:Nat} (hz:0<z.cells.size):(Array.range (n*z.cells.size)).map (z.cells[·%z.cells.size]!)=(flat (List.replicate n z)).toArray:=by
 have hl:(flat (List.replicate n z)).length=n*z.cells.size:=by
  rw [yp (sz:=z.cells.size) (fun v hv=>by rw [(List.mem_replicate.1 hv).2]),List.length_replicate]
 refine Array.ext (by simp [hl]) fun i h1 h2=>?_
 simp only [Array.size_map,Array.size_range] at h1
 have:=vB z n i h1
 have hm:i%z.cells.size<z.cells.size:=Nat.mod_lt _ hz
 simp only [Array.getElem_map,Array.getElem_range]
 rw [List.getElem_toArray]
 rw [List.getElem?_eq_getElem (by rw [hl];exact h1)] at this
 simp only [Array.getElem?_toList,Array.getElem?_eq_getElem hm,Option.some.injEq] at this
 rw [this,getElem!_pos z.cells _ hm]
theorem zdc {z:Value} (h:VA z=true):∀ cs,z=.agg cs→∀ x∈cs.toList,x.flat=true:=by
 intro cs e x hx
 subst e
 exact List.all_eq_true.1 h x hx
theorem zcs {P:Program} {w:World} {t e:TypeId} {v:PV} {n:Nat} (htd:td P t=.sl e) (hz:zpv P e=some v) (hn:0<n) (hn2:n<1073741824) (hroom:n*P.bytesOf e≤roomBytes) (h48:n*P.bytesOf e≤140737488355328) :
  ∃ z,v=zb6 z∧z.cells.size=P.cellsOf e∧(∀ cs,z=.agg cs→∀ x∈cs.toList,x.flat=true)∧(Instr.makeSlice t (.int .i64 n) (.int .i64 n)).run P w=.ok (.slice (some ⟨w.heap.size,0,none⟩) n n) (World.newB w (.cells (flat (List.replicate n z)).toArray e (0,0))):=by
 obtain ⟨z,hz1,hz2,hz3,hz4,hpos,hz6,hz7⟩:=yZ (P:=P) (w:=w) hz
 obtain ⟨i,hi,hsz⟩:=vA hpos
 have hby:P.bytesOf e=i.bytes:=zlX
 refine ⟨z,hz2,hz4,?_,?_⟩
 ·exact zdc hz3
 ·unfold Instr.makeSlice
  rw [ze,zh (xp htd)]
  simp only [asInt,zo,ze,xU hi]
  have hw:IntKind.i64.wrap (n:Int)=(n:Int):=zi Y2
  have hc:¬ ((decide ((n:Int)<0)||decide ((i.bytes:Int)*(n:Int)>2 ^ 48))||decide ((n:Int)<0)||decide ((n:Int)>n))=true:=by
   have:(i.bytes:Int)*(n:Int)=((n*P.bytesOf e:Nat):Int):=by rw [hby];push_cast;exact Int.mul_comm _ _
   rw [this]
   simp
   omega
  have ha:(asIntOf (Value.int IntKind.i64 (n:Int))).run P w=.ok (IntKind.i64,(n:Int)) w:=rfl
  simp only [ha,hw]
  rw [if_neg hc]
  have hr:askRoom ((n:Int).toNat*i.bytes)=pure ():=by
   unfold askRoom
   rw [if_neg]
   rw [Int.toNat_natCast,← hby]
   omega
  rw [hr]
  have hne:¬ n*P.cellsOf e=0:=by
   have:=Nat.mul_pos hn hpos
   omega
  simp only [ze,zo,yx hpos,Int.toNat_natCast]
  rw [if_neg hne]
  simp only [ze,zo,hz1]
  rw [← zbX (by rw [hz4];exact hpos),hz4]
  rfl
section
variable {P:Program} {N:Nat} {k:List KI} {e:Env} {s:St} {rt:Env→St→Prop}
theorem zl2 {p:Prop} (h:p:=by unfold roomBytes;omega):p:=h
theorem zm.makeSlice {ops:Array Oper} {d:Option Nat} {t ty el:TypeId} {x y:Operand} {pos:String} {af:Array Edge} {gd:Option (Nat × Bool)} {l:List Oper} {n:Nat} {v:PV}
  (hg:guard? ops ⟨d,.makeSlice t x y,ty,pos,af,gd⟩ e=some true) (hx:ev e x=.int .i64 n) (hy:ev e y=.int .i64 n) (htd:td P t=.sl el) (hz:zpv P el=some v) (hn:0<n) (hn2:n<1073741824) (hroom:n*P.bytesOf el≤140737488355328)
  (h:zm P N ops l k (e.put d (.sl .clip (List.replicate n v))) s rt):zm P N ops (⟨d,.makeSlice t x y,ty,pos,af,gd⟩::l) k e s rt:=by
 refine zm.eff hg (fun g w a hI hE=>?_) h
 have h1:=xE hE x
 have h2:=xE hE y
 rw [hx] at h1
 rw [hy] at h2
 simp only [R] at h1 h2
 obtain ⟨z,r1,r2,r3,r4⟩:=zcs (w:=w) htd hz hn hn2 zl2 hroom
 obtain ⟨k1,k2,k3⟩:=zc2 (ty:=el) (sz:=P.cellsOf el) hI (vQ (show R g w v z by rw [r1];exact YY g w z r3) n) (fun u hu=>by rw [(List.mem_replicate.1 hu).2];exact r2) (by
  obtain ⟨_,_,_,_,_,hp,_⟩:=yZ (P:=P) (w:=w) hz
  exact hp)
 rw [List.length_replicate] at k3
 refine ⟨_,_,g,.inl ?_,k1,k2,k3⟩
 unfold execOp
 simp only [ze,zo,h1,h2,r4]
end
end Go.PM
namespace Go.PM
open Go Go.ChangeShapes Go.WideShapes Go.RowKit
def g0:G:={ nxt:=0,rows:=fun _=>none,live:=fun _=>false,toks:=fun _=>none,lim:=fun _=>none }
def s0:St:={ nxt:=0,blk:=fun _=>none }
theorem zfg (b:Nat):¬ g0.isRow b:=by
 rintro ⟨i,n,e,_⟩
 cases e
theorem zlT (b n:Nat):g0.free b n:=⟨zfg b,fun m h=>by cases h⟩
theorem zqD (P:Program) (w:World):Inv P g0 s0 w where
 nxt:=rfl
 wf:=fun _ _=>rfl
 at':=fun id=>⟨rfl,rfl⟩
 inj:=fun i j b m n hi _ _ _=>by cases hi
 tinj:=fun i j b m n hi _=>by cases hi
 lim:=fun b e h=>by cases h
 rlim:=fun _ _ _ _ _=>rfl
theorem zns {w g' w'} (h:Ext g0 w g' w'):Below w.heap.size w w' :=
 ⟨h.os,h.tape,h.output,h.size,fun k hk=>h.same k hk (zfg k) rfl⟩
theorem zn3 {P:Program} {f:FuncId} {args:List PV} {vs:Array Value} {w:World} (h:za P f args s0 (fun r _=>r=.bool true)) (hr:RA g0 w args vs.toList) :
  Calls P f vs w fun e w'=>e=.returned (.bool true)∧Below w.heap.size w w':=by
 refine (h g0 w vs (zqD P w) hr).mono fun e w' ⟨v,g',r,s',h1,h2,h3,h4,h5⟩=>?_
 subst h5
 simp only [R] at h3
 subst h3
 exact ⟨h1,zns h4⟩
theorem Vu {H:Type} {enc:TypeId × Value→H} {P:Program} (hl:laidOutB P=true) {W W':World} (hb:Below W.heap.size W W'):∀ {ts:List TypeId} {vs:List Value} {ds:List (DataW H)} {ps:List MemPlace},
  ts.all (fun t=>P.readableRec t&&decide (t<P.types.size))=true→DataW.TrodAll enc P W 0 (fun _=>true) true ts vs ds ps →
  DataW.TrodAll enc P W' 0 (fun b=>decide (b<W.heap.size)) true ts vs ds ps
 | [],vs,ds,ps,_,h=>by
   obtain ⟨rfl,rfl,rfl⟩:=trodAll_nil h
   exact trodAll_mk0
 | t::ts,vs,ds,ps,ht,h=>by
   obtain ⟨v,vs',d,ds',p,q,rfl,rfl,rfl,h1,h2⟩:=trodAll_cons h
   simp only [List.all_cons,Bool.and_eq_true,decide_eq_true_eq] at ht
   have lt:∀ x∈p,x.block<W.heap.size:=by obtain ⟨m,hm⟩:=h1;exact DataW.trod_lt m _ _ _ hm
   exact trodAll_cons_mk (Below.trod hl ht.1.1 ht.1.2 h1 hb lt) (Vu hl hb ht.2 h2)
inductive Sh where
 | int (k:IntKind) | bool
def zi2 (P:Program) (t:TypeId):Option Sh:=match P.underlying t with
 | some (.int k)=>some (.int k)
 | some .bool=>some .bool
 | _=>none
def Zm (P:Program):Nat→List Field→Option (List Sh)
 | _,[]=>some []
 | o,f::fs=>match zi2 P f.type with
   | some s=>if f.offset=o∧P.cellsOf f.type=1 then (Zm P (o+1) fs).map (s::·) else none
   | none=>none
def zok (P:Program) (t:TypeId):Option (List Sh × Bool):=match P.underlying t with
 | some (.struct fs)=>if P.cellsOf t=fs.size then (Zm P 0 fs.toList).map (·,true) else none
 | _=>(zi2 P t).map fun s=>([s],false)
def zoG:Sh→PV→Prop
 | .int k,p=>∃ n,p=.int k n∧(Lit.int k n).wf=true
 | .bool,p=>∃ b,p=.bool b
def zmJ:List Sh→List PV→Prop
 | [],ps=>ps=[]
 | s::ss,ps=>∃ p r,ps=p::r∧zoG s p∧zmJ ss r
def ziv:List Sh × Bool→PV→Prop
 |(ss,true),p=>∃ ps,p=.agg ps∧zmJ ss ps
 |(ss,false),p=>zmJ ss [p]
section
variable {H:Type} {enc:TypeId × Value→H} {P:Program} {w:World} {base:Nat} {sp:Nat→Bool} {held:Bool}
theorem zc6 {t s fuel cs x} (g:G) (hs:zi2 P t=some s) (h:DataW.trod enc P w base sp held fuel t cs=some x) :
  ∃ p v,cs=[v]∧zoG s p∧R g w p v∧v.flat=true:=by
 unfold zi2 at hs
 split at hs
 ·rename_i k hu
  cases hs
  obtain ⟨n,rfl,_,hw⟩:=DataW.trod_int hu h
  exact ⟨.int k n,_,rfl,⟨n,rfl,hw⟩,by simp [R],rfl⟩
 ·rename_i hu
  cases hs
  obtain ⟨b,rfl,_⟩:=DataW.trod_bool hu h
  exact ⟨.bool b,_,rfl,⟨b,rfl⟩,by simp [R],rfl⟩
 ·cases hs
theorem UU {fuel:Nat} (g:G) (cs:List Value):∀ (fs:List Field) (o:Nat) (ss:List Sh),Zm P o fs=some ss→cs.length=o+fs.length →
  (∀ (i:Nat) (f:Field),fs[i]? =some f→∃ x,DataW.trod enc P w base sp held fuel f.type ((cs.drop f.offset).take (P.cellsOf f.type))=some x) →
  ∃ ps,zmJ ss ps∧RA g w ps (cs.drop o)∧∀ v∈cs.drop o,v.flat=true
 | [],o,ss,h,hl,_=>by
   simp only [Zm,Option.some.injEq] at h
   subst h
   have:cs.drop o=[]:=List.drop_eq_nil_of_le (by simp at hl;omega)
   rw [this]
   exact ⟨[],rfl,rfl,Y1⟩
 | f::fs,o,ss,h,hl,hx=>by
   simp only [Zm] at h
   cases hs:zi2 P f.type with
   | none=>rw [hs] at h;cases h
   | some s =>
     rw [hs] at h
     simp only at h
     split at h
     case isFalse=>cases h
     rename_i hc
     obtain ⟨ho,hc1⟩:=hc
     cases hr:Zm P (o+1) fs with
     | none=>rw [hr] at h;cases h
     | some ss' =>
       rw [hr] at h
       simp only [Option.map_some,Option.some.injEq] at h
       subst h
       obtain ⟨x,hx0⟩:=hx 0 f Y1
       rw [ho,hc1] at hx0
       obtain ⟨p,v,e,h1,h2,h3⟩:=zc6 g hs hx0
       simp only [List.length_cons] at hl
       obtain ⟨ps,k1,k2,k3⟩:=UU g cs fs (o+1) ss' hr Y2 (fun i f' hf'=>hx (i+1) f' (by simpa using hf'))
       have hd:cs.drop o=v::cs.drop (o+1):=by
        have hlt:o<cs.length:=Y2
        have h2:=List.drop_eq_getElem_cons hlt
        rw [h2] at e
        simp only [List.take_succ_cons,List.take_zero,List.cons.injEq,and_true] at e
        rw [h2,e]
       refine ⟨p::ps,⟨p,ps,rfl,h1,k1⟩,?_,?_⟩
       ·rw [hd];simp only [RA];exact ⟨v,_,rfl,h2,k2⟩
       ·rw [hd]
        intro u hu
        rcases List.mem_cons.1 hu with rfl | hu
        ·exact h3
        ·exact k3 u hu
theorem zm2 {t q fuel cs x} (g:G) (hq:zok P t=some q) (h:DataW.trod enc P w base sp held fuel t cs=some x) :
  ∃ p v,R g w p v∧v.cells.toList=cs∧ziv q p∧∀ x∈cs,x.flat=true:=by
 unfold zok at hq
 split at hq
 ·rename_i fs hu
  split at hq
  case isFalse=>cases hq
  rename_i hc
  obtain ⟨xs,n,_,_,hl,hn,hx⟩:=DataW.trod_struct hu h
  cases hr:Zm P 0 fs.toList with
  | none=>rw [hr] at hq;cases hq
  | some ss =>
    rw [hr] at hq
    simp only [Option.map_some,Option.some.injEq] at hq
    subst hq
    obtain ⟨ps,k1,k2,k3⟩:=UU (enc:=enc) (base:=base) (sp:=sp) (held:=held) (fuel:=n) g cs fs.toList 0 ss hr (by rw [hl,hc];simp) (fun i f hf=>by
     rw [hx i f (by simpa using hf)]
     have:i<xs.length:=by rw [hn];have:=(List.getElem?_eq_some_iff.1 hf).1;simpa using this
     exact ⟨xs[i],by simp [this]⟩)
    rw [List.drop_zero] at k2 k3
    exact ⟨.agg ps,.agg cs.toArray,by simp only [R];exact ⟨cs.toArray,rfl,by simpa using k3,by simpa using k2⟩,by simp [Value.cells],⟨ps,rfl,k1⟩,k3⟩
 ·cases hs:zi2 P t with
  | none=>rw [hs] at hq;cases hq
  | some s =>
    rw [hs] at hq
    simp only [Option.map_some,Option.some.injEq] at hq
    subst hq
    obtain ⟨p,v,rfl,h1,h2,h3⟩:=zc6 g hs h
    exact ⟨p,v,h2,by rw [WL h3],⟨p,[],rfl,h1,rfl⟩,by simpa using h3⟩
theorem zcK {r:Reach} {b0:Nat} {t e q v d ps} (ht:P.underlying t=some (.slice e)) (hq:zok P e=some q) (hpos:0<P.cellsOf e) (hval:Value.okWide P w r b0 t v) (hd:DataW.Trod enc P w base sp held t v d ps)
  {ts:List TypeId} {ds:List (DataW H)} (hsz:(DataW.weightsEach P ts ds).all (·≤reachBytes)=true) {j:Nat} (htj:ts[j]? =some t) (hdj:ds[j]? =some d) :
  ∃ els,R g0 w (.sl .unk els) v∧(∀ x∈els,ziv q x)∧els.length*P.bytesOf e≤reachBytes:=by
 obtain ⟨a,len,cap,rfl⟩:=okWide_slice ht hval
 obtain ⟨fuel,hf⟩:=hd
 rcases DataW.trod_slice ht hf with ⟨hcs,_⟩ | ⟨a',l',c',elems,rest,n,_,hcs,hx,_,hlc,_,hel,hat,_⟩
 ·simp [Value.cells] at hcs
  obtain ⟨rfl,rfl,rfl⟩:=hcs
  exact ⟨[],XE.2 (.inl (ZO.2 ⟨rfl,rfl⟩)),Y1,Y1⟩
 ·simp [Value.cells] at hcs
  obtain ⟨rfl,rfl,rfl⟩:=hcs
  have hsp:a'.spot=none:=by
   simp only [Value.okWide,ht,Cell.okWide,Cell.ok] at hval
   exact hval.2.2.2.1
  obtain ⟨b,o,s⟩:=a'
  simp only at hsp
  subst hsp
  have main:∀ k,k≤len→∃ els vs,els.length=k∧RA g0 w els vs∧zT w b o (flat vs)∧(∀ v∈vs,v.cells.size=P.cellsOf e)∧∀ x∈els,ziv q x:=by
   intro k
   induction k with
   | zero=>exact fun _=>⟨[],[],rfl,rfl,by intro j hj;simp [flat] at hj,Y1,Y1⟩
   | succ k ih =>
     intro hk
     obtain ⟨els,vs,h1,h2,h3,h4,h5⟩:=ih Y2
     have:=hat k Y2
     have hk':k<elems.length:=Y2
     rw [List.getElem?_eq_getElem hk'] at this
     obtain ⟨cs,hc1,hc2⟩:=Option.bind_eq_some_iff.1 this
     obtain ⟨_,hcl,hcc⟩:=World.cells?_some hc1
     obtain ⟨p,v,p1,p2,p3,p4⟩:=zm2 g0 hq hc2
     have hvs:v.cells.size=P.cellsOf e:=by rw [← Array.length_toList,p2,hcl]
     refine ⟨els++[p],vs++[v],by simp [h1],yN h2 (by simp only [RA];exact ⟨v,[],rfl,p1,rfl⟩),?_,?_,?_⟩
     ·rw [wA,xa]
      refine ⟨h3,?_⟩
      have hvl:=zV h2
      rw [yp h4,← hvl,h1]
      intro j hj
      simp only [flat,List.flatMap_cons,List.flatMap_nil,List.append_nil] at hj ⊢
      have hj':j<cs.length:=by rw [← p2];exact hj
      have:=hcc j Y2
      rw [add_plain,add_plain,List.getElem?_eq_getElem hj'] at this
      rw [this]
      simp only [p2]
     ·intro u hu
      rcases List.mem_append.1 hu with hu | hu
      ·exact h4 u hu
      ·simp at hu;subst hu;exact hvs
     ·intro u hu
      rcases List.mem_append.1 hu with hu | hu
      ·exact h5 u hu
      ·simp at hu;subst hu;exact p3
  obtain ⟨els,vs,h1,h2,h3,h4,h5⟩:=main len (Nat.le_refl _)
  refine ⟨els,XE.2 (.inr ?_),h5,?_⟩
  ·simp only [R,vg,yV]
   exact ⟨vs,h2,.inl ⟨b,o,cap,P.cellsOf e,by rw [h1],Y2,hpos,Y1,fun _=>zlT _ _,h3,h4,Y1⟩⟩
  ·have hx1:d=.slice (elems.map (·.1)) (rest.map (·.1)):=congrArg (·.1) hx
   subst hx1
   have:=sized_slice hsz htj hdj ht
   simp only [List.length_map] at this
   rw [h1,← hel]
   exact Nat.le_trans (Nat.mul_le_mul_right _ (Nat.le_add_right _ _)) this
end
theorem UG {α:Type} {f:α→PV} {q:α→Prop}:∀ {l:List PV},(∀ x∈l,∃ a,x=f a∧q a)→∃ ls:List α,l=ls.map f∧∀ a∈ls,q a
 | [],_=>⟨[],rfl,Y1⟩
 | x::l,h=>by
   obtain ⟨a,rfl,ha⟩:=h x Y1
   obtain ⟨ls,rfl,has⟩:=UG (f:=f) (q:=q) (l:=l) fun y hy=>h y (by simp [hy])
   exact ⟨a::ls,rfl,fun y hy=>by
    rcases List.mem_cons.1 hy with h1 | h1
    ·rw [h1];exact ha
    ·exact has y h1⟩
end Go.PM
namespace Go.PM
open Go
theorem zeE {k:IntKind} {els:List PV} (h:∀ x∈els,ziv ([.int k],false) x):∃ l:List Int,els=l.map (PV.int k)∧∀ n∈l,(Lit.int k n).wf=true :=
 UG (f:=PV.int k) (q:=fun n=>(Lit.int k n).wf=true) fun x hx=>by
  obtain ⟨p,r,e,⟨n,e1,hw⟩,e2⟩:=h x hx
  simp only [List.cons.injEq] at e
  exact ⟨n,by rw [e.1,e1],hw⟩
theorem zor {n:Int} (h:(Lit.int .u16 n).wf=true):0≤n∧n≤65535:=by
 simp [Lit.wf,IntKind.min,IntKind.max,IntKind.signed,IntKind.bits] at h
 omega
end Go.PM
namespace Go.PM
open Go Go.ChangeShapes Go.WideShapes Go.RowKit
def mkv (a:Bool) (cs:List Value):Value:=if a=true then .agg cs.toArray else cs.headD .nilFunc
structure Rd (P:Program) (t:TypeId) (a:Bool) (φ:PV→Prop):Prop where
 rd:∀ {H:Type} {enc:TypeId × Value→H} {w:World} {base fuel:Nat} {held:Bool} {cs:List Value} {x:DataW H × List MemPlace},
 DataW.trod enc P w base (fun _=>true) held fuel t cs=some x→(∀ n∈x.1.weights P t,n≤reachBytes)→∃ p,R g0 w p (mkv a cs)∧φ p∧(∀ y∈cs,y.flat=true)∧(a=false→cs.length=1)
section
variable {H:Type} {enc:TypeId × Value→H} {P:Program} {w:World} {base:Nat} {held:Bool}
end
end Go.PM
namespace Go.PM
theorem Rd.mono {P:Go.Program} {t:Go.TypeId} {a:Bool} {φ ψ:PV→Prop} (h:Rd P t a φ) (k:∀ p,φ p→ψ p):Rd P t a ψ:=by
 refine ⟨@fun H enc w base fuel held cs x hx hw=>?_⟩
 obtain ⟨p,h1,h2,h3,h4⟩:=h.rd hx hw
 exact ⟨p,h1,k p h2,h3,h4⟩
end Go.PM
namespace Go.Proofs
open Go.PM Go
structure Sp where
 pos:Int
 cnt:Int
 deriving DecidableEq
def Sp.pv (s:Sp):PV:=.agg [.int .i64 s.pos,.int .i64 s.cnt]
structure Win where
 space:Int
 virt:Int
 phys:Int
 cnt:Int
 deriving DecidableEq
def Win.pv (w:Win):PV:=.agg [.int .i64 w.space,.int .i64 w.virt,.int .i64 w.phys,.int .i64 w.cnt]
structure Slt where
 pos:Int
 len:Int
 deriving DecidableEq
def Slt.pv (s:Slt):PV:=.agg [.int .i64 s.pos,.int .i64 s.len]
structure Ten where
 unit:Int
 fns:Int
 queue:Int
 wins:List Win
 slts:List Slt
 deriving DecidableEq
def Ten.pv (t:Ten):PV:=.agg [.int .i64 t.unit,.int .u32 t.fns,.int .i64 t.queue,.sl .unk (t.wins.map Win.pv),.sl .unk (t.slts.map Slt.pv)]
structure Tab where
 frame:Int
 tens:List Ten
 deriving DecidableEq
def Tab.pv (t:Tab):PV:=.agg [.int .i64 t.frame,.sl .unk (t.tens.map Ten.pv)]
def I64 (n:Int):Prop:= -9223372036854775808≤n∧n≤9223372036854775807
def U32 (n:Int):Prop:=0≤n∧n≤4294967295
structure Sp.ok (s:Sp):Prop where
 pos:I64 s.pos
 cnt:I64 s.cnt
structure Win.ok (w:Win):Prop where
 space:I64 w.space
 virt:I64 w.virt
 phys:I64 w.phys
 cnt:I64 w.cnt
structure Slt.ok (s:Slt):Prop where
 pos:I64 s.pos
 len:I64 s.len
structure Ten.ok (t:Ten):Prop where
 unit:I64 t.unit
 fns:U32 t.fns
 queue:I64 t.queue
 wins:∀ w∈t.wins,w.ok
 slts:∀ s∈t.slts,s.ok
 bw:t.wins.length*32≤140737488351232
 bs:t.slts.length*16≤140737488351232
structure Tab.ok (t:Tab):Prop where
 frame:I64 t.frame
 tens:∀ x∈t.tens,x.ok
 bt:t.tens.length*72≤140737488351232
theorem Ten.ok.nw {t:Ten} (h:t.ok):t.wins.length<140737488355328:=by have:=h.bw;omega
theorem Ten.ok.ns {t:Ten} (h:t.ok):t.slts.length<140737488355328:=by have:=h.bs;omega
theorem Tab.ok.nt {t:Tab} (h:t.ok):t.tens.length<140737488355328:=by have:=h.bt;omega
theorem zda (l:List Sp):PV.weaks (l.map Sp.pv)=l.map Sp.pv:=xc Sp.pv (fun _=>rfl) l
theorem uA (l:List Win):PV.weaks (l.map Win.pv)=l.map Win.pv:=xc Win.pv (fun _=>rfl) l
theorem Zx (l:List Slt):PV.weaks (l.map Slt.pv)=l.map Slt.pv:=xc Slt.pv (fun _=>rfl) l
theorem zaX (t:Ten):t.pv.weak=t.pv:=by
 simp only [Ten.pv,PV.weak,PV.weaks,uA,Zx]
theorem WP (l:List Ten):PV.weaks (l.map Ten.pv)=l.map Ten.pv:=xc Ten.pv zaX l
theorem Wf (n:Nat) (l:List Win):PV.blws n (l.map Win.pv):=wo Win.pv n (fun a=>by simp [Win.pv,PV.blw,PV.blws]) l
theorem Uw (n:Nat) (l:List Slt):PV.blws n (l.map Slt.pv):=wo Slt.pv n (fun a=>by simp [Slt.pv,PV.blw,PV.blws]) l
theorem ze3 (n:Nat) (l:List Sp):PV.blws n (l.map Sp.pv):=wo Sp.pv n (fun a=>by simp [Sp.pv,PV.blw,PV.blws]) l
theorem Y17 {p:Prop} (h:p:=by cases e):p:=h
theorem zij (n:Nat) (t:Ten):t.pv.blw n:=by
 simp only [Ten.pv,PV.blw,PV.blws,true_and,and_true]
 exact ⟨⟨fun t z e=>Y17,Wf _ _⟩,fun t z e=>Y17,Uw _ _⟩
theorem Un (n:Nat) (l:List Ten):PV.blws n (l.map Ten.pv):=wo Ten.pv n (zij n) l
theorem zic (n:Nat) (t:Tab):t.pv.blw n:=by
 simp only [Tab.pv,PV.blw,PV.blws,true_and,and_true]
 exact ⟨fun t z e=>Y17,Un _ _⟩
def Ten.pvc (t:Ten):PV:=.agg [.int .i64 t.unit,.int .u32 t.fns,.int .i64 t.queue,.sl .unc (t.wins.map Win.pv),.sl .unc (t.slts.map Slt.pv)]
theorem zgl (l:List Ten):PV.weaks (l.map Ten.pvc)=l.map Ten.pv:=by
 rw [uj,List.map_map]
 refine List.map_congr_left fun t _=>?_
 simp only [Function.comp,Ten.pvc,Ten.pv,PV.weak,PV.weaks,uA,Zx]
attribute [go_sem] Int.natCast_nonneg Int.ofNat_lt List.length_map decide_true decide_false ne_eq not_true_eq_false not_false_eq_true Int.lt_irrefl Int.le_refl uA Zx WP zda
theorem yP {α:Type} {f:α→PV} {l:List α} {i:Nat} (h:i<l.length):(l.map f)[i]? =some (f l[i]):=by
 rw [List.getElem?_map,List.getElem?_eq_getElem h];rfl
def ZH (n lo hi:Int):Int:=if lo≤n∧n≤hi then n else lo+if n.tmod (hi-lo+1)<0 then n.tmod (hi-lo+1)+hi-lo+1 else n.tmod (hi-lo+1)
theorem zaY (n:Int) {m:Int} (h:0<m): -m<n.tmod m∧n.tmod m<m:=by
 constructor
 ·rcases Int.le_total 0 n with h1 | h1
  ·have:=Int.tmod_nonneg m h1;omega
  ·have h2:=Int.tmod_lt_of_pos (-n) h
   rw [Int.neg_tmod] at h2
   omega
 ·exact Int.tmod_lt_of_pos n h
theorem Y18 {p:Prop} (h:p:=by omega):p:=h
theorem WB {n lo hi:Int} (h:lo≤hi):lo≤ZH n lo hi∧ZH n lo hi≤hi:=by
 unfold ZH
 have:=zaY n (m:=hi-lo+1) Y18
 split
 ·omega
 ·split<;>omega
structure Tp where
 l:List Int
 pos:Nat
def Tp.pv (t:Tp):PV:=.agg [.sl .unk (t.l.map (PV.int .i64)),.int .i64 t.pos]
def Tp.val (t:Tp) (n:Int):Int:=if t.l.length≤t.pos∨n<1 then 0 else (ZH (t.l[t.pos]?.getD 0) 0 1073741824).tmod n
def Tp.nx (t:Tp) (n:Int):Tp:=if t.l.length≤t.pos∨n<1 then t else ⟨t.l,t.pos+1⟩
structure Tp.ok (t:Tp):Prop where
 len:t.l.length*8≤140737488351232
 pos:t.pos≤t.l.length+1000
theorem Y70 {p:Prop} (h:p:=by simp only;omega):p:=h
theorem Tp.ok.nx {t:Tp} (h:t.ok) (n:Int):(t.nx n).ok:=by
 unfold Tp.nx
 split
 ·exact h
 ·rename_i hc
  exact ⟨h.len,Y70⟩
theorem Y19 {p:Prop} (h:p:=by decide):p:=h
theorem Tp.val_bound (t:Tp) {n:Int} (hn:1≤n):0≤t.val n∧t.val n≤n-1:=by
 unfold Tp.val
 split
 ·omega
 ·have h1:=WB (n:=t.l[t.pos]?.getD 0) (lo:=0) (hi:=1073741824) Y19
  have h2:=Int.tmod_nonneg n h1.1
  have h3:=Int.tmod_lt_of_pos (ZH (t.l[t.pos]?.getD 0) 0 1073741824) (show 0<n from Y18)
  omega
def zM (s:Sp) (most:Int):Bool:=decide (0≤s.pos∧1≤s.cnt∧s.pos≤most∧s.cnt≤most-s.pos)
def yE:Int:=2147483648
def ym (a b:Sp):Bool:=zM a yE&&zM b yE&&decide (max a.pos b.pos<min (a.pos+a.cnt) (b.pos+b.cnt))
def vd (a b:Sp):Sp:=if ym a b then ⟨max a.pos b.pos,min (a.pos+a.cnt) (b.pos+b.cnt)-max a.pos b.pos⟩ else ⟨0,0⟩
theorem yb {s:Sp} {m:Int}:zM s m=true↔0≤s.pos∧1≤s.cnt∧s.pos≤m∧s.cnt≤m-s.pos:=by simp [zM]
theorem ziJ {a b:Sp} (h:(!zM a yE)=true):ym a b=false∧vd a b=⟨0,0⟩:=by
 have h:zM a yE=false:=by simpa using h
 have h2:ym a b=false:=by simp [ym,h]
 exact ⟨h2,by simp [vd,h2]⟩
theorem zjh {a b:Sp} (h:(!zM b yE)=true):ym a b=false∧vd a b=⟨0,0⟩:=by
 have h:zM b yE=false:=by simpa using h
 have h2:ym a b=false:=by simp [ym,h]
 exact ⟨h2,by simp [vd,h2]⟩
theorem zgq {a b:Sp} (ha:(!zM a yE)=false) (hb:(!zM b yE)=false) (h:decide ((if IntKind.i64.wrap (b.pos+b.cnt)<IntKind.i64.wrap (a.pos+a.cnt) then IntKind.i64.wrap (b.pos+b.cnt) else IntKind.i64.wrap (a.pos+a.cnt))≤if a.pos<b.pos then b.pos else a.pos)=true) :
  ym a b=false∧vd a b=⟨0,0⟩:=by
 have h1:=yb.1 (show zM a yE=true by simpa using ha)
 have h2:=yb.1 (show zM b yE=true by simpa using hb)
 unfold yE at h1 h2
 rw [zi Y18,zi Y18] at h
 have h:=of_decide_eq_true h
 have h3:ym a b=false:=by
  simp only [ym,Bool.and_eq_false_iff,decide_eq_false_iff_not]
  right
  have e1:max a.pos b.pos=if a.pos<b.pos then b.pos else a.pos:=Y18
  have e2:min (a.pos+a.cnt) (b.pos+b.cnt)=if b.pos+b.cnt<a.pos+a.cnt then b.pos+b.cnt else a.pos+a.cnt:=Y18
  rw [e1,e2]
  omega
 exact ⟨h3,by simp [vd,h3]⟩
theorem zeN {a b:Sp} (ha:(!zM a yE)=false) (hb:(!zM b yE)=false) (h:decide ((if IntKind.i64.wrap (b.pos+b.cnt)<IntKind.i64.wrap (a.pos+a.cnt) then IntKind.i64.wrap (b.pos+b.cnt) else IntKind.i64.wrap (a.pos+a.cnt))≤if a.pos<b.pos then b.pos else a.pos)=false) :
  ym a b=true∧vd a b=⟨if a.pos<b.pos then b.pos else a.pos,IntKind.i64.wrap ((if IntKind.i64.wrap (b.pos+b.cnt)<IntKind.i64.wrap (a.pos+a.cnt) then IntKind.i64.wrap (b.pos+b.cnt) else IntKind.i64.wrap (a.pos+a.cnt))-if a.pos<b.pos then b.pos else a.pos)⟩:=by
 have ha':zM a yE=true:=by simpa using ha
 have hb':zM b yE=true:=by simpa using hb
 have h1:=yb.1 ha'
 have h2:=yb.1 hb'
 unfold yE at h1 h2
 have w1:IntKind.i64.wrap (b.pos+b.cnt)=b.pos+b.cnt:=zi Y18
 have w2:IntKind.i64.wrap (a.pos+a.cnt)=a.pos+a.cnt:=zi Y18
 rw [w1,w2] at h ⊢
 have h:=of_decide_eq_false h
 have e1:max a.pos b.pos=if a.pos<b.pos then b.pos else a.pos:=Y18
 have e2:min (a.pos+a.cnt) (b.pos+b.cnt)=if b.pos+b.cnt<a.pos+a.cnt then b.pos+b.cnt else a.pos+a.cnt:=Y18
 have h3:ym a b=true:=by
  simp only [ym,ha',hb',Bool.true_and,decide_eq_true_eq]
  rw [e1,e2]
  omega
 refine ⟨h3,?_⟩
 rw [vd,if_pos h3,e1,e2,zi (by split<;>split<;>omega)]
def Win.v (w:Win):Sp:=⟨w.virt,w.cnt⟩
def Win.p (w:Win):Sp:=⟨w.phys,w.cnt⟩
def Slt.sp (s:Slt):Sp:=⟨s.pos,s.len⟩
def yj (w:Win):Bool:=decide (0≤w.space∧w.space≤3)&&zM w.v 65536&&zM w.p 512
def Wl (a b:Win):Bool:=ym a.p b.p&&decide (a.space=b.space)&&yj a&&yj b
def Vn (a b:Win):Bool:=ym a.v b.v&&decide (a.space=b.space)&&yj a&&yj b
def zgh (a b:List Win):Bool:=a.any fun x=>b.any fun y=>Wl x y
def YW (a b:Win):Bool:=Wl a b||Vn a b
def vp (ahead:List Win):List Win→Bool
 | []=>true
 | x::l=>ahead.all (fun y=> !YW x y)&&vp (ahead++[x]) l
def uE (l:List Win):Bool:=vp [] l
theorem XM {α:Type} {l:List α} {i:Nat} (h:i<l.length):l.drop i=l[i]::l.drop (i+1):=List.drop_eq_getElem_cons h
theorem xn {α:Type} {l:List α} {i:Nat} (h:i<l.length):l.take (i+1)=l.take i++[l[i]]:=by
 rw [List.take_add_one,List.getElem?_eq_getElem h];rfl
def zh3 (a b:Slt):Bool:=ym a.sp b.sp
def XC (s:Slt) (l:List Slt):Bool:=l.any fun x=>zh3 s x
def XX (frame:Int) (s:Slt):Bool:=decide (72≤s.len)&&zM s.sp frame
def ZB (x:Ten) (frame:Int):Int :=
 if x.unit<1∨247<x.unit then 21
 else if x.queue<1∨6<x.queue then 22
 else if 6<x.wins.length∨x.slts.length<1∨3<x.slts.length then 26
 else if x.wins.any (fun w=> !yj w)|| !uE x.wins then 23
 else if x.slts.any (fun s=> !XX frame s) then 25
 else 0
def uJ (ahead:List Ten):List Slt→List Slt→Bool
 | _,[]=>false
 | done,s::l=>XC s done||ahead.any (fun y=>XC s y.slts)||uJ ahead (done++[s]) l
def Yq (x:Ten) (ahead:List Ten):Int :=
 if ahead.any fun y=>zgh x.wins y.wins then 24 else if uJ ahead [] x.slts then 25 else 0
def Zd (frame:Int):List Ten→List Ten→Int × Int
 | _,[]=>(0,-1)
 | done,x::l=>if ZB x frame≠0 then (ZB x frame,done.length) else if Yq x done≠0 then (Yq x done,done.length) else Zd frame (done++[x]) l
def XS (t:Tab):Int × Int :=
 if t.frame<1∨2000<t.frame then (20,-1) else if t.tens.length<1∨4<t.tens.length then (26,-1) else Zd t.frame [] t.tens
def vj (t:Tab):Bool:=decide ((XS t).1=0)
theorem zeJ (frame:Int) (a:Slt):XX frame a=(decide (0≤a.pos)&&decide (72≤a.len)&&decide (a.pos≤frame)&&decide (a.len≤frame-a.pos)):=by
 simp only [XX,zM,Slt.sp]
 by_cases h1:0≤a.pos<;>by_cases h2:72≤a.len<;>by_cases h3:a.pos≤frame<;>by_cases h4:a.len≤frame-a.pos<;>simp [h1,h2,h3,h4]<;>omega
def ZW {α:Type} (p:α→Bool):List α→Nat→Int
 | [],_=> -1
 | x::l,i=>if p x then i else ZW p l (i+1)
theorem zf8 {α:Type} (p:α→Bool):∀ (l:List α) (i:Nat),decide (0≤ZW p l i)=l.any p
 | [],i=>rfl
 | x::l,i=>by
   unfold ZW
   cases h:p x with
   | true=>simp [h]
   | false=>simp [h,zf8 p l (i+1)]
theorem Uk {α:Type} (p:α→Bool) {l:List α} {i:Nat} (h:i<l.length):ZW p (l.drop i) i=if p l[i] then (i:Int) else ZW p (l.drop (i+1)) (i+1):=by
 rw [XM h,ZW]
end Go.Proofs
namespace Go.Proofs
open Go.PM Go
def gD (l:List Int) (k:Nat):Int:=l[k]?.getD 0
theorem Ui {l:List Int} {k j:Nat} {x:Int} (hk:k<l.length):gD (l.set k x) j=if j=k then x else gD l j:=by
 unfold gD
 rw [List.getElem?_set]
 by_cases h:k=j
 ·subst h;simp [hk]
 ·rw [if_neg h,if_neg (fun e=>h e.symm)]
theorem zh5 {l:List Int} {k:Nat} (hk:k<l.length):((l.map (PV.int .i64)).drop k).head? =some (.int .i64 (gD l k)):=by
 unfold gD
 rw [List.head?_drop,List.getElem?_map,List.getElem?_eq_getElem hk];rfl
theorem zgV {l:List Int} {k:Nat} {x:Int}:(l.map (PV.int .i64)).set k (.int .i64 x)=(l.set k x).map (PV.int .i64):=by rw [List.map_set]
def spL (v:Nat):Nat:=[3,0,3,1,2,3][v]?.getD 0
def g4 (u:Nat):Int:=if u=3 then 5 else 0
theorem zmE {v:Nat} (h:v≤5):([.int .i64 3,.int .i64 0,.int .i64 3,.int .i64 1,.int .i64 2,.int .i64 3]:List PV)[v]? =some (.int .i64 (spL v))∧spL v<4:=by
 have:v=0∨v=1∨v=2∨v=3∨v=4∨v=5:=Y18
 rcases this with rfl | rfl | rfl | rfl | rfl | rfl<;>exact ⟨rfl,Y19⟩
theorem zoh {u:Nat} (h:u≤3):([.int .i64 0,.int .i64 0,.int .i64 0,.int .i64 5]:List PV)[u]? =some (.int .i64 (g4 u))∧0≤g4 u∧g4 u≤5:=by
 have:u=0∨u=1∨u=2∨u=3:=Y18
 rcases this with rfl | rfl | rfl | rfl<;>exact ⟨rfl,Y19,Y19⟩
theorem ZI {a b:Sp} (h:b.pos+b.cnt≤a.pos):ym a b=false:=by
 have:¬ (max a.pos b.pos<min (a.pos+a.cnt) (b.pos+b.cnt)):=Y18
 simp [ym,this]
theorem WE (x:Win):∀ (l ahead:List Win),vp ahead (l++[x])=(vp ahead l&&(ahead++l).all (fun y=> !YW x y))
 | [],ahead=>by simp [vp]
 | y::l,ahead=>by
   rw [List.cons_append,vp,WE x l (ahead++[y]),vp,Bool.and_assoc,List.append_assoc]
   rfl
structure zdZ (i c:Nat) (ws:List Win) (fr vi:List Int):Prop where
 fl:fr.length=4
 vl:vi.length=4
 fb:∀ k,k<4→128*(i:Int)≤gD fr k∧gD fr k≤128*i+20*c
 vb:∀ k,k<4→0≤gD vi k∧gD vi k≤23*c
 len:ws.length=c
 all:∀ w∈ws,∃ k:Nat,k<4∧w.space=k∧1≤w.cnt∧w.cnt≤18∧0≤w.virt∧w.virt+w.cnt≤gD vi k∧128*(i:Int)≤w.phys∧w.phys+w.cnt≤gD fr k
 own:uE ws=true
theorem zdZ.first (i:Nat):zdZ i 0 [] [128*(i:Int),128*i,128*i,128*i] [0,0,0,0] where
 fl:=rfl
 vl:=rfl
 fb:=fun k hk=>by
  have:k=0∨k=1∨k=2∨k=3:=Y18
  rcases this with rfl | rfl | rfl | rfl<;>simp [gD]
 vb:=fun k hk=>by
  have:k=0∨k=1∨k=2∨k=3:=Y18
  rcases this with rfl | rfl | rfl | rfl<;>simp [gD]
 len:=rfl
 all:=fun w hw=>by cases hw
 own:=rfl
theorem zdZ.step {i c:Nat} {ws:List Win} {fr vi:List Int} (h:zdZ i c ws fr vi) {k:Nat} (hk:k<4) {g n m:Int} (hg:0≤g∧g≤5) (hn:0≤n∧n≤2) (hm:0≤m∧m≤17) :
  zdZ i (c+1) (ws++[⟨k,gD vi k+g,gD fr k+n,1+m⟩]) (fr.set k (gD fr k+n+(1+m))) (vi.set k (gD vi k+g+(1+m))) where
 fl:=by rw [List.length_set];exact h.fl
 vl:=by rw [List.length_set];exact h.vl
 fb:=fun j hj=>by
  rw [Ui (by rw [h.fl];exact hk)]
  have h1:=h.fb k hk
  have h2:=h.fb j hj
  split<;>omega
 vb:=fun j hj=>by
  rw [Ui (by rw [h.vl];exact hk)]
  have h1:=h.vb k hk
  have h2:=h.vb j hj
  split<;>omega
 len:=by simp [h.len]
 all:=fun w hw=>by
  have h1:=h.fb k hk
  have h3:=h.vb k hk
  rcases List.mem_append.1 hw with hw | hw
  ·obtain ⟨j,a1,a2,a3,a4,a5,a6,a7,a8⟩:=h.all w hw
   refine ⟨j,a1,a2,a3,a4,a5,?_,a7,?_⟩
   ·rw [Ui (by rw [h.vl];exact hk)]
    split
    ·rename_i e;subst e;omega
    ·exact a6
   ·rw [Ui (by rw [h.fl];exact hk)]
    split
    ·rename_i e;subst e;omega
    ·exact a8
  ·rw [List.mem_singleton.1 hw]
   refine ⟨k,hk,rfl,Y70,Y70,Y70,?_,Y70,?_⟩
   ·rw [Ui (by rw [h.vl];exact hk),if_pos rfl];exact Int.le_refl _
   ·rw [Ui (by rw [h.fl];exact hk),if_pos rfl];exact Int.le_refl _
 own:=by
  unfold uE
  rw [WE,show vp [] ws=true from h.own,Bool.true_and,List.nil_append,List.all_eq_true]
  intro y hy
  obtain ⟨j,a1,a2,a3,a4,a5,a6,a7,a8⟩:=h.all y hy
  have hb:YW ⟨k,gD vi k+g,gD fr k+n,1+m⟩ y=false:=by
   by_cases hjk:j=k
   ·subst hjk
    have e1:ym (Win.p ⟨j,gD vi j+g,gD fr j+n,1+m⟩) y.p=false:=ZI (by simp only [Win.p];omega)
    have e2:ym (Win.v ⟨j,gD vi j+g,gD fr j+n,1+m⟩) y.v=false:=ZI (by simp only [Win.v];omega)
    simp [YW,Wl,Vn,e1,e2]
   ·have:¬ ((k:Int)=y.space):=Y18
    simp [YW,Wl,Vn,this]
  simp [hb]
structure zkL (i:Nat) (ws:List Win):Prop where
 len:ws.length≤6
 right:∀ w∈ws,yj w=true
 lo:∀ w∈ws,128*(i:Int)≤w.phys∧w.phys+w.cnt≤128*i+120
 ok:∀ w∈ws,w.ok
 own:uE ws=true
theorem zdZ.good {i c:Nat} {ws:List Win} {fr vi:List Int} (h:zdZ i c ws fr vi) (hi:i≤3) (hc:c≤6):zkL i ws where
 len:=by rw [h.len];exact hc
 right:=fun w hw=>by
  obtain ⟨k,a1,a2,a3,a4,a5,a6,a7,a8⟩:=h.all w hw
  have h1:=h.fb k a1
  have h3:=h.vb k a1
  have e1:zM w.v 65536=true:=yb.2 (by simp only [Win.v];omega)
  have e2:zM w.p 512=true:=yb.2 (by simp only [Win.p];omega)
  simp only [yj,e1,e2,Bool.and_true,decide_eq_true_eq]
  omega
 lo:=fun w hw=>by
  obtain ⟨k,a1,a2,a3,a4,a5,a6,a7,a8⟩:=h.all w hw
  have h1:=h.fb k a1
  omega
 ok:=fun w hw=>by
  obtain ⟨k,a1,a2,a3,a4,a5,a6,a7,a8⟩:=h.all w hw
  have h1:=h.fb k a1
  have h3:=h.vb k a1
  exact ⟨⟨Y18,Y18⟩,⟨Y18,Y18⟩,⟨Y18,Y18⟩,⟨Y18,Y18⟩⟩
 own:=h.own
end Go.Proofs
namespace Go.Proofs
open Go.PM
def zit (e:Env) (i:Nat):Nat:=match e.get i with
 | .int _ n=>(n+1).toNat
 | _=>0
theorem Tp.val_nat (t:Tp) {n:Nat} (hn:1≤n):∃ u:Nat,u≤n-1∧t.val n=(u:Int):=by
 have:=t.val_bound (n:=(n:Int)) Y18
 exact ⟨(t.val n).toNat,Y18,Y18⟩
end Go.Proofs
namespace Go.PM
theorem za.new_set {P:Program} {f:FuncId} {args:List PV} {s:St} {tp:Nat} {x:Option Blk} {b:Blk} {v:PV} (h:za P f args (s.new b) (fun r s'=>r=v∧s'=(s.new b).set tp x)) (hne:tp≠s.nxt):za P f args (s.new b) (fun r s'=>r=v∧s'=(s.set tp x).new b):=by
 rw [← zaB s b tp x hne];exact h
end Go.PM
namespace Go.PM
theorem Kp.swap {s s':St} {p q:Nat × Blk} {l:List (Nat × Blk)} (h:Kp s s' (p::q::l)):Kp s s' (q::p::l) :=
 ⟨h.fr,fun x hx=>h.all x (by simp only [List.mem_cons] at hx ⊢;rcases hx with h | h | h<;>simp [h])⟩
theorem Kp.tm {a s s':St} {k k':SK} {l:List (Nat × Blk)} (h:Kp a s l) (m:YP s s' k k') (hk:∀ t z,k=.tok t z→a.nxt≤t) (hd:∀ p∈l,∀ z,k≠.tok p.1 z):Kp a s' l :=
 ⟨h.fr.tm m hk,fun p hp=>by
  have:=h.all p hp
  exact ⟨Nat.lt_of_lt_of_le this.1 m.nxt,by rw [m.rest p.1 this.1 (hd p hp)];exact this.2⟩⟩
theorem Ret.baseK {P:Program} {fn:Func} {args:List PV} {s0:St} {Q:PV→St→Prop} {e:Env} {s:St} {r r':PV} (id:Nat) (x:Blk) (hid:id<s0.nxt) (hr:Xp P fn.results.toList e s=some r) (hr':r'=r.weak) (hb:r'.blw s0.nxt) (hx:x.blw s0.nxt) (hwf:s0.wf)
  (hk:∀ i,i<s0.nxt→s.blk i=(s0.set id (some x)).blk i) (h:Q r' (s0.set id (some x))):Ret P fn args s0 Q e s:=by
 have e1:s.keep s0.nxt (fun i=>decide (i<s0.nxt))=s0.set id (some x):=by
  have e2:∀ a b:St,a.nxt=b.nxt→a.blk=b.blk→a=b:=by
   rintro ⟨n,f⟩ ⟨m,g⟩ h1 h2
   simp only at h1 h2
   rw [h1,h2]
  refine e2 _ _ rfl (funext fun i=>?_)
  show (if decide (i<s0.nxt)=true then s.blk i else none)=_
  by_cases hi:i<s0.nxt
  ·exact zlm
  ·simp only [hi,decide_false,Bool.false_eq_true,if_false]
   show none=if i=id then some x else s0.blk i
   rw [if_neg Y2,hwf i Y2]
 refine Ret.keep s0.nxt (fun i=>decide (i<s0.nxt)) hr hr' (Nat.le_refl _) hb (fun i hi _=>of_decide_eq_true hi) ?_ ziE
 intro i b hi hbi
 rw [hk i (of_decide_eq_true hi)] at hbi
 have hbi:(if i=id then some x else s0.blk i)=some b:=hbi
 split at hbi
 ·cases hbi;exact .inr hx
 ·exact .inl hbi
end Go.PM
namespace Go.Proofs
open Go.PM
theorem zlr (n:Nat) (l:List Win):(PV.sl .unk (l.map Win.pv)).blw n:=by
 simp only [PV.blw]
 exact ⟨fun t z e=>Y17,Wf _ _⟩
theorem zkq (n:Nat) (t:Tp):t.pv.blw n:=by
 simp only [Tp.pv,PV.blw,PV.blws,and_true]
 exact ⟨fun t z e=>Y17,wo (PV.int .i64) n (fun a=>by simp only [PV.blw]) _⟩
end Go.Proofs
namespace Go.PM
theorem Kp.trans {a s s2:St} {l l2:List (Nat × Blk)} (h:Kp a s l) (h2:Kp s s2 l2):Kp a s2 (l2++l) :=
 ⟨h.fr.trans h2.fr,fun p hp=>by
  rcases List.mem_append.1 hp with hp | hp
  ·exact h2.all p hp
  ·have:=h.all p hp
   exact ⟨Nat.lt_of_lt_of_le this.1 h2.fr.nxt,by rw [h2.fr.blk p.1 this.1];exact this.2⟩⟩
theorem zm.wkE {P:Program} {N:Nat} {ops:Array Oper} {l:List Oper} {k:List KI} {e:Env} {s:St} {rt:Env→St→Prop} (i:Nat) {v:PV} (hi:(e.get i).weak=v) (h:zm P N ops l k ((i,v)::e) s rt):zm P N ops l k e s rt:=by
 intro ok okk idx hidx g w a hI hE hd hN
 refine h ok okk idx hidx g w a hI (fun j=>?_) hd hN
 simp only [Env.get]
 split
 ·rename_i hj
  rw [hj,← hi]
  exact XZ _ _ (hE i)
 ·exact hE j
end Go.PM
namespace Go.Proofs
open Go.PM Go
theorem zk8 (n:Int):U32 (IntKind.u32.wrap n):=by
 unfold U32
 simp [IntKind.wrap,IntKind.signed,IntKind.bits]
 omega
theorem zdl (op:BinOp) (a b:Int):U32 (zR op .u32 a b):=by
 unfold zR
 exact zk8 _
end Go.Proofs
namespace Go.Proofs
open Go.PM Go
theorem Wy (ahead:List Ten) (x:Slt):∀ (l done:List Slt),uJ ahead done (l++[x])=(uJ ahead done l||(XC x (done++l)||ahead.any fun y=>XC x y.slts))
 | [],done=>by simp [uJ]
 | y::l,done=>by
   rw [List.cons_append,uJ,Wy ahead x l (done++[y]),uJ,Bool.or_assoc,Bool.or_assoc,Bool.or_assoc,List.append_assoc]
   rfl
theorem UN {a b:Slt} (h:b.pos+b.len≤a.pos):zh3 a b=false:=ZI (a:=a.sp) (b:=b.sp) h
structure zfG (lo q:Int) (l:List Slt):Prop where
 all:∀ a∈l,72≤a.len∧a.len≤80∧lo≤a.pos∧a.pos+a.len≤q
 own:∀ ahead:List Ten,(∀ y∈ahead,∀ o∈y.slts,o.pos+o.len≤lo)→uJ ahead [] l=false
 lb:lo≤q
 ub:q≤lo+86*l.length
theorem Y71 {p:Prop} (h:p:=by simp):p:=h
theorem zfG.first (lo:Int):zfG lo lo []:=⟨fun a h=>(by cases h),fun _ _=>rfl,Int.le_refl _,Y71⟩
theorem zfG.step {lo q:Int} {l:List Slt} (h:zfG lo q l) {m n:Int} (hm:0≤m∧m≤8) (hn:0≤n∧n≤6):zfG lo (q+(72+m)+n) (l++[⟨q,72+m⟩]) where
 all:=fun a ha=>by
  rcases List.mem_append.1 ha with ha | ha
  ·have:=h.all a ha;omega
  ·rw [List.mem_singleton.1 ha]
   have:=h.lb
   exact ⟨Y70,Y70,Y70,Y70⟩
 own:=fun ahead ho=>by
  rw [Wy,h.own ahead ho,Bool.false_or,List.nil_append,Bool.or_eq_false_iff]
  constructor
  ·refine List.any_eq_false.2 fun y hy=>?_
   rw [UN (by have:=h.all y hy;simp only;omega)];simp
  ·refine List.any_eq_false.2 fun y hy=>?_
   rw [show XC (⟨q,72+m⟩:Slt) y.slts=false from List.any_eq_false.2 fun o ho'=>by
    rw [UN (by have:=ho y hy o ho';have:=h.lb;simp only;omega)];simp]
   simp
 lb:=by have:=h.lb;omega
 ub:=by have:=h.ub;rw [List.length_append];simp only [List.length_cons,List.length_nil];omega
structure Wz (j:Nat) (q:Int) (x:Ten):Prop where
 unit:1≤x.unit∧x.unit≤247
 fns:U32 x.fns
 queue:1≤x.queue∧x.queue≤4
 wins:zkL j x.wins
 slts:∀ a∈x.slts,72≤a.len∧a.len≤80∧0≤a.pos∧a.pos+a.len≤q
 ns:1≤x.slts.length∧x.slts.length≤2
theorem Wz.mono {j:Nat} {q q':Int} {x:Ten} (h:Wz j q x) (hq:q≤q'):Wz j q' x :=
 ⟨h.unit,h.fns,h.queue,h.wins,fun a ha=>by have:=h.slts a ha;omega,h.ns⟩
theorem Wz.why {j:Nat} {q frame:Int} {x:Ten} (h:Wz j q x) (hf:q≤frame):ZB x frame=0:=by
 have h1:=h.unit
 have h2:=h.queue
 have h3:=h.ns
 have h4:=h.wins.len
 rw [ZB,if_neg Y18,if_neg Y18,if_neg Y18,if_neg,if_neg]
 ·rw [List.any_eq_true]
  rintro ⟨a,ha,hb⟩
  have:=h.slts a ha
  rw [zeJ] at hb
  simp at hb
  omega
 ·simp only [Bool.or_eq_true,List.any_eq_true,Bool.not_eq_true',not_or]
  refine ⟨?_,by rw [h.wins.own];decide⟩
  rintro ⟨w,hw,hb⟩
  rw [h.wins.right w hw] at hb;cases hb
theorem Wz.ok {j:Nat} {q:Int} {x:Ten} (h:Wz j q x) (hq:q≤2000):x.ok where
 unit:=by have:=h.unit;exact ⟨Y18,Y18⟩
 fns:=h.fns
 queue:=by have:=h.queue;exact ⟨Y18,Y18⟩
 wins:=h.wins.ok
 slts:=fun a ha=>by have:=h.slts a ha;exact ⟨⟨Y18,Y18⟩,⟨Y18,Y18⟩⟩
 bw:=by have:=h.wins.len;omega
 bs:=by have:=h.ns;omega
structure Um (i:Nat) (q:Int) (l:List Ten):Prop where
 len:l.length=i
 lo:0≤q
 hi:q≤4+172*i
 all:∀ j (h:j<l.length),Wz j q l[j]
 beside:∀ j (h:j<l.length),Yq l[j] (l.take j)=0
theorem Um.first {q:Int} (h:0≤q∧q≤4):Um 0 q []:=⟨rfl,h.1,Y18,fun j h=>by simp at h,fun j h=>by simp at h⟩
theorem Um.step {i:Nat} {q q':Int} {l:List Ten} {x:Ten} (h:Um i q l) (hx:Wz i q' x) (hs:zfG q q' x.slts):Um (i+1) q' (l++[x]) where
 len:=by rw [List.length_append,h.len];rfl
 lo:=by have:=h.lo;have:=hs.lb;omega
 hi:=by have:=h.hi;have:=hs.ub;have:=hx.ns;omega
 all:=fun j hj=>by
  rw [List.length_append] at hj
  simp only [List.length_cons,List.length_nil] at hj
  by_cases e:j<l.length
  ·rw [List.getElem_append_left e]
   exact (h.all j e).mono hs.lb
  ·have e1:j=l.length:=Y18
   subst e1
   rw [List.getElem_append_right (Nat.le_refl _)]
   simp only [Nat.sub_self,List.getElem_cons_zero]
   rw [h.len];exact hx
 beside:=fun j hj=>by
  rw [List.length_append] at hj
  simp only [List.length_cons,List.length_nil] at hj
  by_cases e:j<l.length
  ·rw [List.getElem_append_left e,List.take_append_of_le_length Y18]
   exact h.beside j e
  ·have e1:j=l.length:=Y18
   subst e1
   rw [List.getElem_append_right (Nat.le_refl _),List.take_left]
   simp only [Nat.sub_self,List.getElem_cons_zero]
   rw [Yq,if_neg,if_neg]
   ·rw [hs.own l (fun y hy o ho=>?_)]
    ·decide
    ·obtain ⟨j,hj,rfl⟩:=List.getElem_of_mem hy
     exact ((h.all j hj).slts o ho).2.2.2
   ·rw [List.any_eq_true]
    rintro ⟨y,hy,hb⟩
    obtain ⟨j,hj,rfl⟩:=List.getElem_of_mem hy
    simp only [zgh,List.any_eq_true] at hb
    obtain ⟨a,ha,b,hb,hm⟩:=hb
    have h1:=(h.all j hj).wins.lo b hb
    have h2:=hx.wins.lo a ha
    have h3:=h.len
    have e1:ym a.p b.p=false:=ZI (by simp only [Win.p];omega)
    simp [Wl,e1] at hm
theorem VK (frame:Int):∀ (l done:List Ten),(∀ j (h:j<l.length),ZB l[j] frame=0∧Yq l[j] (done++l.take j)=0)→Zd frame done l=(0,-1)
 | [],done,_=>rfl
 | x::l,done,h=>by
   have h0:=h 0 Y71
   simp only [List.getElem_cons_zero,List.take_zero,List.append_nil] at h0
   rw [Zd,h0.1,h0.2]
   simp only [ne_eq,not_true_eq_false,if_false]
   refine VK frame l (done++[x]) fun j hj=>?_
   have:=h (j+1) (by simpa using hj)
   simpa [List.append_assoc] using this
theorem Um.right {i:Nat} {q frame:Int} {l:List Ten} (h:Um i q l) (hi:1≤i∧i≤4) (hf:q≤frame∧frame≤q+19) (h1:1≤frame):vj ⟨frame,l⟩=true∧Tab.ok ⟨frame,l⟩:=by
 have h2:=h.hi
 have h3:=h.len
 constructor
 ·rw [vj,XS,if_neg Y70,if_neg Y70,VK]
  ·rfl
  ·intro j hj
   exact ⟨(h.all j hj).why hf.1,by rw [List.nil_append];exact h.beside j hj⟩
 ·refine ⟨⟨Y70,Y70⟩,fun x hx=>?_,Y70⟩
  obtain ⟨j,hj,rfl⟩:=List.getElem_of_mem hx
  exact (h.all j hj).ok Y18
structure Tab.few (t:Tab) (m:Nat):Prop where
 ok:t.ok
 nt:t.tens.length≤m
 nw:∀ x∈t.tens,x.wins.length≤m
 ns:∀ x∈t.tens,x.slts.length≤m
theorem Um.few {i:Nat} {q frame:Int} {l:List Ten} (h:Um i q l) (hi:1≤i∧i≤4) (hf:q≤frame∧frame≤q+19) (h1:1≤frame):Tab.few ⟨frame,l⟩ 6:=by
 refine ⟨(h.right hi hf h1).2,by have:=h.len;simp only;omega,fun x hx=>?_,fun x hx=>?_⟩
 ·obtain ⟨j,hj,rfl⟩:=List.getElem_of_mem hx
  exact (h.all j hj).wins.len
 ·obtain ⟨j,hj,rfl⟩:=List.getElem_of_mem hx
  have:=(h.all j hj).ns
  show l[j].slts.length≤6
  omega
theorem Um.pos {i:Nat} {q:Int} {l:List Ten} (h:Um i q l) (hi:1≤i):72≤q:=by
 have h1:=h.len
 have h2:=h.all 0 Y18
 have h3:=h2.ns
 cases hl:(l[0]'Y18).slts with
 | nil=>rw [hl] at h3;simp at h3
 | cons a r =>
   have:=h2.slts a (by rw [hl];exact List.mem_cons_self)
   omega
end Go.Proofs
namespace Go.PM
open Go
theorem zg {s:St} {b:Blk} {i:Nat} (h:i≠s.nxt):(s.new b).blk i=s.blk i:=if_neg h
theorem zN {s:St} {b:Blk}:(s.new b).blk s.nxt=some b:=if_pos rfl
theorem zd {s:St} {b:Option Blk} {i id:Nat} (h:i≠id):(s.set id b).blk i=s.blk i:=if_neg h
attribute [go_sem high] zg zd zN zy
theorem Kp.hd' {s s':St} {i:Nat} {b:Blk} {l:List (Nat × Blk)} (h:Kp s s' ((i,b)::l)):s'.blk i=some b:=h.hd
theorem Kp.nx {s s':St} {l:List (Nat × Blk)} (h:Kp s s' l):s.nxt≤s'.nxt:=h.fr.nxt
theorem au {p:Prop} (h:p:=by simp (disch:=first | omega |(simp only [zt,zq]<;>omega) | fail) only [go_sem,↓reduceIte,Nat.reduceEqDiff,Nat.reduceLT,Nat.reduceLeDiff,Nat.reduceAdd,Nat.reduceMul,H]<;>rfl):p:=h
@[irreducible] def Lf (_:Nat) (p:Prop):Prop:=p
theorem jO (n:Nat) {p:Prop} (h:Lf n p):p:=by unfold Lf at h;exact h
theorem jI (n:Nat) {p:Prop} (h:p):Lf n p:=by unfold Lf;exact h
theorem ltn {i a:Nat} (h:i<a) (n:Nat):(i=a+n)=False:=eq_false Y2
theorem lte {i a:Nat} (h:i<a):(i=a)=False:=eq_false Y2
theorem aj {p q:Prop} (a:p) (b:q):p∧q:=⟨a,b⟩
def gat:List (Option Nat)→Nat→Option Nat
 | [],_=>none
 | a::_,0=>a
 | _::l,n+1=>gat l n
theorem zkr (a:Option Nat) (l:List (Option Nat)):gat (a::l) 0=a:=rfl
theorem zlj (a:Option Nat) (l:List (Option Nat)) (n:Nat):gat (a::l) (n+1)=gat l n:=rfl
attribute [go_sem] zkr zlj
def zj8 (i:Nat):List KI→Option (List KI)
 | .blk id::k=>if i=id then some k else zj8 i k
 | _::k=>zj8 i k
 | []=>none
theorem VB {P:Program} {N i:Nat} {e:Env} {s:St} {rt:Env→St→Prop}:∀ {k k':List KI},zj8 i k=some k'→Run P N k' e s rt→Out P N i k e s rt
 | [],_,h,_=>by cases h
 | .blk id::k,k',h,r=>by
   simp only [zj8] at h
   simp only [Out]
   split
   ·rename_i hi;rw [if_pos hi] at h;cases h;exact r
   ·rename_i hi;rw [if_neg hi] at h;exact VB h r
 | .code c::k,k',h,r=>VB (k:=k) h r
 | .lp I::k,k',h,r=>VB (k:=k) h r
section
variable {P:Program} {N:Nat} {kk:List KI} {e e1 e2:Env} {s s1:St} {rt:Env→St→Prop}
theorem rs {a b:Code} (k:Run P N (.code a::.code b::kk) e s rt):Run P N (.code (.seq a b)::kk) e s rt:=.seq k
theorem rk (k:Run P N kk e s rt):Run P N (.code .skip::kk) e s rt:=.skip k
theorem rb {id:Nat} {c:Code} (k:Run P N (.code c::.blk id::kk) e s rt):Run P N (.code (.block id c)::kk) e s rt:=.block k
theorem rB {id:Nat} (k:Run P N kk e s rt):Run P N (.blk id::kk) e s rt:=.blk k
theorem rR (k:rt e s):Run P N (.code .ret::kk) e s rt:=.ret k
theorem rN (k:rt e s):Run P N [] e s rt:=.nil k
theorem rX {i:Nat} {kk':List KI} (ho:zj8 i kk=some kk':=by rfl) (k:Run P N kk' e s rt):Run P N (.code (.exit i)::kk) e s rt:=.exit (VB ho k)
theorem rr {id:Nat} {ops:Array Oper} (k:zm P N ops ops.toList kk e s rt):Run P N (.code (.region id ops false)::kk) e s rt:=.region k
theorem rc {c:Operand} {x y:Code} {t:Bool} (hc:ev e c=.bool t:=by simp (disch:=first | omega |(simp only [zt,zq]<;>omega) | fail) only [go_sem,↓reduceIte,Nat.reduceEqDiff,Nat.reduceLT,Nat.reduceLeDiff,Nat.reduceAdd,Nat.reduceMul,H]<;>rfl) (ht:t=true→Run P N (.code x::kk) e s rt)
  (hf:t=false→Run P N (.code y::kk) e s rt):Run P N (.code (.cond c x y)::kk) e s rt:=.cond hc ht hf
theorem rl {ops:Array Oper} (l:List Nat) (he:Env.keep l e=e1:=by simp (disch:=first | omega |(simp only [zt,zq]<;>omega) | fail) only [go_sem,↓reduceIte,Nat.reduceEqDiff,Nat.reduceLT,Nat.reduceLeDiff,Nat.reduceAdd,Nat.reduceMul,H]<;>rfl) (k:Run P N kk e1 s rt):zm P N ops [] kk e s rt:=.live' l he k
theorem ra {ops:Array Oper} {l:List Oper} (h:zb1 P ops l e s=some (e1,s1):=by simp (disch:=first | omega |(simp only [zt,zq]<;>omega) | fail) only [go_sem,↓reduceIte,Nat.reduceEqDiff,Nat.reduceLT,Nat.reduceLeDiff,Nat.reduceAdd,Nat.reduceMul,H]<;>rfl) (k:zm P N ops [] kk e1 s1 rt):zm P N ops l kk e s rt:=.all h k
theorem ro {ops:Array Oper} {pre l:List Oper} (h:zb1 P ops pre e s=some (e1,s1):=by simp (disch:=first | omega |(simp only [zt,zq]<;>omega) | fail) only [go_sem,↓reduceIte,Nat.reduceEqDiff,Nat.reduceLT,Nat.reduceLeDiff,Nat.reduceAdd,Nat.reduceMul,H]<;>rfl) (k:zm P N ops l kk e1 s1 rt):zm P N ops (pre++l) kk e s rt:=.ops h k
theorem rrA {id:Nat} {ops:Array Oper} (lits:List (Option Nat)) (hd:ops.toList.map (·.dst)=lits:=by rfl) (k:∀ ops':Array Oper,(∀ j:Nat,(ops'[j]?).bind (fun o=>o.dst)=gat lits j)→zm P N ops' ops.toList kk e s rt):Run P N (.code (.region id ops false)::kk) e s rt :=
 .region (k ops fun j=>by
  rw [← hd,← Array.getElem?_toList]
  induction ops.toList generalizing j with
  | nil=>simp [gat]
  | cons a l ih=>cases j with
    | zero=>simp [gat]
    | succ j=>simpa [gat] using ih j)
theorem rg {id:Nat} {ops:Array Oper} (l:List Nat) (h:zb1 P ops ops.toList e s=some (e1,s1):=by simp (disch:=first | omega |(simp only [zt,zq]<;>omega) | fail) only [go_sem,↓reduceIte,Nat.reduceEqDiff,Nat.reduceLT,Nat.reduceLeDiff,Nat.reduceAdd,Nat.reduceMul,H]<;>rfl) (he:Env.keep l e1=e2:=by simp (disch:=first | omega |(simp only [zt,zq]<;>omega) | fail) only [go_sem,↓reduceIte,Nat.reduceEqDiff,Nat.reduceLT,Nat.reduceLeDiff,Nat.reduceAdd,Nat.reduceMul,H]<;>rfl) (k:Run P N kk e2 s1 rt):Run P N (.code (.region id ops false)::kk) e s rt :=
 .region (.all h (.live' l he k))
theorem rh {ops:Array Oper} {l:List Oper} (v:List Nat) (h:zb1 P ops l e s=some (e1,s1):=by simp (disch:=first | omega |(simp only [zt,zq]<;>omega) | fail) only [go_sem,↓reduceIte,Nat.reduceEqDiff,Nat.reduceLT,Nat.reduceLeDiff,Nat.reduceAdd,Nat.reduceMul,H]<;>rfl) (he:Env.keep v e1=e2:=by simp (disch:=first | omega |(simp only [zt,zq]<;>omega) | fail) only [go_sem,↓reduceIte,Nat.reduceEqDiff,Nat.reduceLT,Nat.reduceLeDiff,Nat.reduceAdd,Nat.reduceMul,H]<;>rfl) (k:Run P N kk e2 s1 rt):zm P N ops l kk e s rt :=
 .all h (.live' v he k)
theorem rC {ops:Array Oper} {d:Option Nat} {c:Call} {t:TypeId} {pos:String} {af:Array Edge} {gd:Option (Nat × Bool)} {l:List Oper} {f:FuncId} {args args':List PV} {v:PV} (hg:guard? ops ⟨d,.call c,t,pos,af,gd⟩ e=some true:=by simp (disch:=first | omega |(simp only [zt,zq]<;>omega) | fail) only [go_sem,↓reduceIte,Nat.reduceEqDiff,Nat.reduceLT,Nat.reduceLeDiff,Nat.reduceAdd,Nat.reduceMul,H]<;>rfl) (ha:vn c e=some (f,args):=by simp (disch:=first | omega |(simp only [zt,zq]<;>omega) | fail) only [go_sem,↓reduceIte,Nat.reduceEqDiff,Nat.reduceLT,Nat.reduceLeDiff,Nat.reduceAdd,Nat.reduceMul,H]<;>rfl) (hw:PV.weaks args=args':=by simp (disch:=first | omega |(simp only [zt,zq]<;>omega) | fail) only [go_sem,↓reduceIte,Nat.reduceEqDiff,Nat.reduceLT,Nat.reduceLeDiff,Nat.reduceAdd,Nat.reduceMul,H]<;>rfl) (hc:zb P f=true:=by kernel_rfl)
  (h:za P f args' s fun r s'=>r=v∧s'=s) (k:zm P N ops l kk (e.put d v) s rt):zm P N ops (⟨d,.call c,t,pos,af,gd⟩::l) kk e s rt :=
 .callw hg ha hw hc (h.mono fun r s' ⟨e1,e2⟩=>by subst e1;subst e2;exact k)
theorem rG {ops:Array Oper} {d:Option Nat} {c:Call} {t:TypeId} {pos:String} {af:Array Edge} {j n:Nat} {want b:Bool} {l:List Oper} {f:FuncId} {args args':List PV} {v:PV} (hg:VE ops j want e=some (n,b):=by simp (disch:=first | omega |(simp only [zt,zq]<;>omega) | fail) only [go_sem,↓reduceIte,Nat.reduceEqDiff,Nat.reduceLT,Nat.reduceLeDiff,Nat.reduceAdd,Nat.reduceMul,H]<;>rfl) (ha:Uf n b c e=some (f,args):=by simp (disch:=first | omega |(simp only [zt,zq]<;>omega) | fail) only [go_sem,↓reduceIte,Nat.reduceEqDiff,Nat.reduceLT,Nat.reduceLeDiff,Nat.reduceAdd,Nat.reduceMul,H]<;>rfl) (hw:PV.weaks args=args':=by simp (disch:=first | omega |(simp only [zt,zq]<;>omega) | fail) only [go_sem,↓reduceIte,Nat.reduceEqDiff,Nat.reduceLT,Nat.reduceLeDiff,Nat.reduceAdd,Nat.reduceMul,H]<;>rfl) (hc:zb P f=true:=by kernel_rfl)
  (h:b=true→za P f args' s fun r s'=>r=v∧s'=s) (k:zm P N ops l kk (e.put d (.gd n b v)) s rt):zm P N ops (⟨d,.call c,t,pos,af,some (j,want)⟩::l) kk e s rt :=
 .callwG hg ha hw hc h k
theorem rg0 {ops:Array Oper} {o:Oper} {l:List Oper} (hg:guard? ops o e=some false:=by simp (disch:=first | omega |(simp only [zt,zq]<;>omega) | fail) only [go_sem,↓reduceIte,Nat.reduceEqDiff,Nat.reduceLT,Nat.reduceLeDiff,Nat.reduceAdd,Nat.reduceMul,H]<;>rfl) (k:zm P N ops l kk (e.put o.dst (.tuple [])) s rt):zm P N ops (o::l) kk e s rt:=.gskip' hg k
theorem rgU {ops:Array Oper} {o:Oper} {l:List Oper} (hg:Uv ops o e=true:=by simp (disch:=first | omega |(simp only [zt,zq]<;>omega) | fail) only [go_sem,↓reduceIte,Nat.reduceEqDiff,Nat.reduceLT,Nat.reduceLeDiff,Nat.reduceAdd,Nat.reduceMul,H]<;>rfl) (k:zm P N ops l kk (e.put o.dst (.tuple [])) s rt):zm P N ops (o::l) kk e s rt:=.gskipU hg k
theorem rg1 {ops:Array Oper} {o:Oper} {l:List Oper} {v:PV} (hg:guard? ops o e=some true:=by simp (disch:=first | omega |(simp only [zt,zq]<;>omega) | fail) only [go_sem,↓reduceIte,Nat.reduceEqDiff,Nat.reduceLT,Nat.reduceLeDiff,Nat.reduceAdd,Nat.reduceMul,H]<;>rfl) (he:uV P o.op (ev e) s=some (v,s1):=by simp (disch:=first | omega |(simp only [zt,zq]<;>omega) | fail) only [go_sem,↓reduceIte,Nat.reduceEqDiff,Nat.reduceLT,Nat.reduceLeDiff,Nat.reduceAdd,Nat.reduceMul,H]<;>rfl) (k:zm P N ops l kk (e.put o.dst v) s1 rt):zm P N ops (o::l) kk e s rt:=.gdo hg he k
theorem rO {ops:Array Oper} {d:Option Nat} {t ty:TypeId} {len:Nat} {parts:Array (Nat × Operand)} {pos:String} {af:Array Edge} {gd:Option (Nat × Bool)} {l:List Oper} {els:List PV}
  (hg:guard? ops ⟨d,.buildSlice t len parts,ty,pos,af,gd⟩ e=some true:=by simp (disch:=first | omega |(simp only [zt,zq]<;>omega) | fail) only [go_sem,↓reduceIte,Nat.reduceEqDiff,Nat.reduceLT,Nat.reduceLeDiff,Nat.reduceAdd,Nat.reduceMul,H]<;>rfl) (hb:wP P t len parts.toList (ev e)=some els:=by simp (disch:=first | omega |(simp only [zt,zq]<;>omega) | fail) only [go_sem,↓reduceIte,Nat.reduceEqDiff,Nat.reduceLT,Nat.reduceLeDiff,Nat.reduceAdd,Nat.reduceMul,H]<;>rfl) (k:zm P N ops l kk (e.put d (.sl .clip els)) s rt) :
  zm P N ops (⟨d,.buildSlice t len parts,ty,pos,af,gd⟩::l) kk e s rt:=.lit hg hb k
theorem rQ {ops:Array Oper} {l:List Oper} {b:Bool} (i:Nat) (hi:e.get i=.bool b:=by simp (disch:=first | omega |(simp only [zt,zq]<;>omega) | fail) only [go_sem,↓reduceIte,Nat.reduceEqDiff,Nat.reduceLT,Nat.reduceLeDiff,Nat.reduceAdd,Nat.reduceMul,H]<;>rfl) (ht:b=true→zm P N ops l kk ((i,.bool true)::e) s rt) (hf:b=false→zm P N ops l kk ((i,.bool false)::e) s rt):zm P N ops l kk e s rt:=.bcase i hi ht hf
theorem rp {c:Code} (l:List Nat) (he:Env.keep l e=e1:=by simp (disch:=first | omega |(simp only [zt,zq]<;>omega) | fail) only [go_sem,↓reduceIte,Nat.reduceEqDiff,Nat.reduceLT,Nat.reduceLeDiff,Nat.reduceAdd,Nat.reduceMul,H]<;>rfl) (k:Run P N (.code c::kk) e1 s rt):Run P N (.code c::kk) e s rt:=.prune l he k
theorem re (he:e=e1:=by simp (disch:=first | omega |(simp only [zt,zq]<;>omega) | fail) only [go_sem,↓reduceIte,Nat.reduceEqDiff,Nat.reduceLT,Nat.reduceLeDiff,Nat.reduceAdd,Nat.reduceMul,H]<;>rfl) (k:Run P N kk e1 s rt):Run P N kk e s rt:=.envEq' he k
end
theorem go {P:Program} {f:FuncId} {fn:Func} {c:Code} {args:List PV} {s:St} {Q:PV→St→Prop} (hf:P.funcs[f]? =some fn) (hb:fn.body=some c:=by rfl) (hn:Nat.ble args.length fn.ntmps=true:=by rfl)
  (hok:okC fn.ntmps c=true:=by rfl) (k:s.wf→True→Run P fn.ntmps [.code c] (uS 0 args) s (Ret P fn args s Q)):za P f args s Q :=
 .body hf hb (Nat.le_of_ble_eq_true hn) hok fun w=>k w trivial
theorem rP {P:Program} {fn:Func} {args:List PV} {s0:St} {Q:PV→St→Prop} {e:Env} {s:St} {r r':PV} (hr:Xp P fn.results.toList e s=some r) (hwf:s0.wf) (k:Q r' s0)
  (hr':r'=r.weak:=by rfl) (hb:r'.blw s0.nxt:=by simp only [go_sem,reduceCtorEq,false_implies,implies_true])
  (hk:∀ i,i<s0.nxt→s.blk i=s0.blk i:=by first |(intro i hi;rfl) |(intro i hi;have h0:=ltn hi;have h1:=lte hi;simp only [go_sem,Nat.add_assoc,Nat.reduceAdd,↓reduceIte,h0,h1])):Ret P fn args s0 Q e s :=
 .pure hr hr' hb hwf hk k
end Go.PM
namespace Go.Proofs
open Go.PM
attribute [go_sem] Int.sub_zero List.drop_zero Int.toNat_zero Nat.mul_one Option.isSome_some List.not_mem_nil false_implies implies_true true_or and_self Int.toNat_natCast Tab.pv Ten.pv Win.pv Sp.pv Slt.pv
end Go.Proofs
namespace Go.PM
open Go
section
variable {P:Program} {N:Nat} {k:List KI} {e:Env} {s:St} {rt:Env→St→Prop}
end
end Go.PM
namespace Go.PM
open Go
theorem Wq {α:Type} {f:α→PV} {n:Nat} (h:∀ x,(f x).ok=true∧(f x).cells.length=n) (l:List α):Wu n (l.map f)=True:=eq_true (by
 intro el hel
 obtain ⟨x,_,rfl⟩:=List.mem_map.1 hel
 exact h x)
end Go.PM
namespace Go.Proofs
open Go.PM Go
abbrev U8 (n:Int):Prop:=0≤n∧n≤255
abbrev U16 (n:Int):Prop:=0≤n∧n≤65535
def OkB (l:List Int):Prop:=∀ x∈l,U8 x
theorem Y72 {p:Prop} (h:p:=by simp [IntKind.wrap,IntKind.signed,IntKind.bits]):p:=h
theorem wg (n:Int):IntKind.u8.wrap n=n%256:=Y72
theorem wM (n:Int):IntKind.u16.wrap n=n%65536:=Y72
theorem YB (n:Int):IntKind.u64.wrap n=n%18446744073709551616:=Y72
theorem zB (l:List Int):PV.weaks (l.map (PV.int .u8))=l.map (PV.int .u8):=xc (PV.int .u8) (fun _=>rfl) l
theorem zjr (l:List Int):PV.weaks (l.map (PV.int .i64))=l.map (PV.int .i64):=xc (PV.int .i64) (fun _=>rfl) l
theorem zA (l:List Int):PV.weaks (l.map (PV.int .u16))=l.map (PV.int .u16):=xc (PV.int .u16) (fun _=>rfl) l
theorem zlV {p:Prop} (h:p:=by exact (fun a=>by simp [PV.blw])):p:=h
theorem Vh (n:Nat) (l:List Int):PV.blws n (l.map (PV.int .u8)):=wo (PV.int .u8) n zlV l
theorem VN (n:Nat) (l:List Int):PV.blws n (l.map (PV.int .u16)):=wo (PV.int .u16) n zlV l
theorem zkv (n:Nat) (l:List Int):PV.blws n (l.map (PV.int .i64)):=wo (PV.int .i64) n zlV l
attribute [go_sem] zB zjr zA wg
def zx (n:Int):List Int:=[n/256%256,n%256]
theorem yB (n:Int):OkB (zx n):=by
 intro x hx
 simp only [zx,List.mem_cons,List.not_mem_nil,or_false] at hx
 rcases hx with rfl | rfl<;>constructor<;>omega
theorem OkB.append {a b:List Int} (h:OkB a) (k:OkB b):OkB (a++b):=fun x hx=>(List.mem_append.1 hx).elim (h x) (k x)
theorem OkB.take {a:List Int} (h:OkB a) (n:Nat):OkB (a.take n):=fun x hx=>h x (List.mem_of_mem_take hx)
theorem OkB.drop {a:List Int} (h:OkB a) (n:Nat):OkB (a.drop n):=fun x hx=>h x (List.mem_of_mem_drop hx)
theorem za0 (n:Int):n.fdiv 256%256=n/256%256:=by rw [Int.fdiv_eq_ediv_of_nonneg _ Y19]
def vt (l:List Int) (at_:Int):Option Int:=if 0≤at_∧at_+2≤l.length then some (256*(l[at_.toNat]?.getD 0)+l[at_.toNat+1]?.getD 0) else none
theorem zgN {l:List Int} (h:OkB l) {a n:Int} (hn:vt l a=some n):U16 n:=by
 unfold vt at hn
 split at hn
 ·rename_i hc
  cases hn
  have h1:=h (l[a.toNat]'Y18) (List.getElem_mem _)
  have h2:=h (l[a.toNat+1]'Y18) (List.getElem_mem _)
  rw [List.getElem?_eq_getElem (show a.toNat<l.length from Y18),List.getElem?_eq_getElem (show a.toNat+1<l.length from Y18)]
  simp only [Option.getD_some]
  constructor<;>omega
 ·cases hn
def zcr (n:Int):Int:=if zR .and .u16 n 1=1 then zR .xor .u16 (n/2) 40961 else n/2
def zec:Nat→Int→Int
 | 0,n=>n
 | k+1,n=>zec k (zcr n)
def zar (n x:Int):Int:=zec 8 (zR .xor .u16 n x)
def uU (l:List Int):Int:=l.foldl zar 65535
def yU (l:List Int):List Int:=l++[uU l%256,uU l/256]
theorem wW (op:BinOp) (a b:Int):U16 (zR op .u16 a b):=by
 unfold zR
 rw [wM]
 constructor<;>omega
theorem zat {n:Int} (h:U16 n):U16 (zcr n):=by
 unfold zcr
 split
 ·exact wW _ _ _
 ·constructor<;>omega
theorem ziw:∀ (k:Nat) {n:Int},U16 n→U16 (zec k n)
 | 0,_,h=>h
 | k+1,_,h=>ziw k (zat h)
theorem VH (n x:Int):U16 (zar n x):=ziw 8 (wW _ _ _)
theorem Yc:∀ (l:List Int) {n:Int},U16 n→U16 (l.foldl zar n)
 | [],_,h=>h
 | x::l,n,_=>Yc l (VH n x)
theorem Y20 {p:Prop} (h:p:=by constructor<;>decide):p:=h
theorem Wb (l:List Int):U16 (uU l):=Yc l Y20
theorem zft {l:List Int} (h:OkB l):OkB (yU l):=by
 have:=Wb l
 refine h.append ?_
 intro x hx
 simp only [List.mem_cons,List.not_mem_nil,or_false] at hx
 rcases hx with rfl | rfl<;>constructor<;>omega
theorem wr (l:List Int):(yU l).length=l.length+2:=by simp [yU]
def wJ (l:List Int):Option (List Int):=if 2≤l.length∧yU (l.take (l.length-2))=l then some (l.take (l.length-2)) else none
structure Vz (s s':St) (r:PV) (els:List PV) (z:Nat):Prop where
 fr:Fr s s'
 kk:∃ kk,r=.sl kk els∧yA s' kk els.length z∧∀ t z,kk=.tok t z→s.nxt≤t∧t<s'.nxt
theorem Vz.ret {P:Program} {fn:Func} {args els:List PV} {s0 s:St} {e:Env} {kk:SK} {z:Nat} (hr:Xp P fn.results.toList e s=some (.sl kk els)) (hF:Fr s0 s) (hg:yA s kk els.length z)
  (ht:∀ t z,kk=.tok t z→s0.nxt≤t∧t<s.nxt):Ret P fn args s0 (fun r s'=>Vz s0 s' r els z) e s:=Ret.all hr ⟨hF,kk,rfl,hg,ht⟩
theorem Vz.ret0 {P:Program} {fn:Func} {args:List PV} {s0 s:St} {e:Env} {z:Nat} (hr:Xp P fn.results.toList e s=some (.sl .nil [])) (hF:Fr s0 s):Ret P fn args s0 (fun r s'=>Vz s0 s' r [] z) e s :=
 Ret.all hr ⟨hF,.nil,rfl,.inl ⟨rfl,rfl⟩,fun _ _ e=>Y17⟩
end Go.Proofs
namespace Go.Proofs
open Go.PM Go
theorem znu (l:List Int):(uU l).fdiv 256%256=uU l/256:=by
 have:=Wb l
 rw [Int.fdiv_eq_ediv_of_nonneg _ Y19]
 unfold U16 at this
 omega
theorem zdt {x y:Int} (hx:U8 x) (hy:U8 y):zR .or .i64 (x*256) y=256*x+y:=by
 obtain ⟨a,rfl⟩:∃ a:Nat,x=a:=⟨x.toNat,(Int.toNat_of_nonneg hx.1).symm⟩
 obtain ⟨b,rfl⟩:∃ b:Nat,y=b:=⟨y.toNat,(Int.toNat_of_nonneg hy.1).symm⟩
 have ha:a<256:=by unfold U8 at hx;omega
 have hb:b<256:=by unfold U8 at hy;omega
 have e:(BitVec.ofInt 64 ((a:Int)*256) ||| BitVec.ofInt 64 (b:Int)).toNat=256*a+b:=by
  rw [BitVec.toNat_or,show ((a:Int)*256)=((a*256:Nat):Int) from Y18,BitVec.ofInt_natCast,BitVec.ofInt_natCast,BitVec.toNat_ofNat,BitVec.toNat_ofNat,Nat.mod_eq_of_lt Y18,Nat.mod_eq_of_lt Y18]
  have:=Nat.two_pow_add_eq_or_of_lt (i:=8) (b:=b) Y18 a
  rw [show a*256=2 ^ 8*a from Y18,← this]
 unfold zR
 show IntKind.i64.wrap (((BitVec.ofInt 64 ((a:Int)*256) ||| BitVec.ofInt 64 (b:Int)).toNat:Int))=_
 rw [e,zi Y18]
 omega
end Go.Proofs
namespace Go.Proofs
open Go.PM Go
theorem zih {n:Int}:n%18446744073709551616/256%256=n/256%256:=Y18
theorem zix (l:List Int):uU l/256%256=uU l/256:=by
 have:=Wb l
 unfold U16 at this
 omega
theorem zbF (n:Nat) (l:List Int):PV.blws n (l.map (PV.int .u8))=True:=eq_true (Vh n l)
theorem uo (n:Nat) (l:List Int):PV.blws n (l.map (PV.int .u16))=True:=eq_true (VN n l)
theorem zjv (n:Nat) (l:List Int):PV.blws n (l.map (PV.int .i64))=True:=eq_true (zkv n l)
theorem zhY (n:Nat) (l:List Win):PV.blws n (l.map Win.pv)=True:=eq_true (Wf n l)
theorem zgD (n:Nat) (l:List Slt):PV.blws n (l.map Slt.pv)=True:=eq_true (Uw n l)
theorem zgX (n:Nat) (l:List Ten):PV.blws n (l.map Ten.pv)=True:=eq_true (Un n l)
theorem zjF (l:List Win):Wu 4 (l.map Win.pv)=True:=Wq (f:=Win.pv) (fun _=>⟨rfl,rfl⟩) l
theorem zjk (l:List Slt):Wu 2 (l.map Slt.pv)=True:=Wq (f:=Slt.pv) (fun _=>⟨rfl,rfl⟩) l
theorem zjO (l:List Ten):Wu 5 (l.map Ten.pv)=True:=Wq (f:=Ten.pv) (fun _=>⟨rfl,rfl⟩) l
attribute [go_sem] zjF zjk zjO zbF uo zjv zhY zgD zgX
end Go.Proofs
namespace Go.PM
open Go
theorem zo9:((0:Int)≤1)=True:=by decide
theorem zo0:((0:Int)≤8)=True:=by decide
theorem zoq:((0:Int)≤16)=True:=by decide
theorem zo1:((0:Int)≤4)=True:=by decide
theorem zpS:(2:Int) ^ min (Int.toNat 1) 16=2:=by decide
theorem zqj:(2:Int) ^ min (Int.toNat 8) 8=256:=by decide
theorem zpN:(2:Int) ^ min (Int.toNat 8) 16=256:=by decide
theorem zpK:(2:Int) ^ min (Int.toNat 8) 32=256:=by decide
theorem zpi:(2:Int) ^ min (Int.toNat 8) 64=256:=by decide
theorem zno:(2:Int) ^ min (Int.toNat 16) 32=65536:=by decide
theorem znY:(2:Int) ^ min (Int.toNat 16) 64=65536:=by decide
attribute [go_sem] zo9 zo0 zoq zo1 zpS zqj zpN zpK zpi zno znY
end Go.PM
namespace Go.Proofs
open Go.PM Go
theorem Yk {p:Prop} (h:p:=by simp;omega):p:=h
theorem zlO (a:Array UInt8):∀ (n i:Nat) (r:List UInt8),a.size-i=n→ByteArray.toList.loop ⟨a⟩ i r=r.reverse++a.toList.drop i:=by
 intro n
 induction n with
 | zero =>
   intro i r h
   unfold ByteArray.toList.loop
   rw [if_neg (by show ¬ i<a.size;omega),List.drop_eq_nil_of_le Yk,List.append_nil]
 | succ n ih =>
   intro i r h
   have hi:i<a.size:=Y18
   have hd:a.toList.drop i=a[i]::a.toList.drop (i+1):=by
    rw [List.drop_eq_getElem_cons (by simpa using hi)];simp
   unfold ByteArray.toList.loop
   rw [if_pos (show i<ByteArray.size ⟨a⟩ from hi),ih (i+1) _ Y18,hd,List.reverse_cons,List.append_assoc]
   simp [ByteArray.get!,getElem!_pos a i hi]
theorem znf (a:Array UInt8):(ByteArray.mk a).toList=a.toList:=by
 unfold ByteArray.toList
 rw [zlO a _ 0 [] rfl];rfl
def toB (n:Int):UInt8:=UInt8.ofNat n.toNat
theorem zmK {x y:Int} (hx:U8 x) (hy:U8 y) (h:toB x=toB y):x=y:=by
 have:=congrArg UInt8.toNat h
 simp only [toB,UInt8.toNat_ofNat'] at this
 unfold U8 at hx hy
 omega
theorem US:∀ {a b:List Int},OkB a→OkB b→a.map toB=b.map toB→a=b
 | [],[],_,_,_=>rfl
 | [],_::_,_,_,h=>by simp at h
 | _::_,[],_,_,h=>by simp at h
 | x::a,y::b,ha,hb,h=>by
   simp only [List.map_cons,List.cons.injEq] at h
   rw [zmK (ha x Y71) (hb y Y71) h.1,US (fun z hz=>ha z (by simp [hz])) (fun z hz=>hb z (by simp [hz])) h.2]
theorem zeQ:∀ (l:List Int),(l.map (PV.int .u8)).mapM Go.PM.byteOf=some (l.map toB)
 | []=>rfl
 | x::l=>by
   rw [List.map_cons,List.mapM_cons,zeQ l];rfl
def vf (l:List Int):ByteArray:=⟨(l.map toB).toArray⟩
theorem zmp (l:List Int):ByteArray.mk (l.map toB).toArray=vf l:=rfl
theorem zf9 {a b:List Int} (ha:OkB a) (hb:OkB b):((vf a).toList==(vf b).toList)=decide (a=b):=by
 unfold vf
 rw [znf,znf]
 by_cases h:a=b
 ·subst h;simp
 ·rw [decide_eq_false h]
  simp only [List.toList_toArray,beq_eq_false_iff_ne,ne_eq]
  exact fun e=>h (US ha hb e)
attribute [go_sem] zeQ zmp
end Go.Proofs
namespace Go.Proofs
theorem Uu (l:List Int):(l.flatMap zx).length=2*l.length:=by
 induction l with
 | nil=>rfl
 | cons x l ih=>simp [ih,zx];omega
end Go.Proofs
namespace Go.PM
open Go
theorem zjZ (k:IntKind) (l:List Int):Wu 1 (l.map (PV.int k))=True:=Wq (f:=PV.int k) (fun _=>⟨rfl,rfl⟩) l
attribute [go_sem] zjZ or_true
end Go.PM
namespace Go.Proofs
open Go.PM Go
structure Rr where
 b:List Int
 fell:Bool
abbrev Rr.pv (r:Rr):PV:=.agg [.sl .unk (r.b.map (PV.int .u8)),.bool r.fell]
def Rr.num (r:Rr):Int:=if r.fell=true then 0 else (vt r.b 0).getD 0
def Rr.nx (r:Rr):Rr:=if r.fell=true∨vt r.b 0=none then ⟨r.b,true⟩ else ⟨r.b.drop 2,false⟩
structure Rr.ok (r:Rr):Prop where
 b:OkB r.b
 n:r.b.length≤1000
theorem Rr.ok.nx {r:Rr} (h:r.ok):r.nx.ok:=by
 unfold Rr.nx
 split
 ·exact ⟨h.b,h.n⟩
 ·exact ⟨h.b.drop 2,by have:=h.n;simp only [List.length_drop];omega⟩
structure Dr where
 b:List Int
 pos:Nat
 bad:Bool
abbrev Dr.pv (r:Dr):PV:=.agg [.sl .unk (r.b.map (PV.int .u8)),.int .i64 r.pos,.bool r.bad]
def Dr.num (r:Dr):Int:=if r.bad=true then 0 else (vt r.b r.pos).getD 0
def Dr.nx (r:Dr):Dr:=if r.bad=true∨vt r.b r.pos=none then ⟨r.b,r.pos,true⟩ else ⟨r.b,r.pos+2,false⟩
structure Dr.ok (r:Dr):Prop where
 b:OkB r.b
 n:r.b.length≤1000
 pos:r.pos≤r.b.length
theorem zcL {l:List Int} {n:Nat} (h:¬ vt l n=none):n+2≤l.length:=by
 unfold vt at h
 split at h
 ·omega
 ·exact absurd rfl h
theorem Dr.ok.nx {r:Dr} (h:r.ok):r.nx.ok:=by
 unfold Dr.nx
 split
 ·exact ⟨h.b,h.n,h.pos⟩
 ·rename_i hc
  have:=zcL (fun e=>hc (.inr e))
  exact ⟨h.b,h.n,by simpa using this⟩
def Dr.over (r:Dr):Prop:=(r.nx.b.length:Int)-r.nx.pos<r.num
instance (r:Dr):Decidable r.over:=by unfold Dr.over;exact inferInstance
def Dr.cnt (r:Dr):Int:=if r.over then 0 else r.num
def Dr.cx (r:Dr):Dr:=if r.over then ⟨r.nx.b,r.nx.pos,true⟩ else r.nx
theorem Dr.ok.cx {r:Dr} (h:r.ok):r.cx.ok:=by
 unfold Dr.cx
 split
 ·exact ⟨h.nx.b,h.nx.n,h.nx.pos⟩
 ·exact h.nx
def Rr.nx4 (r:Rr):Rr:=r.nx.nx.nx.nx
def Rr.win (r:Rr):Win:=⟨r.num,r.nx.num,r.nx.nx.num,r.nx.nx.nx.num⟩
def Rr.slt (r:Rr):Slt:=⟨r.num,r.nx.num⟩
def Rr.many {α:Type} (f:Rr→α × Rr):Nat→Rr→List α→List α × Rr
 | 0,r,l=>(l,r)
 | n+1,r,l=>if r.fell=true then (l,r) else Rr.many f n (f r).2 (l++[(f r).1])
def Rr.wins (r:Rr):List Win × Rr:=Rr.many (fun r=>(r.win,r.nx4)) r.num.toNat r.nx []
def Rr.slts (r:Rr):List Slt × Rr:=Rr.many (fun r=>(r.slt,r.nx.nx)) r.num.toNat r.nx []
def zo7 (hi lo:Int):Int:=zR .or .u32 (IntKind.u32.wrap (IntKind.u32.wrap hi*65536)) (IntKind.u32.wrap lo)
def Rr.ten (r:Rr):Ten × Rr :=
 (⟨r.num,zo7 r.nx.num r.nx.nx.num,r.nx.nx.nx.num,r.nx4.wins.1,r.nx4.wins.2.slts.1⟩,r.nx4.wins.2.slts.2)
def Rr.tens (r:Rr):List Ten × Rr:=Rr.many Rr.ten r.num.toNat r.nx []
def Dr.nx4 (r:Dr):Dr:=r.nx.nx.nx.nx
def Dr.win (r:Dr):Win:=⟨r.num,r.nx.num,r.nx.nx.num,r.nx.nx.nx.num⟩
def Dr.slt (r:Dr):Slt:=⟨r.num,r.nx.num⟩
def Dr.many {α:Type} (f:Dr→α × Dr):Nat→Dr→List α→List α × Dr
 | 0,r,l=>(l,r)
 | n+1,r,l=>Dr.many f n (f r).2 (l++[(f r).1])
def Dr.wins (r:Dr):List Win × Dr:=Dr.many (fun r=>(r.win,r.nx4)) r.cnt.toNat r.cx []
def Dr.slts (r:Dr):List Slt × Dr:=Dr.many (fun r=>(r.slt,r.nx.nx)) r.cnt.toNat r.cx []
def Dr.ten (r:Dr):Ten × Dr :=
 (⟨r.num,zo7 r.nx.num r.nx.nx.num,r.nx.nx.nx.num,r.nx4.wins.1,r.nx4.wins.2.slts.1⟩,r.nx4.wins.2.slts.2)
def Dr.tens (r:Dr):List Ten × Dr:=Dr.many Dr.ten r.cnt.toNat r.cx []
attribute [go_sem] Rr.pv Dr.pv
end Go.Proofs
namespace Go.PM
open Go
end Go.PM
namespace Go.Proofs
open Go.PM Go
theorem Rr.many_step {α:Type} {f:Rr→α × Rr} {m:Nat} {r:Rr} {l:List α} (hm:0<m) (hf:r.fell=false):Rr.many f m r l=Rr.many f (m-1) (f r).2 (l++[(f r).1]):=by
 cases m with
 | zero=>omega
 | succ m=>rw [Rr.many,if_neg (by rw [hf];simp)];rfl
theorem Rr.many_stop {α:Type} {f:Rr→α × Rr} {m:Nat} {r:Rr} {l:List α} (h:m=0∨r.fell=true):Rr.many f m r l=(l,r):=by
 cases m with
 | zero=>rfl
 | succ m =>
   rcases h with h | h
   ·omega
   ·rw [Rr.many,if_pos h]
theorem Dr.many_step {α:Type} {f:Dr→α × Dr} {m:Nat} {r:Dr} {l:List α} (hm:0<m):Dr.many f m r l=Dr.many f (m-1) (f r).2 (l++[(f r).1]):=by
 cases m with
 | zero=>omega
 | succ m=>rfl
end Go.Proofs
namespace Go.PM
open Go
end Go.PM
namespace Go.Proofs
open Go.PM Go
end Go.Proofs
namespace Go.Proofs
open Go.PM Go
theorem Wx {frame:Int}:∀ {l done:List Ten},(Zd frame done l).1=0→∀ x∈l,ZB x frame=0
 | [],_,_,x,hx=>by cases hx
 | y::l,done,h,x,hx=>by
   unfold Zd at h
   split at h
   ·rename_i hc;exact absurd h hc
   ·rename_i hc
    split at h
    ·rename_i hc2;exact absurd h hc2
    ·rcases List.mem_cons.1 hx with rfl | hx
     ·simpa using hc
     ·exact Wx h x hx
theorem YR {x:Ten} {f:Int} (h:ZB x f=0):x.wins.length≤6∧x.slts.length≤3∧1≤x.slts.length∧(1≤x.unit∧x.unit≤247)∧(1≤x.queue∧x.queue≤6)∧(∀ w∈x.wins,yj w=true)∧∀ s∈x.slts,XX f s=true:=by
 unfold ZB at h
 split at h
 ·cases h
 split at h
 ·cases h
 split at h
 ·cases h
 split at h
 ·cases h
 split at h
 ·cases h
 rename_i h1 h2 h3 h4 h5
 simp only [Bool.or_eq_true,List.any_eq_true,Bool.not_eq_true',not_or,not_exists,not_and,Bool.not_eq_false] at h4 h5
 exact ⟨Y18,Y18,Y18,Y18,Y18,fun w hw=>h4.1 w hw,fun s hs=>h5 s hs⟩
theorem VG {t:Tab} (h:(XS t).1=0):(1≤t.frame∧t.frame≤2000)∧(1≤t.tens.length∧t.tens.length≤4)∧∀ x∈t.tens,ZB x t.frame=0:=by
 unfold XS at h
 split at h
 ·cases h
 split at h
 ·cases h
 rename_i h1 h2
 exact ⟨Y18,Y18,Wx h⟩
end Go.Proofs
namespace Go.Proofs
open Go.PM Go
theorem OkB.flatMap {α:Type} {f:α→List Int} {l:List α} (h:∀ x∈l,OkB (f x)):OkB (l.flatMap f):=fun y hy=>by
 obtain ⟨x,hx,hy⟩:=List.mem_flatMap.1 hy
 exact h x hx y hy
end Go.Proofs
namespace Go.Proofs
open Go.PM Go
structure Sim (d:Dr) (r:Rr):Prop where
 e:d.bad=r.fell
 p:d.pos≤d.b.length
 s:d.bad=false→r.b=d.b.drop d.pos
theorem ziF {l:List Int} {p:Nat} (h:p≤l.length):vt (l.drop p) 0=vt l p:=by
 unfold vt
 by_cases hc:p+2≤l.length
 ·rw [if_pos (by simp only [List.length_drop];omega),if_pos Y18]
  simp only [Int.toNat_natCast,List.getElem?_drop,Int.toNat_zero,Nat.add_zero,Nat.zero_add]
 ·rw [if_neg (by simp only [List.length_drop];omega),if_neg Y18]
theorem Sim.get {d:Dr} {r:Rr} (h:Sim d r) (hb:d.bad=false):vt r.b 0=vt d.b d.pos:=by rw [h.s hb,ziF h.p]
theorem Sim.num {d:Dr} {r:Rr} (h:Sim d r):d.num=r.num:=by
 unfold Dr.num Rr.num
 rw [← h.e]
 split
 ·rfl
 ·rename_i hb
  rw [h.get (by simpa using hb)]
theorem Sim.nx {d:Dr} {r:Rr} (h:Sim d r):Sim d.nx r.nx:=by
 by_cases hb:d.bad=true
 ·have h1:d.nx=⟨d.b,d.pos,true⟩:=by unfold Dr.nx;rw [if_pos (.inl hb)]
  have h2:r.nx=⟨r.b,true⟩:=by unfold Rr.nx;rw [if_pos (.inl (by rw [← h.e];exact hb))]
  rw [h1,h2]
  exact ⟨rfl,h.p,fun e=>Y17⟩
 ·have hb':d.bad=false:=by simpa using hb
  have hg:=h.get hb'
  unfold Dr.nx Rr.nx
  rw [hg,← h.e]
  split
  ·exact ⟨rfl,h.p,fun e=>Y17⟩
  ·rename_i hc
   have:=zcL (fun e=>hc (.inr e))
   exact ⟨rfl,this,fun _=>by simp only;rw [h.s hb',List.drop_drop]⟩
structure ziD {α:Type} (fd:Dr→α × Dr) (fr:Rr→α × Rr):Prop where
 sim:∀ d r,Sim d r→Sim (fd d).2 (fr r).2∧((fd d).2.bad=false→(fd d).1=(fr r).1)
 bad:∀ d,d.bad=true→(fd d).2.bad=true
 fell:∀ r,r.fell=true→(fr r).2.fell=true
 len:∀ r,(fr r).2.b.length≤r.b.length
 use:∀ r,r.fell=false→(fr r).2.fell=true∨(fr r).2.b.length+1≤r.b.length
 b:∀ d,(fd d).2.b=d.b
section
variable {α:Type} {fd:Dr→α × Dr} {fr:Rr→α × Rr}
theorem Dr.many_bad (h:∀ d,d.bad=true→(fd d).2.bad=true):∀ (n:Nat) (d:Dr) (l:List α),d.bad=true→(Dr.many fd n d l).2.bad=true
 | 0,d,l,hd=>hd
 | n+1,d,l,hd=>Dr.many_bad h n _ _ (h d hd)
theorem Rr.many_fell:∀ (n:Nat) (r:Rr) (l:List α),r.fell=true→Rr.many fr n r l=(l,r):=fun n r l h=>Rr.many_stop (.inr h)
theorem ziD.many (h:ziD fd fr):∀ (n:Nat) (d:Dr) (r:Rr) (l m:List α),Sim d r→(d.bad=false→l=m)→Sim (Dr.many fd n d l).2 (Rr.many fr n r m).2∧((Dr.many fd n d l).2.bad=false→(Dr.many fd n d l).1=(Rr.many fr n r m).1)
 | 0,d,r,l,m,hs,hl=>⟨hs,hl⟩
 | n+1,d,r,l,m,hs,hl=>by
   by_cases hb:d.bad=true
   ·have hf:r.fell=true:=by rw [← hs.e];exact hb
    have h1:=Dr.many_bad h.bad (n+1) d l hb
    rw [Rr.many_fell _ _ _ hf]
    refine ⟨⟨by rw [h1,hf],?_,fun e=>by rw [h1] at e;cases e⟩,fun e=>by rw [h1] at e;cases e⟩
    have hp:∀ (n:Nat) (d:Dr) (r:Rr) (l:List α),Sim d r→d.bad=true→(Dr.many fd n d l).2.pos≤(Dr.many fd n d l).2.b.length:=by
     intro n
     induction n with
     | zero=>exact fun d r l hs _=>hs.p
     | succ n ih=>exact fun d r l hs hb=>ih _ _ _ (h.sim d r hs).1 (h.bad d hb)
    exact hp (n+1) d r l hs hb
   ·have hb':d.bad=false:=by simpa using hb
    have hf:r.fell=false:=by rw [← hs.e];exact hb'
    rw [Rr.many_step (Nat.succ_pos n) hf,Dr.many_step (Nat.succ_pos n)]
    obtain ⟨h1,h2⟩:=h.sim d r hs
    exact ziD.many h n _ _ _ _ h1 (fun e=>by rw [hl hb',h2 e])
theorem ziD.over (h:ziD fd fr):∀ (n:Nat) (r:Rr) (l:List α),r.b.length<n→(Rr.many fr n r l).2.fell=true
 | 0,r,l,hn=>Y18
 | n+1,r,l,hn=>by
   by_cases hf:r.fell=true
   ·rw [Rr.many_fell _ _ _ hf];exact hf
   ·have hf':r.fell=false:=by simpa using hf
    rw [Rr.many_step (Nat.succ_pos n) hf']
    rcases h.use r hf' with h1 | h1
    ·rw [Rr.many_fell _ _ _ h1];exact h1
    ·exact ziD.over h n _ _ Y18
end
end Go.Proofs
namespace Go.Proofs
open Go.PM Go
structure Win.u (w:Win):Prop where
 a:U16 w.space
 b:U16 w.virt
 c:U16 w.phys
 d:U16 w.cnt
structure Slt.u (s:Slt):Prop where
 a:U16 s.pos
 b:U16 s.len
structure Ten.u (t:Ten):Prop where
 unit:U16 t.unit
 fns:U32 t.fns
 queue:U16 t.queue
 wins:∀ w∈t.wins,w.u
 slts:∀ s∈t.slts,s.u
 nw:t.wins.length≤6
 ns:t.slts.length≤3
structure Tab.u (t:Tab):Prop where
 frame:U16 t.frame
 tens:∀ x∈t.tens,x.u
 n:t.tens.length≤4
theorem zjN {s:Sp} {m:Int} (h:zM s m=true):0≤s.pos∧1≤s.cnt∧s.pos≤m∧s.cnt≤m-s.pos:=yb.1 h
end Go.Proofs
namespace Go.Proofs
open Go.PM Go
end Go.Proofs
namespace Go.Proofs
open Go.PM Go
theorem zff {a b:Nat} (ha:a<65536) (hb:b<65536):zR .xor .u16 (a:Int) (b:Int)=((a ^^^ b:Nat):Int):=by
 have hx:a ^^^ b<65536:=Nat.xor_lt_two_pow (n:=16) ha hb
 have e:(BitVec.ofInt 16 (a:Int) ^^^ BitVec.ofInt 16 (b:Int)).toNat=a ^^^ b:=by
  rw [BitVec.toNat_xor,BitVec.ofInt_natCast,BitVec.ofInt_natCast,BitVec.toNat_ofNat,BitVec.toNat_ofNat,Nat.mod_eq_of_lt ha,Nat.mod_eq_of_lt hb]
 unfold zR
 show IntKind.u16.wrap (((BitVec.ofInt 16 (a:Int) ^^^ BitVec.ofInt 16 (b:Int)).toNat:Int))=_
 rw [e,wM];omega
theorem zpJ {a:Nat} (ha:a<65536):zR .and .u16 (a:Int) 1=((a%2:Nat):Int):=by
 have e:(BitVec.ofInt 16 (a:Int) &&& BitVec.ofInt 16 (1:Int)).toNat=a%2:=by
  rw [BitVec.toNat_and,BitVec.ofInt_natCast,show ((1:Int))=((1:Nat):Int) from rfl,BitVec.ofInt_natCast,BitVec.toNat_ofNat,BitVec.toNat_ofNat,Nat.mod_eq_of_lt ha,Nat.mod_eq_of_lt Y19]
  exact Nat.and_two_pow_sub_one_eq_mod a 1
 unfold zR
 show IntKind.u16.wrap (((BitVec.ofInt 16 (a:Int) &&& BitVec.ofInt 16 (1:Int)).toNat:Int))=_
 rw [e,wM];omega
theorem WM {a b c:Nat} (h:a ^^^ c=b ^^^ c):a=b:=by
 have:=congrArg (· ^^^ c) h
 simpa [Nat.xor_assoc,Nat.xor_self] using this
theorem zdW {a b c:Nat} (h:c ^^^ a=c ^^^ b):a=b:=by
 rw [Nat.xor_comm c a,Nat.xor_comm c b] at h
 exact WM h
theorem zfj {a:Nat} (ha:a<65536):zcr (a:Int)=((if a%2=1 then (a/2) ^^^ 40961 else a/2:Nat):Int):=by
 unfold zcr
 rw [zpJ ha]
 by_cases h:a%2=1
 ·rw [if_pos (by rw [h];rfl),if_pos h,show (a:Int)/2=((a/2:Nat):Int) from Y18,show (40961:Int)=((40961:Nat):Int) from rfl,zff Y18 Y19]
 ·rw [if_neg Y18,if_neg h];omega
theorem znh {m:Nat} (h:m<32768):(m ^^^ 40961).testBit 15=true:=by
 rw [Nat.testBit_xor,Nat.testBit_lt_two_pow (x:=m) (i:=15) h]
 decide
theorem zkB {a b:Int} (ha:U16 a) (hb:U16 b) (h:zcr a=zcr b):a=b:=by
 obtain ⟨x,rfl⟩:∃ x:Nat,a=x:=⟨a.toNat,(Int.toNat_of_nonneg ha.1).symm⟩
 obtain ⟨y,rfl⟩:∃ y:Nat,b=y:=⟨b.toNat,(Int.toNat_of_nonneg hb.1).symm⟩
 have hx:x<65536:=by unfold U16 at ha;omega
 have hy:y<65536:=by unfold U16 at hb;omega
 rw [zfj hx,zfj hy] at h
 have h:=Int.ofNat.inj h
 by_cases h1:x%2=1<;>by_cases h2:y%2=1
 ·rw [if_pos h1,if_pos h2] at h
  have:=WM h
  omega
 ·rw [if_pos h1,if_neg h2] at h
  have t:=znh (m:=x/2) Y18
  rw [h,Nat.testBit_lt_two_pow (x:=y/2) (i:=15) Y18] at t
  cases t
 ·rw [if_neg h1,if_pos h2] at h
  have t:=znh (m:=y/2) Y18
  rw [← h,Nat.testBit_lt_two_pow (x:=x/2) (i:=15) Y18] at t
  cases t
 ·rw [if_neg h1,if_neg h2] at h
  omega
theorem zbx:∀ (k:Nat) {a b:Int},U16 a→U16 b→zec k a=zec k b→a=b
 | 0,_,_,_,_,h=>h
 | k+1,_,_,ha,hb,h=>zkB ha hb (zbx k (zat ha) (zat hb) h)
theorem zkK {n m x:Int} (hn:U16 n) (hm:U16 m) (hx:U8 x) (h:zar n x=zar m x):n=m:=by
 have h:=zbx 8 (wW _ _ _) (wW _ _ _) h
 obtain ⟨a,rfl⟩:∃ a:Nat,n=a:=⟨n.toNat,(Int.toNat_of_nonneg hn.1).symm⟩
 obtain ⟨b,rfl⟩:∃ b:Nat,m=b:=⟨m.toNat,(Int.toNat_of_nonneg hm.1).symm⟩
 obtain ⟨c,rfl⟩:∃ c:Nat,x=c:=⟨x.toNat,(Int.toNat_of_nonneg hx.1).symm⟩
 unfold U16 at hn hm
 unfold U8 at hx
 rw [zff Y18 Y18,zff Y18 Y18] at h
 rw [WM (Int.ofNat.inj h)]
theorem zje {n x y:Int} (hn:U16 n) (hx:U8 x) (hy:U8 y) (h:zar n x=zar n y):x=y:=by
 have h:=zbx 8 (wW _ _ _) (wW _ _ _) h
 obtain ⟨a,rfl⟩:∃ a:Nat,n=a:=⟨n.toNat,(Int.toNat_of_nonneg hn.1).symm⟩
 obtain ⟨b,rfl⟩:∃ b:Nat,x=b:=⟨x.toNat,(Int.toNat_of_nonneg hx.1).symm⟩
 obtain ⟨c,rfl⟩:∃ c:Nat,y=c:=⟨y.toNat,(Int.toNat_of_nonneg hy.1).symm⟩
 unfold U16 at hn
 unfold U8 at hx hy
 rw [zff Y18 Y18,zff Y18 Y18] at h
 rw [zdW (Int.ofNat.inj h)]
theorem zcM:∀ {l:List Int} {n m:Int},OkB l→U16 n→U16 m→l.foldl zar n=l.foldl zar m→n=m
 | [],_,_,_,_,_,h=>h
 | x::l,n,m,hl,hn,hm,h=>zkK hn hm (hl x Y71) (zcM (fun y hy=>hl y (by simp [hy])) (VH _ _) (VH _ _) h)
theorem zmv {l:List Int} (hl:OkB l) {k:Nat} (hk:k<l.length) {x:Int} (hx:U8 x) (h:uU (l.set k x)=uU l):x=l[k]:=by
 unfold uU at h
 have e1:l.set k x=l.take k++x::l.drop (k+1):=by rw [List.set_eq_take_append_cons_drop,if_pos hk]
 have e2:l=l.take k++l[k]::l.drop (k+1):=by
  conv=>lhs;rw [← List.take_append_drop k l]
  rw [List.drop_eq_getElem_cons hk]
 rw [e1] at h
 conv at h=>rhs;rw [e2]
 rw [List.foldl_append,List.foldl_append,List.foldl_cons,List.foldl_cons] at h
 have hn:U16 ((l.take k).foldl zar 65535):=Yc _ Y20
 have:=zcM (hl.drop (k+1)) (VH _ _) (VH _ _) h
 exact zje hn hx (hl _ (List.getElem_mem hk)) this
theorem zek {l:List Int} (hl:OkB l) {k:Nat} (hk:k<(yU l).length) {x:Int} (hx:U8 x) (hne:x≠(yU l)[k]):wJ ((yU l).set k x)=none:=by
 unfold wJ
 rw [if_neg]
 rintro ⟨_,h⟩
 rw [List.length_set,wr,Nat.add_sub_cancel] at h
 have hk2:=hk
 rw [wr] at hk2
 by_cases hkl:k<l.length
 ·have e1:(yU l).set k x=l.set k x++[uU l%256,uU l/256]:=by unfold yU;rw [List.set_append_left _ _ hkl]
  rw [e1,List.take_left' (by rw [List.length_set])] at h
  have h2:=List.append_cancel_left h
  simp only [List.cons.injEq,and_true] at h2
  have c1:=Wb l
  have c2:=Wb (l.set k x)
  have:uU (l.set k x)=uU l:=Y18
  have:=zmv hl hkl hx this
  apply hne
  rw [this]
  simp only [yU,List.getElem_append_left hkl]
 ·have e1:((yU l).set k x).take l.length=l:=by
   rw [List.take_set,List.set_eq_of_length_le (by rw [List.length_take,wr];omega)]
   unfold yU
   rw [List.take_left']
   rfl
  rw [e1] at h
  apply hne
  have hk':k<((yU l).set k x).length:=by rw [List.length_set];exact hk
  have:((yU l).set k x)[k]=(yU l)[k]:=by
   congr 1
   exact h.symm
  rw [List.getElem_set_self] at this
  exact this
end Go.Proofs
namespace Go.Proofs
open Go.PM Go
theorem zlo (op:BinOp) (a b:Int):U8 (zR op .u8 a b):=by
 unfold zR
 rw [wg]
 constructor<;>omega
end Go.Proofs
namespace Go.Proofs
open Go.PM Go
def holds (k:Int) (s:Slt):Bool:=decide (s.pos≤k)&&decide (k<s.pos+s.len)
structure zn6 (t:Tab) (u after k:Int):Prop where
 r:vj t=true
 u0:0≤u
 u1:u<t.tens.length
 a0:0≤after
 a1:after≤1099511627776
 k0:0≤k
 k1:k≤65536
instance (t:Tab) (u after k:Int):Decidable (zn6 t u after k):=decidable_of_iff (vj t=true∧0≤u∧u<t.tens.length∧0≤after∧after≤1099511627776∧0≤k∧k≤65536)
 ⟨fun ⟨a,b,c,d,e,f,g⟩=>⟨a,b,c,d,e,f,g⟩,fun ⟨a,b,c,d,e,f,g⟩=>⟨a,b,c,d,e,f,g⟩⟩
structure Tab.rt (t:Tab):Prop where
 f:1≤t.frame∧t.frame≤2000
 n:1≤t.tens.length∧t.tens.length≤4
 s:∀ x∈t.tens,1≤x.slts.length∧x.slts.length≤3
 p:∀ x∈t.tens,∀ s∈x.slts,0≤s.pos∧72≤s.len∧s.pos+s.len≤t.frame
theorem zkH {t:Tab} (h:vj t=true):t.rt:=by
 have h:(XS t).1=0:=by simpa [vj] using h
 obtain ⟨hf,hn,hal⟩:=VG h
 refine ⟨hf,hn,fun x hx=>?_,fun x hx s hs=>?_⟩
 ·obtain ⟨h1,h2,h3,h4,h5,h6,h7⟩:=YR (hal x hx)
  exact ⟨h3,h2⟩
 ·obtain ⟨h1,h2,h3,h4,h5,h6,h7⟩:=YR (hal x hx)
  have:=h7 s hs
  simp only [XX,Bool.and_eq_true,decide_eq_true_eq] at this
  have h8:=zjN this.2
  simp only [Slt.sp] at h8
  omega
theorem zkQ {a b:Int} (h:0≤a):a.tmod b=a%b:=Int.tmod_eq_emod_of_nonneg h
theorem XJ {a b:Int} (h:0≤a):a.tdiv b=a/b:=Int.tdiv_eq_ediv_of_nonneg h
end Go.Proofs
namespace Go.Proofs
open Go.PM Go
def zlN (e:Nat):Int:=1*2 ^ min e 8%256
def Uc (out:List Int) (i:Nat):List Int:=out.set (i/8) (zR .or .u8 (out[i/8]?.getD 0) (zlN (i%8)))
def xw (l:List Bool):Nat→List Int
 | 0=>List.replicate ((l.length+7)/8) 0
 | i+1=>if l[i]?.getD false then Uc (xw l i) i else xw l i
def xk (l:List Bool):List Int:=xw l l.length
theorem Zc (l:List Bool):∀ i,(xw l i).length=(l.length+7)/8
 | 0=>by simp [xw]
 | i+1=>by
   unfold xw
   split
   ·unfold Uc;rw [List.length_set];exact Zc l i
   ·exact Zc l i
theorem zjV {out:List Int} (h:OkB out) (i:Nat):OkB (Uc out i):=fun y hy=>by
 unfold Uc at hy
 rcases List.mem_or_eq_of_mem_set hy with h1 | h1
 ·exact h y h1
 ·rw [h1];exact zlo _ _ _
theorem VI (l:List Bool):∀ i,OkB (xw l i)
 | 0=>fun y hy=>by
   unfold xw at hy
   rw [(List.mem_replicate.1 hy).2];decide
 | i+1=>by
   unfold xw
   split
   ·exact zjV (VI l i) i
   ·exact VI l i
theorem XH (l:List Bool):OkB (xk l):=VI l _
theorem xe (l:List Bool):(xk l).length=(l.length+7)/8:=Zc l _
theorem zc9 {s:St} {q:Nat→Bool} {id n:Nat} {t:TypeId} {ik:IntKind} {l:List Int} (hn:n=l.length) (hq:q id=false) (hb:s.blk id=some (.row t (l.map (PV.int ik)))):PV.frz true s q 2 (.own id 0 n)=.sl .unk (l.map (PV.int ik)):=by
 subst hn
 unfold PV.frz
 rw [if_neg (by rw [hq];simp),hb]
 simp only [Nat.zero_add,List.length_map,Nat.le_refl,if_true,List.drop_zero,List.take_length]
 rw [show (l.map (PV.int ik)).take l.length=l.map (PV.int ik) by rw [← List.length_map (f:=PV.int ik),List.take_length],List.map_map]
 congr 1
def ZR (b:List Int) (i:Nat):Bool:=decide (zR .and .u8 ((b[i/8]?.getD 0).fdiv (2 ^ min (i%8) 8)) 1=1)
def zZ (b:List Int) (n:Nat):List Bool:=(List.range n).map (ZR b)
def xy (b:List Int) (n:Int):Option (List Bool):=if 0≤n∧n≤8*b.length∧(n+7)/8=b.length∧xk (zZ b n.toNat)=b then some (zZ b n.toNat) else none
theorem zqL {a:Nat} (ha:a<256):zR .and .u8 (a:Int) 1=((a%2:Nat):Int):=by
 unfold zR
 show IntKind.u8.wrap (((BitVec.ofInt 8 (a:Int) &&& BitVec.ofInt 8 ((1:Nat):Int)).toNat:Int))=_
 rw [BitVec.toNat_and,BitVec.ofInt_natCast,BitVec.ofInt_natCast,BitVec.toNat_ofNat,BitVec.toNat_ofNat,Nat.mod_eq_of_lt Y18,Nat.mod_eq_of_lt Y18,Nat.and_one_is_mod,wg]
 omega
theorem or8 {a b:Nat} (ha:a<256) (hb:b<256):zR .or .u8 (a:Int) (b:Int)=((a ||| b:Nat):Int):=by
 have:=Nat.or_lt_two_pow (n:=8) ha hb
 unfold zR
 show IntKind.u8.wrap (((BitVec.ofInt 8 (a:Int) ||| BitVec.ofInt 8 (b:Int)).toNat:Int))=_
 rw [BitVec.toNat_or,BitVec.ofInt_natCast,BitVec.ofInt_natCast,BitVec.toNat_ofNat,BitVec.toNat_ofNat,Nat.mod_eq_of_lt Y18,Nat.mod_eq_of_lt Y18,wg]
 omega
theorem zl0 {e:Nat} (he:e<8):zlN e=((2 ^ e:Nat):Int)∧2 ^ e<256:=by
 have:e=0∨e=1∨e=2∨e=3∨e=4∨e=5∨e=6∨e=7:=Y18
 rcases this with rfl | rfl | rfl | rfl | rfl | rfl | rfl | rfl<;>exact ⟨Y19,Y19⟩
def wZ (b:List Int) (j:Nat):Nat:=(b[j]?.getD 0).toNat
theorem zpC {p:Prop} (h:p:=by
 rw [List.getElem?_eq_getElem h]
 have:=hb _ (List.getElem_mem h)
 unfold U8 at this
 simp only [Option.getD_some]
 omega):p:=h
theorem Vr {b:List Int} (hb:OkB b) (j:Nat):wZ b j<256:=by
 unfold wZ
 by_cases h:j<b.length
 ·exact zpC
 ·rw [List.getElem?_eq_none Y18];decide
theorem Vp {b:List Int} (hb:OkB b) (j:Nat):b[j]?.getD 0=(wZ b j:Int):=by
 unfold wZ
 by_cases h:j<b.length
 ·exact zpC
 ·rw [List.getElem?_eq_none Y18];decide
theorem WV {b:List Int} (hb:OkB b) (i:Nat):ZR b i=(wZ b (i/8)).testBit (i%8):=by
 have hlt:=Vr hb (i/8)
 have hm:min (i%8) 8=i%8:=Y18
 have hd:wZ b (i/8)/2 ^ (i%8)<256:=Nat.lt_of_le_of_lt (Nat.div_le_self _ _) hlt
 unfold ZR
 rw [Vp hb,hm,show ((wZ b (i/8):Int)).fdiv (2 ^ (i%8))=((wZ b (i/8)/2 ^ (i%8):Nat):Int) from by
  rw [Int.fdiv_eq_ediv_of_nonneg _ (by exact_mod_cast Nat.zero_le _)];push_cast;rfl,zqL hd,Nat.testBit_eq_decide_div_mod_eq]
 simp only [decide_eq_decide]
 omega
theorem Vf (l:List Bool):∀ (i:Nat),i≤l.length→∀ (j e:Nat),e<8→(wZ (xw l i) j).testBit e=(decide (8*j+e<i)&&l[8*j+e]?.getD false)
 | 0,_,j,e,he=>by
   have:wZ (xw l 0) j=0:=by
    unfold wZ xw
    rw [List.getElem?_replicate]
    split<;>rfl
   rw [this]
   simp
 | i+1,hi,j,e,he=>by
   have ih:=Vf l i Y18 j e he
   unfold xw
   split
   ·rename_i hx
    have hdl:i/8<(xw l i).length:=by rw [Zc];omega
    have hok:=VI l i
    have hv:=zl0 (e:=i%8) Y18
    have hb:=Vr hok (i/8)
    unfold Uc
    rw [Vp hok,hv.1,or8 hb hv.2]
    by_cases hj:j=i/8
    ·subst hj
     have:wZ ((xw l i).set (i/8) ((wZ (xw l i) (i/8) ||| 2 ^ (i%8):Nat):Int)) (i/8)=wZ (xw l i) (i/8) ||| 2 ^ (i%8):=by
      conv=>lhs;unfold wZ
      rw [List.getElem?_set_self hdl]
      simp only [Option.getD_some,Int.toNat_natCast]
      rfl
     rw [this,Nat.testBit_or,ih,Nat.testBit_two_pow]
     by_cases h1:i%8=e
     ·have h2:8*(i/8)+e=i:=Y18
      rw [h2,hx];simp [h1]
     ·have h2:(8*(i/8)+e<i+1)↔(8*(i/8)+e<i):=Y18
      simp [h1,h2]
    ·have:wZ ((xw l i).set (i/8) ((wZ (xw l i) (i/8) ||| 2 ^ (i%8):Nat):Int)) j=wZ (xw l i) j:=by
      conv=>lhs;unfold wZ
      rw [List.getElem?_set_ne (fun h=>hj h.symm)];rfl
     have h2:(8*j+e<i+1)↔(8*j+e<i):=Y18
     rw [this,ih]
     simp [h2]
   ·rename_i hx
    rw [ih]
    by_cases h1:8*j+e=i
    ·have hx':l[i]?.getD false=false:=by simpa using hx
     rw [h1,hx'];simp
    ·have h2:(8*j+e<i+1)↔(8*j+e<i):=Y18
     simp [h2]
theorem zd4 {b:List Int} {n i:Nat} (h:i<n):(zZ b n)[i]?.getD false=ZR b i:=by
 unfold zZ
 rw [List.getElem?_map,List.getElem?_range h];rfl
def xP (b:List Int) (m i:Nat):List Bool:=(List.range m).map fun q=>decide (q<i)&&ZR b q
theorem zeg (b:List Int) (m:Nat):xP b m 0=List.replicate m false:=by
 refine List.ext_getElem (by simp [xP]) fun j h1 h2=>?_
 simp [xP]
theorem zfk (b:List Int) (m:Nat):xP b m m=zZ b m:=by
 refine List.ext_getElem (by simp [xP,zZ]) fun j h1 h2=>?_
 simp only [xP,List.length_map,List.length_range] at h1
 simp [xP,zZ,h1]
theorem ze2 (b:List Int) {m i:Nat} (h:i<m):(xP b m i).set i (ZR b i)=xP b m (i+1):=by
 refine List.ext_getElem (by simp [xP]) fun j h1 h2=>?_
 rw [List.getElem_set]
 by_cases hj:i=j
 ·subst hj;simp [xP]
 ·have h3:(j<i+1)↔(j<i):=Y18
  rw [if_neg hj]
  simp [xP,h3]
theorem zca (b:List Int) (i:Nat):zZ b (i+1)=zZ b i++[ZR b i]:=by
 unfold zZ
 rw [List.range_succ,List.map_append];rfl
theorem zb8 {s:St} {q:Nat→Bool} {id n:Nat} {t:TypeId} {l:List Bool} (hn:n=l.length) (hq:q id=false) (hb:s.blk id=some (.row t (l.map PV.bool))):PV.frz false s q 2 (.own id 0 n)=.sl .unk (l.map PV.bool):=by
 subst hn
 unfold PV.frz
 rw [if_neg (by rw [hq];simp),hb]
 simp only [Nat.zero_add,List.length_map,Nat.le_refl,if_true,List.drop_zero,List.take_length]
 rw [show (l.map PV.bool).take l.length=l.map PV.bool by rw [← List.length_map (f:=PV.bool),List.take_length],List.map_map]
 congr 1
theorem zf (l:List Bool):PV.weaks (l.map PV.bool)=l.map PV.bool:=xc PV.bool (fun _=>rfl) l
theorem zbN (n:Nat) (l:List Bool):PV.blws n (l.map PV.bool):=wo PV.bool n zlV l
theorem xm (n:Nat) (l:List Bool):PV.blws n (l.map PV.bool)=True:=eq_true (zbN n l)
theorem zdp {b:List Int} (hb:OkB b) {n:Nat} (hN:(n+7)/8=b.length):xk (zZ b n)=b↔∀ i,n≤i→i<8*b.length→ZR b i=false:=by
 have hlen:(zZ b n).length=n:=by simp [zZ]
 have ht:∀ j e,e<8→(wZ (xk (zZ b n)) j).testBit e=(decide (8*j+e<n)&&(zZ b n)[8*j+e]?.getD false):=by
  intro j e he
  have:=Vf (zZ b n) n (by rw [hlen];exact Nat.le_refl _) j e he
  unfold xk
  rw [hlen];exact this
 constructor
 ·intro h i hi hi2
  rw [WV hb]
  have:=ht (i/8) (i%8) Y18
  rw [h] at this
  rw [this]
  simp only [Bool.and_eq_false_iff,decide_eq_false_iff_not]
  left;omega
 ·intro h
  refine List.ext_getElem (by rw [xe,hlen,hN]) fun j h1 h2=>?_
  have e1:wZ (xk (zZ b n)) j=wZ b j:=by
   refine Nat.eq_of_testBit_eq fun e=>?_
   by_cases he:e<8
   ·rw [ht j e he]
    have hbt:=WV hb (8*j+e)
    rw [show (8*j+e)/8=j from Y18,show (8*j+e)%8=e from Y18] at hbt
    by_cases hn:8*j+e<n
    ·rw [zd4 hn,hbt];simp [hn]
    ·rw [← hbt,h _ Y18 Y18];simp [hn]
   ·have p:256≤2 ^ e:=by
     have:=Nat.pow_le_pow_right (n:=2) Y19 (show 8≤e from Y18)
     simpa using this
    rw [Nat.testBit_lt_two_pow (Nat.lt_of_lt_of_le (Vr (XH _) j) p),Nat.testBit_lt_two_pow (Nat.lt_of_lt_of_le (Vr hb j) p)]
  have g1:=Vp (XH (zZ b n)) j
  have g2:=Vp hb j
  rw [List.getElem?_eq_getElem h1] at g1
  rw [List.getElem?_eq_getElem h2] at g2
  simp only [Option.getD_some] at g1 g2
  rw [g1,g2,e1]
end Go.Proofs
namespace Go.Proofs
open Go.PM Go
structure Req where
 fn:Int
 at_:Int
 count:Int
 wat:Int
 sub:Int
 bits:List Bool
 vals:List Int
 and_:Int
 or_:Int
 deriving DecidableEq
def Req.pv (q:Req):PV:=.agg [.int .i64 q.fn,.int .i64 q.at_,.int .i64 q.count,.int .i64 q.wat,.int .i64 q.sub,.sl .unk (q.bits.map PV.bool),.sl .unk (q.vals.map (PV.int .u16)),.int .u16 q.and_,.int .u16 q.or_]
structure Rep where
 fn:Int
 code:Int
 at_:Int
 count:Int
 sub:Int
 bits:List Bool
 vals:List Int
 and_:Int
 or_:Int
 data:List Int
 deriving DecidableEq
def Rep.pv (q:Rep):PV:=.agg [.int .i64 q.fn,.int .i64 q.code,.int .i64 q.at_,.int .i64 q.count,.int .i64 q.sub,.sl .unk (q.bits.map PV.bool),.sl .unk (q.vals.map (PV.int .u16)),.int .u16 q.and_,.int .u16 q.or_,.sl .unk (q.data.map (PV.int .u8))]
def OkW (l:List Int):Prop:=∀ x∈l,U16 x
structure Req.ok (q:Req):Prop where
 fn:I64 q.fn
 at_:I64 q.at_
 count:I64 q.count
 wat:I64 q.wat
 sub:I64 q.sub
 vals:OkW q.vals
 and_:U16 q.and_
 or_:U16 q.or_
 nb:q.bits.length≤140737488351232
 nv:q.vals.length*2≤140737488351232
theorem XD (q:Rep):q.pv.weak=q.pv:=by
 simp only [Rep.pv,PV.weak,PV.weaks,zf,zA,zB]
theorem zd6 (n:Nat) (q:Req):q.pv.blw n:=by
 simp only [Req.pv,PV.blw,PV.blws,xm,uo,true_and,and_true]
 exact ⟨fun t z e=>Y17,fun t z e=>Y17⟩
theorem zS (n:Nat) (q:Rep):q.pv.blw n:=by
 simp only [Rep.pv,PV.blw,PV.blws,xm,uo,zbF,true_and,and_true]
 exact ⟨fun t z e=>Y17,fun t z e=>Y17,fun t z e=>Y17⟩
def xO (fn:Int):Bool:=decide (1≤fn∧fn≤6∨fn=8∨fn=15∨fn=16∨fn=17∨fn=22∨fn=23)
def xD (n:Int):Bool:=decide (0≤n∧n≤65535)
def zhJ (fn:Int):Bool:=decide (1≤fn∧fn≤4)
def Zl (q:Req):Int:=if q.fn=5 then 1 else if q.fn=15 then q.count else 0
def uN (q:Req):Int:=if q.fn=6∨q.fn=8 then 1 else if q.fn=16 then q.count else if q.fn=23 then q.vals.length else 0
def vL (q:Req):Bool:=decide ((¬ q.fn=8∧¬ q.fn=17∨q.at_=0)∧((1≤q.fn∧q.fn≤4∨q.fn=15∨q.fn=16∨q.fn=23)∨q.count=0)∧(q.fn=23∨q.wat=0)∧(q.fn=8∨q.sub=0)∧(q.fn=22∨q.and_=0∧q.or_=0))
def zD (q:Req):Int:=if xO q.fn=false then 15 else if vL q=false∨xD q.at_=false∨xD q.wat=false∨xD q.sub=false∨xD q.count=false then 12
 else if ¬ (q.bits.length:Int)=Zl q∨¬ (q.vals.length:Int)=uN q∨2040<q.bits.length∨127<q.vals.length then 12 else 0
end Go.Proofs
namespace Go.Proofs
open Go.PM Go
def yF (q:Req):List Int :=
 q.fn::(if q.fn=17 then [] else if q.fn=8 then zx q.sub++q.vals.flatMap zx
  else zx q.at_++(if q.fn=5 then zx (if q.bits=[true] then 65280 else 0) else if q.fn=6 then q.vals.flatMap zx else if q.fn=22 then zx q.and_++zx q.or_
  else zx q.count++(if q.fn=15 then ((xk q.bits).length:Int)::xk q.bits else if q.fn=16 then ((q.vals.flatMap zx).length:Int)::q.vals.flatMap zx
   else if q.fn=23 then zx q.wat++zx q.vals.length++((q.vals.flatMap zx).length:Int)::q.vals.flatMap zx else [])))
def zL (q:Req):List Int:=if zD q=0 then yF q else []
structure ziA (q:Req):Prop where
 has:xO q.fn=true
 fields:vL q=true
 wa:xD q.at_=true
 ww:xD q.wat=true
 ws:xD q.sub=true
 wc:xD q.count=true
 nb:(q.bits.length:Int)=Zl q
 nv:(q.vals.length:Int)=uN q
 mb:q.bits.length≤2040
 mv:q.vals.length≤127
theorem vF {q:Req} (h:zD q=0):ziA q:=by
 unfold zD at h
 by_cases h1:xO q.fn=false
 ·rw [if_pos h1] at h;cases h
 rw [if_neg h1] at h
 split at h
 ·cases h
 ·rename_i h2
  split at h
  ·cases h
  ·rename_i h3
   simp only [not_or,Bool.not_eq_false,Nat.not_lt,Classical.not_not] at h1 h2 h3
   exact ⟨h1,h2.1,h2.2.1,h2.2.2.1,h2.2.2.2.1,h2.2.2.2.2,h3.1,h3.2.1,h3.2.2.1,h3.2.2.2⟩
theorem zgr {q:Req} (h:ziA q):zD q=0:=by
 unfold zD
 rw [if_neg (by rw [h.has];decide),if_neg (by rw [h.fields,h.wa,h.ww,h.ws,h.wc];decide),if_neg]
 rintro (h1 | h1 | h1 | h1)
 ·exact h1 h.nb
 ·exact h1 h.nv
 ·have:=h.mb;omega
 ·have:=h.mv;omega
theorem wC (l:List Int):(l.flatMap zx).length=2*l.length:=by
 induction l with
 | nil=>rfl
 | cons a l ih=>simp only [List.flatMap_cons,List.length_append,ih,List.length_cons];simp [zx];omega
theorem yM {fn:Int} (h:xO fn=true):fn=1∨fn=2∨fn=3∨fn=4∨fn=5∨fn=6∨fn=8∨fn=15∨fn=16∨fn=17∨fn=22∨fn=23:=by
 unfold xO at h
 have:=of_decide_eq_true h
 omega
def wI:List Int→List Int
 | a::b::r=>(256*a+b)::wI r
 | _=>[]
def ve (l:List Int):Option (List Int):=if l.length%2=0 then some (wI l) else none
theorem YI:∀ (l:List Int),(wI l).length=l.length/2
 | []=>rfl
 | [_]=>by simp [wI]
 | a::b::r=>by simp [wI,YI r];omega
theorem UJ:∀ {l:List Int} {a b:Int},l.length%2=0→wI (l++[a,b])=wI l++[256*a+b]
 | [],a,b,_=>by simp [wI]
 | [_],a,b,h=>by simp at h
 | c::d::r,a,b,h=>by
   simp only [List.cons_append,wI]
   rw [UJ (l:=r) (by simp at h;omega)]
theorem zds:∀ {l:List Int},OkB l→OkW (wI l)
 | [],_=>fun x hx=>(List.not_mem_nil hx).elim
 | [_],_=>fun x hx=>(List.not_mem_nil hx).elim
 | a::b::r,h=>by
   intro x hx
   have ha:=h a Y71
   have hb:=h b Y71
   simp only [wI,List.mem_cons] at hx
   rcases hx with rfl | hx
   ·unfold U8 at ha hb;unfold U16;omega
   ·exact zds (l:=r) (fun y hy=>h y (by simp [hy])) x hx
theorem zcJ {l:List Int} (h:OkB l):OkW ((ve l).getD []):=by
 unfold ve
 split
 ·exact zds h
 ·exact fun x hx=>(List.not_mem_nil hx).elim
theorem za6 (l:List Int):((ve l).getD []).length≤l.length/2:=by
 unfold ve
 split
 ·simp [YI]
 ·simp
def zP (b:List Int) (a:Int):Int:=(vt b a).getD 0
def uk (b:List Int) (n:Nat):List Int:=(ve ((b.drop n).take (b.length-n-(b.length-n)%2))).getD []
def xl (b:List Int) (n:Nat):List Int:=(ve (b.drop n)).getD []
theorem wn {b:List Int} (hb:OkB b) (a:Int):U16 (zP b a):=by
 unfold zP
 cases h:vt b a with
 | none=>constructor<;>decide
 | some n=>exact zgN hb h
def xM (b:List Int):Req :=
 let f:=(b[0]?).getD 0
 if f=17 then ⟨f,0,0,0,0,[],[],0,0⟩
 else if f=8 then ⟨f,0,0,0,zP b 1,[],uk b 3,0,0⟩
 else if f=5 then ⟨f,zP b 1,0,0,0,[decide (zP b 3=65280)],[],0,0⟩
 else if f=6 then ⟨f,zP b 1,0,0,0,[],uk b 3,0,0⟩
 else if f=22 then ⟨f,zP b 1,0,0,0,[],[],zP b 3,zP b 5⟩
 else if f=15 then ⟨f,zP b 1,zP b 3,0,0,if 6≤b.length then (xy (b.drop 6) (zP b 3)).getD [] else [],[],0,0⟩
 else if f=16 then ⟨f,zP b 1,zP b 3,0,0,[],uk b 6,0,0⟩
 else if f=23 then ⟨f,zP b 1,zP b 3,zP b 5,0,[],uk b 10,0,0⟩
 else ⟨f,zP b 1,zP b 3,0,0,[],[],0,0⟩
def zC (b:List Int):Req :=
 let f:=(b[0]?).getD 0
 if 1≤f∧f≤4 then ⟨f,zP b 1,zP b 3,0,0,[],[],0,0⟩
 else if f=8 then ⟨f,0,0,0,zP b 1,[],xl b 3,0,0⟩
 else if f=5 then ⟨f,zP b 1,0,0,0,[decide (¬ zP b 3=0)],[],0,0⟩
 else if f=6 then ⟨f,zP b 1,0,0,0,[],xl b 3,0,0⟩
 else if f=22 then ⟨f,zP b 1,0,0,0,[],[],zP b 3,zP b 5⟩
 else if f=15 then ⟨f,zP b 1,zP b 3,0,0,if 6<b.length then (xy (b.drop 6) (zP b 3)).getD [] else [],[],0,0⟩
 else if f=16 then ⟨f,zP b 1,zP b 3,0,0,[],xl b 6,0,0⟩
 else if f=23 then ⟨f,zP b 1,zP b 3,zP b 5,0,[],xl b 10,0,0⟩
 else ⟨f,0,0,0,0,[],[],0,0⟩
theorem zjf {b:List Int} (h:OkB b) (n:Nat):OkW (uk b n):=zcJ ((h.drop n).take _)
theorem zdu {b:List Int} (h:OkB b) (n:Nat):OkW (xl b n):=zcJ (h.drop n)
theorem WX (b:List Int) (n:Nat):2*(uk b n).length≤b.length:=by
 have h:=za6 ((b.drop n).take (b.length-n-(b.length-n)%2))
 simp only [List.length_take,List.length_drop] at h
 unfold uk
 omega
theorem YQ (b:List Int) (n:Nat):2*(xl b n).length≤b.length:=by
 have h:=za6 (b.drop n)
 simp only [List.length_drop] at h
 unfold xl
 omega
theorem zjR (b:List Int) (n:Int):((xy b n).getD []).length≤8*b.length:=by
 unfold xy
 split
 ·simp [zZ];omega
 ·simp
theorem za4 (b:List Int) (n:Int):((xy b n).getD []).length≤n.toNat:=by
 unfold xy
 split
 ·simp [zZ]
 ·simp
theorem zef {b:List Int} (h:OkB b):U8 ((b[0]?).getD 0):=by
 cases hx:b[0]? with
 | none=>constructor<;>decide
 | some x=>exact h x (List.mem_of_getElem? hx)
theorem zmi {p:Prop} (h:p:=by unfold U8 at hf;constructor<;>omega):p:=h
theorem znL {p:Prop} (h:p:=by unfold U16 at h;constructor<;>omega):p:=h
theorem zc4 {b:List Int} (h:OkB b) (hl:b.length≤140737488351232):(xM b).ok:=by
 have n1:=wn h 1
 have n3:=wn h 3
 have n5:=wn h 5
 have hf:=zef h
 have z1:I64 0:=Y20
 have z2:U16 0:=Y20
 have zw:OkW []:=fun x hx=>(List.not_mem_nil hx).elim
 have up:∀ {x:Int},U16 x→I64 x:=fun h=>znL
 have f1:I64 ((b[0]?).getD 0):=zmi
 have w3:=WX b 3
 have w6:=WX b 6
 have w10:=WX b 10
 have o6:=za4 (b.drop 6) (zP b 3)
 have o7:(zP b 3).toNat≤65535:=by unfold U16 at n3;omega
 unfold xM
 simp only
 repeat' split
 all_goals
  refine ⟨?_,?_,?_,?_,?_,?_,?_,?_,?_,?_⟩<;>first | assumption | exact up ‹_› | exact zjf h _ |(simp only [List.length_nil,List.length_cons];omega) |(simp only [List.length_nil,List.length_cons];decide)
theorem zj0 {b:List Int} (h:OkB b) (hl:b.length≤140737488351232):(zC b).ok:=by
 have n1:=wn h 1
 have n3:=wn h 3
 have n5:=wn h 5
 have hf:=zef h
 have z1:I64 0:=Y20
 have z2:U16 0:=Y20
 have zw:OkW []:=fun x hx=>(List.not_mem_nil hx).elim
 have up:∀ {x:Int},U16 x→I64 x:=fun h=>znL
 have f1:I64 ((b[0]?).getD 0):=zmi
 have w3:=YQ b 3
 have w6:=YQ b 6
 have w10:=YQ b 10
 have o6:=za4 (b.drop 6) (zP b 3)
 have o7:(zP b 3).toNat≤65535:=by unfold U16 at n3;omega
 unfold zC
 simp only
 repeat' split
 all_goals
  refine ⟨?_,?_,?_,?_,?_,?_,?_,?_,?_,?_⟩<;>first | assumption | exact up ‹_› | exact zdu h _ |(simp only [List.length_nil,List.length_cons];omega) |(simp only [List.length_nil,List.length_cons];decide)
def zeroR:Req:=⟨0,0,0,0,0,[],[],0,0⟩
def xx (b:List Int):Req × Int:=if b=[] then (zeroR,13) else if xO ((b[0]?).getD 0)=false then (zeroR,15) else if zD (xM b)=0∧yF (xM b)=b then (xM b,0) else (zeroR,12)
theorem za7 {q:Req} (h:zD q=0):(yF q).length≤300:=by
 have hR:=vF h
 have h1:=hR.mb
 have h2:=hR.mv
 have h3:=wC q.vals
 have h4:=xe q.bits
 unfold yF
 repeat' split
 all_goals
  simp only [List.length_cons,List.length_append,List.length_nil,h3,h4,show ∀ n,(zx n).length=2 from fun _=>rfl]
  omega
theorem zg7 (q:Req):(zL q).length<140737488355328:=by
 unfold zL
 split
 ·rename_i h
  have:=za7 h
  omega
 ·decide
end Go.Proofs
namespace Go.Proofs
open Go.PM Go
structure Rep.ok (r:Rep):Prop where
 fn:I64 r.fn
 code:I64 r.code
 at_:I64 r.at_
 count:I64 r.count
 sub:I64 r.sub
 vals:OkW r.vals
 and_:U16 r.and_
 or_:U16 r.or_
 data:OkB r.data
 nb:r.bits.length≤140737488351232
 nv:r.vals.length*2≤140737488351232
 nd:r.data.length≤140737488351232
def zeroP:Rep:=⟨0,0,0,0,0,[],[],0,0,[]⟩
def Xq (r:Rep):Rep :=
 if r.fn=1∨r.fn=2 then ⟨r.fn,0,0,0,0,r.bits,[],0,0,[]⟩
 else if r.fn=3∨r.fn=4∨r.fn=23 then ⟨r.fn,0,0,0,0,[],r.vals,0,0,[]⟩
 else if r.fn=5 then ⟨r.fn,0,r.at_,0,0,r.bits,[],0,0,[]⟩
 else if r.fn=6 then ⟨r.fn,0,r.at_,0,0,[],r.vals,0,0,[]⟩
 else if r.fn=8 then ⟨r.fn,0,0,0,r.sub,[],r.vals,0,0,[]⟩
 else if r.fn=15∨r.fn=16 then ⟨r.fn,0,r.at_,r.count,0,[],[],0,0,[]⟩
 else if r.fn=22 then ⟨r.fn,0,r.at_,0,0,[],[],r.and_,r.or_,[]⟩
 else if r.fn=17 then ⟨r.fn,0,0,0,0,[],[],0,0,r.data⟩
 else zeroP
def yg (r:Rep):Int :=
 if ¬ r.code=0 then (if 1≤r.code∧r.code≤255∧0≤r.fn∧r.fn≤127∧r=⟨r.fn,r.code,0,0,0,[],[],0,0,[]⟩ then 0 else 12)
 else if xO r.fn=false then 15
 else if ¬ r=Xq r∨xD r.at_=false∨xD r.sub=false∨xD r.count=false∨r.fn=5∧¬ r.bits.length=1∨(r.fn=6∨r.fn=8)∧¬ r.vals.length=1∨2040<r.bits.length∨127<r.vals.length∨250<r.data.length then 12
 else 0
def yK (r:Rep):List Int :=
 if ¬ r.code=0 then [r.fn+128,r.code]
 else r.fn::(if r.fn=1∨r.fn=2 then ((xk r.bits).length:Int)::xk r.bits
  else if r.fn=3∨r.fn=4∨r.fn=23 then ((r.vals.flatMap zx).length:Int)::r.vals.flatMap zx
  else if r.fn=5 then zx r.at_++zx (if r.bits=[true] then 65280 else 0)
  else if r.fn=6 then zx r.at_++r.vals.flatMap zx
  else if r.fn=8 then zx r.sub++r.vals.flatMap zx
  else if r.fn=15∨r.fn=16 then zx r.at_++zx r.count
  else if r.fn=22 then zx r.at_++zx r.and_++zx r.or_
  else (r.data.length:Int)::r.data)
def yO (r:Rep):List Int:=if yg r=0 then yK r else []
def zE (fn code:Int):Rep:=⟨fn%128,code%256,0,0,0,[],[],0,0,[]⟩
def yu (q:Req):Bool:=decide (zD q=0∧(if q.fn=1∨q.fn=2 then 1≤q.count∧q.count≤2000 else if q.fn=3∨q.fn=4 then 1≤q.count∧q.count≤125 else if q.fn=15 then 1≤q.count∧q.count≤1968
 else if q.fn=16 then 1≤q.count∧q.count≤123 else if q.fn=23 then 1≤q.count∧q.count≤125∧1≤q.vals.length∧q.vals.length≤121 else True))
structure zk4 (r:Rep):Prop where
 code:r.code=0
 has:xO r.fn=true
 eq:r=Xq r
 wa:xD r.at_=true
 ws:xD r.sub=true
 wc:xD r.count=true
 b5:r.fn=5→r.bits.length=1
 v6:r.fn=6∨r.fn=8→r.vals.length=1
 mb:r.bits.length≤2040
 mv:r.vals.length≤127
 md:r.data.length≤250
theorem WH {r:Rep} (h:yg r=0) (hc:r.code=0):zk4 r:=by
 unfold yg at h
 rw [if_neg (by rw [hc];simp)] at h
 by_cases h1:xO r.fn=false
 ·rw [if_pos h1] at h;cases h
 rw [if_neg h1] at h
 split at h
 ·cases h
 ·rename_i h2
  simp only [not_or,Bool.not_eq_false,Nat.not_lt,Classical.not_not,not_and] at h1 h2
  exact ⟨hc,h1,h2.1,h2.2.1,h2.2.2.1,h2.2.2.2.1,h2.2.2.2.2.1,h2.2.2.2.2.2.1,h2.2.2.2.2.2.2.1,h2.2.2.2.2.2.2.2.1,h2.2.2.2.2.2.2.2.2⟩
theorem zaP {r:Rep} (h:yg r=0) (hc:¬ r.code=0):1≤r.code∧r.code≤255∧0≤r.fn∧r.fn≤127∧r=⟨r.fn,r.code,0,0,0,[],[],0,0,[]⟩:=by
 unfold yg at h
 rw [if_pos hc] at h
 split at h
 ·assumption
 ·cases h
theorem Zi (a:Int) (k:Nat) (hk:k<63):zR .and .i64 a ((2 ^ k-1:Nat):Int)=a%((2 ^ k:Nat):Int):=by
 unfold zR
 show IntKind.i64.wrap (((BitVec.ofInt 64 a &&& BitVec.ofInt 64 ((2 ^ k-1:Nat):Int)).toNat:Int))=_
 have h2:(2:Nat) ^ k<2 ^ 63:=Nat.pow_lt_pow_right Y19 hk
 have hp:0<2 ^ k:=Nat.two_pow_pos k
 have e:(BitVec.ofInt 64 a).toNat%2 ^ k=(a%((2 ^ k:Nat):Int)).toNat:=by
  rw [BitVec.toNat_ofInt]
  have hd:((2 ^ k:Nat):Int)∣((2 ^ 64:Nat):Int):=by
   refine ⟨((2 ^ (64-k):Nat):Int),?_⟩
   rw [← Int.natCast_mul,← Nat.pow_add]
   congr 2;omega
  have h3:(((a%((2 ^ 64:Nat):Int)).toNat%2 ^ k:Nat):Int)=a%((2 ^ k:Nat):Int):=by
   rw [Int.natCast_emod,Int.toNat_of_nonneg (Int.emod_nonneg _ Y19),Int.emod_emod_of_dvd _ hd]
  omega
 have hm:(BitVec.ofInt 64 ((2 ^ k-1:Nat):Int)).toNat=2 ^ k-1:=by
  rw [BitVec.ofInt_natCast,BitVec.toNat_ofNat,Nat.mod_eq_of_lt Y18]
 rw [BitVec.toNat_and,hm,Nat.and_two_pow_sub_one_eq_mod,e]
 have h5:=Int.emod_nonneg a (b:=((2 ^ k:Nat):Int)) Y18
 have h6:=Int.emod_lt_of_pos a (b:=((2 ^ k:Nat):Int)) Y18
 rw [Int.toNat_of_nonneg h5]
 exact zi Y18
theorem VT (a:Int):zR .and .i64 a 127=a%128:=Zi a 7 Y19
theorem VW (a:Int):zR .and .i64 a 255=a%256:=Zi a 8 Y19
theorem We {a:Int} (h:0≤a∧a<128):zR .or .i64 a 128=a+128:=by
 obtain ⟨n,rfl⟩:∃ n:Nat,a=n:=⟨a.toNat,(Int.toNat_of_nonneg h.1).symm⟩
 have hn:n<128:=Y18
 have:∀ m:Fin 128,zR .or .i64 ((m.val:Nat):Int) 128=((m.val:Nat):Int)+128:=by decide +kernel
 exact this ⟨n,hn⟩
def wU (fn:Int):List Int:=if fn=1∨fn=2 then [98] else if fn=3∨fn=4∨fn=23 then [118] else if fn=5 then [97,98] else if fn=6 then [97,118] else if fn=8 then [115,118] else if fn=15∨fn=16 then [97,99] else if fn=17 then [100] else [97,109]
theorem Ze (l:List Int):OkB (l.flatMap zx):=by
 intro x hx
 obtain ⟨a,_,h⟩:=List.mem_flatMap.1 hx
 exact yB a x h
theorem OkB.cons {a:Int} {l:List Int} (h:U8 a) (k:OkB l):OkB (a::l):=by
 intro x hx
 rcases List.mem_cons.1 hx with rfl | hx
 ·exact h
 ·exact k x hx
theorem OkB.nil:OkB []:=fun x hx=>(List.not_mem_nil hx).elim
theorem zig {r:Rep} (hr:r.ok) (h:yg r=0):OkB (yK r):=by
 unfold yK
 by_cases hc:r.code=0
 ·have hG:=WH h hc
  have h1:=yM hG.has
  have h2:=hG.mb
  have h3:=hG.mv
  have h4:=hG.md
  have h5:=xe r.bits
  have h6:=wC r.vals
  rw [if_neg (fun k=>k hc)]
  refine OkB.cons ⟨Y18,Y18⟩ ?_
  repeat' split
  ·exact OkB.cons ⟨Y18,Y18⟩ (XH _)
  ·exact OkB.cons ⟨Y18,Y18⟩ (Ze _)
  ·exact (yB _).append (yB _)
  ·exact (yB _).append (yB _)
  ·exact (yB _).append (Ze _)
  ·exact (yB _).append (Ze _)
  ·exact (yB _).append (yB _)
  ·exact ((yB _).append (yB _)).append (yB _)
  ·exact OkB.cons ⟨Y18,Y18⟩ hr.data
 ·have:=zaP h hc
  rw [if_pos hc]
  exact OkB.cons ⟨Y18,Y18⟩ (OkB.cons ⟨Y18,Y18⟩ OkB.nil)
theorem zb0 {r:Rep} (h:yg r=0):(yK r).length≤300:=by
 unfold yK
 by_cases hc:r.code=0
 ·have hG:=WH h hc
  have h2:=hG.mb
  have h3:=hG.mv
  have h4:=hG.md
  have h5:=xe r.bits
  have h6:=wC r.vals
  rw [if_neg (fun k=>k hc)]
  repeat' split
  all_goals
   simp only [List.length_cons,List.length_append,List.length_nil,h5,h6,show ∀ n,(zx n).length=2 from fun _=>rfl]
   omega
 ·rw [if_pos hc];simp
def xL (b:List Int) (q:Req):Rep :=
 let f:=(b[0]?).getD 0
 if 128≤f then ⟨f%128,if 1<b.length then (b[1]?).getD 0 else 0,0,0,0,[],[],0,0,[]⟩
 else
  let a:=if 97∈wU f then zP b 1 else 0
  if f=1∨f=2 then ⟨f,0,a,0,0,if 1<b.length then (xy (b.drop 2) q.count).getD [] else [],[],0,0,[]⟩
  else if f=3∨f=4∨f=23 then ⟨f,0,a,0,0,[],xl b 2,0,0,[]⟩
  else if f=15∨f=16 then ⟨f,0,a,zP b 3,0,[],[],0,0,[]⟩
  else if f=17 then ⟨f,0,a,0,0,[],[],0,0,if 1<b.length then b.drop 2 else []⟩
  else ⟨f,0,a,0,(zC b).sub,(zC b).bits,(zC b).vals,(zC b).and_,(zC b).or_,[]⟩
def XO (b:List Int) (q:Req):Rep × Int :=
 let f:=(b[0]?).getD 0
 if b=[] then (zeroP,13)
 else if ¬ f=q.fn∧¬ f=zR .or .i64 q.fn 128∨q.fn<0∨255<q.fn then (zeroP,12)
 else if ¬ yg (xL b q)=0∨¬ yK (xL b q)=b∨(xL b q).code=0∧(f≤2∧¬ ((xL b q).bits.length:Int)=q.count∨(f=3∨f=4∨f=23)∧¬ ((xL b q).vals.length:Int)=q.count) then (zeroP,12)
 else (xL b q,0)
theorem zkw {b:List Int} (h:OkB b) (hl:b.length≤10000000) (q:Req):(xL b q).ok:=by
 have n1:=wn h 1
 have n3:=wn h 3
 have hf:=zef h
 have z1:I64 0:=Y20
 have z2:U16 0:=Y20
 have zw:OkW []:=fun x hx=>(List.not_mem_nil hx).elim
 have up:∀ {x:Int},U16 x→I64 x:=fun h=>znL
 have f1:I64 ((b[0]?).getD 0):=zmi
 have f2:I64 ((b[0]?).getD 0%128):=zmi
 have b1:I64 ((b[1]?).getD 0):=by
  cases hx:b[1]? with
  | none=>exact z1
  | some x=>have:=h x (List.mem_of_getElem? hx);unfold U8 at this;simp only [Option.getD_some];constructor<;>omega
 have a1:I64 (if 97∈wU ((b[0]?).getD 0) then zP b 1 else 0):=by split;exact up n1;exact z1
 have w2:=YQ b 2
 have o6:=zjR (b.drop 2) q.count
 simp only [List.length_drop] at o6
 have oo:(if 1<b.length then (xy (b.drop 2) q.count).getD [] else []).length≤140737488351232:=by
  split
  ·omega
  ·decide
 have dd:(if 1<b.length then b.drop 2 else []).length≤140737488351232:=by
  split
  ·simp only [List.length_drop];omega
  ·decide
 have dk:OkB (if 1<b.length then b.drop 2 else []):=by
  split
  ·exact h.drop 2
  ·exact OkB.nil
 have hg:=zj0 h Y18
 unfold xL
 simp only
 repeat' split
 all_goals
  refine ⟨?_,?_,?_,?_,?_,?_,?_,?_,?_,?_,?_,?_⟩<;>first | assumption | exact up ‹_› | exact zdu h _ | exact hg.sub | exact hg.vals | exact hg.and_ | exact hg.or_ | exact hg.nb | exact hg.nv | exact OkB.nil | exact h.drop 2 |(simp only [List.length_nil,List.length_cons];omega) |(simp only [List.length_nil,List.length_cons];decide) |(simp only [List.length_drop];omega) | skip
end Go.Proofs
namespace Go.Proofs
open Go.PM Go
def zz (N:Nat) (at_ n:Int):Bool:=decide (0≤at_∧0≤n∧at_≤N∧n≤N-at_)
def cutF {α:Type} (l:List α) (at_ n:Int):List α:=if zz l.length at_ n=true then (l.drop at_.toNat).take n.toNat else []
def yi {α:Type} (l:List α) (a:Nat) (x:List α):List α:=l.take a++x++l.drop (a+x.length)
theorem wT {α:Type} {l x:List α} {a:Nat} (h:a+x.length≤l.length):(yi l a x).length=l.length:=by
 unfold yi
 simp only [List.length_append,List.length_take,List.length_drop]
 omega
structure Dev where
 c0:List Bool
 c1:List Bool
 v0:List Int
 v1:List Int
 unit:Int
 msgs:Int
 exc:Int
def Dev.n (D:Dev):Nat:=D.c0.length
structure Dev.ok (D:Dev):Prop where
 h1:1≤D.c0.length
 h2:D.c0.length≤65536
 c1:D.c1.length=D.c0.length
 v0:D.v0.length=D.c0.length
 v1:D.v1.length=D.c0.length
 w0:OkW D.v0
 w1:OkW D.v1
 unit:U8 D.unit
 msgs:I64 D.msgs
 exc:I64 D.exc
def Dev.zero (n:Nat):Dev:=⟨List.replicate n false,List.replicate n false,List.replicate n 0,List.replicate n 0,0,0,0⟩
theorem Dev.zero_ok {n:Nat} (h1:1≤n) (h2:n≤65536):(Dev.zero n).ok:=by
 refine ⟨by simpa [Dev.zero] using h1,by simpa [Dev.zero] using h2,by simp [Dev.zero],by simp [Dev.zero],by simp [Dev.zero],?_,?_,?_,?_,?_⟩
 ·intro x hx;rw [(List.mem_replicate.1 hx).2];constructor<;>decide
 ·intro x hx;rw [(List.mem_replicate.1 hx).2];constructor<;>decide
 all_goals (constructor<;>(simp only [Dev.zero];decide))
def yz (q:Req):Rep:=zE q.fn 2
def inc (n:Int):Int:=IntKind.i64.wrap (n+1)
def Xj (v:Int) (q:Req):Int:=zR .or .u16 (zR .and .u16 v q.and_) (zR .andNot .u16 q.or_ q.and_)
def WD (D:Dev) (q:Req):Rep × Dev :=
 let v:=(q.vals[0]?).getD 0
 if q.sub=0 then (⟨q.fn,0,0,0,q.sub,[],[v],0,0,[]⟩,D)
 else if q.sub=10 then (⟨q.fn,0,0,0,q.sub,[],[v],0,0,[]⟩,{ D with msgs:=0,exc:=0 })
 else if q.sub=11∨q.sub=13∨q.sub=14 then
  (if ¬ v=0 then (zE q.fn 3,D) else (⟨q.fn,0,0,0,q.sub,[],[IntKind.u16.wrap (if q.sub=13 then D.exc else D.msgs)],0,0,[]⟩,D))
 else (zE q.fn 3,D)
def zF (D:Dev) (q:Req):Rep × Dev :=
 if q.fn=1 then (if zz D.c0.length q.at_ q.count=true then (⟨q.fn,0,0,0,0,cutF D.c0 q.at_ q.count,[],0,0,[]⟩,D) else (yz q,D))
 else if q.fn=2 then (if zz D.c0.length q.at_ q.count=true then (⟨q.fn,0,0,0,0,cutF D.c1 q.at_ q.count,[],0,0,[]⟩,D) else (yz q,D))
 else if q.fn=3 then (if zz D.c0.length q.at_ q.count=true then (⟨q.fn,0,0,0,0,[],cutF D.v1 q.at_ q.count,0,0,[]⟩,D) else (yz q,D))
 else if q.fn=4 then (if zz D.c0.length q.at_ q.count=true then (⟨q.fn,0,0,0,0,[],cutF D.v0 q.at_ q.count,0,0,[]⟩,D) else (yz q,D))
 else if q.fn=5∨q.fn=15 then (if zz D.c0.length q.at_ q.bits.length=true then
  (if q.fn=15 then ⟨q.fn,0,q.at_,q.count,0,[],[],0,0,[]⟩ else ⟨q.fn,0,q.at_,0,0,[(q.bits[0]?).getD false],[],0,0,[]⟩,{ D with c0:=yi D.c0 q.at_.toNat q.bits }) else (yz q,D))
 else if q.fn=6∨q.fn=16 then (if zz D.c0.length q.at_ q.vals.length=true then
  (if q.fn=16 then ⟨q.fn,0,q.at_,q.count,0,[],[],0,0,[]⟩ else ⟨q.fn,0,q.at_,0,0,[],[(q.vals[0]?).getD 0],0,0,[]⟩,{ D with v1:=yi D.v1 q.at_.toNat q.vals }) else (yz q,D))
 else if q.fn=8 then WD D q
 else if q.fn=17 then (⟨q.fn,0,0,0,0,[],[],0,0,[D.unit,255]⟩,D)
 else if q.fn=22 then (if zz D.c0.length q.at_ 1=true then (⟨q.fn,0,q.at_,0,0,[],[],q.and_,q.or_,[]⟩,{ D with v1:=yi D.v1 q.at_.toNat [Xj ((D.v1[q.at_.toNat]?).getD 0) q] }) else (yz q,D))
 else if zz D.c0.length q.at_ q.count=true∧zz D.c0.length q.wat q.vals.length=true then
  (⟨q.fn,0,0,0,0,[],cutF (yi D.v1 q.wat.toNat q.vals) q.at_ q.count,0,0,[]⟩,{ D with v1:=yi D.v1 q.wat.toNat q.vals })
 else (yz q,D)
def ZG (D:Dev) (fn code:Int):Rep × Dev:=(zE fn code,{ D with exc:=inc D.exc })
def doF (D0:Dev) (q:Req):Rep × Dev :=
 let D:={ D0 with msgs:=inc D0.msgs }
 if xO q.fn=false then ZG D q.fn 1
 else if ¬ zD q=0∨yu q=false then ZG D q.fn 3
 else if ¬ (zF D q).1.code=0 then ZG (zF D q).2 q.fn (zF D q).1.code
 else zF D q
def xq (D:Dev) (b:List Int):List Int × Dev :=
 if (xx b).2=13 then ([],D)
 else
  let x:=if (xx b).2=15 then ZG { D with msgs:=inc D.msgs } (((b[0]?).getD 0)%128) 1 else if (xx b).2=12 then ZG { D with msgs:=inc D.msgs } (((b[0]?).getD 0)%128) 3 else doF D (xx b).1
  (yO x.1,x.2)
end Go.Proofs
namespace Go.Proofs
open Go.PM Go
end Go.Proofs
namespace Go.Proofs
open Go.PM Go
theorem zcR (l:List Bool):zZ (xk l) l.length=l:=by
 refine List.ext_getElem (by simp [zZ]) fun i h1 h2=>?_
 have hp:=Vf l l.length (Nat.le_refl _) (i/8) (i%8) Y18
 have e:8*(i/8)+i%8=i:=Y18
 rw [e] at hp
 simp only [zZ,List.getElem_map,List.getElem_range]
 rw [WV (XH l)]
 unfold xk
 rw [hp,List.getElem?_eq_getElem h2]
 simp [h2]
theorem zbL (l:List Bool) {n:Int} (h:n=l.length):xy (xk l) n=some l:=by
 subst h
 unfold xy
 rw [if_pos ⟨Y18,by rw [xe];omega,by rw [xe];omega,by rw [Int.toNat_natCast,zcR]⟩,Int.toNat_natCast,zcR]
theorem zeu {n:Int} (h:U16 n):256*(n/256%256)+n%256=n:=by unfold U16 at h;omega
theorem UK:∀ {l:List Int},OkW l→wI (l.flatMap zx)=l
 | [],_=>rfl
 | a::l,h=>by
   have ha:U16 a:=h a Y71
   show wI (a/256%256::a%256::l.flatMap zx)=a::l
   rw [wI,zeu ha,UK (l:=l) (fun y hy=>h y (by simp [hy]))]
theorem UI {l:List Int} (h:OkW l):ve (l.flatMap zx)=some l:=by
 unfold ve
 rw [if_pos (by rw [wC];omega),UK h]
theorem zfc {l p:List Int} (h:OkW l) {n:Nat} (hn:p.length=n):uk (p++l.flatMap zx) n=l:=by
 subst hn
 unfold uk
 rw [List.drop_left,List.length_append,wC,List.take_of_length_le (by rw [wC];omega),UI h]
 rfl
theorem uI {l p:List Int} (h:OkW l) {n:Nat} (hn:p.length=n):xl (p++l.flatMap zx) n=l:=by
 subst hn
 unfold xl
 rw [List.drop_left,UI h]
 rfl
theorem zdR {p r:List Int} {n a:Int} (h:U16 n) (ha:a=p.length):zP (p++(zx n++r)) a=n:=by
 subst ha
 unfold zP vt
 rw [if_pos (by rw [List.length_append,List.length_append,show (zx n).length=2 from rfl];omega),Int.toNat_natCast,List.getElem?_append_right (l₁:=p) (Nat.le_refl _),Nat.sub_self,List.getElem?_append_right (l₁:=p) Y18]
 rw [show p.length+1-p.length=1 from Y18]
 show 256*(n/256%256)+n%256=n
 exact zeu h
theorem vM {x n:Int} {r:List Int} (h:U16 n):zP (x::(zx n++r)) 1=n:=zdR (p:=[x]) h rfl
theorem Ve {x m n:Int} {r:List Int} (h:U16 n):zP (x::(zx m++(zx n++r))) 3=n:=zdR (p:=x::zx m) h rfl
theorem zkg {x m k n:Int} {r:List Int} (h:U16 n):zP (x::(zx m++(zx k++(zx n++r)))) 5=n:=zdR (p:=x::(zx m++zx k)) h rfl
theorem YZ {x m n:Int} (h:U16 n):zP (x::(zx m++zx n)) 3=n:=by have:=Ve (x:=x) (m:=m) (r:=[]) h;rwa [List.append_nil] at this
theorem zh6 {x m k n:Int} (h:U16 n):zP (x::(zx m++(zx k++zx n))) 5=n:=by have:=zkg (x:=x) (m:=m) (k:=k) (r:=[]) h;rwa [List.append_nil] at this
theorem Zq {n:Int} (h:xD n=true):U16 n:=of_decide_eq_true h
theorem Req.ext' {q q':Req} (h1:q.fn=q'.fn) (h2:q.at_=q'.at_) (h3:q.count=q'.count) (h4:q.wat=q'.wat) (h5:q.sub=q'.sub) (h6:q.bits=q'.bits) (h7:q.vals=q'.vals) (h8:q.and_=q'.and_) (h9:q.or_=q'.or_):q=q':=by
 cases q;cases q';simp only at *;subst_vars;rfl
theorem zms {l:List Bool} (h:(l.length:Int)=1):[decide ((if l=[true] then (65280:Int) else 0)=65280)]=l∧[decide (¬ (if l=[true] then (65280:Int) else 0)=0)]=l:=by
 match l,h with
 | [true],_=>exact ⟨rfl,rfl⟩
 | [false],_=>exact ⟨rfl,rfl⟩
 | [],h=>cases h
 | _::_::_,h=>simp at h;omega
theorem vy {α:Type} {l:List α} (h:(l.length:Int)=0):l=[]:=List.length_eq_zero_iff.1 Y18
theorem Y73 {p:Prop} (h:p:=by rw [vM wa,Ve wc];exact Req.ext' e.symm rfl rfl fl.1.symm fl.2.1.symm (vy nb).symm (vy nv).symm fl.2.2.1.symm fl.2.2.2.symm):p:=h
theorem znZ {p:Prop} (h:p:=by split<;>constructor<;>decide):p:=h
theorem zfV {q:Req} (hq:q.ok) (h:zD q=0):xM (yF q)=q:=by
 have hR:=vF h
 have fl:=of_decide_eq_true hR.fields
 have wa:=Zq hR.wa
 have ww:=Zq hR.ww
 have wsb:=Zq hR.ws
 have wc:=Zq hR.wc
 have nb:=hR.nb
 have nv:=hR.nv
 have b0:((yF q)[0]?).getD 0=q.fn:=rfl
 have w2:∀ n,U16 n→zx n=zx n++[]:=fun n _=>(List.append_nil _).symm
 have u65:U16 (if q.bits=[true] then 65280 else 0):=znZ
 unfold Zl at nb
 unfold uN at nv
 have wv:∀ (p:List Int) (n:Nat),p.length=n→uk (p++q.vals.flatMap zx) n=q.vals:=fun p n hn=>zfc hq.vals hn
 rcases yM hR.has with e | e | e | e | e | e | e | e | e | e | e | e<;>simp only [e] at fl nb nv<;>unfold xM<;>simp only [b0,e,Int.reduceEq,if_false,if_true,or_false,false_or,or_true,true_or]
 all_goals
  try unfold yF
  try simp only [e,Int.reduceEq,if_false,if_true,or_false,false_or,or_true,true_or,List.append_assoc]
  try simp only [Int.reduceEq,if_false,if_true,or_false,false_or,or_true,true_or,false_and,and_false,true_and,and_true,not_true_eq_false,not_false_eq_true,Int.reduceLE] at fl nb nv
 ·exact Y73
 ·exact Y73
 ·exact Y73
 ·exact Y73
 ·rw [vM wa,YZ u65];exact Req.ext' e.symm rfl fl.1.symm fl.2.1.symm fl.2.2.1.symm (zms nb).1 (vy nv).symm fl.2.2.2.1.symm fl.2.2.2.2.symm
 ·rw [vM wa];exact Req.ext' e.symm rfl fl.1.symm fl.2.1.symm fl.2.2.1.symm (vy nb).symm (wv (_::zx _) 3 rfl) fl.2.2.2.1.symm fl.2.2.2.2.symm
 ·rw [vM wsb];exact Req.ext' e.symm fl.1.symm fl.2.1.symm fl.2.2.1.symm rfl (vy nb).symm (wv (_::zx _) 3 rfl) fl.2.2.2.1.symm fl.2.2.2.2.symm
 ·rw [vM wa,Ve wc];refine Req.ext' e.symm rfl rfl fl.1.symm fl.2.1.symm ?_ (vy nv).symm fl.2.2.1.symm fl.2.2.2.symm
  show (if 6≤(15::(zx q.at_++(zx q.count++(((xk q.bits).length:Int)::xk q.bits)))).length then (xy (xk q.bits) q.count).getD [] else [])=q.bits
  rw [if_pos (by simp [zx]),zbL _ nb.symm];rfl
 ·rw [vM wa,Ve wc];exact Req.ext' e.symm rfl rfl fl.1.symm fl.2.1.symm (vy nb).symm (by have:=wv (16::(zx q.at_++(zx q.count++[((q.vals.flatMap zx).length:Int)]))) 6 rfl;simpa only [List.cons_append,List.append_assoc,List.nil_append] using this) fl.2.2.1.symm fl.2.2.2.symm
 ·exact Req.ext' e.symm fl.1.symm fl.2.1.symm fl.2.2.1.symm fl.2.2.2.1.symm (vy nb).symm (vy nv).symm fl.2.2.2.2.1.symm fl.2.2.2.2.2.symm
 ·rw [vM wa,Ve hq.and_,zh6 hq.or_];exact Req.ext' e.symm rfl fl.1.symm fl.2.1.symm fl.2.2.symm (vy nb).symm (vy nv).symm rfl rfl
 ·rw [vM wa,Ve wc,zkg ww];exact Req.ext' e.symm rfl rfl rfl fl.1.symm (vy nb).symm (by have:=wv (23::(zx q.at_++(zx q.count++(zx q.wat++(zx q.vals.length++[((q.vals.flatMap zx).length:Int)]))))) 10 rfl;simpa only [List.cons_append,List.append_assoc,List.nil_append] using this) fl.2.1.symm fl.2.2.symm
theorem zaT {q:Req} (hq:q.ok) (h:zD q=0):xx (yF q)=(q,0):=by
 unfold xx
 have hR:=vF h
 have h0:¬ yF q=[]:=by unfold yF;exact List.cons_ne_nil _ _
 have h1:((yF q)[0]?).getD 0=q.fn:=rfl
 rw [if_neg h0,h1,if_neg (by rw [hR.has];decide),zfV hq h,if_pos ⟨h,rfl⟩]
end Go.Proofs
namespace Go.Proofs
open Go.PM Go
structure Yn (R:Rep) (q:Req):Prop where
 fn:R.fn=q.fn
 good:yg R=0
 took:xL (yK R) q=R
 cnt:R.code=0→¬ (R.fn≤2∧¬ (R.bits.length:Int)=q.count∨(R.fn=3∨R.fn=4∨R.fn=23)∧¬ (R.vals.length:Int)=q.count)
theorem Vo {R:Rep}:((yK R)[0]?).getD 0=if ¬ R.code=0 then R.fn+128 else R.fn:=by
 unfold yK
 split<;>rfl
theorem Yn.take {R:Rep} {q:Req} (h:Yn R q) (hq:1≤q.fn∧q.fn≤127):XO (yO R) q=(R,0):=by
 have hf:=h.fn
 have hne:¬ yK R=[]:=by unfold yK;split<;>exact List.cons_ne_nil _ _
 unfold yO
 rw [if_pos h.good]
 unfold XO
 dsimp only
 rw [if_neg hne,Vo,h.took]
 rw [if_neg (by
  rw [We (a:=q.fn) Y18]
  split<;>omega)]
 rw [if_neg (by
  rintro (k | k | ⟨k1,k2⟩)
  ·exact k h.good
  ·exact k rfl
  ·rw [if_neg (fun n=>n k1)] at k2
   exact h.cnt k1 k2)]
theorem wO {q:Req} (hq:1≤q.fn∧q.fn≤127) {c:Int} (hc:1≤c∧c≤255):Yn (zE q.fn c) q:=by
 have e1:q.fn%128=q.fn:=Y18
 have e2:c%256=c:=Y18
 have e:zE q.fn c=⟨q.fn,c,0,0,0,[],[],0,0,[]⟩:=by unfold zE;rw [e1,e2]
 have h0:¬ c=0:=Y18
 have el:yK ⟨q.fn,c,0,0,0,[],[],0,0,[]⟩=[q.fn+128,c]:=by unfold yK;rw [if_pos h0]
 rw [e]
 refine ⟨rfl,?_,?_,fun k=>absurd k h0⟩
 ·unfold yg
  rw [if_pos h0,if_pos ⟨hc.1,hc.2,by show 0≤q.fn;omega,by show q.fn≤127;omega,rfl⟩]
 ·rw [el]
  unfold xL
  dsimp only
  rw [if_pos (by show 128≤q.fn+128;omega)]
  show (⟨(q.fn+128)%128,if 1<2 then c else 0,0,0,0,[],[],0,0,[]⟩:Rep)=_
  rw [show (q.fn+128)%128=q.fn from Y18,if_pos Y19]
theorem Yr {n:Int} (h:U16 n):xD n=true:=decide_eq_true h
theorem ZJ {R:Rep} (h:zk4 R):yg R=0:=by
 unfold yg
 rw [if_neg (fun n=>n h.code),if_neg (by rw [h.has];decide),if_neg]
 rintro (k | k | k | k | k | k | k | k | k)
 ·exact k h.eq
 ·rw [h.wa] at k;cases k
 ·rw [h.ws] at k;cases k
 ·rw [h.wc] at k;cases k
 ·exact k.2 (h.b5 k.1)
 ·exact k.2 (h.v6 k.1)
 ·have:=h.mb;omega
 ·have:=h.mv;omega
 ·have:=h.md;omega
theorem w0:xD 0=true:=Y19
theorem Y74 {p:Prop} (h:p:=by exfalso;simp only at k;omega):p:=h
theorem zdm {q:Req} (hf:q.fn=1∨q.fn=2) {B:List Bool} (hB:(B.length:Int)=q.count) (hl:B.length≤2000):Yn ⟨q.fn,0,0,0,0,B,[],0,0,[]⟩ q:=by
 refine ⟨rfl,ZJ ⟨rfl,?_,?_,w0,w0,w0,fun k=>?_,fun k=>?_,Y70,Y71,Y71⟩,?_,fun _=>?_⟩
 ·rcases hf with e | e<;>rw [e]<;>rfl
 ·unfold Xq;rw [if_pos hf]
 ·exact Y74
 ·exact Y74
 ·have el:yK ⟨q.fn,0,0,0,0,B,[],0,0,[]⟩=q.fn::((xk B).length:Int)::xk B:=by
   unfold yK;rw [if_neg Y71];dsimp only;rw [if_pos hf]
  rw [el]
  unfold xL
  have h97:¬ 97∈wU q.fn:=by unfold wU;rw [if_pos hf];decide
  dsimp only [List.getElem?_cons_zero,Option.getD_some]
  rw [if_neg Y18,if_neg h97,if_pos hf]
  rw [if_pos Y71]
  show (⟨q.fn,0,0,0,0,(xy (xk B) q.count).getD [],[],0,0,[]⟩:Rep)=_
  rw [zbL B hB.symm];rfl
 ·simp only;omega
theorem Yj {q:Req} (hf:q.fn=3∨q.fn=4∨q.fn=23) {V:List Int} (hV:OkW V) (hB:(V.length:Int)=q.count) (hl:V.length≤125):Yn ⟨q.fn,0,0,0,0,[],V,0,0,[]⟩ q:=by
 have hn:¬ (q.fn=1∨q.fn=2):=Y18
 refine ⟨rfl,ZJ ⟨rfl,?_,?_,w0,w0,w0,fun k=>?_,fun k=>?_,Y71,Y70,Y71⟩,?_,fun _=>?_⟩
 ·rcases hf with e | e | e<;>rw [e]<;>rfl
 ·unfold Xq;rw [if_neg hn,if_pos hf]
 ·exact Y74
 ·exact Y74
 ·have el:yK ⟨q.fn,0,0,0,0,[],V,0,0,[]⟩=q.fn::((V.flatMap zx).length:Int)::V.flatMap zx:=by
   unfold yK;rw [if_neg Y71];dsimp only;rw [if_neg hn,if_pos hf]
  rw [el]
  unfold xL
  have h97:¬ 97∈wU q.fn:=by unfold wU;rw [if_neg hn,if_pos hf];decide
  dsimp only [List.getElem?_cons_zero,Option.getD_some]
  rw [if_neg Y18,if_neg h97,if_neg hn,if_pos hf]
  rw [show q.fn::((V.flatMap zx).length:Int)::V.flatMap zx=[q.fn,((V.flatMap zx).length:Int)]++V.flatMap zx from rfl,uI hV (by rfl)]
 ·simp only;omega
theorem znE {q:Req} (hf:q.fn=5) {A:Int} (hA:U16 A) (b:Bool):Yn ⟨q.fn,0,A,0,0,[b],[],0,0,[]⟩ q:=by
 rw [hf]
 refine ⟨hf.symm,ZJ ⟨rfl,rfl,rfl,Yr hA,w0,w0,fun _=>rfl,fun k=>?_,Y71,Y71,Y71⟩,?_,fun _=>?_⟩
 ·exact Y74
 ·have u65:U16 (if [b]=[true] then 65280 else 0):=znZ
  show (⟨5,0,zP (5::(zx A++zx (if [b]=[true] then 65280 else 0))) 1,0,0,[decide (¬ zP (5::(zx A++zx (if [b]=[true] then 65280 else 0))) 3=0)],[],0,0,[]⟩:Rep)=_
  rw [vM hA,YZ u65]
  cases b<;>rfl
 ·simp only;omega
theorem znq {q:Req} (hf:q.fn=6) {A v:Int} (hA:U16 A) (hv:U16 v):Yn ⟨q.fn,0,A,0,0,[],[v],0,0,[]⟩ q:=by
 rw [hf]
 have hV:OkW [v]:=fun x hx=>by rw [List.mem_singleton.1 hx];exact hv
 refine ⟨hf.symm,ZJ ⟨rfl,rfl,rfl,Yr hA,w0,w0,fun k=>?_,fun _=>rfl,Y71,Y71,Y71⟩,?_,fun _=>?_⟩
 ·exact Y74
 ·show (⟨6,0,zP (6::(zx A++[v].flatMap zx)) 1,0,0,[],xl (6::(zx A++[v].flatMap zx)) 3,0,0,[]⟩:Rep)=_
  rw [vM hA,show (6:Int)::(zx A++[v].flatMap zx)=(6::zx A)++[v].flatMap zx from rfl,uI hV (by rfl)]
 ·simp only;omega
theorem zg4 {q:Req} (hf:q.fn=8) {A v:Int} (hA:U16 A) (hv:U16 v):Yn ⟨q.fn,0,0,0,A,[],[v],0,0,[]⟩ q:=by
 rw [hf]
 have hV:OkW [v]:=fun x hx=>by rw [List.mem_singleton.1 hx];exact hv
 refine ⟨hf.symm,ZJ ⟨rfl,rfl,rfl,w0,Yr hA,w0,fun k=>?_,fun _=>rfl,Y71,Y71,Y71⟩,?_,fun _=>?_⟩
 ·exact Y74
 ·show (⟨8,0,0,0,zP (8::(zx A++[v].flatMap zx)) 1,[],xl (8::(zx A++[v].flatMap zx)) 3,0,0,[]⟩:Rep)=_
  rw [vM hA,show (8:Int)::(zx A++[v].flatMap zx)=(8::zx A)++[v].flatMap zx from rfl,uI hV (by rfl)]
 ·simp only;omega
theorem zaw {q:Req} (hf:q.fn=15∨q.fn=16) {A C:Int} (hA:U16 A) (hC:U16 C):Yn ⟨q.fn,0,A,C,0,[],[],0,0,[]⟩ q:=by
 rcases hf with hf | hf
 all_goals
  rw [hf]
  refine ⟨hf.symm,ZJ ⟨rfl,rfl,rfl,Yr hA,w0,Yr hC,fun k=>?_,fun k=>?_,Y71,Y71,Y71⟩,?_,fun _=>?_⟩
  ·exact Y74
  ·exact Y74
 ·show (⟨15,0,zP (15::(zx A++zx C)) 1,zP (15::(zx A++zx C)) 3,0,[],[],0,0,[]⟩:Rep)=_
  rw [vM hA,YZ hC]
 ·simp only;omega
 ·show (⟨16,0,zP (16::(zx A++zx C)) 1,zP (16::(zx A++zx C)) 3,0,[],[],0,0,[]⟩:Rep)=_
  rw [vM hA,YZ hC]
 ·simp only;omega
theorem zmZ {q:Req} (hf:q.fn=17) (a b:Int):Yn ⟨q.fn,0,0,0,0,[],[],0,0,[a,b]⟩ q:=by
 rw [hf]
 refine ⟨hf.symm,ZJ ⟨rfl,rfl,rfl,w0,w0,w0,fun k=>?_,fun k=>?_,Y71,Y71,Y71⟩,rfl,fun _=>?_⟩
 ·exact Y74
 ·exact Y74
 ·simp only;omega
theorem zmu {q:Req} (hf:q.fn=22) {A a o:Int} (hA:U16 A) (ha:U16 a) (ho:U16 o):Yn ⟨q.fn,0,A,0,0,[],[],a,o,[]⟩ q:=by
 rw [hf]
 refine ⟨hf.symm,ZJ ⟨rfl,rfl,rfl,Yr hA,w0,w0,fun k=>?_,fun k=>?_,Y71,Y71,Y71⟩,?_,fun _=>?_⟩
 ·exact Y74
 ·exact Y74
 ·show (⟨22,0,zP (22::(zx A++zx a++zx o)) 1,0,0,[],[],zP (22::(zx A++zx a++zx o)) 3,zP (22::(zx A++zx a++zx o)) 5,[]⟩:Rep)=_
  rw [List.append_assoc,vM hA,Ve ha,zh6 ho]
 ·simp only;omega
end Go.Proofs
namespace Go.Proofs
open Go.PM Go
def Dev.up (D:Dev):Dev:={ D with msgs:=inc D.msgs }
section
variable {D:Dev} {q:Req} (hc:yu q=true)
include hc
end
end Go.Proofs
namespace Go.Proofs
open Go.PM Go
def hd0 (l:List Int):Int:=(l[0]?).getD 0
def wb (b:List Int):(Int × List Int) × Int :=
 if b.length<4 then ((0,[]),13) else if 256<b.length then ((0,[]),3) else match wJ b with
 | none=>((0,[]),14)
 | some x=>if hd0 x<1∨247<hd0 x then ((0,[]),1) else ((hd0 x,x.drop 1),0)
def wN (a:Int) (b:List Int):List Int × Int:=if a<1∨247<a then ([],1) else if b=[] then ([],13) else if 253<b.length then ([],3) else (yU (a::b),0)
def yv (b:List Int):List Int:=(wN 17 b).1
theorem ziR (l:List Int):wJ (yU l)=some l:=by
 have h1:(yU l).length-2=l.length:=by rw [wr];omega
 have h2:(yU l).take l.length=l:=by unfold yU;rw [List.take_append_of_le_length (Nat.le_refl _),List.take_length]
 unfold wJ
 rw [h1,h2,if_pos ⟨by rw [wr];omega,rfl⟩]
theorem Wg {b:List Int} (h1:b≠[]) (h2:b.length≤253):yv b=yU (17::b):=by
 unfold yv wN
 rw [if_neg Y19,if_neg h1,if_neg Y18]
theorem zl3 {p:Prop} (h:p:=by rw [wr,List.length_cons];omega):p:=h
theorem zdv {b:List Int} (h1:b≠[]) (h2:b.length≤253):wb (yv b)=((17,b),0):=by
 have h3:0<b.length:=List.length_pos_iff.2 h1
 rw [Wg h1 h2]
 unfold wb
 rw [if_neg zl3,if_neg zl3,ziR]
 rfl
theorem Yi {b:List Int} (h:OkB b):OkB (yv b):=by
 unfold yv wN
 rw [if_neg Y19]
 split
 ·exact OkB.nil
 ·split
  ·exact OkB.nil
  ·exact zft (OkB.cons Y20 h)
theorem uB (b:List Int):(yv b).length≤256:=by
 unfold yv wN
 rw [if_neg Y19]
 split
 ·simp
 ·split
  ·simp
  ·simp only [wr,List.length_cons];omega
def ZC (l:List Int):List Int:=l.set (l.length-1) (zR .xor .u8 ((l[l.length-1]?).getD 0) 1)
theorem zir {x:Int} (h:U8 x):U8 (zR .xor .u8 x 1)∧zR .xor .u8 x 1≠x:=by
 unfold U8 at h
 obtain ⟨n,rfl⟩:∃ n:Nat,x=n:=⟨x.toNat,(Int.toNat_of_nonneg h.1).symm⟩
 have:∀ m:Fin 256,U8 (zR .xor .u8 ((m.val:Nat):Int) 1)∧zR .xor .u8 ((m.val:Nat):Int) 1≠((m.val:Nat):Int):=by unfold U8;decide +kernel
 exact this ⟨n,Y18⟩
theorem zfK (l:List Int):(ZC l).length=l.length:=by unfold ZC;rw [List.length_set]
theorem zmy {l:List Int} (h:OkB l):OkB (ZC l):=by
 unfold ZC
 intro x hx
 by_cases h0:l=[]
 ·subst h0;cases hx
 ·have hl:l.length-1<l.length:=by have:=List.length_pos_iff.2 h0;omega
  rcases List.mem_or_eq_of_mem_set hx with hx | rfl
  ·exact h x hx
  ·rw [List.getElem?_eq_getElem hl]
   exact (zir (h _ (List.getElem_mem hl))).1
theorem zhR {b:List Int} (hb:OkB b) (h1:b≠[]) (h2:b.length≤253):wb (ZC (yv b))=((0,[]),14):=by
 have h3:0<b.length:=List.length_pos_iff.2 h1
 rw [Wg h1 h2]
 have ho:OkB (17::b):=OkB.cons Y20 hb
 have hl:(yU (17::b)).length-1<(yU (17::b)).length:=by rw [wr];omega
 have hx:=zir (zft ho _ (List.getElem_mem hl))
 have ht:=zek ho hl hx.1 hx.2
 unfold wb
 rw [zfK,if_neg zl3,if_neg zl3]
 have e:ZC (yU (17::b))=(yU (17::b)).set ((yU (17::b)).length-1) (zR .xor .u8 ((yU (17::b))[(yU (17::b)).length-1]'hl) 1):=by
  unfold ZC
  rw [List.getElem?_eq_getElem hl];rfl
 rw [e,ht]
theorem zim {b:List Int} (h:(wb b).2=0):(wb b).1.2≠[]∧(wb b).1.2.length≤253∧∃ x,wJ b=some x∧(wb b).1.2=x.drop 1:=by
 unfold wb at h ⊢
 split at h
 ·cases h
 ·split at h
  ·cases h
  ·rename_i h1 h2
   rw [if_neg h1,if_neg h2]
   cases ho:wJ b with
   | none=>rw [ho] at h;cases h
   | some x =>
     rw [ho] at h
     simp only at h ⊢
     split at h
     ·cases h
     ·rename_i h3
      rw [if_neg h3]
      have hx:x.length=b.length-2:=by
       unfold wJ at ho
       split at ho
       ·cases ho;rw [List.length_take];omega
       ·cases ho
      refine ⟨fun e=>?_,?_,x,rfl,rfl⟩
      ·have:=congrArg List.length e
       simp only [List.length_drop,List.length_nil] at this
       omega
      ·simp only [List.length_drop];omega
theorem ziq {b x:List Int} (hb:OkB b) (h:wJ b=some x):OkB x:=by
 unfold wJ at h
 split at h
 ·cases h;exact fun y hy=>hb y (List.mem_of_mem_take hy)
 ·cases h
theorem zj6 {b:List Int} (hb:OkB b):OkB (wb b).1.2:=by
 unfold wb
 split
 ·exact OkB.nil
 ·split
  ·exact OkB.nil
  ·cases ho:wJ b with
   | none=>exact OkB.nil
   | some x =>
     simp only
     split
     ·exact OkB.nil
     ·exact fun y hy=>ziq hb ho y (List.mem_of_mem_drop hy)
def wx (f:Int) (D:Dev) (p:List Int):List Int × Dev :=
 if f=0 then (yv (xq D p).1,(xq D p).2)
 else if f=1 then ([],D)
 else if f=2 then ([],(xq D p).2)
 else if f=3 then (ZC (yv (xq D p).1),(xq D p).2)
 else (yv (yO (zE ((p[0]?).getD 0) 4)),D)
def uW (f:Int) (D:Dev) (b:List Int):List Int × Dev:=if (wb b).2=0∧(wb b).1.1=17 then wx f D (wb b).1.2 else ([],D)
end Go.Proofs
namespace Go.PM
open Go
section
variable {P:Program} {N:Nat} {k:List KI} {e:Env} {s:St} {rt:Env→St→Prop}
theorem zm.thaw {ops:Array Oper} {l:List Oper} (i id fuel:Nat) {v:PV} (hv:(e.get i).frz false s (fun j=>j != id) fuel=v) (hb:v.blw s.nxt) (h:zm P N ops l k ((i,v)::e) (s.set id none) rt):zm P N ops l k e s rt:=by
 intro ok okk idx hidx g w a hI hE hd hN
 have hX:Ext g w (g.keep s.nxt (fun i=>i != id)) w:=za2 _ (by rw [hI.nxt];exact Nat.le_refl _)
 have hI':Inv P (g.keep s.nxt (fun i=>i != id)) (s.set id none) w:=by
  have:=Yw hI s.nxt (fun i=>i != id) (fun i _ hi=>hI.id_lt hi) (fun i b _ hb=>hI.blw hb)
  have e:s.keep s.nxt (fun i=>i != id)=s.set id none:=by
   simp only [St.keep,St.set,St.mk.injEq,true_and]
   funext i
   by_cases hi:i=id
   ·subst hi;simp
   ·simp [hi]
  rw [e] at this
  exact this
 refine zm.eff.wpOps_lift hX (h ok okk idx hidx _ w a hI' (fun j=>?_) hd hN)
 simp only [Env.get]
 split
 ·rename_i hj
  subst hj
  have:=zlv hI s.nxt false (fun j=>j != id) fuel (e.get j) (a.tmps.getD j undef) (by rw [hv];exact hb) (hE j)
  rw [hv] at this
  exact this
 ·exact Xi hX _ _ (hE j)
end
theorem Vx {s:St} {q:Nat→Bool} {id n:Nat} {t:TypeId} {ik:IntKind} {l:List Int} (hn:n=l.length) (hq:q id=false) (hb:s.blk id=some (.row t (l.map (PV.int ik)))):PV.frz false s q 2 (.own id 0 n)=.sl .unk (l.map (PV.int ik)):=by
 subst hn
 unfold PV.frz
 rw [if_neg (by rw [hq];simp),hb]
 simp only [Nat.zero_add,List.length_map,Nat.le_refl,if_true,List.drop_zero,List.take_length]
 rw [show (l.map (PV.int ik)).take l.length=l.map (PV.int ik) by rw [← List.length_map (f:=PV.int ik),List.take_length],List.map_map]
 congr 1
end Go.PM

import Derived.Test.YtncekipmolecpaaB1
import Derived.Test.YtncekipmolecpaaProg
import Derived.KernelRfl
set_option linter.unusedVariables false
set_option linter.unusedSimpArgs false
namespace Go.PM
open Go
theorem Y139 {p:Prop} (h:p:=by rintro rfl;simp only [g',if_neg j1,if_true] at lj;cases lj):p:=h
theorem resMove_step {P g s w} (h:Inv P g s w) {id r t els} (hb:s.blk id=some (.row t els)) (hr0:s.blk r=some .res) :
  ∃ g',Inv P g' ((s.set id none).set r (some (.row t els))) w∧Ext g w g' w∧g'.rows r=g.rows id∧g'.nxt=s.nxt:=by
 have hlt:id<s.nxt:=h.id_lt (by rw [hb];simp)
 have hrlt:r<s.nxt:=h.id_lt (by rw [hr0];simp)
 have hne:r≠id:=by rintro rfl;rw [hb] at hr0;cases hr0
 have hat:=h.at' id
 rw [hb] at hat
 obtain ⟨ht0,hlv,b,vs,hr,hpos,hrow⟩:=hat
 have hnew:=h.at' r
 rw [hr0] at hnew
 obtain ⟨hn1,hn2,hn3⟩:=hnew
 let g':G:={ nxt:=g.nxt,rows:=upd g.rows r (g.rows id),live:=fun i=>if i=r then true else if i=id then false else g.live i,toks:=g.toks,lim:=g.lim }
 have hisrow:∀ b',g'.isRow b'→g.isRow b':=by
  rintro b' ⟨i,n,e,l⟩
  by_cases h1:i=r
  ·subst h1
   have:g'.rows i=g.rows id:=upd_eq _ _ _
   rw [this] at e
   exact ⟨id,n,e,hlv⟩
  ·have e':g'.rows i=g.rows i:=upd_ne _ _ h1
   rw [e'] at e
   simp only [g',if_neg h1] at l
   split at l
   ·cases l
   ·exact ⟨i,n,e,l⟩
 have x:Ext g w g' w :=
  { os:=rfl,tape:=rfl,output:=rfl,size:=Nat.le_refl _,nxt:=Nat.le_refl _,rd:=fun _ _ _ _ h=>h
    free:=fun b' n _ hf=>⟨fun hk=>hf.1 (hisrow b' hk),hf.2⟩
    same:=fun _ _ _ _=>rfl
    rows:=fun i hi x e=>by
     have hir:i≠r:=by rintro rfl;rw [hn3] at e;cases e
     exact (upd_ne _ _ hir:g'.rows i=g.rows i).trans e
    csz:=fun _ _=>rfl
    toks:=toks_keep (fun _ _=>rfl) (fun _ _ _ _=>rfl) }
 have hrows:∀ i,i≠r→g'.rows i=g.rows i:=fun i hi=>upd_ne _ _ hi
 have hlive:∀ i,i≠r→i≠id→g'.live i=g.live i:=fun i h1 h2=>by simp only [g',if_neg h1,if_neg h2]
 refine ⟨g',?_,x,upd_eq _ _ _,h.nxt⟩
 exact {
  nxt:=h.nxt
  wf:=fun i hi=>by
   have hi:s.nxt≤i:=hi
   show (if i=r then some (Blk.row t els) else if i=id then none else s.blk i)=none
   rw [if_neg Y2,if_neg Y2]
   exact h.wf i hi
  at':=fun i=>by
   show At P g' w i (if i=r then some (.row t els) else if i=id then none else s.blk i)
   by_cases h1:i=r
   ·subst h1
    simp only [if_true,At]
    refine ⟨hn2,by simp [g'],b,vs,by rw [show g'.rows i=g.rows id from upd_eq _ _ _];exact hr,hpos,hrow.1,hrow.2.1,hrow.2.2.1,RA_ext x _ _ hrow.2.2.2⟩
   ·rw [if_neg h1]
    by_cases h2:i=id
    ·subst h2
     simp only [if_true,At]
     exact ⟨by simp only [g',if_neg h1,if_true],ht0⟩
    ·rw [if_neg h2]
     have hi:=h.at' i
     cases hbl:s.blk i with
     | none=>rw [hbl] at hi;simp only [At] at hi ⊢;rw [hlive i h1 h2];exact hi
     | some bl =>
       rw [hbl] at hi
       cases bl with
       | row ty el =>
         obtain ⟨a,al,b',vs',a1,a2,a3,a4,a5,a6⟩:=hi
         exact ⟨a,by rw [hlive i h1 h2];exact al,b',vs',by rw [hrows i h1];exact a1,a2,a3,a4,a5,RA_ext x _ _ a6⟩
       | tok L =>
         obtain ⟨a,b',l,a1,a2,a3,a4⟩:=hi
         exact ⟨by rw [hlive i h1 h2];exact a,b',l,a1,a2,fun hk=>a3 (hisrow b' hk),a4⟩
       | map es =>
         obtain ⟨a,al,b',a1,me,cl,a2,a3,a4⟩:=hi
         exact ⟨a,by rw [hlive i h1 h2];exact al,b',by rw [hrows i h1];exact a1,me,cl,a2,RA_ext x _ _ a3,RA_ext x _ _ a4⟩
       | res=>exact ⟨by rw [hlive i h1 h2];exact hi.1,hi.2.1,by rw [hrows i h1];exact hi.2.2⟩
  inj:=fun i j b' m n li lj hi hj=>by
   by_cases i1:i=r
   ·by_cases j1:j=r
    ·rw [i1,j1]
    ·subst i1
     rw [show g'.rows i=g.rows id from upd_eq _ _ _] at hi
     rw [hrows j j1] at hj
     have j2:j≠id:=Y139
     rw [hlive j j1 j2] at lj
     exact absurd (h.inj j id b' n m lj hlv hj hi) j2
   ·rw [hrows i i1] at hi
    have i2:i≠id:=by rintro rfl;simp only [g',if_neg i1,if_true] at li;cases li
    rw [hlive i i1 i2] at li
    by_cases j1:j=r
    ·subst j1
     rw [show g'.rows j=g.rows id from upd_eq _ _ _] at hj
     exact absurd (h.inj i id b' m n li hlv hi hj) i2
    ·rw [hrows j j1] at hj
     have j2:j≠id:=Y139
     rw [hlive j j1 j2] at lj
     exact h.inj i j b' m n li lj hi hj
  tinj:=h.tinj
  lim:=h.lim
  rlim:=fun i b' n li hi=>by
   obtain ⟨j,m,e,l⟩:=hisrow b' ⟨i,n,hi,li⟩
   exact h.rlim j b' m l e }
theorem row_weaken {P g s w} (h:Inv P g s w) {p t els els'} (hb:s.blk p=some (.row t els)) (hat:At P g w p (some (.row t els'))):Inv P g (s.set p (some (.row t els'))) w:=by
 have hlt:p<s.nxt:=h.id_lt (by rw [hb];simp)
 exact {
  nxt:=h.nxt
  wf:=fun i hi=>by
   have hi:s.nxt≤i:=hi
   show (if i=p then some (Blk.row t els') else s.blk i)=none
   rw [if_neg Y2]
   exact h.wf i hi
  at':=fun i=>by
   show At P g w i (if i=p then some (.row t els') else s.blk i)
   by_cases h1:i=p
   ·subst h1;rw [if_pos rfl];exact hat
   ·rw [if_neg h1];exact h.at' i
  inj:=h.inj
  tinj:=h.tinj
  lim:=h.lim
  rlim:=h.rlim }
theorem clipOwn_run {P g s w t e id off n tyr els a} {k1 k2:IntKind} (h:Inv P g s w) (hx:R g w (.own id off n) a) (htd:td P t=.sl e) (hpos:0<P.cellsOf e) (hb:s.blk id=some (.row tyr els)) (heq:P.cellsOf e=P.cellsOf tyr) :
  ∃ val,(Instr.sliceAt t a none (some (.int k1 n)) (some (.int k2 n))).run P w=.ok val w∧R g w (.own id off n) val:=by
 have hu:=td_slice htd
 simp only [R] at hx
 obtain ⟨h0,b,sz,cap,hr,hcap,rfl,hcs⟩:=hx
 have hat:=h.at' id
 rw [hb] at hat
 obtain ⟨_,_,b',vs,hr',_⟩:=hat
 rw [hr] at hr';cases hr'
 have hbd:=bounds_run (P:=P) (w:=w) (isSlice:=true) (len:=n) (cap:=cap) (lo:=none) (hi:=some (.int k1 n)) (mx:=some (.int k2 n)) (l:=0) (h:=n) (lo':=none) (hi':=some (n:Int)) (mx':=some (n:Int)) rfl ⟨k1,rfl⟩ ⟨k2,rfl⟩ rfl rfl (Int.le_refl _) Y2 (Int.le_refl _) hcap (fun m e=>by cases e;exact ⟨rfl,Y1⟩)
 have run:(Instr.sliceAt t (.slice (some ⟨b,off*P.cellsOf tyr,none⟩) n cap) none (some (.int k1 n)) (some (.int k2 n))).run P w=.ok (.slice (some ⟨b,off*P.cellsOf tyr,none⟩) n n) w:=by
  unfold Instr.sliceAt
  rw [bind_run,underlying_run hu]
  simp only
  unfold Instr.slice
  simp only [bind_run,underlying_run hu,sizeOf_run hpos,hbd,pure_run,Option.map_some,addr_add,Option.getD_some,Int.toNat_natCast,Int.toNat_zero,Nat.zero_mul,Nat.add_zero,Nat.sub_zero,ite_self]
 refine ⟨_,run,?_⟩
 simp only [R]
 exact ⟨h0,b,P.cellsOf tyr,n,hr,Nat.le_refl _,rfl,Nat.le_trans (Nat.mul_le_mul_right _ Y2) hcs⟩
def renC (id r:Nat):PV→PV
 | .own i o n=>if i=id then .own r o n else .own i o n
 | p=>p
def renE (id r:Nat):PV→PV
 | .agg cs=>.agg (cs.map (renC id r))
 | p=>renC id r p
theorem R_renC {g:G} {w:World} {id r:Nat} (h1:g.rows r=g.rows id) (h2:r<g.nxt):∀ (p:PV) (v:Value),R g w p v→R g w (renC id r p) v:=by
 intro p v h
 cases p
 case own i o n =>
  show R g w (if i=id then PV.own r o n else PV.own i o n) v
  by_cases e:i=id
  ·rw [if_pos e]
   subst e
   simp only [R] at h ⊢
   obtain ⟨_,b,sz,cap,q1,q2⟩:=h
   exact ⟨h2,b,sz,cap,h1.trans q1,q2⟩
  ·rw [if_neg e];exact h
 all_goals exact h
theorem RA_renC {g:G} {w:World} {id r:Nat} (h1:g.rows r=g.rows id) (h2:r<g.nxt):∀ (ps:List PV) (vs:List Value),RA g w ps vs→RA g w (ps.map (renC id r)) vs
 | [],vs,h=>by simpa only [List.map_nil] using h
 | p::ps,vs,h=>by
   simp only [List.map_cons,RA] at h ⊢
   obtain ⟨v,l,rfl,q1,q2⟩:=h
   exact ⟨v,l,rfl,R_renC h1 h2 p v q1,RA_renC h1 h2 ps l q2⟩
theorem R_renE {g:G} {w:World} {id r:Nat} (h1:g.rows r=g.rows id) (h2:r<g.nxt) (p:PV) (v:Value) (h:R g w p v):R g w (renE id r p) v:=by
 cases p
 case agg cs =>
  simp only [renE,R] at h ⊢
  obtain ⟨a,rfl,q1,q2⟩:=h
  exact ⟨a,rfl,q1,RA_renC h1 h2 cs _ q2⟩
 all_goals exact R_renC h1 h2 _ v h
theorem RA_renE {g:G} {w:World} {id r:Nat} (h1:g.rows r=g.rows id) (h2:r<g.nxt):∀ (ps:List PV) (vs:List Value),RA g w ps vs→RA g w (ps.map (renE id r)) vs
 | [],vs,h=>by simpa only [List.map_nil] using h
 | p::ps,vs,h=>by
   simp only [List.map_cons,RA] at h ⊢
   obtain ⟨v,l,rfl,q1,q2⟩:=h
   exact ⟨v,l,rfl,R_renE h1 h2 p v q1,RA_renE h1 h2 ps l q2⟩
section
variable {P:Program} {N:Nat} {k:List KI} {e:Env} {s:St} {rt:Env→St→Prop}
theorem Run.moveB {c:Code} (p id r:Nat) {t t2:TypeId} {els els2:List PV} (hb:s.blk id=some (.row t els)) (hr:s.blk r=some .res) (hp:s.blk p=some (.row t2 els2)) (hpi:p≠id) (hpr:p≠r)
  (h:∀ S,S=((s.set id none).set r (some (.row t els))).set p (some (.row t2 (els2.map (renE id r))))→Run P N (.code c::k) e S rt):Run P N (.code c::k) e s rt:=by
 intro ok
 have h:=h _ rfl ok
 intro oc g w a hI hE hd hN
 obtain ⟨g',hI',hX,hrr,hnx⟩:=resMove_step hI hb hr
 have hrlt:r<s.nxt:=hI.id_lt (by rw [hr];simp)
 have hp':((s.set id none).set r (some (.row t els))).blk p=some (.row t2 els2):=by
  show (if p=r then _ else if p=id then none else s.blk p)=_
  rw [if_neg hpr,if_neg hpi];exact hp
 have hat:=hI'.at' p
 rw [hp'] at hat
 obtain ⟨c1,c2,b,vs,c3,c4,c5,c6,c7,hra⟩:=hat
 have hrows:g'.rows r=g'.rows id:=by
  obtain ⟨_,_,b0,vs0,e0,_⟩:=(hb ▸ hI.at' id:At P g w id (some (.row t els)))
  have hid:id<g.nxt:=by rw [hI.nxt];exact hI.id_lt (by rw [hb];simp)
  rw [hrr,e0,hX.rows id hid _ e0]
 have hI2:=row_weaken (els':=els2.map (renE id r)) hI' hp' ⟨c1,c2,b,vs,c3,c4,c5,c6,c7,RA_renE hrows Y2 els2 vs hra⟩
 exact wp_mono (h oc _ w a hI2 (fun j=>R_ext hX _ _ (hE j)) hd hN) fun _ _ _=>Lift.trans hX
theorem slice3_exec {P:Program} {w:World} {a:Act} {o:Oper} {t:TypeId} {x y z:Operand} {val:Value} (hop:o.op=.slice t x none (some y) (some z))
  (h:(Instr.sliceAt t (a.eval x) none (some (a.eval y)) (some (a.eval z))).run P w=.ok val w):(execOp a.eval o).run P w=.ok (.value val) w:=by
 unfold execOp
 rw [hop]
 simp only [Option.map_some,Option.map_none]
 rw [bind_run,h]
 rfl
theorem RunO.clipOwn {ops:Array Oper} {d:Option Nat} {x y z:Operand} {t ty:TypeId} {pos:String} {af:Array Edge} {gd:Option (Nat × Bool)} {l:List Oper} {el tyr:TypeId} {id off n:Nat} {els:List PV} {k1 k2:IntKind}
  (hg:guard? ops ⟨d,.slice t x none (some y) (some z),ty,pos,af,gd⟩ e=some true) (hx:ev e x=.own id off n) (hy:ev e y=.int k1 n) (hz:ev e z=.int k2 n) (htd:td P t=.sl el) (hpos:0<P.cellsOf el) (hb:s.blk id=some (.row tyr els)) (heq:P.cellsOf el=P.cellsOf tyr)
  (h:RunO P N ops l k (e.put d (.own id off n)) s rt):RunO P N ops (⟨d,.slice t x none (some y) (some z),ty,pos,af,gd⟩::l) k e s rt:=by
 refine RunO.eff hg (fun g w a hI hE=>?_) h
 have e1:=ev_R hE x
 have e2:=ev_R hE y
 have e3:=ev_R hE z
 rw [hx] at e1
 rw [hy] at e2
 rw [hz] at e3
 simp only [R] at e2 e3
 obtain ⟨val,r1,r2⟩:=clipOwn_run (k1:=k1) (k2:=k2) hI e1 htd hpos hb heq
 exact ⟨val,w,g,.inl (slice3_exec rfl (by rw [e2,e3];exact r1)),hI,Ext.refl _ _,r2⟩
theorem RunO.move {ops:Array Oper} {l:List Oper} (i id r:Nat) {off n:Nat} {t:TypeId} {els:List PV} (hv:e.get i=.own id off n) (hb:s.blk id=some (.row t els)) (hr:s.blk r=some .res)
  (h:RunO P N ops l k ((i,.own r off n)::e) ((s.set id none).set r (some (.row t els))) rt):RunO P N ops l k e s rt:=by
 intro ok okk idx hidx g w a hI hE hd hN
 obtain ⟨g',hI',hX,hrr,hnx⟩:=resMove_step hI hb hr
 have hrlt:r<s.nxt:=hI.id_lt (by rw [hr];simp)
 refine RunO.eff.wpOps_lift hX (h ok okk idx hidx _ w a hI' (fun j=>?_) hd hN)
 simp only [Env.get]
 split
 ·rename_i hj
  subst hj
  have:=hE j
  rw [hv] at this
  simp only [R] at this ⊢
  obtain ⟨_,b,sz,cap,q1,q2⟩:=this
  exact ⟨Y2,b,sz,cap,hrr.trans q1,q2⟩
 ·exact R_ext hX _ _ (hE j)
theorem Run.thawB {c:Code} (p id fuel:Nat) {t:TypeId} {els els':List PV} (hb:s.blk p=some (.row t els)) (hp:p≠id) (hv:els.map (PV.frz false s (fun j=>j != id) fuel)=els') (hbl:PV.blws s.nxt els')
  (h:Run P N (.code c::k) e ((s.set id none).set p (some (.row t els'))) rt):Run P N (.code c::k) e s rt:=by
 intro ok
 have h:=h ok
 intro oc g w a hI hE hd hN
 have hX:Ext g w (g.keep s.nxt (fun i=>i != id)) w:=keep_ext _ (by rw [hI.nxt];exact Nat.le_refl _)
 have hI':Inv P (g.keep s.nxt (fun i=>i != id)) (s.set id none) w:=by
  have:=keep_inv hI s.nxt (fun i=>i != id) (fun i _ hi=>hI.id_lt hi) (fun i b _ hb=>hI.blw hb)
  have e:s.keep s.nxt (fun i=>i != id)=s.set id none:=by
   simp only [St.keep,St.set,St.mk.injEq,true_and]
   funext i
   by_cases hi:i=id
   ·subst hi;simp
   ·simp [hi]
  rw [e] at this
  exact this
 have hat:=hI.at' p
 rw [hb] at hat
 obtain ⟨c1,c2,b,vs,c3,c4,c5,c6,c7,hra⟩:=hat
 have hb':(s.set id none).blk p=some (.row t els):=by
  show (if p=id then none else s.blk p)=_
  rw [if_neg hp];exact hb
 have hI2:=row_weaken (els':=els') hI' hb' ⟨by simp only [G.keep];split;exact c1;rfl,by simp only [G.keep,c2,Bool.and_true];simpa using hp,b,vs,c3,c4,c5,c6,c7,by
  subst hv
  exact RA_frz_map (fun p v=>R_frz hI s.nxt false (fun j=>j != id) fuel p v) els vs hbl hra⟩
 exact wp_mono (h oc _ w a hI2 (fun j=>R_ext hX _ _ (hE j)) hd hN) fun _ _ _=>Lift.trans hX
end
end Go.PM
namespace Go.Proofs
open Go.PM
theorem Y36 {p:Prop} (h:p:=by kernel_rfl):p:=h
@[go_sem] theorem Try.td3:td Try.prog 3=TD.int Go.IntKind.i64:=Y36
@[go_sem] theorem Try.cz3:Try.prog.cellsOf 3=1:=Y36
@[go_sem] theorem Try.by3:Try.prog.bytesOf 3=8:=Y36
@[go_sem] theorem Try.ag3:aggO Try.prog 3=some false:=Y36
@[go_sem] theorem Try.zp3:zpv Try.prog 3=some (PV.int Go.IntKind.i64 (0)):=Y36
@[go_sem] theorem Try.td4:td Try.prog 4=TD.bool:=Y36
@[go_sem] theorem Try.cz4:Try.prog.cellsOf 4=1:=Y36
@[go_sem] theorem Try.by4:Try.prog.bytesOf 4=1:=Y36
@[go_sem] theorem Try.ag4:aggO Try.prog 4=some false:=Y36
@[go_sem] theorem Try.zp4:zpv Try.prog 4=some (PV.bool false):=Y36
@[go_sem] theorem Try.td22:td Try.prog 22=TD.sl 43:=Y36
@[go_sem] theorem Try.cz22:Try.prog.cellsOf 22=1:=Y36
@[go_sem] theorem Try.by22:Try.prog.bytesOf 22=24:=Y36
@[go_sem] theorem Try.ag22:aggO Try.prog 22=some false:=Y36
@[go_sem] theorem Try.zp22:zpv Try.prog 22=some (PV.sl SK.nil []):=Y36
@[go_sem] theorem Try.td24:td Try.prog 24=TD.struct [(0,1,some false),(1,1,some false)]:=Y36
@[go_sem] theorem Try.cz24:Try.prog.cellsOf 24=2:=Y36
@[go_sem] theorem Try.by24:Try.prog.bytesOf 24=32:=Y36
@[go_sem] theorem Try.ag24:aggO Try.prog 24=some true:=Y36
@[go_sem] theorem Try.zp24:zpv Try.prog 24=some (PV.agg [PV.int Go.IntKind.i64 (0),PV.sl SK.nil []]):=Y36
@[go_sem] theorem Try.sp24:splaces Try.prog 24=some [(0,1),(1,1)]:=Y36
@[go_sem] theorem Try.fs24:flatStruct Try.prog 24=some [TD.int Go.IntKind.i64,TD.sl 43]:=Y36
@[go_sem] theorem Try.td25:td Try.prog 25=TD.ptr 29:=Y36
@[go_sem] theorem Try.cz25:Try.prog.cellsOf 25=1:=Y36
@[go_sem] theorem Try.by25:Try.prog.bytesOf 25=8:=Y36
@[go_sem] theorem Try.ag25:aggO Try.prog 25=some false:=Y36
@[go_sem] theorem Try.zp25:zpv Try.prog 25=some PV.nilp:=Y36
@[go_sem] theorem Try.td26:td Try.prog 26=TD.sl 3:=Y36
@[go_sem] theorem Try.cz26:Try.prog.cellsOf 26=1:=Y36
@[go_sem] theorem Try.by26:Try.prog.bytesOf 26=24:=Y36
@[go_sem] theorem Try.ag26:aggO Try.prog 26=some false:=Y36
@[go_sem] theorem Try.zp26:zpv Try.prog 26=some (PV.sl SK.nil []):=Y36
@[go_sem] theorem Try.td29:td Try.prog 29=TD.struct [(0,1,some false),(1,1,some false)]:=Y36
@[go_sem] theorem Try.cz29:Try.prog.cellsOf 29=2:=Y36
@[go_sem] theorem Try.by29:Try.prog.bytesOf 29=32:=Y36
@[go_sem] theorem Try.ag29:aggO Try.prog 29=some true:=Y36
@[go_sem] theorem Try.zp29:zpv Try.prog 29=some (PV.agg [PV.sl SK.nil [],PV.int Go.IntKind.i64 (0)]):=Y36
@[go_sem] theorem Try.sp29:splaces Try.prog 29=some [(0,1),(1,1)]:=Y36
@[go_sem] theorem Try.fs29:flatStruct Try.prog 29=some [TD.sl 3,TD.int Go.IntKind.i64]:=Y36
@[go_sem] theorem Try.td37:td Try.prog 37=TD.map 46 3:=Y36
@[go_sem] theorem Try.cz37:Try.prog.cellsOf 37=1:=Y36
@[go_sem] theorem Try.by37:Try.prog.bytesOf 37=8:=Y36
@[go_sem] theorem Try.ag37:aggO Try.prog 37=some false:=Y36
@[go_sem] theorem Try.zp37:zpv Try.prog 37=some PV.nilm:=Y36
@[go_sem] theorem Try.td38:td Try.prog 38=TD.map 3 3:=Y36
@[go_sem] theorem Try.cz38:Try.prog.cellsOf 38=1:=Y36
@[go_sem] theorem Try.by38:Try.prog.bytesOf 38=8:=Y36
@[go_sem] theorem Try.ag38:aggO Try.prog 38=some false:=Y36
@[go_sem] theorem Try.zp38:zpv Try.prog 38=some PV.nilm:=Y36
@[go_sem] theorem Try.td39:td Try.prog 39=TD.int Go.IntKind.u32:=Y36
@[go_sem] theorem Try.cz39:Try.prog.cellsOf 39=1:=Y36
@[go_sem] theorem Try.by39:Try.prog.bytesOf 39=4:=Y36
@[go_sem] theorem Try.ag39:aggO Try.prog 39=some false:=Y36
@[go_sem] theorem Try.zp39:zpv Try.prog 39=some (PV.int Go.IntKind.u32 (0)):=Y36
@[go_sem] theorem Try.td40:td Try.prog 40=TD.sl 45:=Y36
@[go_sem] theorem Try.cz40:Try.prog.cellsOf 40=1:=Y36
@[go_sem] theorem Try.by40:Try.prog.bytesOf 40=24:=Y36
@[go_sem] theorem Try.ag40:aggO Try.prog 40=some false:=Y36
@[go_sem] theorem Try.zp40:zpv Try.prog 40=some (PV.sl SK.nil []):=Y36
@[go_sem] theorem Try.td41:td Try.prog 41=TD.sl 48:=Y36
@[go_sem] theorem Try.cz41:Try.prog.cellsOf 41=1:=Y36
@[go_sem] theorem Try.by41:Try.prog.bytesOf 41=24:=Y36
@[go_sem] theorem Try.ag41:aggO Try.prog 41=some false:=Y36
@[go_sem] theorem Try.zp41:zpv Try.prog 41=some (PV.sl SK.nil []):=Y36
@[go_sem] theorem Try.td43:td Try.prog 43=TD.struct [(0,1,some false),(1,1,some false),(2,1,some false),(3,1,some false),(4,1,some false)]:=Y36
@[go_sem] theorem Try.cz43:Try.prog.cellsOf 43=5:=Y36
@[go_sem] theorem Try.by43:Try.prog.bytesOf 43=72:=Y36
@[go_sem] theorem Try.ag43:aggO Try.prog 43=some true:=Y36
@[go_sem] theorem Try.zp43:zpv Try.prog 43=some (PV.agg [PV.int Go.IntKind.i64 (0),PV.int Go.IntKind.u32 (0),PV.int Go.IntKind.i64 (0),PV.sl SK.nil [],PV.sl SK.nil []]):=Y36
@[go_sem] theorem Try.sp43:splaces Try.prog 43=some [(0,1),(1,1),(2,1),(3,1),(4,1)]:=Y36
@[go_sem] theorem Try.fs43:flatStruct Try.prog 43=some [TD.int Go.IntKind.i64,TD.int Go.IntKind.u32,TD.int Go.IntKind.i64,TD.sl 45,TD.sl 48]:=Y36
@[go_sem] theorem Try.td45:td Try.prog 45=TD.struct [(0,1,some false),(1,1,some false),(2,1,some false),(3,1,some false)]:=Y36
@[go_sem] theorem Try.cz45:Try.prog.cellsOf 45=4:=Y36
@[go_sem] theorem Try.by45:Try.prog.bytesOf 45=32:=Y36
@[go_sem] theorem Try.ag45:aggO Try.prog 45=some true:=Y36
@[go_sem] theorem Try.zp45:zpv Try.prog 45=some (PV.agg [PV.int Go.IntKind.i64 (0),PV.int Go.IntKind.i64 (0),PV.int Go.IntKind.i64 (0),PV.int Go.IntKind.i64 (0)]):=Y36
@[go_sem] theorem Try.sp45:splaces Try.prog 45=some [(0,1),(1,1),(2,1),(3,1)]:=Y36
@[go_sem] theorem Try.fs45:flatStruct Try.prog 45=some [TD.int Go.IntKind.i64,TD.int Go.IntKind.i64,TD.int Go.IntKind.i64,TD.int Go.IntKind.i64]:=Y36
@[go_sem] theorem Try.td46:td Try.prog 46=TD.arr 2 3:=Y36
@[go_sem] theorem Try.cz46:Try.prog.cellsOf 46=2:=Y36
@[go_sem] theorem Try.by46:Try.prog.bytesOf 46=16:=Y36
@[go_sem] theorem Try.ag46:aggO Try.prog 46=some true:=Y36
@[go_sem] theorem Try.zp46:zpv Try.prog 46=some (PV.agg [PV.int Go.IntKind.i64 (0),PV.int Go.IntKind.i64 (0)]):=Y36
@[go_sem] theorem Try.td48:td Try.prog 48=TD.struct [(0,1,some false),(1,1,some false)]:=Y36
@[go_sem] theorem Try.cz48:Try.prog.cellsOf 48=2:=Y36
@[go_sem] theorem Try.by48:Try.prog.bytesOf 48=16:=Y36
@[go_sem] theorem Try.ag48:aggO Try.prog 48=some true:=Y36
@[go_sem] theorem Try.zp48:zpv Try.prog 48=some (PV.agg [PV.int Go.IntKind.i64 (0),PV.int Go.IntKind.i64 (0)]):=Y36
@[go_sem] theorem Try.sp48:splaces Try.prog 48=some [(0,1),(1,1)]:=Y36
@[go_sem] theorem Try.fs48:flatStruct Try.prog 48=some [TD.int Go.IntKind.i64,TD.int Go.IntKind.i64]:=Y36
@[go_sem] theorem Try.td51:td Try.prog 51=TD.fn:=Y36
@[go_sem] theorem Try.cz51:Try.prog.cellsOf 51=1:=Y36
@[go_sem] theorem Try.by51:Try.prog.bytesOf 51=8:=Y36
@[go_sem] theorem Try.ag51:aggO Try.prog 51=some false:=Y36
@[go_sem] theorem Try.zp51:zpv Try.prog 51=some PV.nilf:=Y36
@[go_sem] theorem Try.td54:td Try.prog 54=TD.int Go.IntKind.u64:=Y36
@[go_sem] theorem Try.cz54:Try.prog.cellsOf 54=1:=Y36
@[go_sem] theorem Try.by54:Try.prog.bytesOf 54=8:=Y36
@[go_sem] theorem Try.ag54:aggO Try.prog 54=some false:=Y36
@[go_sem] theorem Try.zp54:zpv Try.prog 54=some (PV.int Go.IntKind.u64 (0)):=Y36
@[go_sem] theorem Try.td56:td Try.prog 56=TD.int Go.IntKind.i64:=Y36
@[go_sem] theorem Try.cz56:Try.prog.cellsOf 56=1:=Y36
@[go_sem] theorem Try.by56:Try.prog.bytesOf 56=8:=Y36
@[go_sem] theorem Try.ag56:aggO Try.prog 56=some false:=Y36
@[go_sem] theorem Try.zp56:zpv Try.prog 56=some (PV.int Go.IntKind.i64 (0)):=Y36
@[go_sem] theorem Try.td66:td Try.prog 66=TD.arr 4 3:=Y36
@[go_sem] theorem Try.cz66:Try.prog.cellsOf 66=4:=Y36
@[go_sem] theorem Try.by66:Try.prog.bytesOf 66=32:=Y36
@[go_sem] theorem Try.ag66:aggO Try.prog 66=some true:=Y36
@[go_sem] theorem Try.zp66:zpv Try.prog 66=some (PV.agg [PV.int Go.IntKind.i64 (0),PV.int Go.IntKind.i64 (0),PV.int Go.IntKind.i64 (0),PV.int Go.IntKind.i64 (0)]):=Y36
@[go_sem] theorem Try.td71:td Try.prog 71=TD.fn:=Y36
@[go_sem] theorem Try.cz71:Try.prog.cellsOf 71=1:=Y36
@[go_sem] theorem Try.by71:Try.prog.bytesOf 71=8:=Y36
@[go_sem] theorem Try.ag71:aggO Try.prog 71=some false:=Y36
@[go_sem] theorem Try.zp71:zpv Try.prog 71=some PV.nilf:=Y36
@[go_sem] theorem Try.td76:td Try.prog 76=TD.struct [(0,1,some false),(1,1,some false)]:=Y36
@[go_sem] theorem Try.cz76:Try.prog.cellsOf 76=2:=Y36
@[go_sem] theorem Try.by76:Try.prog.bytesOf 76=16:=Y36
@[go_sem] theorem Try.ag76:aggO Try.prog 76=some true:=Y36
@[go_sem] theorem Try.zp76:zpv Try.prog 76=some (PV.agg [PV.int Go.IntKind.i64 (0),PV.int Go.IntKind.i64 (0)]):=Y36
@[go_sem] theorem Try.sp76:splaces Try.prog 76=some [(0,1),(1,1)]:=Y36
@[go_sem] theorem Try.fs76:flatStruct Try.prog 76=some [TD.int Go.IntKind.i64,TD.int Go.IntKind.i64]:=Y36
@[go_sem] theorem Try.td78:td Try.prog 78=TD.fn:=Y36
@[go_sem] theorem Try.cz78:Try.prog.cellsOf 78=1:=Y36
@[go_sem] theorem Try.by78:Try.prog.bytesOf 78=8:=Y36
@[go_sem] theorem Try.ag78:aggO Try.prog 78=some false:=Y36
@[go_sem] theorem Try.zp78:zpv Try.prog 78=some PV.nilf:=Y36
@[go_sem] theorem Try.td80:td Try.prog 80=TD.fn:=Y36
@[go_sem] theorem Try.cz80:Try.prog.cellsOf 80=1:=Y36
@[go_sem] theorem Try.by80:Try.prog.bytesOf 80=8:=Y36
@[go_sem] theorem Try.ag80:aggO Try.prog 80=some false:=Y36
@[go_sem] theorem Try.zp80:zpv Try.prog 80=some PV.nilf:=Y36
@[go_sem] theorem Try.td91:td Try.prog 91=TD.struct [(0,1,some false),(1,1,some false)]:=Y36
@[go_sem] theorem Try.cz91:Try.prog.cellsOf 91=2:=Y36
@[go_sem] theorem Try.by91:Try.prog.bytesOf 91=16:=Y36
@[go_sem] theorem Try.ag91:aggO Try.prog 91=some true:=Y36
@[go_sem] theorem Try.zp91:zpv Try.prog 91=some (PV.agg [PV.int Go.IntKind.i64 (0),PV.int Go.IntKind.i64 (0)]):=Y36
@[go_sem] theorem Try.sp91:splaces Try.prog 91=some [(0,1),(1,1)]:=Y36
@[go_sem] theorem Try.fs91:flatStruct Try.prog 91=some [TD.int Go.IntKind.i64,TD.int Go.IntKind.i64]:=Y36
@[go_sem] theorem Try.td2:td Try.prog 2=TD.int Go.IntKind.i64:=Y36
@[go_sem] theorem Try.cz2:Try.prog.cellsOf 2=1:=Y36
@[go_sem] theorem Try.by2:Try.prog.bytesOf 2=8:=Y36
@[go_sem] theorem Try.ag2:aggO Try.prog 2=some false:=Y36
@[go_sem] theorem Try.zp2:zpv Try.prog 2=some (PV.int Go.IntKind.i64 (0)):=Y36
@[go_sem] theorem Try.cb2:callable Try.prog 2=true:=Y36
@[go_sem] theorem Try.cb3:callable Try.prog 3=true:=Y36
@[go_sem] theorem Try.cb4:callable Try.prog 4=true:=Y36
@[go_sem] theorem Try.cb5:callable Try.prog 5=true:=Y36
@[go_sem] theorem Try.cb6:callable Try.prog 6=true:=Y36
@[go_sem] theorem Try.cb7:callable Try.prog 7=true:=Y36
@[go_sem] theorem Try.cb8:callable Try.prog 8=true:=Y36
@[go_sem] theorem Try.cb9:callable Try.prog 9=true:=Y36
@[go_sem] theorem Try.cb10:callable Try.prog 10=true:=Y36
@[go_sem] theorem Try.cb11:callable Try.prog 11=true:=Y36
@[go_sem] theorem Try.cb12:callable Try.prog 12=true:=Y36
@[go_sem] theorem Try.cb13:callable Try.prog 13=true:=Y36
@[go_sem] theorem Try.cb14:callable Try.prog 14=true:=Y36
@[go_sem] theorem Try.cb15:callable Try.prog 15=true:=Y36
@[go_sem] theorem Try.cb16:callable Try.prog 16=true:=Y36
@[go_sem] theorem Try.cb17:callable Try.prog 17=true:=Y36
@[go_sem] theorem Try.cb18:callable Try.prog 18=true:=Y36
@[go_sem] theorem Try.cb19:callable Try.prog 19=true:=Y36
@[go_sem] theorem Try.cb20:callable Try.prog 20=true:=Y36
@[go_sem] theorem Try.cb21:callable Try.prog 21=true:=Y36
@[go_sem] theorem Try.cb22:callable Try.prog 22=true:=Y36
@[go_sem] theorem Try.cb23:callable Try.prog 23=true:=Y36
@[go_sem] theorem Try.cb24:callable Try.prog 24=true:=Y36
@[go_sem] theorem Try.cb25:callable Try.prog 25=true:=Y36
@[go_sem] theorem Try.cb26:callable Try.prog 26=true:=Y36
@[go_sem] theorem Try.cb27:callable Try.prog 27=true:=Y36
@[go_sem] theorem Try.cb28:callable Try.prog 28=true:=Y36
@[go_sem] theorem Try.cb29:callable Try.prog 29=true:=Y36
@[go_sem] theorem Try.cb30:callable Try.prog 30=true:=Y36
@[go_sem] theorem Try.cb31:callable Try.prog 31=true:=Y36
@[go_sem] theorem Try.cb32:callable Try.prog 32=true:=Y36
@[go_sem] theorem Try.cb33:callable Try.prog 33=true:=Y36
@[go_sem] theorem Try.cb34:callable Try.prog 34=true:=Y36
@[go_sem] theorem Try.cb35:callable Try.prog 35=true:=Y36
@[go_sem] theorem Try.cb36:callable Try.prog 36=true:=Y36
@[go_sem] theorem Try.cb37:callable Try.prog 37=true:=Y36
@[go_sem] theorem Try.cb38:callable Try.prog 38=true:=Y36
@[go_sem] theorem Try.cb39:callable Try.prog 39=true:=Y36
@[go_sem] theorem Try.cb40:callable Try.prog 40=true:=Y36
@[go_sem] theorem Try.cb41:callable Try.prog 41=true:=Y36
@[go_sem] theorem Try.cb42:callable Try.prog 42=true:=Y36
@[go_sem] theorem Try.cb43:callable Try.prog 43=true:=Y36
@[go_sem] theorem Try.cb44:callable Try.prog 44=true:=Y36
@[go_sem] theorem Try.cb45:callable Try.prog 45=true:=Y36
@[go_sem] theorem Try.cb46:callable Try.prog 46=true:=Y36
@[go_sem] theorem Try.cb47:callable Try.prog 47=true:=Y36
@[go_sem] theorem Try.cb48:callable Try.prog 48=true:=Y36
@[go_sem] theorem Try.cb49:callable Try.prog 49=true:=Y36
@[go_sem] theorem Try.cb50:callable Try.prog 50=true:=Y36
@[go_sem] theorem Try.cb51:callable Try.prog 51=true:=Y36
@[go_sem] theorem Try.cb52:callable Try.prog 52=true:=Y36
@[go_sem] theorem Try.cb53:callable Try.prog 53=true:=Y36
@[go_sem] theorem Try.cb54:callable Try.prog 54=true:=Y36
@[go_sem] theorem Try.cb55:callable Try.prog 55=true:=Y36
@[go_sem] theorem Try.cb56:callable Try.prog 56=true:=Y36
@[go_sem] theorem Try.cb57:callable Try.prog 57=true:=Y36
@[go_sem] theorem Try.cb58:callable Try.prog 58=true:=Y36
@[go_sem] theorem Try.cb59:callable Try.prog 59=true:=Y36
@[go_sem] theorem Try.cb60:callable Try.prog 60=true:=Y36
@[go_sem] theorem Try.cb61:callable Try.prog 61=true:=Y36
@[go_sem] theorem Try.cb62:callable Try.prog 62=true:=Y36
@[go_sem] theorem Try.cb63:callable Try.prog 63=true:=Y36
@[go_sem] theorem Try.cb64:callable Try.prog 64=true:=Y36
@[go_sem] theorem Try.cb65:callable Try.prog 65=true:=Y36
@[go_sem] theorem Try.cb66:callable Try.prog 66=true:=Y36
theorem Try.mixed:Try.prog.follows .mixedOrders=true:=Y36
end Go.Proofs
namespace Go.Proofs
open Go.PM
set_option maxHeartbeats 2000000
theorem span_Right {a:Sp} {most:Int} (ha:a.ok) (hm:0≤most∧most≤4611686018427387904) {s:St}:ACalls Try.prog 41 [a.pv,.int .i64 most] s (fun r s'=>r=.bool (spRight a most)∧s'=s):=by
 refine go Try.func41 (k:=fun hwf H=>?_)
 refine rs (k:=rg [1,2] (k:=rs (k:=rg [4] (k:=rR (k:=rP (by simp only [Try.f41,go_sem];rfl) hwf ⟨?_,rfl⟩)))))
 simp only [spRight]
 have hw:0≤a.pos→a.pos≤most→IntKind.i64.wrap (most-a.pos)=most-a.pos:=fun h h'=>wrap_i64 Y32
 by_cases h1:0≤a.pos<;>by_cases h2:1≤a.cnt<;>by_cases h3:a.pos≤most<;>simp [h1,h2,h3,PV.weak]
 rw [hw h1 h3]
theorem span_right {a:Sp} (ha:a.ok) {s:St}:ACalls Try.prog 64 [a.pv] s (fun r s'=>r=.bool (spRight a great)∧s'=s):=by
 refine go Try.func64 (k:=fun hwf H=>?_)
 refine rs (k:=rg [1] (k:=rs (k:=rr (k:=ro (pre:=[_]) (k:=rC (h:=span_Right (a:=a) ha Y34) (k:=rh [2] (k:=rR (k:=rP (by simp only [Try.f64,go_sem];rfl) hwf ⟨?_,rfl⟩))))))))
 rfl
theorem span_end {a:Sp} {s:St}:ACalls Try.prog 65 [a.pv] s (fun r s'=>r=.int .i64 (IntKind.i64.wrap (a.pos+a.cnt))∧s'=s):=by
 refine go Try.func65 (k:=fun hwf H=>?_)
 refine rs (k:=rg [1] (k:=rs (k:=rg [2] (k:=rR (k:=rP (by simp only [Try.f65,go_sem];rfl) hwf ⟨?_,rfl⟩)))))
 rfl
theorem span_Meet {a b:Sp} (ha:a.ok) (hb:b.ok) {s:St}:ACalls Try.prog 55 [a.pv,b.pv] s (fun r s'=>r=.tuple [(spMeet a b).pv,.bool (spMeets a b)]∧s'=s):=by
 refine go Try.func55 (k:=fun hwf H=>?_)
 refine rs (k:=rg [2,3,4] (k:=rs (k:=rg [2,3,4,6] (k:=rs (k:=rs (k:=rr (k:=ro (pre:=[_]) (k:=rC (h:=span_right (a:=a) ha) (k:=ro (pre:=[_,_]) (k:=rQ 16 (ht:=fun hg3=>?_) (hf:=fun hg3=>?_)))))))))))
 refine rg0 (k:=rg0 (k:=rg0 (k:=rh [2,3,4,6,20] (k:=rc (ht:=fun hc0=>?_) (hf:=fun hc0=>?_)))))
 refine jO 1 ?_;rotate_left
 ·cases hc0
 refine rg1 (k:=rC (h:=span_right (a:=b) hb) (k:=rg1 (k:=rh [2,3,4,6,20] (k:=rc (ht:=fun hc0=>?_) (hf:=fun hc0=>?_)))))
 refine jO 1 ?_;rotate_left
 refine rk (k:=rs (k:=rs (k:=?_)))
 refine Run.drawC [] [4,6,7] Try.mixed Y36 ?_
 refine DetC.pre (pre:=[_]) au ?_
 refine DetC.call au au au Y36 (span_end (a:=a)) ?_
 refine DetC.pre (pre:=[_]) au ?_
 refine DetC.call au au au Y36 (span_end (a:=b)) ?_
 refine DetC.all au ?_
 refine re (k:=rs (k:=rg [4,6,7,29] (k:=rc (ht:=fun hc1=>?_) (hf:=fun hc1=>?_))))
 refine jO 1 ?_;rotate_left
 refine rk (k:=rs (k:=rg [4,5] (k:=rR (k:=rP (by simp only [Try.f55,go_sem];rfl) hwf ⟨?_,rfl⟩))))
 refine jO 2 ?_;rotate_left
 any_goals
  refine jI 1 ?_
  refine rs (k:=rg [4,5] (k:=rR (k:=rP (by simp only [Try.f55,go_sem];rfl) hwf ⟨?_,rfl⟩)))
  refine jO 2 ?_;rotate_left
 any_goals
  refine jI 2 ?_
  first
   |(have h:=spMeets_l (b:=b) hg3
     rw [h.1,h.2];rfl)
   |(have h:=spMeets_r (a:=a) hc0
     rw [h.1,h.2];rfl)
   |(have h:=spMeets_not hg3 hc0 hc1
     rw [h.1,h.2];rfl)
   |(have h:=spMeets_yes hg3 hc0 hc1
     rw [h.1,h.2];rfl)
end Go.Proofs
namespace Go.Proofs
open Go.PM
set_option maxHeartbeats 2000000
theorem window_virtual {w:Win} {s:St}:ACalls Try.prog 53 [w.pv] s (fun r s'=>r=w.v.pv∧s'=s):=by
 refine go Try.func53 (k:=fun hwf H=>?_)
 refine rs (k:=rg [1,2] (k:=rs (k:=rg [2] (k:=rR (k:=rP (by simp only [Try.f53,go_sem];rfl) hwf ⟨?_,rfl⟩)))))
 rfl
theorem window_physical {w:Win} {s:St}:ACalls Try.prog 54 [w.pv] s (fun r s'=>r=w.p.pv∧s'=s):=by
 refine go Try.func54 (k:=fun hwf H=>?_)
 refine rs (k:=rg [1,2] (k:=rs (k:=rg [2] (k:=rR (k:=rP (by simp only [Try.f54,go_sem];rfl) hwf ⟨?_,rfl⟩)))))
 rfl
theorem Win.ok.v {w:Win} (h:w.ok):w.v.ok:=⟨h.virt,h.cnt⟩
theorem Win.ok.p {w:Win} (h:w.ok):w.p.ok:=⟨h.phys,h.cnt⟩
theorem window_Right {w:Win} (hw:w.ok) {s:St}:ACalls Try.prog 37 [w.pv] s (fun r s'=>r=.bool (winRight w)∧s'=s):=by
 refine go Try.func37 (k:=fun hwf H=>?_)
 refine rs (k:=rg [1] (k:=rs (k:=rr (k:=ro (pre:=[_,_,_,_,_,_,_,_,_]) (k:=rQ 11 (ht:=fun hg8=>?_) (hf:=fun hg8=>?_))))))
 refine rg1 (k:=rC (h:=window_virtual (w:=w)) (k:=rC (h:=span_Right (a:=w.v) (most:=65536) hw.v Y34) (k:=ro (pre:=[_,_]) (k:=rQ 16 (ht:=fun hg13=>?_) (hf:=fun hg13=>?_)))))
 refine rg1 (k:=rC (h:=window_physical (w:=w)) (k:=rC (h:=span_Right (a:=w.p) (most:=512) hw.p Y34) (k:=rh [2] (k:=rR (k:=rP (by simp only [Try.f37,go_sem];rfl) hwf ⟨?_,rfl⟩)))))
 refine jO 1 ?_;rotate_left
 refine jO 2 ?_;rotate_left
 refine rg0 (k:=rg0 (k:=rg0 (k:=ro (pre:=[_,_]) (k:=rQ 16 (ht:=fun hg13=>?_) (hf:=fun hg13=>?_)))))
 ·cases hg13
 refine jO 2 ?_;rotate_left
 any_goals
  refine jI 2 ?_
  refine rg0 (k:=rg0 (k:=rg0 (k:=rh [2] (k:=rR (k:=rP (by simp only [Try.f37,go_sem];rfl) hwf ⟨?_,rfl⟩)))))
  refine jO 1 ?_;rotate_left
 any_goals
  refine jI 1 ?_
  have e:winRight w=(decide (0≤w.space)&&decide (w.space≤3)&&spRight w.v 65536&&spRight w.p 512):=by simp [winRight]
  refine jO 3 ?_;rotate_left
 any_goals
  refine jI 3 ?_
  rw [e]
  refine jO 4 ?_;rotate_left
 any_goals
  refine jI 4 ?_
  first
   |(rw [show (decide (0≤w.space)&&decide (w.space≤3))=true from hg8,show spRight w.v 65536=true from hg13];simp [PV.weak])
   |(rw [show (decide (0≤w.space)&&decide (w.space≤3))=true from hg8,show spRight w.v 65536=false from hg13];rfl)
   |(rw [show (decide (0≤w.space)&&decide (w.space≤3))=false from hg8];rfl)
theorem window_meet {a b:Win} (ha:a.ok) (hb:b.ok) {s:St}:ACalls Try.prog 56 [a.pv,b.pv] s (fun r s'=>r=.bool (winMeet a b)∧s'=s):=by
 refine go Try.func56 (k:=fun hwf H=>?_)
 refine rs (k:=rg [2,3] (k:=rs (k:=?_)))
 refine Run.drawNew 10 8 9 76 (.agg [.int .i64 0,.int .i64 0]) (.agg [.int .i64 (spMeet a.p b.p).pos,.int .i64 (spMeet a.p b.p).cnt]) Try.mixed Y36 Y36 ?_
 refine DetBC.pre (pre:=[_]) Y34 in1 au ?_
 refine DetBC.call Y34 au au au Y36 in1 (fun s _=>window_physical (w:=a)) ?_
 refine DetBC.pre (pre:=[_]) Y34 in1 au ?_
 refine DetBC.call Y34 au au au Y36 in1 (fun s _=>window_physical (w:=b)) ?_
 refine DetBC.call Y34 au au au Y36 in1 (fun s _=>span_Meet (a:=a.p) (b:=b.p) ha.p hb.p) ?_
 refine DetBC.pre (pre:=[_,_,_]) Y34 in1 au ?_
 refine DetBC.eff Y34 in1 au au ?_
 refine DetBC.eff Y34 in2 au au ?_
 refine DetBC.nil in3 ?_
 refine rh [2,3,6] (k:=rs (k:=?_))
 generalize hm:spMeets a.p b.p=m
 refine rr (k:=ro (pre:=[_,_,_,_,_,_,_,_,_]) (k:=rQ 23 (ht:=fun hg8=>?_) (hf:=fun hg8=>?_)))
 refine rg1 (k:=rC (h:=window_Right ha) (k:=ro (pre:=[_,_]) (k:=rQ 27 (ht:=fun hg12=>?_) (hf:=fun hg12=>?_))))
 refine rg1 (k:=rC (h:=window_Right hb) (k:=rh [4] (k:=rR (k:=rP (by simp only [Try.f56,go_sem];rfl) hwf ⟨?_,rfl⟩))))
 refine jO 1 ?_;rotate_left
 refine jO 2 ?_;rotate_left
 refine rg0 (k:=rg0 (k:=ro (pre:=[_,_]) (k:=rQ 27 (ht:=fun hg12=>?_) (hf:=fun hg12=>?_))))
 ·cases hg12
 refine jO 2 ?_;rotate_left
 any_goals
  refine jI 2 ?_
  refine rg0 (k:=rg0 (k:=rh [4] (k:=rR (k:=rP (by simp only [Try.f56,go_sem];rfl) hwf ⟨?_,rfl⟩))))
  refine jO 1 ?_;rotate_left
 any_goals
  refine jI 1 ?_
  have e:winMeet a b=(m&&decide (a.space=b.space)&&winRight a&&winRight b):=by rw [← hm];rfl
  refine jO 3 ?_;rotate_left
 any_goals
  refine jI 3 ?_
  rw [e]
  refine jO 4 ?_;rotate_left
 any_goals
  refine jI 4 ?_
  first
   |(rw [show (m&&decide (a.space=b.space))=true from hg8,show winRight a=true from hg12];simp [PV.weak])
   |(rw [show (m&&decide (a.space=b.space))=true from hg8,show winRight a=false from hg12];rfl)
   |(rw [show (m&&decide (a.space=b.space))=false from hg8];rfl)
theorem Y37 {p:Prop} (h:p:=by exact ⟨rfl,0,rfl,Y32,rfl⟩):p:=h
theorem Y38 {p:Prop} (h:p:=by rw [map_get hil,hxe];rfl):p:=h
theorem Y39 {p:Prop} (h:p:=by rw [wrap_i64 Y32];omega):p:=h
theorem Y40 {p:Prop} (h:p:=by
 refine rk (k:=rB (k:=rg [0,1,7,8] (k:=?_)))
 rw [idxF_step p hil,hxe,if_neg (by rw [hc1];simp)] at hidx
 refine Run.lp ⟨⟨rfl,i+1,rfl,Y32,hidx⟩,?_⟩
 simp only [ivar,go_sem,↓reduceIte,Nat.reduceEqDiff]
 omega):p:=h
theorem Y91 {p:Prop} (h:p:=by have:=of_decide_eq_true hc0;omega):p:=h
theorem Y92 {p:Prop} (h:p:=by rw [← hxe];exact List.getElem_mem _):p:=h
theorem index_Win {xs:List Win} {k:FuncId} {cap:List PV} {p:Win→Bool} {s:St} (hsz:xs.length<140737488355328) (hcal:callable Try.prog k=true) (hcap:PV.weaks cap=cap) (hf:∀ x∈xs,ACalls Try.prog k (x.pv::cap) s (fun r s'=>r=.bool (p x)∧s'=s)) :
  ACalls Try.prog 52 [.sl .unk (xs.map Win.pv),.fn (.func k) [] cap] s (fun r s'=>r=.int .i64 (idxF p xs 0)∧s'=s):=by
 refine go Try.func52 (k:=fun hwf H=>?_)
 have H:=aj hcap H
 refine rs (k:=rg [0,1] (k:=rs (k:=rs (k:=rg [0,1,7,8] (k:=rb (k:=?_))))))
 refine Run.loop (fun e s'=>s'=s∧∃ i:Nat,e=[(0,.sl .unk (xs.map Win.pv)),(1,.fn (.func k) [] cap),(7,.int .i64 xs.length),(8,.int .i64 i)]∧i≤xs.length∧idxF p xs 0=idxF p (xs.drop i) i) (fun e s'=>xs.length-ivar e 8) ?_ ?_
 ·exact Y37
 rintro e s' ⟨hs,i,rfl,hi,hidx⟩
 subst s'
 refine rs (k:=rg [0,1,7,8,9] (k:=rs (k:=rc (ht:=fun hc0=>?_) (hf:=fun hc0=>?_))))
 refine rk (k:=rs (k:=rb (k:=rs (k:=?_))))
 have hil:i<xs.length:=Y91
 obtain ⟨x,hxe⟩:∃ z_,xs[i]'hil=z_:=⟨_,rfl⟩
 have hxx:(xs.map Win.pv)[i]? =some (.agg [.int .i64 (x).space,.int .i64 (x).virt,.int .i64 (x).phys,.int .i64 (x).cnt]):=Y38
 have hw:IntKind.i64.wrap ((i:Int)+1)=((i+1:Nat):Int):=Y39
 have H:=aj hxx (aj hw H)
 refine rg [0,1,5,7,8] (k:=rs (k:=rr (k:=ro (pre:=[_,_,_,_,_]) (k:=?_))))
 refine RunO.callw au au au hcal ((hf x Y92).mono ?_)
 rintro r1 s1 ⟨rfl,hs⟩
 subst s1
 refine rl [0,1,5,7,8,16] (k:=rc (ht:=fun hc1=>?_) (hf:=fun hc1=>?_))
 refine rs (k:=rg [4] (k:=rR (k:=rP (by simp only [Try.f52,go_sem];rfl) hwf ⟨?_,rfl⟩)))
 refine jO 1 ?_;rotate_left
 ·exact Y40
 refine rX (k:=rs (k:=rg [4] (k:=rR (k:=rP (by simp only [Try.f52,go_sem];rfl) hwf ⟨?_,rfl⟩))))
 refine jO 1 ?_;rotate_left
 any_goals
  refine jI 1 ?_
  first
   |(rw [idxF_step p hil,hxe,if_pos hc1] at hidx
     rw [hidx];rfl)
   |(have:i=xs.length:=by have:=of_decide_eq_false hc0;omega
     rw [this,List.drop_length] at hidx
     rw [hidx];rfl)
theorem contains_Win {xs:List Win} {k:FuncId} {cap:List PV} {p:Win→Bool} {s:St} (hsz:xs.length<140737488355328) (hcal:callable Try.prog k=true) (hcap:PV.weaks cap=cap) (hf:∀ x∈xs,ACalls Try.prog k (x.pv::cap) s (fun r s'=>r=.bool (p x)∧s'=s)) :
  ACalls Try.prog 35 [.sl .unk (xs.map Win.pv),.fn (.func k) [] cap] s (fun r s'=>r=.bool (xs.any p)∧s'=s):=by
 refine go Try.func35 (k:=fun hwf H=>?_)
 have H:=aj hcap H
 refine rs (k:=rg [0,1] (k:=rs (k:=rr (k:=ro (pre:=[_,_]) (k:=rC (h:=index_Win hsz hcal hcap hf) (k:=rh [4] (k:=rR (k:=rP (by simp only [Try.f35,go_sem];rfl) hwf ⟨?_,rfl⟩))))))))
 rw [idxF_any];rfl
theorem window_Meets1 {a b:Win} (ha:a.ok) (hb:b.ok) {s:St} {kb:Nat} (hk:s.blk kb=some (.row 45 [a.pv])):ACalls Try.prog 59 [b.pv,.ptr kb 0 0] s (fun r s'=>r=.bool (winMeet a b)∧s'=s):=by
 refine go Try.func59 (k:=fun hwf H=>?_)
 have hlt:kb<s.nxt:=by
  rcases Nat.lt_or_ge kb s.nxt with k | k
  ·exact k
  ·rw [hwf kb k] at hk;cases hk
 have hk0:(kb=s.nxt)=False:=eq_false Y32
 rw [Win.pv] at hk
 have H:=aj hk (aj hk0 H)
 refine rs (k:=rg [1,2] (k:=rs (k:=rr (k:=ro (pre:=[_,_]) (k:=rC (h:=window_meet (a:=a) (b:=b) ha hb) (k:=rh [3] (k:=rR (k:=rP (by simp only [Try.f59,go_sem];rfl) hwf ⟨?_,rfl⟩))))))))
 rfl
theorem Y41 {p:Prop} (h:p:=by simp only [go_sem,reduceCtorEq,false_implies,implies_true]):p:=h
theorem Y140 {p:Prop} (h:p:=by exact ⟨Fr.refl hwf,0,rfl,Y32,rfl⟩):p:=h
theorem window_Meets {a b:List Win} (ha:∀ w∈a,w.ok) (hb:∀ w∈b,w.ok) (na:a.length<140737488355328) (nb:b.length<140737488355328) {s:St}:ACalls Try.prog 45 [.sl .unk (a.map Win.pv),.sl .unk (b.map Win.pv)] s (fun r s'=>r=.bool (winsMeet a b)∧s'=s):=by
 refine go Try.func45 (k:=fun hwf H=>?_)
 refine rs (k:=rg [0,1] (k:=rs (k:=rs (k:=rg [1,7,8,9] (k:=rb (k:=?_))))))
 refine Run.loop (fun e s'=>Fr s s'∧∃ i:Nat,e=[(1,.sl .unk (b.map Win.pv)),(7,.sl .unk (a.map Win.pv)),(8,.int .i64 a.length),(9,.int .i64 i)]∧i≤a.length∧winsMeet a b=winsMeet (a.drop i) b) (fun e s'=>a.length-ivar e 9) ?_ ?_
 ·exact Y140
 rintro e s1 ⟨F1,i,rfl,hi,hidx⟩
 refine rs (k:=rg [1,7,8,9,10] (k:=rs (k:=rc (ht:=fun hc0=>?_) (hf:=fun hc0=>?_))))
 refine rk (k:=rs (k:=rb (k:=rs (k:=?_))))
 have hil:i<a.length:=Y91
 obtain ⟨x,hxe⟩:∃ z_,a[i]'hil=z_:=⟨_,rfl⟩
 have hxx:(a.map Win.pv)[i]? =some (.agg [.int .i64 (x).space,.int .i64 (x).virt,.int .i64 (x).phys,.int .i64 (x).cnt]):=Y38
 have hw:IntKind.i64.wrap ((i:Int)+1)=((i+1:Nat):Int):=Y39
 have hxok:x.ok:=by rw [← hxe];exact ha _ (List.getElem_mem _)
 have H:=aj hxx (aj hw H)
 refine rg [1,6,7,8,9] (k:=rs (k:=rr (k:=ro (pre:=[_,_]) (k:=rC (h:=contains_Win (p:=fun y=>winMeet x y) nb Y36 rfl (fun y hy=>window_Meets1 hxok (hb y hy) (by rw [blk_new,if_pos rfl];rfl))) (k:=rl [1,7,8,9,15] (k:=rc (ht:=fun hc1=>?_) (hf:=fun hc1=>?_)))))))
 refine rs (k:=rg [4] (k:=rR (k:=?_)))
 refine jO 1 ?_;rotate_left
 ·refine rk (k:=rB (k:=rg [1,7,8,9] (k:=?_)))
  have hidx2:winsMeet a b=winsMeet (a.drop (i+1)) b:=by
   rw [hidx,drop_get hil,hxe]
   show (b.any (fun y=>winMeet x y)||winsMeet (a.drop (i+1)) b)=_
   rw [show b.any (fun y=>winMeet x y)=false from hc1,Bool.false_or]
  refine Run.lp ⟨⟨F1.new _,i+1,rfl,Y32,hidx2⟩,?_⟩
  simp only [ivar,go_sem,↓reduceIte,Nat.reduceEqDiff]
  omega
 refine rX (k:=rs (k:=rg [4] (k:=rR (k:=?_))))
 refine jO 1 ?_;rotate_left
 any_goals
  refine jI 1 ?_
  refine Ret.pure (by simp only [Try.f45,go_sem]<;>rfl) rfl Y41 hwf (by first | exact (F1).blk | exact (F1.new _).blk) ⟨?_,rfl⟩
  refine jO 2 ?_;rotate_left
 any_goals
  refine jI 2 ?_
  first
   |(have:winsMeet (a.drop i) b=true:=by
      rw [drop_get hil,hxe]
      show (b.any (fun y=>winMeet x y)||winsMeet (a.drop (i+1)) b)=_
      rw [show b.any (fun y=>winMeet x y)=true from hc1,Bool.true_or]
     rw [hidx,this];rfl)
   |(have:i=a.length:=by have:=of_decide_eq_false hc0;omega
     rw [hidx,this,List.drop_length];rfl)
theorem Y42 {p:Prop} (h:p:=by have:=of_decide_eq_true hc1;omega):p:=h
theorem Y43 {p:Prop} (h:p:=by
 simp only [ivar,go_sem,↓reduceIte,Nat.reduceEqDiff]
 omega):p:=h
theorem Y93 {p:Prop} (h:p:=by simp only [go_sem];omega):p:=h
theorem Y141 {p:Prop} (h:p:=by have:=of_decide_eq_false hc1;omega):p:=h
theorem Y164 {p:Prop} (h:p:=by simp;omega):p:=h
theorem window_Own {l:List Win} (ha:∀ w∈l,w.ok) (na:l.length<140737488355328) {s:St}:ACalls Try.prog 38 [.sl .unk (l.map Win.pv)] s (fun r s'=>r=.bool (winsOwn l)∧s'=s):=by
 refine go Try.func38 (k:=fun hwf H=>?_)
 refine rs (k:=rg [0] (k:=rs (k:=rs (k:=rg [0,9,10,11] (k:=rb (k:=?_))))))
 refine Run.loop (fun e s'=>Fr s s'∧∃ i:Nat,e=[(0,.sl .unk (l.map Win.pv)),(9,.sl .unk (l.map Win.pv)),(10,.int .i64 l.length),(11,.int .i64 i)]∧i≤l.length∧winsOwn l=winsOwnA (l.take i) (l.drop i)) (fun e s'=>l.length-ivar e 11) ?_ ?_
 ·exact Y140
 rintro e s1 ⟨F1,i,rfl,hi,hidx⟩
 refine rs (k:=rg [0,9,10,11,12] (k:=rs (k:=rc (ht:=fun hc0=>?_) (hf:=fun hc0=>?_))))
 refine rk (k:=rs (k:=rb (k:=rs (k:=?_))))
 have hil:i<l.length:=Y91
 obtain ⟨a,hae⟩:∃ z_,l[i]'hil=z_:=⟨_,rfl⟩
 have hxa:(l.map Win.pv)[i]? =some (.agg [.int .i64 (a).space,.int .i64 (a).virt,.int .i64 (a).phys,.int .i64 (a).cnt]):=by rw [map_get hil,hae];rfl
 have hw:IntKind.i64.wrap ((i:Int)+1)=((i+1:Nat):Int):=Y39
 have haok:a.ok:=by rw [← hae];exact ha _ (List.getElem_mem _)
 have hsl:(l.map Win.pv).take i=(l.take i).map Win.pv:=List.map_take.symm
 have hile:((i:Int)≤(l.length:Int))=True:=eq_true Y32
 have htl:(l.take i).length=i:=Y164
 have H:=aj hxa (aj hw (aj hsl (aj hile (aj htl H))))
 refine rg [0,3,4,9,10,11] (k:=rs (k:=rg [0,4,9,10,11,18,19,20] (k:=rb (k:=?_))))
 refine Run.loop (fun e s'=>Fr s s'∧∃ j:Nat,e=[(0,.sl .unk (l.map Win.pv)),(4,.ptr s1.nxt 0 0),(9,.sl .unk (l.map Win.pv)),(10,.int .i64 l.length),(11,.int .i64 i),(18,.sl .unk ((l.take i).map Win.pv)),(19,.int .i64 i),(20,.int .i64 j)]∧j≤i∧((l.take i).take j).all (fun y=> !winBad a y)=true∧s1.nxt<s'.nxt∧s'.blk s1.nxt=some (.row 45 [.agg [.int .i64 (a).space,.int .i64 (a).virt,.int .i64 (a).phys,.int .i64 (a).cnt]])) (fun e s'=>i-ivar e 20) ?_ ?_
 ·exact ⟨F1.new _,0,rfl,Y32,rfl,Y93,by rw [blk_new,if_pos rfl]⟩
 rintro e s2 ⟨F2,j,rfl,hj,hall,hXl,hX⟩
 refine rs (k:=rg [0,4,9,10,11,18,19,20,21] (k:=rs (k:=rc (ht:=fun hc1=>?_) (hf:=fun hc1=>?_))))
 refine rk (k:=rs (k:=rb (k:=rs (k:=?_))))
 have hjl:j<(l.take i).length:=Y42
 obtain ⟨b,hbe⟩:∃ z_,(l.take i)[j]'hjl=z_:=⟨_,rfl⟩
 have hxb:((l.take i).map Win.pv)[j]? =some (.agg [.int .i64 (b).space,.int .i64 (b).virt,.int .i64 (b).phys,.int .i64 (b).cnt]):=by rw [map_get hjl,hbe];rfl
 have hwj:IntKind.i64.wrap ((j:Int)+1)=((j+1:Nat):Int):=Y39
 have hbok:b.ok:=by rw [← hbe];exact ha _ (List.mem_of_mem_take (List.getElem_mem _))
 have hXn:(s1.nxt=s2.nxt)=False:=eq_false Y32
 have hXn1:(s1.nxt=s2.nxt+1)=False:=eq_false Y32
 have H:=aj hxb (aj hwj (aj hX (aj hXn (aj hXn1 H))))
 refine rg [0,4,6,9,10,11,18,19,20] (k:=rs (k:=?_))
 refine Run.drawNew 10 8 9 76 (.agg [.int .i64 0,.int .i64 0]) (.agg [.int .i64 (spMeet a.v b.v).pos,.int .i64 (spMeet a.v b.v).cnt]) Try.mixed Y36 Y36 ?_
 refine DetBC.pre (pre:=[_]) Y34 in1 au ?_
 refine DetBC.call Y34 au au au Y36 in1 (fun s _=>window_virtual (w:=a)) ?_
 refine DetBC.pre (pre:=[_]) Y34 in1 au ?_
 refine DetBC.call Y34 au au au Y36 in1 (fun s _=>window_virtual (w:=b)) ?_
 refine DetBC.call Y34 au au au Y36 in1 (fun s _=>span_Meet (a:=a.v) (b:=b.v) haok.v hbok.v) ?_
 refine DetBC.pre (pre:=[_,_,_]) Y34 in1 au ?_
 refine DetBC.eff Y34 in1 au au ?_
 refine DetBC.eff Y34 in2 au au ?_
 refine DetBC.nil in3 ?_
 refine rh [0,4,6,8,9,10,11,18,19,20] (k:=rs (k:=?_))
 generalize hm:spMeets a.v b.v=m
 have F3:=(F2.new (.row 45 [.agg [.int .i64 (b).space,.int .i64 (b).virt,.int .i64 (b).phys,.int .i64 (b).cnt]])).newset (.row 76 [.agg [.int .i64 0,.int .i64 0]]) (some (.row 76 [.agg [.int .i64 (spMeet a.v b.v).pos,.int .i64 (spMeet a.v b.v).cnt]])) (id:=s2.nxt+1) rfl
 refine rr (k:=ro (pre:=[_,_]) (k:=rC (h:=window_meet (a:=a) (b:=b) haok hbok) (k:=ro (pre:=[_]) (k:=rQ 35 (ht:=fun hg3=>?_) (hf:=fun hg3=>?_)))))
 refine rg0 (k:=rg0 (k:=rgU (k:=rgU (k:=rgU (k:=rgU (k:=rgU (k:=rg0 (k:=rg0 (k:=rgU (k:=rgU (k:=rg0 (k:=rg0 (k:=rgU (k:=rgU (k:=rg0 (k:=rh [0,4,9,10,11,18,19,20,52] (k:=rc (ht:=fun hc2=>?_) (hf:=fun hc2=>?_))))))))))))))))))
 refine jO 1 ?_;rotate_left
 ·cases hc2
 refine rg1 (k:=rg1 (k:=rQ 37 (ht:=fun hg5=>?_) (hf:=fun hg5=>?_)))
 refine rg1 (k:=rg1 (k:=rg1 (k:=rg1 (k:=rg1 (k:=rg1 (k:=rg1 (k:=rQ 44 (ht:=fun hg12=>?_) (hf:=fun hg12=>?_))))))))
 refine rg1 (k:=rC (h:=window_Right haok) (k:=rg1 (k:=rg1 (k:=rQ 48 (ht:=fun hg16=>?_) (hf:=fun hg16=>?_)))))
 refine rg1 (k:=rC (h:=window_Right hbok) (k:=rg1 (k:=rh [0,4,9,10,11,18,19,20,52] (k:=rc (ht:=fun hc2=>?_) (hf:=fun hc2=>?_)))))
 refine jO 1 ?_;rotate_left
 refine jO 2 ?_;rotate_left
 refine jO 3 ?_;rotate_left
 refine jO 4 ?_;rotate_left
 refine rg0 (k:=rg0 (k:=rg0 (k:=rg0 (k:=rg0 (k:=rg1 (k:=rg1 (k:=rQ 44 (ht:=fun hg12=>?_) (hf:=fun hg12=>?_))))))))
 ·cases hg12
 refine jO 4 ?_;rotate_left
 ·refine rX (k:=rB (k:=rg [0,9,10,11] (k:=?_)))
  have hj:j=i:=Y141
  have hidx2:winsOwn l=winsOwnA (l.take (i+1)) (l.drop (i+1)):=by
   rw [hidx,winsOwnA_step hil,hae]
   rw [hj,List.take_take,Nat.min_self] at hall
   rw [hall,Bool.true_and]
  refine Run.lp ⟨⟨F2,i+1,rfl,Y32,hidx2⟩,?_⟩
  simp only [ivar,go_sem,↓reduceIte,Nat.reduceEqDiff]
  omega
 refine rX (k:=rs (k:=rg [2] (k:=rR (k:=?_))))
 refine jO 5 ?_;rotate_left
 any_goals
  refine jI 1 ?_
  refine rs (k:=rg [2] (k:=rR (k:=?_)))
  refine jO 5 ?_;rotate_left
 any_goals
  refine jI 4 ?_
  refine rg0 (k:=rg0 (k:=rg1 (k:=rg1 (k:=rQ 48 (ht:=fun hg16=>?_) (hf:=fun hg16=>?_)))))
  ·cases hg16
  refine jO 3 ?_;rotate_left
 any_goals
  refine jI 5 ?_
  refine Ret.pure (by simp only [Try.f38,go_sem]<;>rfl) rfl Y41 hwf (by first | exact (F1).blk | exact (F3).blk) ⟨?_,rfl⟩
  refine jO 6 ?_;rotate_left
 any_goals
  refine jI 3 ?_
  refine rg0 (k:=rg0 (k:=rg1 (k:=rh [0,4,9,10,11,18,19,20,52] (k:=rc (ht:=fun hc2=>?_) (hf:=fun hc2=>?_)))))
  ·cases hc2
  refine jO 2 ?_;rotate_left
 any_goals
  refine jI 6 ?_
  first
   |(have:i=l.length:=by have:=of_decide_eq_false hc0;omega
     rw [this,List.drop_length] at hidx
     rw [hidx];rfl)
   |(have e:winBad a b=(winMeet a b||(m&&decide (a.space=b.space)&&winRight a&&winRight b)):=by rw [winBad,winMeetV,hm]
     have hbad:winBad a b=true:=by
      first
       |(simp [e,hg3];done)
       |(simp [e,hg3,hg5,hg12,hg16,hc2];done)
       |(simp [e,hg3,hg5,hg16,hc2];simpa using hg12)
     have:winsOwn l=false:=by
      rw [hidx,winsOwnA_step hil,hae]
      have hin:b∈l.take i:=by rw [← hbe];exact List.getElem_mem _
      have:(l.take i).all (fun y=> !winBad a y)=false:=List.all_eq_false.2 ⟨b,hin,by simp [hbad]⟩
      rw [this,Bool.false_and]
     rw [this];rfl)
 any_goals
  refine jI 2 ?_
  refine rk (k:=rB (k:=rg [0,4,9,10,11,18,19,20] (k:=?_)))
  refine jO 7 ?_;rotate_left
 any_goals
  refine jI 7 ?_
  have e:winBad a b=(winMeet a b||(m&&decide (a.space=b.space)&&winRight a&&winRight b)):=by rw [winBad,winMeetV,hm]
  refine jO 8 ?_;rotate_left
 any_goals
  refine jI 8 ?_
  have hbad:winBad a b=false:=by
   first
    |(simp [e,hg3,hg5,hg12,hg16,hc2];done)
    |(simp [e,hg3,hg5,hg12,hg16];done)
    |(simp [e,hg3,hg5,hg12];done)
    |(simp [e,hg3,hg5];done)
    |(simp [e,hg3,hg5];simpa using hg12)
  refine jO 9 ?_;rotate_left
 any_goals
  refine jI 9 ?_
  refine Run.lp ⟨⟨F3,j+1,rfl,Y32,?_,Y93,by simp only [go_sem,hX,hXn,hXn1,↓reduceIte]⟩,?_⟩
  ·rw [take_get hjl,List.all_append,hall,hbe]
   simp [hbad]
  ·exact Y43
end Go.Proofs
namespace Go.Proofs
open Go.PM
set_option maxHeartbeats 2000000
theorem Slt.ok.sp {s:Slt} (h:s.ok):s.sp.ok:=⟨h.pos,h.len⟩
theorem table_slot {a:Slt} {s:St}:ACalls Try.prog 42 [a.pv] s (fun r s'=>r=a.sp.pv∧s'=s):=by
 refine go Try.func42 (k:=fun hwf H=>?_)
 refine rs (k:=rg [1,2] (k:=rs (k:=rg [2] (k:=rR (k:=rP (by simp only [Try.f42,go_sem];rfl) hwf ⟨?_,rfl⟩)))))
 rfl
theorem index_Slt {xs:List Slt} {k:FuncId} {cap:List PV} {p:Slt→Bool} {s:St} (hsz:xs.length<140737488355328) (hcal:callable Try.prog k=true) (hcap:PV.weaks cap=cap) (hf:∀ x∈xs,ACalls Try.prog k (x.pv::cap) s (fun r s'=>r=.bool (p x)∧s'=s)) :
  ACalls Try.prog 57 [.sl .unk (xs.map Slt.pv),.fn (.func k) [] cap] s (fun r s'=>r=.int .i64 (idxF p xs 0)∧s'=s):=by
 refine go Try.func57 (k:=fun hwf H=>?_)
 have H:=aj hcap H
 refine rs (k:=rg [0,1] (k:=rs (k:=rs (k:=rg [0,1,7,8] (k:=rb (k:=?_))))))
 refine Run.loop (fun e s'=>s'=s∧∃ i:Nat,e=[(0,.sl .unk (xs.map Slt.pv)),(1,.fn (.func k) [] cap),(7,.int .i64 xs.length),(8,.int .i64 i)]∧i≤xs.length∧idxF p xs 0=idxF p (xs.drop i) i) (fun e s'=>xs.length-ivar e 8) ?_ ?_
 ·exact Y37
 rintro e s' ⟨hs,i,rfl,hi,hidx⟩
 subst s'
 refine rs (k:=rg [0,1,7,8,9] (k:=rs (k:=rc (ht:=fun hc0=>?_) (hf:=fun hc0=>?_))))
 refine rk (k:=rs (k:=rb (k:=rs (k:=?_))))
 have hil:i<xs.length:=Y91
 obtain ⟨x,hxe⟩:∃ z_,xs[i]'hil=z_:=⟨_,rfl⟩
 have hxx:(xs.map Slt.pv)[i]? =some (.agg [.int .i64 (x).pos,.int .i64 (x).len]):=Y38
 have hw:IntKind.i64.wrap ((i:Int)+1)=((i+1:Nat):Int):=Y39
 have H:=aj hxx (aj hw H)
 refine rg [0,1,5,7,8] (k:=rs (k:=rr (k:=ro (pre:=[_,_,_,_,_]) (k:=?_))))
 refine RunO.callw au au au hcal ((hf x Y92).mono ?_)
 rintro r1 s1 ⟨rfl,hs⟩
 subst s1
 refine rl [0,1,5,7,8,16] (k:=rc (ht:=fun hc1=>?_) (hf:=fun hc1=>?_))
 refine rs (k:=rg [4] (k:=rR (k:=rP (by simp only [Try.f57,go_sem];rfl) hwf ⟨?_,rfl⟩)))
 refine jO 1 ?_;rotate_left
 ·exact Y40
 refine rX (k:=rs (k:=rg [4] (k:=rR (k:=rP (by simp only [Try.f57,go_sem];rfl) hwf ⟨?_,rfl⟩))))
 refine jO 1 ?_;rotate_left
 any_goals
  refine jI 1 ?_
  first
   |(rw [idxF_step p hil,hxe,if_pos hc1] at hidx
     rw [hidx];rfl)
   |(have:i=xs.length:=by have:=of_decide_eq_false hc0;omega
     rw [this,List.drop_length] at hidx
     rw [hidx];rfl)
theorem contains_Slt {xs:List Slt} {k:FuncId} {cap:List PV} {p:Slt→Bool} {s:St} (hsz:xs.length<140737488355328) (hcal:callable Try.prog k=true) (hcap:PV.weaks cap=cap) (hf:∀ x∈xs,ACalls Try.prog k (x.pv::cap) s (fun r s'=>r=.bool (p x)∧s'=s)) :
  ACalls Try.prog 39 [.sl .unk (xs.map Slt.pv),.fn (.func k) [] cap] s (fun r s'=>r=.bool (xs.any p)∧s'=s):=by
 refine go Try.func39 (k:=fun hwf H=>?_)
 have H:=aj hcap H
 refine rs (k:=rg [0,1] (k:=rs (k:=rr (k:=ro (pre:=[_,_]) (k:=rC (h:=index_Slt hsz hcal hcap hf) (k:=rh [4] (k:=rR (k:=rP (by simp only [Try.f39,go_sem];rfl) hwf ⟨?_,rfl⟩))))))))
 rw [idxF_any];rfl
theorem index_Ten {xs:List Ten} {k:FuncId} {cap:List PV} {p:Ten→Bool} {s:St} (hsz:xs.length<140737488355328) (hcal:callable Try.prog k=true) (hcap:PV.weaks cap=cap) (hf:∀ x∈xs,ACalls Try.prog k (x.pv::cap) s (fun r s'=>r=.bool (p x)∧s'=s)) :
  ACalls Try.prog 58 [.sl .unk (xs.map Ten.pv),.fn (.func k) [] cap] s (fun r s'=>r=.int .i64 (idxF p xs 0)∧s'=s):=by
 refine go Try.func58 (k:=fun hwf H=>?_)
 have H:=aj hcap H
 refine rs (k:=rg [0,1] (k:=rs (k:=rs (k:=rg [0,1,7,8] (k:=rb (k:=?_))))))
 refine Run.loop (fun e s'=>s'=s∧∃ i:Nat,e=[(0,.sl .unk (xs.map Ten.pv)),(1,.fn (.func k) [] cap),(7,.int .i64 xs.length),(8,.int .i64 i)]∧i≤xs.length∧idxF p xs 0=idxF p (xs.drop i) i) (fun e s'=>xs.length-ivar e 8) ?_ ?_
 ·exact Y37
 rintro e s' ⟨hs,i,rfl,hi,hidx⟩
 subst s'
 refine rs (k:=rg [0,1,7,8,9] (k:=rs (k:=rc (ht:=fun hc0=>?_) (hf:=fun hc0=>?_))))
 refine rk (k:=rs (k:=rb (k:=rs (k:=?_))))
 have hil:i<xs.length:=Y91
 obtain ⟨x,hxe⟩:∃ z_,xs[i]'hil=z_:=⟨_,rfl⟩
 have hxx:(xs.map Ten.pv)[i]? =some (.agg [.int .i64 (x).unit,.int .u32 (x).fns,.int .i64 (x).queue,.sl .unk ((x).wins.map Win.pv),.sl .unk ((x).slts.map Slt.pv)]):=Y38
 have hw:IntKind.i64.wrap ((i:Int)+1)=((i+1:Nat):Int):=Y39
 have H:=aj hxx (aj hw H)
 refine rg [0,1,5,7,8] (k:=rs (k:=rr (k:=ro (pre:=[_,_,_,_,_]) (k:=?_))))
 refine RunO.callw au au au hcal ((hf x Y92).mono ?_)
 rintro r1 s1 ⟨rfl,hs⟩
 subst s1
 refine rl [0,1,5,7,8,16] (k:=rc (ht:=fun hc1=>?_) (hf:=fun hc1=>?_))
 refine rs (k:=rg [4] (k:=rR (k:=rP (by simp only [Try.f58,go_sem];rfl) hwf ⟨?_,rfl⟩)))
 refine jO 1 ?_;rotate_left
 ·exact Y40
 refine rX (k:=rs (k:=rg [4] (k:=rR (k:=rP (by simp only [Try.f58,go_sem];rfl) hwf ⟨?_,rfl⟩))))
 refine jO 1 ?_;rotate_left
 any_goals
  refine jI 1 ?_
  first
   |(rw [idxF_step p hil,hxe,if_pos hc1] at hidx
     rw [hidx];rfl)
   |(have:i=xs.length:=by have:=of_decide_eq_false hc0;omega
     rw [this,List.drop_length] at hidx
     rw [hidx];rfl)
theorem contains_Ten {xs:List Ten} {k:FuncId} {cap:List PV} {p:Ten→Bool} {s:St} (hsz:xs.length<140737488355328) (hcal:callable Try.prog k=true) (hcap:PV.weaks cap=cap) (hf:∀ x∈xs,ACalls Try.prog k (x.pv::cap) s (fun r s'=>r=.bool (p x)∧s'=s)) :
  ACalls Try.prog 43 [.sl .unk (xs.map Ten.pv),.fn (.func k) [] cap] s (fun r s'=>r=.bool (xs.any p)∧s'=s):=by
 refine go Try.func43 (k:=fun hwf H=>?_)
 have H:=aj hcap H
 refine rs (k:=rg [0,1] (k:=rs (k:=rr (k:=ro (pre:=[_,_]) (k:=rC (h:=index_Ten hsz hcal hcap hf) (k:=rh [4] (k:=rR (k:=rP (by simp only [Try.f43,go_sem];rfl) hwf ⟨?_,rfl⟩))))))))
 rw [idxF_any];rfl
theorem table_tenant1 {w:Win} (hw:w.ok) {s:St}:ACalls Try.prog 36 [w.pv] s (fun r s'=>r=.bool (!winRight w)∧s'=s):=by
 refine go Try.func36 (k:=fun hwf H=>?_)
 refine rs (k:=rg [1] (k:=rs (k:=rr (k:=ro (pre:=[_]) (k:=rC (h:=window_Right hw) (k:=rh [2] (k:=rR (k:=rP (by simp only [Try.f36,go_sem];rfl) hwf ⟨?_,rfl⟩))))))))
 rfl
theorem table_tenant2 {a:Slt} (ha:a.ok) {frame:Int} (hf:0≤frame∧frame≤4611686018427387904) {s:St} {kb:Nat} (hkb_:s.blk kb=some (.row 3 [.int .i64 frame])):ACalls Try.prog 40 [a.pv,.ptr kb 0 0] s (fun r s'=>r=.bool (!sltRight frame a)∧s'=s):=by
 refine go Try.func40 (k:=fun hwf H=>?_)
 have hkb:=hkb_
 have hlt_kb:kb<s.nxt:=lt_blk hwf hkb_
 have hkb0:(kb=s.nxt)=False:=eq_false Y32
 have hkb1:(kb=s.nxt+1)=False:=eq_false Y32
 have H:=aj hkb (aj hkb0 (aj hkb1 H))
 refine rs (k:=rg [1,2] (k:=rs (k:=?_)))
 refine Run.drawC [] [3] Try.mixed Y36 ?_
 refine DetC.pre (pre:=[_,_,_,_]) au ?_
 rcases hd3:(decide (a.len<72)) with _ | _
 have H:=aj hd3 H
 refine DetC.gdo au au ?_
 refine DetC.call au au au Y36 (table_slot (a:=a)) ?_
 refine DetC.gdo au au ?_
 refine DetC.call au au au Y36 (span_Right (a:=a.sp) ha.sp hf) ?_
 refine DetC.gdo au au ?_
 refine jO 1 ?_;rotate_left
 have H:=aj hd3 H
 refine DetC.gskip' au ?_
 refine DetC.gskip' au ?_
 refine DetC.gskip' au ?_
 refine DetC.gskip' au ?_
 refine DetC.gskip' au ?_
 refine jO 1 ?_;rotate_left
 any_goals
  refine jI 1 ?_
  refine DetC.all au ?_
  refine jO 2 ?_;rotate_left
 any_goals
  refine jI 2 ?_
  refine re (k:=rR (k:=rP (by simp only [Try.f40,go_sem];rfl) hwf ⟨?_,rfl⟩))
  refine jO 3 ?_;rotate_left
 any_goals
  refine jI 3 ?_
  unfold sltRight
  refine jO 4 ?_;rotate_left
 any_goals
  refine jI 4 ?_
  first
   |(have h:=of_decide_eq_true hd3
     rw [decide_eq_false (by omega:¬ (72≤a.len))];rfl)
   |(have h:=of_decide_eq_false hd3
     rw [decide_eq_true (by omega:72≤a.len)];rfl)
theorem Y44 {p:Prop} (h:p:=by simp only [go_sem,↓reduceIte]):p:=h
theorem table_tenant {x:Ten} (hx:x.ok) {frame:Int} (hf:0≤frame∧frame≤4611686018427387904) {s:St}:ACalls Try.prog 32 [x.pv,.int .i64 frame] s (fun r s'=>r=.int .i64 (tenWhy x frame)∧s'=s):=by
 refine go Try.func32 (k:=fun hwf H=>?_)
 refine rs (k:=rg [2,3] (k:=rs (k:=rb (k:=rs (k:=rg [2,3,5] (k:=rc (ht:=fun hc0=>?_) (hf:=fun hc0=>?_)))))))
 refine jO 1 ?_;rotate_left
 refine rs (k:=rg [2,3,14] (k:=rc (ht:=fun hc1=>?_) (hf:=fun hc1=>?_)))
 refine jO 1 ?_;rotate_left
 refine rs (k:=rg [2,3,23] (k:=rc (ht:=fun hc2=>?_) (hf:=fun hc2=>?_)))
 refine jO 1 ?_;rotate_left
 refine rs (k:=rr (k:=ro (pre:=[_,_]) (k:=rC (h:=contains_Win (p:=fun w=> !winRight w) hx.nw Y36 rfl (fun w hw=>table_tenant1 (hx.wins w hw))) (k:=ro (pre:=[_]) (k:=rQ 44 (ht:=fun hg3=>?_) (hf:=fun hg3=>?_))))))
 refine rg0 (k:=rg0 (k:=rg0 (k:=rg0 (k:=rh [2,3,40] (k:=rc (ht:=fun hc3=>?_) (hf:=fun hc3=>?_))))))
 refine jO 1 ?_;rotate_left
 ·cases hc3
 refine rg1 (k:=rg1 (k:=rC (h:=window_Own hx.wins hx.nw) (k:=rg1 (k:=rh [2,3,40] (k:=rc (ht:=fun hc3=>?_) (hf:=fun hc3=>?_))))))
 refine jO 1 ?_;rotate_left
 refine rs (k:=rr (k:=ro (pre:=[_,_,_]) (k:=rC (h:=contains_Slt (p:=fun a=> !sltRight frame a) hx.ns Y36 rfl (fun a ha=>table_tenant2 (hx.slts a ha) hf Y44)) (k:=rh [50] (k:=rc (ht:=fun hc4=>?_) (hf:=fun hc4=>?_))))))
 refine jO 1 ?_;rotate_left
 refine rk (k:=rB (k:=rs (k:=rg [4] (k:=rR (k:=rP (by simp only [Try.f32,go_sem];rfl) hwf ⟨?_,rfl⟩)))))
 refine jO 2 ?_;rotate_left
 any_goals
  refine jI 1 ?_
  refine rs (k:=rg [4] (k:=rR (k:=rP (by simp only [Try.f32,go_sem];rfl) hwf ⟨?_,rfl⟩)))
  refine jO 2 ?_;rotate_left
 any_goals
  refine jI 2 ?_
  first
   |(rw [tenWhy,if_pos (by simpa using hc0)];rfl)
   |(rw [tenWhy,if_neg (by simpa using hc0),if_pos (by simpa using hc1)];rfl)
   |(rw [tenWhy,if_neg (by simpa using hc0),if_neg (by simpa using hc1),if_pos (by simp at hc2;omega)];rfl)
   |(have h0:¬ (x.unit<1∨247<x.unit):=by simpa using hc0
     have h1:¬ (x.queue<1∨6<x.queue):=by simpa using hc1
     have h2:¬ (6<x.wins.length∨x.slts.length<1∨3<x.slts.length):=by simp at hc2;omega
     rw [tenWhy,if_neg h0,if_neg h1,if_neg h2]
     first
      |(rw [show x.wins.any (fun w=> !winRight w)=true from hg3];rfl)
      |(rw [show x.wins.any (fun w=> !winRight w)=false from hg3,show (!winsOwn x.wins)=true from hc3];rfl)
      |(rw [show x.wins.any (fun w=> !winRight w)=false from hg3,show (!winsOwn x.wins)=false from hc3,Bool.or_self,if_neg Y34]
        first
         |(rw [if_pos hc4];rfl)
         |(rw [if_neg (by rw [hc4];decide)];rfl)))
theorem table_meets1 {a b:Slt} (ha:a.ok) (hb:b.ok) {s:St} {kb:Nat} (hkb_:s.blk kb=some (.row 48 [a.pv])):ACalls Try.prog 60 [b.pv,.ptr kb 0 0] s (fun r s'=>r=.bool (sltMeet a b)∧s'=s):=by
 refine go Try.func60 (k:=fun hwf H=>?_)
 have hkb:=hkb_
 rw [Slt.pv] at hkb
 have hlt_kb:kb<s.nxt:=lt_blk hwf hkb_
 have hkb0:(kb=s.nxt)=False:=eq_false Y32
 have hkb1:(kb=s.nxt+1)=False:=eq_false Y32
 have H:=aj hkb (aj hkb0 (aj hkb1 H))
 refine rs (k:=rg [1,2] (k:=rs (k:=?_)))
 refine Run.drawNew 10 8 9 76 (.agg [.int .i64 0,.int .i64 0]) (.agg [.int .i64 (spMeet a.sp b.sp).pos,.int .i64 (spMeet a.sp b.sp).cnt]) Try.mixed Y36 Y36 ?_
 refine DetBC.pre (pre:=[_]) Y34 in1 au ?_
 refine DetBC.call Y34 au au au Y36 in1 (fun s _=>table_slot (a:=a)) ?_
 refine DetBC.pre (pre:=[_]) Y34 in1 au ?_
 refine DetBC.call Y34 au au au Y36 in1 (fun s _=>table_slot (a:=b)) ?_
 refine DetBC.call Y34 au au au Y36 in1 (fun s _=>span_Meet (a:=a.sp) (b:=b.sp) ha.sp hb.sp) ?_
 refine DetBC.pre (pre:=[_,_,_]) Y34 in1 au ?_
 refine DetBC.eff Y34 in1 au au ?_
 refine DetBC.eff Y34 in2 au au ?_
 refine DetBC.nil in3 ?_
 refine rh [5] (k:=rs (k:=rg [3] (k:=rR (k:=rP (by simp only [Try.f60,go_sem];rfl) hwf ⟨?_,rfl⟩))))
 rfl
theorem Y142 {p:Prop} (h:p:=by simp only [go_sem,↓reduceIte]<;>rfl):p:=h
theorem table_meets {a:Slt} (ha:a.ok) {l:List Slt} (hl:∀ b∈l,b.ok) (nl:l.length<140737488355328) {s:St}:ACalls Try.prog 46 [a.pv,.sl .unk (l.map Slt.pv)] s (fun r s'=>r=.bool (sltMeets a l)∧s'=s):=by
 refine go Try.func46 (k:=fun hwf H=>?_)
 refine rs (k:=rg [1,2] (k:=rs (k:=rr (k:=ro (pre:=[_,_]) (k:=rC (h:=contains_Slt (p:=fun b=>sltMeet a b) nl Y36 rfl (fun b hb=>table_meets1 ha (hl b hb) Y142)) (k:=rh [4] (k:=rR (k:=rP (by simp only [Try.f46,go_sem];rfl) hwf ⟨?_,rfl⟩))))))))
 rfl
theorem table_beside1 {a b:Ten} (ha:a.ok) (hb:b.ok) {s:St} {kb:Nat} (hkb_:s.blk kb=some (.row 43 [a.pv])):ACalls Try.prog 44 [b.pv,.ptr kb 0 0] s (fun r s'=>r=.bool (winsMeet a.wins b.wins)∧s'=s):=by
 refine go Try.func44 (k:=fun hwf H=>?_)
 have hkb:=hkb_
 rw [Ten.pv] at hkb
 have hlt_kb:kb<s.nxt:=lt_blk hwf hkb_
 have hkb0:(kb=s.nxt)=False:=eq_false Y32
 have hkb1:(kb=s.nxt+1)=False:=eq_false Y32
 have H:=aj hkb (aj hkb0 (aj hkb1 H))
 refine rs (k:=rg [1,2] (k:=rs (k:=rr (k:=ro (pre:=[_,_,_,_]) (k:=rC (h:=window_Meets (a:=a.wins) (b:=b.wins) ha.wins hb.wins ha.nw hb.nw) (k:=rh [3] (k:=rR (k:=rP (by simp only [Try.f44,go_sem];rfl) hwf ⟨?_,rfl⟩))))))))
 rfl
theorem table_beside2 {a:Slt} {b:Ten} (ha:a.ok) (hb:b.ok) {s:St} {kb:Nat} (hkb_:s.blk kb=some (.row 48 [a.pv])):ACalls Try.prog 47 [b.pv,.ptr kb 0 0] s (fun r s'=>r=.bool (sltMeets a b.slts)∧s'=s):=by
 refine go Try.func47 (k:=fun hwf H=>?_)
 have hkb:=hkb_
 rw [Slt.pv] at hkb
 have hlt_kb:kb<s.nxt:=lt_blk hwf hkb_
 have hkb0:(kb=s.nxt)=False:=eq_false Y32
 have hkb1:(kb=s.nxt+1)=False:=eq_false Y32
 have H:=aj hkb (aj hkb0 (aj hkb1 H))
 refine rs (k:=rg [1,2] (k:=rs (k:=rr (k:=ro (pre:=[_,_,_]) (k:=rC (h:=table_meets (a:=a) ha (l:=b.slts) hb.slts hb.ns) (k:=rh [3] (k:=rR (k:=rP (by simp only [Try.f47,go_sem];rfl) hwf ⟨?_,rfl⟩))))))))
 rfl
theorem Y143 {p:Prop} (h:p:=by first | exact ((Fr.refl hwf).new _).blk | exact (F1).blk | exact (F1.new _).blk):p:=h
theorem table_beside {x:Ten} (hx:x.ok) {l:List Ten} (hl:∀ y∈l,y.ok) (nl:l.length<140737488355328) {s:St}:ACalls Try.prog 33 [x.pv,.sl .unk (l.map Ten.pv)] s (fun r s'=>r=.int .i64 (tenBeside x l)∧s'=s):=by
 refine go Try.func33 (k:=fun hwf H=>?_)
 refine rs (k:=rg [1,2] (k:=rs (k:=rs (k:=rr (k:=ro (pre:=[_,_]) (k:=rC (h:=contains_Ten (p:=fun y=>winsMeet x.wins y.wins) nl Y36 rfl (fun y hy=>table_beside1 hx (hl y hy) Y142)) (k:=rl [1,2,9] (k:=rc (ht:=fun hc0=>?_) (hf:=fun hc0=>?_)))))))))
 refine jO 1 ?_;rotate_left
 refine rk (k:=rs (k:=rs (k:=rg [1,2,11,12,13] (k:=rb (k:=?_)))))
 refine Run.loop (fun e s'=>Fr s s'∧∃ i:Nat,e=[(1,.sl .unk (l.map Ten.pv)),(2,.ptr s.nxt 0 0),(11,.sl .unk (x.slts.map Slt.pv)),(12,.int .i64 x.slts.length),(13,.int .i64 i)]∧i≤x.slts.length∧s.nxt<s'.nxt∧s'.blk s.nxt=some (.row 43 [.agg [.int .i64 (x).unit,.int .u32 (x).fns,.int .i64 (x).queue,.sl .unk ((x).wins.map Win.pv),.sl .unk ((x).slts.map Slt.pv)]])∧sltsBadA l [] x.slts=sltsBadA l (x.slts.take i) (x.slts.drop i)) (fun e s'=>x.slts.length-ivar e 13) ?_ ?_
 ·exact ⟨(Fr.refl hwf).new _,0,rfl,Y32,Y93,Y44,rfl⟩
 rintro e s1 ⟨F1,i,rfl,hi,hsn,hX,hidx⟩
 refine rs (k:=rg [1,2,11,12,13,14] (k:=rs (k:=rc (ht:=fun hc1=>?_) (hf:=fun hc1=>?_))))
 refine rk (k:=rs (k:=rb (k:=rs (k:=?_))))
 have hil:i<x.slts.length:=Y42
 have hns:=hx.ns
 obtain ⟨a,hae⟩:∃ z_,x.slts[i]'hil=z_:=⟨_,rfl⟩
 have hxa:(x.slts.map Slt.pv)[i]? =some (.agg [.int .i64 (a).pos,.int .i64 (a).len]):=by rw [map_get hil,hae];rfl
 have hw:IntKind.i64.wrap ((i:Int)+1)=((i+1:Nat):Int):=Y39
 have haok:a.ok:=by rw [← hae];exact hx.slts _ (List.getElem_mem _)
 have hsl:(x.slts.map Slt.pv).take i=(x.slts.take i).map Slt.pv:=List.map_take.symm
 have hile:((i:Int)≤(x.slts.length:Int))=True:=eq_true Y32
 have hXn:(s.nxt=s1.nxt)=False:=eq_false Y32
 have H:=aj hxa (aj hw (aj hsl (aj hile (aj hX (aj hXn H)))))
 refine rg [1,2,5,6,11,12,13] (k:=rs (k:=?_))
 refine Run.drawC [] [1,2,11,12,13,28] Try.mixed Y36 ?_
 refine DetC.pre (pre:=[_,_,_,_,_]) au ?_
 refine DetC.call au au au Y36 (table_meets haok (l:=x.slts.take i) (fun b hb=>hx.slts b (List.mem_of_mem_take hb)) (by have:=hx.ns;simp;omega)) ?_
 refine DetC.pre (pre:=[_]) au ?_
 rcases hd6:(sltMeets a (x.slts.take i)) with _ | _
 have H:=aj hd6 H
 refine DetC.gdo au au ?_
 refine DetC.gdo au au ?_
 refine DetC.call au au au Y36 (contains_Ten (p:=fun y=>sltMeets a y.slts) nl Y36 rfl (fun y hy=>table_beside2 haok (hl y hy) Y142)) ?_
 refine DetC.all au ?_
 refine re (k:=rc (ht:=fun hc2=>?_) (hf:=fun hc2=>?_))
 refine jO 1 ?_;rotate_left
 ·refine rk (k:=rB (k:=rg [1,2,11,12,13] (k:=?_)))
  rw [sltsBadA_step hil,hae,show sltMeets a (x.slts.take i)=false from hd6,show l.any (fun y=>sltMeets a y.slts)=false from hc2,Bool.or_self,Bool.false_or] at hidx
  refine Run.lp ⟨⟨F1.new _,i+1,rfl,Y32,Y93,by simp only [go_sem,hX,hXn,↓reduceIte],hidx⟩,?_⟩
  simp only [ivar,go_sem,↓reduceIte,Nat.reduceEqDiff]
  omega
 have H:=aj hd6 H
 refine DetC.gskip' au ?_
 refine DetC.gskip' au ?_
 refine DetC.gskip' au ?_
 refine DetC.all au ?_
 refine re (k:=rc (ht:=fun hc2=>?_) (hf:=fun hc2=>?_))
 refine jO 1 ?_;rotate_left
 ·cases hc2
 refine rX (k:=rs (k:=rg [4] (k:=rR (k:=?_))))
 refine jO 2 ?_;rotate_left
 any_goals
  refine jI 1 ?_
  refine rs (k:=rg [4] (k:=rR (k:=?_)))
  refine jO 2 ?_;rotate_left
 any_goals
  refine jI 2 ?_
  refine Ret.pure (by simp only [Try.f33,go_sem]<;>rfl) rfl Y41 hwf Y143 ⟨?_,rfl⟩
  refine jO 3 ?_;rotate_left
 any_goals
  refine jI 3 ?_
  first
   |(rw [tenBeside,if_pos hc0];rfl)
   |(rw [tenBeside,if_neg (by rw [hc0];decide)]
     first
      |(rw [sltsBadA_step hil,hae,show sltMeets a (x.slts.take i)=true from hd6,Bool.true_or,Bool.true_or] at hidx
        rw [hidx];rfl)
      |(rw [sltsBadA_step hil,hae,show l.any (fun y=>sltMeets a y.slts)=true from hc2,Bool.or_true,Bool.true_or] at hidx
        rw [hidx];rfl)
      |(have:i=x.slts.length:=by have:=of_decide_eq_false hc1;omega
        rw [this,List.drop_length] at hidx
        rw [hidx];rfl))
theorem table_Where {t:Tab} (ht:t.ok) {s:St}:ACalls Try.prog 21 [t.pv] s (fun r s'=>r=.tuple [.int .i64 (tabWhere t).1,.int .i64 (tabWhere t).2]∧s'=s):=by
 refine go Try.func21 (k:=fun hwf H=>?_)
 refine rs (k:=rg [1] (k:=rs (k:=rb (k:=rs (k:=rg [1,8] (k:=rc (ht:=fun hc0=>?_) (hf:=fun hc0=>?_)))))))
 refine jO 1 ?_;rotate_left
 refine rs (k:=rg [1,17] (k:=rc (ht:=fun hc1=>?_) (hf:=fun hc1=>?_)))
 refine jO 1 ?_;rotate_left
 refine rk (k:=rB (k:=rs (k:=rs (k:=rg [1,29,30,31] (k:=rb (k:=?_))))))
 refine Run.loop (fun e s'=>Fr s s'∧∃ i:Nat,e=[(1,.ptr s.nxt 0 0),(29,.sl .unk (t.tens.map Ten.pv)),(30,.int .i64 t.tens.length),(31,.int .i64 i)]∧i≤t.tens.length∧s.nxt<s'.nxt∧s'.blk s.nxt=some (.row 24 [.agg [.int .i64 (t).frame,.sl .unk ((t).tens.map Ten.pv)]])∧tabWhereA t.frame [] t.tens=tabWhereA t.frame (t.tens.take i) (t.tens.drop i)) (fun e s'=>t.tens.length-ivar e 31) ?_ ?_
 ·exact ⟨(Fr.refl hwf).new _,0,rfl,Y32,Y93,Y44,rfl⟩
 rintro e s1 ⟨F1,i,rfl,hi,hsn,hX,hidx⟩
 refine rs (k:=rg [1,29,30,31,32] (k:=rs (k:=rc (ht:=fun hc2=>?_) (hf:=fun hc2=>?_))))
 refine rk (k:=rs (k:=rb (k:=rs (k:=?_))))
 have hil:i<t.tens.length:=by have:=of_decide_eq_true hc2;omega
 have hnt:=ht.nt
 obtain ⟨x,hxe⟩:∃ z_,t.tens[i]'hil=z_:=⟨_,rfl⟩
 have hxx:(t.tens.map Ten.pv)[i]? =some (.agg [.int .i64 (x).unit,.int .u32 (x).fns,.int .i64 (x).queue,.sl .unk ((x).wins.map Win.pv),.sl .unk ((x).slts.map Slt.pv)]):=Y38
 have hw:IntKind.i64.wrap ((i:Int)+1)=((i+1:Nat):Int):=Y39
 have hxok:x.ok:=by rw [← hxe];exact ht.tens _ (List.getElem_mem _)
 have hsl:(t.tens.map Ten.pv).take i=(t.tens.take i).map Ten.pv:=List.map_take.symm
 have hile:((i:Int)≤(t.tens.length:Int))=True:=eq_true Y32
 have hXn:(s.nxt=s1.nxt)=False:=eq_false Y32
 have hfr:0≤t.frame∧t.frame≤4611686018427387904:=by simp at hc0;omega
 have H:=aj hxx (aj hw (aj hsl (aj hile (aj hX (aj hXn H)))))
 refine rg [1,4,5,29,30,31] (k:=rs (k:=rs (k:=rr (k:=ro (pre:=[_,_,_]) (k:=rC (h:=table_tenant hxok hfr) (k:=rh [1,4,5,6,29,30,31] (k:=rs (k:=rg [1,4,5,6,29,30,31,41] (k:=rc (ht:=fun hc3=>?_) (hf:=fun hc3=>?_))))))))))
 refine jO 1 ?_;rotate_left
 refine rk (k:=rs (k:=?_))
 refine Run.drawC [] [1,4,7,29,30,31] Try.mixed Y36 ?_
 refine DetC.pre (pre:=[_,_,_,_,_]) au ?_
 refine DetC.call au au au Y36 (table_beside hxok (l:=t.tens.take i) (fun y hy=>ht.tens y (List.mem_of_mem_take hy)) (by have:=ht.nt;simp;omega)) ?_
 refine DetC.all au ?_
 refine re (k:=rs (k:=rg [1,4,7,29,30,31,51] (k:=rc (ht:=fun hc4=>?_) (hf:=fun hc4=>?_))))
 refine jO 1 ?_;rotate_left
 ·refine rk (k:=rB (k:=rg [1,29,30,31] (k:=?_)))
  have e1:tenWhy x t.frame=0:=by simpa using hc3
  have e2:tenBeside x (t.tens.take i)=0:=by simpa using hc4
  rw [tabWhereA_step hil,hxe,if_neg (by simp [e1]),if_neg (by simp [e2])] at hidx
  refine Run.lp ⟨⟨F1.new _,i+1,rfl,Y32,Y93,by simp only [go_sem,hX,hXn,↓reduceIte],hidx⟩,?_⟩
  simp only [ivar,go_sem,↓reduceIte,Nat.reduceEqDiff]
  omega
 refine rX (k:=rs (k:=rg [2,3] (k:=rR (k:=?_))))
 refine jO 2 ?_;rotate_left
 any_goals
  refine jI 1 ?_
  refine rs (k:=rg [2,3] (k:=rR (k:=?_)))
  refine jO 2 ?_;rotate_left
 any_goals
  refine jI 2 ?_
  refine Ret.pure (by simp only [Try.f21,go_sem]<;>rfl) rfl Y41 hwf Y143 ⟨?_,rfl⟩
  refine jO 3 ?_;rotate_left
 any_goals
  refine jI 3 ?_
  first
   |(rw [tabWhere,if_pos (by simpa using hc0)];rfl)
   |(rw [tabWhere,if_neg (by simpa using hc0),if_pos (by simp at hc1;omega)];rfl)
   |(have h0:¬ (t.frame<1∨2000<t.frame):=by simpa using hc0
     have h1:¬ (t.tens.length<1∨4<t.tens.length):=by simp at hc1;omega
     rw [tabWhere,if_neg h0,if_neg h1]
     first
      |(have e1:tenWhy x t.frame≠0:=by simpa using hc3
        rw [tabWhereA_step hil,hxe,if_pos e1] at hidx
        rw [hidx];rfl)
      |(have e1:tenWhy x t.frame=0:=by simpa using hc3
        have e2:tenBeside x (t.tens.take i)≠0:=by simpa using hc4
        rw [tabWhereA_step hil,hxe,if_neg (by simp [e1]),if_pos e2] at hidx
        rw [hidx];rfl)
      |(have:i=t.tens.length:=by have:=of_decide_eq_false hc2;omega
        rw [this,List.drop_length] at hidx
        rw [hidx];rfl))
theorem table_Right {t:Tab} (ht:t.ok) {s:St}:ACalls Try.prog 9 [t.pv] s (fun r s'=>r=.bool (tabRight t)∧s'=s):=by
 refine go Try.func9 (k:=fun hwf H=>?_)
 refine rs (k:=rg [1] (k:=rs (k:=rr (k:=ro (pre:=[_]) (k:=rC (h:=table_Where ht) (k:=rh [3] (k:=rs (k:=rg [2] (k:=rR (k:=rP (by simp only [Try.f9,go_sem];rfl) hwf ⟨?_,rfl⟩))))))))))
 rfl
theorem Win.ext4 {a b:Win} (h1:a.space=b.space) (h2:a.virt=b.virt) (h3:a.phys=b.phys) (h4:a.cnt=b.cnt):a=b:=by
 cases a;cases b;simp at *;exact ⟨h1,h2,h3,h4⟩
theorem Slt.ext2 {a b:Slt} (h1:a.pos=b.pos) (h2:a.len=b.len):a=b:=by
 cases a;cases b;simp at *;exact ⟨h1,h2⟩
theorem Y94 {p:Prop} (h:p:=by rw [map_get hjl,hye];rfl):p:=h
theorem equal_Win {xs ys:List Win} (nx:xs.length<140737488355328) {s:St}:ACalls Try.prog 30 [.sl .unk (xs.map Win.pv),.sl .unk (ys.map Win.pv)] s (fun r s'=>r=.bool (decide (xs=ys))∧s'=s):=by
 refine go Try.func30 (k:=fun hwf H=>?_)
 refine rs (k:=rg [0,1] (k:=rs (k:=rs (k:=rg [0,1,10] (k:=rc (ht:=fun hc0=>?_) (hf:=fun hc0=>?_))))))
 refine jO 1 ?_;rotate_left
 refine rk (k:=rs (k:=rs (k:=?_)))
 have hlen:xs.length=ys.length:=by simp at hc0;omega
 refine rg [0,1,12,13] (k:=rb (k:=?_))
 refine Run.loop (fun e s'=>s'=s∧∃ i:Nat,e=[(0,.sl .unk (xs.map Win.pv)),(1,.sl .unk (ys.map Win.pv)),(12,.int .i64 xs.length),(13,.int .i64 i)]∧i≤xs.length∧xs.take i=ys.take i) (fun e s'=>xs.length-ivar e 13) ?_ ?_
 ·exact Y37
 rintro e s' ⟨hs,i,rfl,hi,hbe⟩
 subst s'
 refine rs (k:=rg [0,1,12,13,14] (k:=rs (k:=rc (ht:=fun hc1=>?_) (hf:=fun hc1=>?_))))
 refine rk (k:=rs (k:=rb (k:=rs (k:=?_))))
 have hil:i<xs.length:=Y42
 have hjl:i<ys.length:=Y32
 obtain ⟨x,hxe⟩:∃ z_,xs[i]'hil=z_:=⟨_,rfl⟩
 have hxx:(xs.map Win.pv)[i]? =some (.agg [.int .i64 (x).space,.int .i64 (x).virt,.int .i64 (x).phys,.int .i64 (x).cnt]):=Y38
 obtain ⟨y,hye⟩:∃ z_,ys[i]'hjl=z_:=⟨_,rfl⟩
 have hxy:(ys.map Win.pv)[i]? =some (.agg [.int .i64 (y).space,.int .i64 (y).virt,.int .i64 (y).phys,.int .i64 (y).cnt]):=Y94
 have hw:IntKind.i64.wrap ((i:Int)+1)=((i+1:Nat):Int):=Y39
 have H:=aj hxx (aj hxy (aj hw H))
 refine rg [0,1,5,12,13] (k:=rs (k:=?_))
 refine Run.drawC [] [0,1,12,13,24] Try.mixed Y36 ?_
 refine DetC.all au ?_
 refine re (k:=rc (ht:=fun hc2=>?_) (hf:=fun hc2=>?_))
 refine jO 1 ?_;rotate_left
 ·refine rk (k:=rB (k:=rg [0,1,12,13] (k:=?_)))
  have hxy:x=y:=by
   simp at hc2
   exact Win.ext4 hc2.1 hc2.2.1 hc2.2.2.1 hc2.2.2.2
  refine Run.lp ⟨⟨rfl,i+1,rfl,Y32,?_⟩,?_⟩
  ·rw [take_get hil,take_get hjl,hbe,hxe,hye,hxy]
  ·exact Y43
 refine rX (k:=rs (k:=rg [4] (k:=rR (k:=rP (by simp only [Try.f30,go_sem];rfl) hwf ⟨?_,rfl⟩))))
 refine jO 2 ?_;rotate_left
 any_goals
  refine jI 1 ?_
  refine rs (k:=rg [4] (k:=rR (k:=rP (by simp only [Try.f30,go_sem];rfl) hwf ⟨?_,rfl⟩)))
  refine jO 2 ?_;rotate_left
 any_goals
  refine jI 2 ?_
  first
   |(have hne:xs≠ys:=by rintro rfl;simp at hc0
     rw [decide_eq_false hne];rfl)
   |(have hne:xs≠ys:=by
      rintro rfl
      rw [hxe] at hye
      subst hye
      simp at hc2
     rw [decide_eq_false hne];rfl)
   |(have hlen:xs.length=ys.length:=by simp at hc0;omega
     have:i=xs.length:=by have:=of_decide_eq_false hc1;omega
     rw [this,List.take_length,hlen,List.take_length] at hbe
     rw [decide_eq_true hbe];rfl)
theorem equal_Slt {xs ys:List Slt} (nx:xs.length<140737488355328) {s:St}:ACalls Try.prog 31 [.sl .unk (xs.map Slt.pv),.sl .unk (ys.map Slt.pv)] s (fun r s'=>r=.bool (decide (xs=ys))∧s'=s):=by
 refine go Try.func31 (k:=fun hwf H=>?_)
 refine rs (k:=rg [0,1] (k:=rs (k:=rs (k:=rg [0,1,10] (k:=rc (ht:=fun hc0=>?_) (hf:=fun hc0=>?_))))))
 refine jO 1 ?_;rotate_left
 refine rk (k:=rs (k:=rs (k:=?_)))
 have hlen:xs.length=ys.length:=by simp at hc0;omega
 refine rg [0,1,12,13] (k:=rb (k:=?_))
 refine Run.loop (fun e s'=>s'=s∧∃ i:Nat,e=[(0,.sl .unk (xs.map Slt.pv)),(1,.sl .unk (ys.map Slt.pv)),(12,.int .i64 xs.length),(13,.int .i64 i)]∧i≤xs.length∧xs.take i=ys.take i) (fun e s'=>xs.length-ivar e 13) ?_ ?_
 ·exact Y37
 rintro e s' ⟨hs,i,rfl,hi,hbe⟩
 subst s'
 refine rs (k:=rg [0,1,12,13,14] (k:=rs (k:=rc (ht:=fun hc1=>?_) (hf:=fun hc1=>?_))))
 refine rk (k:=rs (k:=rb (k:=rs (k:=?_))))
 have hil:i<xs.length:=Y42
 have hjl:i<ys.length:=Y32
 obtain ⟨x,hxe⟩:∃ z_,xs[i]'hil=z_:=⟨_,rfl⟩
 have hxx:(xs.map Slt.pv)[i]? =some (.agg [.int .i64 (x).pos,.int .i64 (x).len]):=Y38
 obtain ⟨y,hye⟩:∃ z_,ys[i]'hjl=z_:=⟨_,rfl⟩
 have hxy:(ys.map Slt.pv)[i]? =some (.agg [.int .i64 (y).pos,.int .i64 (y).len]):=Y94
 have hw:IntKind.i64.wrap ((i:Int)+1)=((i+1:Nat):Int):=Y39
 have H:=aj hxx (aj hxy (aj hw H))
 refine rg [0,1,5,12,13] (k:=rs (k:=?_))
 refine Run.drawC [] [0,1,12,13,24] Try.mixed Y36 ?_
 refine DetC.all au ?_
 refine re (k:=rc (ht:=fun hc2=>?_) (hf:=fun hc2=>?_))
 refine jO 1 ?_;rotate_left
 ·refine rk (k:=rB (k:=rg [0,1,12,13] (k:=?_)))
  have hxy:x=y:=by
   simp at hc2
   exact Slt.ext2 hc2.1 hc2.2
  refine Run.lp ⟨⟨rfl,i+1,rfl,Y32,?_⟩,?_⟩
  ·rw [take_get hil,take_get hjl,hbe,hxe,hye,hxy]
  ·exact Y43
 refine rX (k:=rs (k:=rg [4] (k:=rR (k:=rP (by simp only [Try.f31,go_sem];rfl) hwf ⟨?_,rfl⟩))))
 refine jO 2 ?_;rotate_left
 any_goals
  refine jI 1 ?_
  refine rs (k:=rg [4] (k:=rR (k:=rP (by simp only [Try.f31,go_sem];rfl) hwf ⟨?_,rfl⟩)))
  refine jO 2 ?_;rotate_left
 any_goals
  refine jI 2 ?_
  first
   |(have hne:xs≠ys:=by rintro rfl;simp at hc0
     rw [decide_eq_false hne];rfl)
   |(have hne:xs≠ys:=by
      rintro rfl
      rw [hxe] at hye
      subst hye
      simp at hc2
     rw [decide_eq_false hne];rfl)
   |(have hlen:xs.length=ys.length:=by simp at hc0;omega
     have:i=xs.length:=by have:=of_decide_eq_false hc1;omega
     rw [this,List.take_length,hlen,List.take_length] at hbe
     rw [decide_eq_true hbe];rfl)
theorem table_Same {a b:Ten} (ha:a.ok) {s:St}:ACalls Try.prog 18 [a.pv,b.pv] s (fun r s'=>r=.bool (tenSame a b)∧s'=s):=by
 refine go Try.func18 (k:=fun hwf H=>?_)
 refine rs (k:=rg [2,3] (k:=rs (k:=rr (k:=ro (pre:=[_,_,_,_,_,_,_,_,_,_,_,_,_,_,_,_,_,_,_,_]) (k:=rQ 24 (ht:=fun hg19=>?_) (hf:=fun hg19=>?_))))))
 refine rg1 (k:=rg1 (k:=rg1 (k:=rg1 (k:=rC (h:=equal_Win (xs:=a.wins) (ys:=b.wins) ha.nw) (k:=ro (pre:=[_,_]) (k:=rQ 31 (ht:=fun hg26=>?_) (hf:=fun hg26=>?_)))))))
 refine rg1 (k:=rg1 (k:=rg1 (k:=rg1 (k:=rC (h:=equal_Slt (xs:=a.slts) (ys:=b.slts) ha.ns) (k:=rh [4] (k:=rR (k:=rP (by simp only [Try.f18,go_sem];rfl) hwf ⟨?_,rfl⟩)))))))
 refine jO 1 ?_;rotate_left
 refine jO 2 ?_;rotate_left
 refine rg0 (k:=rg0 (k:=rg0 (k:=rg0 (k:=rg0 (k:=ro (pre:=[_,_]) (k:=rQ 31 (ht:=fun hg26=>?_) (hf:=fun hg26=>?_)))))))
 ·cases hg26
 refine jO 2 ?_;rotate_left
 any_goals
  refine jI 2 ?_
  refine rg0 (k:=rg0 (k:=rg0 (k:=rg0 (k:=rg0 (k:=rh [4] (k:=rR (k:=rP (by simp only [Try.f18,go_sem];rfl) hwf ⟨?_,rfl⟩)))))))
  refine jO 1 ?_;rotate_left
 any_goals
  refine jI 1 ?_
  rw [tenSame_eq]
  refine jO 3 ?_;rotate_left
 any_goals
  refine jI 3 ?_
  first
   |(rw [show (decide (a.unit=b.unit)&&decide (a.fns=b.fns)&&decide (a.queue=b.queue))=true from hg19,show decide (a.wins=b.wins)=true from hg26];simp [PV.weak];done)
   |(rw [show (decide (a.unit=b.unit)&&decide (a.fns=b.fns)&&decide (a.queue=b.queue))=true from hg19,show decide (a.wins=b.wins)=false from hg26];simp [PV.weak];done)
   |(rw [show (decide (a.unit=b.unit)&&decide (a.fns=b.fns)&&decide (a.queue=b.queue))=false from hg19];simp [PV.weak];done)
theorem equalFunc_Ten {xs ys:List Ten} {k:FuncId} {p:Ten→Ten→Bool} (nx:xs.length<140737488355328) {s:St} (hcal:callable Try.prog k=true) (hf:∀ (s:St),∀ x∈xs,∀ y∈ys,ACalls Try.prog k [x.pv,y.pv] s (fun r s'=>r=.bool (p x y)∧s'=s)) :
  ACalls Try.prog 23 [.sl .unk (xs.map Ten.pv),.sl .unk (ys.map Ten.pv),.fn (.func k) [] []] s (fun r s'=>r=.bool (alikeF p xs ys)∧s'=s):=by
 refine go Try.func23 (k:=fun hwf H=>?_)
 refine rs (k:=rg [0,1,2] (k:=rs (k:=rs (k:=rg [0,1,2,14] (k:=rc (ht:=fun hc0=>?_) (hf:=fun hc0=>?_))))))
 refine jO 1 ?_;rotate_left
 refine rk (k:=rs (k:=rs (k:=?_)))
 have hlen:xs.length=ys.length:=by simp at hc0;omega
 refine rg [1,2,15,16,17] (k:=rb (k:=?_))
 refine Run.loop (fun e s'=>Fr s s'∧∃ i:Nat,e=[(1,.sl .unk (ys.map Ten.pv)),(2,.fn (.func k) [] []),(15,.sl .unk (xs.map Ten.pv)),(16,.int .i64 xs.length),(17,.int .i64 i)]∧i≤xs.length∧alikeF p xs ys=alikeF p (xs.drop i) (ys.drop i)) (fun e s'=>xs.length-ivar e 17) ?_ ?_
 ·exact Y140
 rintro e s1 ⟨F1,i,rfl,hi,hidx⟩
 refine rs (k:=rg [1,2,15,16,17,18] (k:=rs (k:=rc (ht:=fun hc1=>?_) (hf:=fun hc1=>?_))))
 refine rk (k:=rs (k:=rb (k:=rs (k:=?_))))
 have hil:i<xs.length:=Y42
 have hjl:i<ys.length:=Y32
 obtain ⟨x,hxe⟩:∃ z_,xs[i]'hil=z_:=⟨_,rfl⟩
 have hxx:(xs.map Ten.pv)[i]? =some (.agg [.int .i64 (x).unit,.int .u32 (x).fns,.int .i64 (x).queue,.sl .unk ((x).wins.map Win.pv),.sl .unk ((x).slts.map Slt.pv)]):=Y38
 obtain ⟨y,hye⟩:∃ z_,ys[i]'hjl=z_:=⟨_,rfl⟩
 have hxy:(ys.map Ten.pv)[i]? =some (.agg [.int .i64 (y).unit,.int .u32 (y).fns,.int .i64 (y).queue,.sl .unk ((y).wins.map Win.pv),.sl .unk ((y).slts.map Slt.pv)]):=Y94
 have hw:IntKind.i64.wrap ((i:Int)+1)=((i+1:Nat):Int):=Y39
 have hss:(s1.nxt=s1.nxt+1)=False:=eq_false Y32
 have H:=aj hxx (aj hxy (aj hw (aj hss H)))
 refine rg [1,2,7,8,15,16,17] (k:=rs (k:=rg [1,2,8,9,15,16,17] (k:=rs (k:=rr (k:=ro (pre:=[_,_,_]) (k:=?_))))))
 refine RunO.callw au au au hcal ((hf _ x Y92 y (by rw [← hye];exact List.getElem_mem _)).mono ?_)
 rintro r1 s2 ⟨rfl,hs⟩
 subst s2
 refine rh [1,2,15,16,17,30] (k:=rc (ht:=fun hc2=>?_) (hf:=fun hc2=>?_))
 refine jO 1 ?_;rotate_left
 ·refine rk (k:=rB (k:=rg [1,2,15,16,17] (k:=?_)))
  rw [alikeF_step p hil hjl,hxe,hye,show p x y=true by simpa using hc2,Bool.true_and] at hidx
  refine Run.lp ⟨⟨(F1.new _).newset _ _ rfl,i+1,rfl,Y32,hidx⟩,?_⟩
  simp only [ivar,go_sem,↓reduceIte,Nat.reduceEqDiff]
  omega
 refine rX (k:=rs (k:=rg [6] (k:=rR (k:=?_))))
 refine jO 2 ?_;rotate_left
 any_goals
  refine jI 1 ?_
  refine rs (k:=rg [6] (k:=rR (k:=?_)))
  refine jO 2 ?_;rotate_left
 any_goals
  refine jI 2 ?_
  refine Ret.pure (by simp only [Try.f23,go_sem]<;>rfl) rfl Y41 hwf (by first | exact (Fr.refl hwf).blk | exact (F1).blk | exact ((F1.new _).newset _ _ rfl).blk) ⟨?_,rfl⟩
  refine jO 3 ?_;rotate_left
 any_goals
  refine jI 3 ?_
  first
   |(have hne:xs.length≠ys.length:=by simp at hc0;omega
     rw [alikeF_len p xs ys hne];rfl)
   |(rw [alikeF_step p hil hjl,hxe,hye,show p x y=false by simpa using hc2,Bool.false_and] at hidx
     rw [hidx];rfl)
   |(have hlen:xs.length=ys.length:=by simp at hc0;omega
     have:i=xs.length:=by have:=of_decide_eq_false hc1;omega
     rw [this,List.drop_length,hlen,List.drop_length] at hidx
     rw [hidx];rfl)
theorem table_Equal {a b:Tab} (ha:a.ok) {s:St}:ACalls Try.prog 14 [a.pv,b.pv] s (fun r s'=>r=.bool (tabSame a b)∧s'=s):=by
 refine go Try.func14 (k:=fun hwf H=>?_)
 refine rs (k:=rg [2,3] (k:=rs (k:=rr (k:=ro (pre:=[_,_,_,_,_,_]) (k:=rQ 10 (ht:=fun hg5=>?_) (hf:=fun hg5=>?_))))))
 refine rg1 (k:=rg1 (k:=rg1 (k:=rg1 (k:=rC (h:=equalFunc_Ten (p:=tenSame) ha.nt Y36 (fun s x hx y hy=>table_Same (ha.tens x hx))) (k:=rh [4] (k:=rR (k:=rP (by simp only [Try.f14,go_sem];rfl) hwf ⟨?_,rfl⟩)))))))
 refine jO 1 ?_;rotate_left
 refine rg0 (k:=rg0 (k:=rg0 (k:=rg0 (k:=rg0 (k:=rh [4] (k:=rR (k:=rP (by simp only [Try.f14,go_sem];rfl) hwf ⟨?_,rfl⟩)))))))
 refine jO 1 ?_;rotate_left
 any_goals
  refine jI 1 ?_
  rw [tabSame_eq]
  refine jO 2 ?_;rotate_left
 any_goals
  refine jI 2 ?_
  first
   |(rw [show decide (a.frame=b.frame)=true from hg5];simp [PV.weak];done)
   |(rw [show decide (a.frame=b.frame)=false from hg5];simp [PV.weak];done)
theorem Y144 {p:Prop} (h:p:=by simp only [PV.blw];exact ⟨fun t z e=>Y89,blws_wins _ _⟩):p:=h
theorem clip_Win {xs:List Win} {s:St}:ACalls Try.prog 25 [.sl .unk (xs.map Win.pv)] s (fun r s'=>r=.sl .unc (xs.map Win.pv)∧s'=s):=by
 refine go Try.func25 (k:=fun hwf H=>?_)
 have hfull:(xs.map Win.pv).take xs.length=xs.map Win.pv:=by rw [← List.length_map (f:=Win.pv),List.take_length]
 have H:=aj hfull H
 refine rs (k:=rg [0] (k:=rs (k:=rg [2] (k:=rR (k:=?_)))))
 refine Ret.pureK (r:=.sl .unc (xs.map Win.pv)) au Y144 hwf (fun _ _=>rfl) ⟨rfl,rfl⟩
theorem Y145 {p:Prop} (h:p:=by simp only [PV.blw];exact ⟨fun t z e=>Y89,blws_slts _ _⟩):p:=h
theorem clip_Slt {xs:List Slt} {s:St}:ACalls Try.prog 27 [.sl .unk (xs.map Slt.pv)] s (fun r s'=>r=.sl .unc (xs.map Slt.pv)∧s'=s):=by
 refine go Try.func27 (k:=fun hwf H=>?_)
 have hfull:(xs.map Slt.pv).take xs.length=xs.map Slt.pv:=by rw [← List.length_map (f:=Slt.pv),List.take_length]
 have H:=aj hfull H
 refine rs (k:=rg [0] (k:=rs (k:=rg [2] (k:=rR (k:=?_)))))
 refine Ret.pureK (r:=.sl .unc (xs.map Slt.pv)) au Y145 hwf (fun _ _=>rfl) ⟨rfl,rfl⟩
theorem clip_Ten {xs:List Ten} {s:St}:ACalls Try.prog 29 [.sl .unk (xs.map Ten.pv)] s (fun r s'=>r=.sl .unc (xs.map Ten.pv)∧s'=s):=by
 refine go Try.func29 (k:=fun hwf H=>?_)
 have hfull:(xs.map Ten.pv).take xs.length=xs.map Ten.pv:=by rw [← List.length_map (f:=Ten.pv),List.take_length]
 have H:=aj hfull H
 refine rs (k:=rg [0] (k:=rs (k:=rg [2] (k:=rR (k:=?_)))))
 refine Ret.pureK (r:=.sl .unc (xs.map Ten.pv)) au (by simp only [PV.blw];exact ⟨fun t z e=>Y89,blws_tens _ _⟩) hwf (fun _ _=>rfl) ⟨rfl,rfl⟩
theorem clone_Win_nil {s:St}:ACalls Try.prog 26 [.sl .nil []] s (fun r s'=>r=.sl .unk []∧s'=s):=by
 refine go Try.func26 (k:=fun hwf H=>?_)
 refine rs (k:=rg [0] (k:=rs (k:=rs (k:=rg [0,4] (k:=rc (ht:=fun hc0=>?_) (hf:=fun hc0=>?_))))))
 ·refine rs (k:=rg [2] (k:=rR (k:=rP (by simp only [Try.f26,go_sem];rfl) hwf ⟨?_,rfl⟩)))
  rfl
 ·cases hc0
theorem Y146 {p:Prop} (h:p:=by intro el hel;cases hel):p:=h
theorem clone_Win_any {xs:List Win} (hb:xs.length*32≤140737488355328) {s:St}:ACalls Try.prog 26 [.sl .any (xs.map Win.pv)] s (fun r s'=>r=.sl .unk (xs.map Win.pv)∧s'=s):=by
 refine go Try.func26 (k:=fun hwf H=>?_)
 refine rs (k:=rg [0] (k:=rs (k:=rs (k:=rg [0,4] (k:=rc (ht:=fun hc0=>?_) (hf:=fun hc0=>?_))))))
 ·cases hc0
 ·refine rk (k:=rs (k:=rr (k:=rO (k:=ro (pre:=[_]) (k:=?_)))))
  refine RunO.grow' au au au Try.td40 (by rw [Try.zp45];rfl) Y146 (isEls_map (P:=Try.prog) (e:=45) (f:=Win.pv) (fun a=>⟨rfl,by rw [Try.cz45];rfl⟩) _) (by rw [Try.by45];decide) (by rw [Try.by45];simp;omega) (.inr (.inl (.inl rfl))) ?_
  intro k1 s1 hgr htm
  refine rh [2] (k:=rR (k:=?_))
  refine Ret.pure (by simp only [Try.f26,go_sem]<;>rfl) (r':=.sl .unk (xs.map Win.pv)) (by rw [PV.weak,weaks_wins]) Y144 hwf (by first | exact ((Fr.refl hwf).tm htm (fun t z e=>Y89)).blk) ⟨?_,rfl⟩
  ·rfl
theorem clone_Win {xs:List Win} (hb:xs.length*32≤140737488355328) {s:St}:ACalls Try.prog 26 [.sl .unk (xs.map Win.pv)] s (fun r s'=>r=.sl .unk (xs.map Win.pv)∧s'=s) :=
 ACalls.unk1 (fun h=>by rw [h];exact clone_Win_nil) (clone_Win_any hb)
theorem clone_Slt_nil {s:St}:ACalls Try.prog 28 [.sl .nil []] s (fun r s'=>r=.sl .unk []∧s'=s):=by
 refine go Try.func28 (k:=fun hwf H=>?_)
 refine rs (k:=rg [0] (k:=rs (k:=rs (k:=rg [0,4] (k:=rc (ht:=fun hc0=>?_) (hf:=fun hc0=>?_))))))
 ·refine rs (k:=rg [2] (k:=rR (k:=rP (by simp only [Try.f28,go_sem];rfl) hwf ⟨?_,rfl⟩)))
  rfl
 ·cases hc0
theorem clone_Slt_any {xs:List Slt} (hb:xs.length*16≤140737488355328) {s:St}:ACalls Try.prog 28 [.sl .any (xs.map Slt.pv)] s (fun r s'=>r=.sl .unk (xs.map Slt.pv)∧s'=s):=by
 refine go Try.func28 (k:=fun hwf H=>?_)
 refine rs (k:=rg [0] (k:=rs (k:=rs (k:=rg [0,4] (k:=rc (ht:=fun hc0=>?_) (hf:=fun hc0=>?_))))))
 ·cases hc0
 ·refine rk (k:=rs (k:=rr (k:=rO (k:=ro (pre:=[_]) (k:=?_)))))
  refine RunO.grow' au au au Try.td41 (by rw [Try.zp48];rfl) Y146 (isEls_map (P:=Try.prog) (e:=48) (f:=Slt.pv) (fun a=>⟨rfl,by rw [Try.cz48];rfl⟩) _) (by rw [Try.by48];decide) (by rw [Try.by48];simp;omega) (.inr (.inl (.inl rfl))) ?_
  intro k1 s1 hgr htm
  refine rh [2] (k:=rR (k:=?_))
  refine Ret.pure (by simp only [Try.f28,go_sem]<;>rfl) (r':=.sl .unk (xs.map Slt.pv)) (by rw [PV.weak,weaks_slts]) Y145 hwf (by first | exact ((Fr.refl hwf).tm htm (fun t z e=>Y89)).blk) ⟨?_,rfl⟩
  ·rfl
theorem clone_Slt {xs:List Slt} (hb:xs.length*16≤140737488355328) {s:St}:ACalls Try.prog 28 [.sl .unk (xs.map Slt.pv)] s (fun r s'=>r=.sl .unk (xs.map Slt.pv)∧s'=s) :=
 ACalls.unk1 (fun h=>by rw [h];exact clone_Slt_nil) (clone_Slt_any hb)
attribute [local go_sem] weaks_tensc
theorem Y45 {p:Prop} (h:p:=by rw [nxt_new];omega):p:=h
theorem Y46 {p:Prop} (h:p:=by rw [nxt_set];omega):p:=h
theorem Y95 {p:Prop} (h:p:=by have:=(htk t _ ht).2;omega):p:=h
theorem Y147 {p:Prop} (h:p:=by rw [Try.zp43];rfl):p:=h
theorem Y148 {p:Prop} (h:p:=by rw [Try.by43];decide):p:=h
theorem table_Copy {t:Tab} (ht:t.ok) {s:St}:ACalls Try.prog 16 [t.pv] s (fun r s'=>r=t.pv∧s'=s):=by
 refine go Try.func16 (k:=fun hwf H=>?_)
 refine rs (k:=rg [1,2] (k:=rs (k:=rg [1,2,3] (k:=rs (k:=rs (k:=rg [2,3,10,11,12] (k:=rb (k:=?_))))))))
 refine Run.loop (fun e s'=>Fr s s'∧∃ (i:Nat) (k:SK),e=[(2,.ptr (s.nxt+1) 0 0),(3,.ptr (s.nxt+2) 0 0),(10,.sl .unk (t.tens.map Ten.pv)),(11,.int .i64 t.tens.length),(12,.int .i64 i)]∧i≤t.tens.length∧s.nxt+2<s'.nxt∧s'.blk (s.nxt+1)=some (.row 24 [.agg [.int .i64 0,.sl .nil []]])∧s'.blk (s.nxt+2)=some (.row 24 [.agg [.int .i64 t.frame,.sl k ((t.tens.take i).map Ten.pvc)]])∧Grows s' k i (Try.prog.cellsOf 43)∧(∀ t z,k=.tok t z→s.nxt+2<t∧t<s'.nxt)) (fun e s'=>t.tens.length-ivar e 12) ?_ ?_
 ·exact ⟨(((Fr.refl hwf).new _).new _).newset _ _ rfl,0,.nil,rfl,Y32,Y93,Y44,by simp only [go_sem,↓reduceIte,Nat.add_assoc,Nat.reduceAdd],.inl ⟨rfl,rfl⟩,Y90⟩
 rintro e s1 ⟨F1,i,k,rfl,hi,hsn,hR,hO,hgr,htk⟩
 refine rs (k:=rg [2,3,10,11,12,13] (k:=rs (k:=rc (ht:=fun hc0=>?_) (hf:=fun hc0=>?_))))
 ·refine rk (k:=rs (k:=rb (k:=rs (k:=?_))))
  have hil:i<t.tens.length:=Y91
  have hbt:=ht.bt
  obtain ⟨x,hxe⟩:∃ z_,t.tens[i]'hil=z_:=⟨_,rfl⟩
  have hxx:(t.tens.map Ten.pv)[i]? =some (.agg [.int .i64 (x).unit,.int .u32 (x).fns,.int .i64 (x).queue,.sl .unk ((x).wins.map Win.pv),.sl .unk ((x).slts.map Slt.pv)]):=Y38
  have hw:IntKind.i64.wrap ((i:Int)+1)=((i+1:Nat):Int):=Y39
  have hxok:x.ok:=by rw [← hxe];exact ht.tens _ (List.getElem_mem _)
  have hXn:(s.nxt+2=s1.nxt)=False:=eq_false Y32
  have hXn1:(s.nxt+1=s1.nxt)=False:=eq_false Y32
  have htl:(t.tens.take i).length=i:=Y164
  have H:=aj hxx (aj hw (aj hO (aj hXn (aj hXn1 H))))
  refine rg [2,3,5,10,11,12] (k:=rs (k:=?_))
  refine Run.drawC [9,11] [2,3,5,10,11,12] Try.mixed Y36 ?_
  refine DetC.pre (pre:=[_,_]) au ?_
  refine DetC.call au au au Y36 (clone_Win (xs:=x.wins) (by have:=hxok.bw;omega)) ?_
  refine DetC.call au au au Y36 (clip_Win (xs:=x.wins)) ?_
  refine DetC.pre (pre:=[_,_]) au ?_
  refine DetC.call au au au Y36 (clone_Slt (xs:=x.slts) (by have:=hxok.bs;omega)) ?_
  refine DetC.call au au au Y36 (clip_Slt (xs:=x.slts)) ?_
  refine DetC.pre (pre:=[_]) au ?_
  refine DetC.eff Y34 au au ?_
  refine DetC.pre (pre:=[_]) au ?_
  refine DetC.eff Y34 au au ?_
  refine DetC.nil ?_
  refine re (k:=?_)
  have hgr2:Grows (s1.new (.row 43 [.agg [.int .i64 (x).unit,.int .u32 (x).fns,.int .i64 (x).queue,.sl .unc ((x).wins.map Win.pv),.sl .unc ((x).slts.map Slt.pv)]])) k (t.tens.take i).length (Try.prog.cellsOf 43):=by
   rw [htl]
   exact hgr.mono fun t ht=>by
    rw [blk_new,if_neg Y95]
  refine rr (k:=ro (pre:=[_,_,_]) (k:=rO (k:=?_)))
  refine RunO.grow au au au Try.td22 Y147 (isEls_map (fun a=>⟨rfl,by rw [Try.cz43];rfl⟩) _) (isEls_map (f:=Ten.pvc) (fun a=>⟨rfl,by rw [Try.cz43];rfl⟩) [x]) Y148 (by rw [Try.by43];simp;omega) (by rw [List.length_map];exact hgr2) Y90 ?_
  intro k' s2 hgr' htm
  have hn2:=htm.nxt
  rw [nxt_new] at hn2
  have hO2:s2.blk (s.nxt+2)=some (.row 24 [.agg [.int .i64 t.frame,.sl k ((t.tens.take i).map Ten.pvc)]]):=by
   rw [htm.rest _ Y45 (fun z e=>hgr.ne e _ hO Y90 rfl),blk_new,if_neg Y32];exact hO
  have hR2:s2.blk (s.nxt+1)=some (.row 24 [.agg [.int .i64 0,.sl .nil []]]):=by
   rw [htm.rest _ Y45 (fun z e=>hgr.ne e _ hR Y90 rfl),blk_new,if_neg Y32];exact hR
  have H:=aj hO2 (aj hR2 H)
  refine rh [2,3,10,11,12] (k:=rB (k:=rg [2,3,10,11,12] (k:=?_)))
  rw [List.length_map,htl] at hgr'
  refine Run.lp ⟨⟨((F1.new _).tm htm (fun t z e=>by have:=htk t z e;omega)).set Y32 Y32 _,i+1,k',rfl,Y32,Y46,?_,?_,?_,fun t' z e=>?_⟩,?_⟩
  ·rw [blk_set,if_neg Y32];exact hR2
  ·rw [blk_set,if_pos rfl,take_get hil,hxe,List.map_append];rfl
  ·refine (show Grows s2 k' (i+1) _ from hgr').mono fun t' ht=>?_
   rw [blk_set,if_neg (hgr'.ne ht _ hO2 Y90)]
  ·rw [nxt_set]
   rcases htm.fresh t' z e with ⟨z2,h⟩ | ⟨h1,h2⟩
   ·have:=htk t' z2 h;omega
   ·rw [nxt_new] at h1;omega
  ·exact Y43
 ·refine rX (k:=rs (k:=?_))
  have hi2:i=t.tens.length:=by have:=of_decide_eq_false hc0;omega
  have htl:t.tens.take i=t.tens:=by rw [hi2,List.take_length]
  have H:=aj hO (aj hR H)
  refine rr (k:=ro (pre:=[_,_]) (k:=rC (h:=clip_Ten (xs:=t.tens.take i)) (k:=rh [2,3] (k:=rs (k:=rg [2] (k:=rR (k:=?_)))))))
  refine Ret.pure (r':=t.pv) (by simp only [Try.f16,go_sem,↓reduceIte,htl]<;>rfl) ?_ (blw_tab _ _) hwf ((F1.set Y32 Y32 _).set Y32 Y46 _).blk ⟨rfl,rfl⟩
  simp only [Tab.pv,PV.weak,PV.weaks,weaks_tens]
end Go.Proofs
namespace Go.Proofs
open Go.PM
set_option maxHeartbeats 2000000
theorem Y149 {p:Prop} (h:p:=by unfold aAppendFirst;dsimp only;rw [if_pos (by simpa using hne)];simp):p:=h
theorem clone_WinO_any {xs:List Win} (hne:xs≠[]) (hb:xs.length*32≤140737488355328) {s:St}:ACalls Try.prog 26 [.sl .any (xs.map Win.pv)] s (fun r s'=>r=.own s.nxt 0 xs.length∧s'=s.new (.row 45 (xs.map Win.pv))):=by
 refine go Try.func26 (k:=fun hwf H=>?_)
 refine rs (k:=rg [0] (k:=rs (k:=rs (k:=rg [0,4] (k:=rc (ht:=fun hc0=>?_) (hf:=fun hc0=>?_))))))
 ·cases hc0
 ·refine rk (k:=rs (k:=rr (k:=rO (k:=ro (pre:=[_]) (k:=?_)))))
  refine RunO.appendFirst au au au Try.td40 (by rw [Try.zp45];rfl) Y146 (isEls_map (P:=Try.prog) (e:=45) (f:=Win.pv) (fun a=>⟨rfl,by rw [Try.cz45];rfl⟩) _) (by rw [Try.by45];decide) (by rw [Try.by45];simp;omega) (v:=.own s.nxt 0 xs.length) (s':=s.new (.row 45 (xs.map Win.pv))) Y149 ?_
  refine rh [2] (k:=rR (k:=?_))
  exact Ret.all (by simp only [Try.f26,go_sem,↓reduceIte]<;>rfl) ⟨rfl,rfl⟩
theorem clone_WinO {xs:List Win} (hne:xs≠[]) (hb:xs.length*32≤140737488355328) {s:St}:ACalls Try.prog 26 [.sl .unk (xs.map Win.pv)] s (fun r s'=>r=.own s.nxt 0 xs.length∧s'=s.new (.row 45 (xs.map Win.pv))) :=
 ACalls.unk1 (fun h=>absurd Y138 hne) (clone_WinO_any hne hb)
theorem clip_WinO {id n:Nat} {els:List PV} {s:St} (hb:s.blk id=some (.row 45 els)):ACalls Try.prog 25 [.own id 0 n] s (fun r s'=>r=.own id 0 n∧s'=s):=by
 refine go Try.func25 (k:=fun hwf H=>?_)
 refine rs (k:=rg [0] (k:=rs (k:=rr (k:=ro (pre:=[_,_,_,_,_]) (k:=?_)))))
 refine RunO.clipOwn (el:=45) au au au au Try.td40 (by rw [Try.cz45];decide) hb rfl ?_
 refine rh [2] (k:=rR (k:=?_))
 exact Ret.all (by simp only [Try.f25,go_sem,↓reduceIte]<;>rfl) ⟨rfl,rfl⟩
theorem clone_SltO_any {xs:List Slt} (hne:xs≠[]) (hb:xs.length*16≤140737488355328) {s:St}:ACalls Try.prog 28 [.sl .any (xs.map Slt.pv)] s (fun r s'=>r=.own s.nxt 0 xs.length∧s'=s.new (.row 48 (xs.map Slt.pv))):=by
 refine go Try.func28 (k:=fun hwf H=>?_)
 refine rs (k:=rg [0] (k:=rs (k:=rs (k:=rg [0,4] (k:=rc (ht:=fun hc0=>?_) (hf:=fun hc0=>?_))))))
 ·cases hc0
 ·refine rk (k:=rs (k:=rr (k:=rO (k:=ro (pre:=[_]) (k:=?_)))))
  refine RunO.appendFirst au au au Try.td41 (by rw [Try.zp48];rfl) Y146 (isEls_map (P:=Try.prog) (e:=48) (f:=Slt.pv) (fun a=>⟨rfl,by rw [Try.cz48];rfl⟩) _) (by rw [Try.by48];decide) (by rw [Try.by48];simp;omega) (v:=.own s.nxt 0 xs.length) (s':=s.new (.row 48 (xs.map Slt.pv))) Y149 ?_
  refine rh [2] (k:=rR (k:=?_))
  exact Ret.all (by simp only [Try.f28,go_sem,↓reduceIte]<;>rfl) ⟨rfl,rfl⟩
theorem clone_SltO {xs:List Slt} (hne:xs≠[]) (hb:xs.length*16≤140737488355328) {s:St}:ACalls Try.prog 28 [.sl .unk (xs.map Slt.pv)] s (fun r s'=>r=.own s.nxt 0 xs.length∧s'=s.new (.row 48 (xs.map Slt.pv))) :=
 ACalls.unk1 (fun h=>absurd Y138 hne) (clone_SltO_any hne hb)
theorem clip_SltO {id n:Nat} {els:List PV} {s:St} (hb:s.blk id=some (.row 48 els)):ACalls Try.prog 27 [.own id 0 n] s (fun r s'=>r=.own id 0 n∧s'=s):=by
 refine go Try.func27 (k:=fun hwf H=>?_)
 refine rs (k:=rg [0] (k:=rs (k:=rr (k:=ro (pre:=[_,_,_,_,_]) (k:=?_)))))
 refine RunO.clipOwn (el:=48) au au au au Try.td41 (by rw [Try.cz48];decide) hb rfl ?_
 refine rh [2] (k:=rR (k:=?_))
 exact Ret.all (by simp only [Try.f27,go_sem,↓reduceIte]<;>rfl) ⟨rfl,rfl⟩
theorem clip_TenG {els:List PV} {s:St} (hbl:PV.blws s.nxt els):ACalls Try.prog 29 [.sl .unk els] s (fun r s'=>r=.sl .unc els∧s'=s):=by
 refine go Try.func29 (k:=fun hwf H=>?_)
 have hfull:els.take els.length=els:=List.take_length
 have H:=aj hfull H
 refine rs (k:=rg [0] (k:=rs (k:=rg [2] (k:=rR (k:=?_)))))
 refine Ret.pureK (r:=.sl .unc els) au (by simp only [PV.blw];exact ⟨fun t z e=>Y89,hbl⟩) hwf (fun _ _=>rfl) ⟨rfl,rfl⟩
def ownE (a b:Nat) (x:Ten):PV:=.agg [.int .i64 x.unit,.int .u32 x.fns,.int .i64 x.queue,if x.wins=[] then .sl .unc [] else .own a 0 x.wins.length,.own b 0 x.slts.length]
def cpEl (k a b j:Nat) (x:Ten):PV:=if j=k then ownE a b x else x.pvc
def cpL (k a b:Nat):Nat→List Ten→List PV
 | _,[]=>[]
 | j,x::l=>cpEl k a b j x::cpL k a b (j+1) l
theorem cpL_snoc (k a b:Nat) (x:Ten):∀ (l:List Ten) (j:Nat),cpL k a b j (l++[x])=cpL k a b j l++[cpEl k a b (j+l.length) x]
 | [],j=>rfl
 | y::l,j=>by
   simp only [List.cons_append,cpL,cpL_snoc k a b x l (j+1),List.length_cons]
   rw [show j+1+l.length=j+(l.length+1) from Y32]
theorem cpL_len (k a b:Nat):∀ (l:List Ten) (j:Nat),(cpL k a b j l).length=l.length
 | [],_=>rfl
 | x::l,j=>by simp only [cpL,List.length_cons,cpL_len k a b l (j+1)]
theorem cpEl_ok (k a b j:Nat) (x:Ten):(cpEl k a b j x).ok=true∧(cpEl k a b j x).cells.length=5:=by
 unfold cpEl
 split<;>exact ⟨rfl,rfl⟩
theorem cpL_ok (k a b:Nat):∀ (l:List Ten) (j:Nat),∀ p∈cpL k a b j l,p.ok=true∧p.cells.length=5
 | [],_,p,h=>by cases h
 | x::l,j,p,h=>by
   rcases List.mem_cons.1 h with rfl | h
   ·exact cpEl_ok k a b j x
   ·exact cpL_ok k a b l (j+1) p h
theorem ownE_weak (a b:Nat) (x:Ten):(ownE a b x).weak=.agg [.int .i64 x.unit,.int .u32 x.fns,.int .i64 x.queue,if x.wins=[] then .sl .unk [] else .own a 0 x.wins.length,.own b 0 x.slts.length]:=by
 unfold ownE
 split<;>simp only [PV.weak,PV.weaks]
theorem pvc_weak (x:Ten):x.pvc.weak=x.pv:=by simp only [Ten.pvc,Ten.pv,PV.weak,PV.weaks,weaks_wins,weaks_slts]
theorem cpEl_weak2 (k a b j:Nat) (x:Ten):(cpEl k a b j x).weak.weak=(cpEl k a b j x).weak:=by
 unfold cpEl
 split
 ·rw [ownE_weak];split<;>simp only [PV.weak,PV.weaks]
 ·rw [pvc_weak,weak_ten]
theorem cpL_weak2 (k a b:Nat):∀ (l:List Ten) (j:Nat),PV.weaks (PV.weaks (cpL k a b j l))=PV.weaks (cpL k a b j l)
 | [],_=>rfl
 | x::l,j=>by simp only [cpL,PV.weaks,cpEl_weak2,cpL_weak2 k a b l (j+1)]
theorem cpEl_blw {k a b j n:Nat} (ha:a<n) (hb:b<n) (x:Ten):(cpEl k a b j x).weak.blw n:=by
 unfold cpEl
 split
 ·rw [ownE_weak]
  split<;>simp only [PV.blw,PV.blws,and_true,true_and]<;>first | exact ⟨ha,hb⟩ | exact ⟨fun t z e=>Y89,hb⟩
 ·rw [pvc_weak];exact blw_ten _ _
theorem cpL_blw {k a b n:Nat} (ha:a<n) (hb:b<n):∀ (l:List Ten) (j:Nat),PV.blws n (PV.weaks (cpL k a b j l))
 | [],_=>trivial
 | x::l,j=>⟨cpEl_blw ha hb x,cpL_blw ha hb l (j+1)⟩
def cpW (x:Ten):Blk:=if x.wins=[] then .res else .row 45 (x.wins.map Win.pv)
def cpS (x:Ten):Blk:=.row 48 (x.slts.map Slt.pv)
attribute [local go_sem] weaks_tensc set_set
theorem Y96 {p:Prop} (h:p:=by first | omega |(have:=of_decide_eq_true hc0;omega)):p:=h
theorem Y97 {p:Prop} (h:p:=by rw [← hye];exact ht.tens _ (List.getElem_mem _)):p:=h
theorem Y98 {p:Prop} (h:p:=by subst h;rw [List.getElem?_eq_getElem hil,hye] at hk;exact Option.some.inj hk):p:=h
theorem Y99 {p:Prop} (h:p:=by unfold isEls;rw [Try.cz43];exact cpL_ok _ _ _ _ _):p:=h
theorem Y100 {p:Prop} (h:p:=by intro p hp;rw [List.mem_singleton.1 hp,Try.cz43];exact ⟨rfl,rfl⟩):p:=h
theorem Y101 {p:Prop} (h:p:=by exact (fun z e=>by have:=(htk _ _ e).1;omega)):p:=h
theorem Y102 {p:Prop} (h:p:=by exact (fun q hq=>by rw [List.mem_singleton.1 hq];exact clip_SltO (els:=y.slts.map Slt.pv) hcs)):p:=h
theorem Y103 {p:Prop} (h:p:=by have:=(htk t _ ht).1;omega):p:=h
theorem Y150 {p:Prop} (h:p:=by by_cases h9:k<i;rw [if_pos h9,if_pos Y32];rw [if_neg h9,if_neg Y32]):p:=h
theorem Y151 {p:Prop} (h:p:=by rw [Try.by43,cpL_len];simp;omega):p:=h
theorem Y152 {p:Prop} (h:p:=by rw [blk_set_ne Y32,hlt6 _ Y32];exact lo6 j hj):p:=h
theorem Y153 {p:Prop} (h:p:=by rw [blk_set_ne Y32,hlt6 _ Y32];exact ha6):p:=h
theorem Y154 {p:Prop} (h:p:=by rw [blk_set_ne Y32,hlt6 _ Y32];exact hb6):p:=h
theorem Y155 {p:Prop} (h:p:=by rw [hS6,blk_set_ne Y32,blk_set_self,if_pos Y32];unfold cpS;rw [← hyx]):p:=h
theorem Y165 {p:Prop} (h:p:=by rw [hS4,hp4];exact blk_new_eq):p:=h
set_option maxRecDepth 100000 in
theorem table_CopyK {t:Tab} (ht:t.ok) {k:Nat} {x:Ten} (hk:t.tens[k]? =some x) (hsl:x.slts≠[]) {s:St}:ACalls Try.prog 16 [t.pv] s (fun r s'=>r=.agg [.int .i64 t.frame,.sl .unk (PV.weaks (cpL k s.nxt (s.nxt+1) 0 t.tens))]∧s'=(s.new (cpW x)).new (cpS x)):=by
 refine go Try.func16 (k:=fun hwf H=>?_)
 have hkl:k<t.tens.length:=(List.getElem?_eq_some_iff.1 hk).1
 refine rs (k:=?_)
 refine Run.reserve ?_
 refine Run.reserve ?_
 refine Run.genS fun Sr hSr=>?_
 have ra0:Sr.blk s.nxt=some .res:=by rw [hSr,blk_new_ne (by show s.nxt≠s.nxt+1;omega)];exact blk_new_eq
 have rb0:Sr.blk (s.nxt+1)=some .res:=by rw [hSr];exact blk_new_eq
 have hrn:Sr.nxt=s.nxt+2:=by rw [hSr];rfl
 have lo0:∀ j,j<s.nxt→Sr.blk j=s.blk j:=fun j hj=>by rw [hSr,blk_new_ne (by show j≠s.nxt+1;omega),blk_new_ne Y32]
 clear hSr
 refine rg [1,2] (k:=rs (k:=rg [1,2,3] (k:=rs (k:=rs (k:=rg [2,3,10,11,12] (k:=rb (k:=?_)))))))
 refine Run.loop (fun e s'=>∃ (i:Nat) (kk:SK),e=[(2,.ptr (Sr.nxt+1) 0 0),(3,.ptr (Sr.nxt+2) 0 0),(10,.sl .unk (t.tens.map Ten.pv)),(11,.int .i64 t.tens.length),(12,.int .i64 i)]∧i≤t.tens.length∧Sr.nxt+2<s'.nxt∧s'.blk (Sr.nxt+1)=some (.row 24 [.agg [.int .i64 0,.sl .nil []]])∧s'.blk (Sr.nxt+2)=some (.row 24 [.agg [.int .i64 t.frame,.sl kk (cpL k s.nxt (s.nxt+1) 0 (t.tens.take i))]])∧Grows s' kk i (Try.prog.cellsOf 43)∧(∀ t z,kk=.tok t z→Sr.nxt+2<t∧t<s'.nxt)∧(∀ j,j<s.nxt→s'.blk j=s.blk j)∧s'.blk s.nxt=some (if k<i then cpW x else .res)∧s'.blk (s.nxt+1)=some (if k<i then cpS x else .res)) (fun e s'=>t.tens.length-ivar e 12) ?_ ?_
 ·exact ⟨0,.nil,rfl,Y32,Y93,Y44,by simp only [go_sem,↓reduceIte,Nat.add_assoc,Nat.reduceAdd,List.take_zero,cpL],.inl ⟨rfl,rfl⟩,Y90,fun j hj=>by simp (disch:=first | omega |(simp only [nxt_set,nxt_new]<;>omega) | fail) only [go_sem];exact lo0 j hj,by rw [if_neg (Nat.not_lt_zero _)];simp (disch:=first | omega |(simp only [nxt_set,nxt_new]<;>omega) | fail) only [go_sem];exact ra0,by rw [if_neg (Nat.not_lt_zero _)];simp (disch:=first | omega |(simp only [nxt_set,nxt_new]<;>omega) | fail) only [go_sem];exact rb0⟩
 rintro e s1 ⟨i,kk,rfl,hi,hsn,hR,hO,hgr,htk,hlo,hra,hrb⟩
 obtain hik | ⟨hik,hxw⟩ | ⟨hik,hxw⟩:i≠k∨(i=k∧x.wins≠[])∨(i=k∧x.wins=[]):=by
  by_cases h:i=k
  ·by_cases h2:x.wins=[]
   ·exact .inr (.inr ⟨h,h2⟩)
   ·exact .inr (.inl ⟨h,h2⟩)
  ·exact .inl h
 refine rs (k:=rg [2,3,10,11,12,13] (k:=rs (k:=rc (ht:=fun hc0=>?_) (hf:=fun hc0=>?_))))
 refine rk (k:=rs (k:=rb (k:=rs (k:=?_))))
 have hil:i<t.tens.length:=Y96
 have hbt:=ht.bt
 obtain ⟨y,hye⟩:∃ z_,t.tens[i]'hil=z_:=⟨_,rfl⟩
 have hxy:(t.tens.map Ten.pv)[i]? =some (.agg [.int .i64 (y).unit,.int .u32 (y).fns,.int .i64 (y).queue,.sl .unk ((y).wins.map Win.pv),.sl .unk ((y).slts.map Slt.pv)]):=by rw [map_get hil,hye];rfl
 have hw:IntKind.i64.wrap ((i:Int)+1)=((i+1:Nat):Int):=Y39
 have hyok:y.ok:=Y97
 have hXn:(Sr.nxt+2=s1.nxt)=False:=eq_false Y32
 have hXn1:(Sr.nxt+1=s1.nxt)=False:=eq_false Y32
 have htl:(t.tens.take i).length=i:=Y164
 have hyx:i=k→y=x:=fun h=>Y98
 have H:=aj hxy (aj hw (aj hO (aj hXn (aj hXn1 H))))
 refine rg [2,3,5,10,11,12] (k:=rs (k:=?_))
 refine Run.genS fun S4 hS4=>?_
 obtain ⟨p4,hp4⟩:∃ p,p=s1.nxt:=⟨_,rfl⟩
 rw [← hp4]
 have hx4:S4.blk p4=some (.row 43 [(.agg [.int .i64 y.unit,.int .u32 y.fns,.int .i64 y.queue,.sl .unk (y.wins.map Win.pv),.sl .unk (y.slts.map Slt.pv)])]):=Y165
 have hn4:S4.nxt=p4+1:=by rw [hS4,hp4];rfl
 have e4:∀ j,j<p4→S4.blk j=s1.blk j:=fun j hj=>by rw [hS4,blk_new_ne Y32]
 clear hS4
 have H:=aj hx4 H
 refine rH 12 [9,11] [[false,false],[true,false],[true,true]] [S4,(S4.set p4 (some (.row 43 [(.agg [.int .i64 y.unit,.int .u32 y.fns,.int .i64 y.queue,.sl .unc (y.wins.map Win.pv),.sl .unk (y.slts.map Slt.pv)])]))),(S4.set p4 (some (.row 43 [(.agg [.int .i64 y.unit,.int .u32 y.fns,.int .i64 y.queue,.sl .unc (y.wins.map Win.pv),.sl .unc (y.slts.map Slt.pv)])])))] Try.mixed (k:=?_)
 refine dP [0] (pre:=[_,_]) (k:=?_)
 refine dC [0] (h:=fun s _=>clone_Win (xs:=y.wins) (by have:=hyok.bw;omega)) (k:=?_)
 refine dC [0] (h:=fun s _=>clip_Win (xs:=y.wins)) (k:=?_)
 refine dP [0] (pre:=[_,_]) (k:=?_)
 refine dC [0] (h:=fun s _=>clone_Slt (xs:=y.slts) (by have:=hyok.bs;omega)) (k:=?_)
 refine dC [0] (h:=fun s _=>clip_Slt (xs:=y.slts)) (k:=?_)
 refine dP [0] (pre:=[_]) (k:=?_)
 refine dE [(0,1)] (k:=?_)
 refine dP [1] (pre:=[_]) (k:=?_)
 refine dE [(1,2)] (k:=?_)
 refine DetHC.nil ?_
 refine rl [2,3,5,10,11,12] (k:=?_)
 refine Run.genS fun S6 hS6=>?_
 have hx6:S6.blk p4=some (.row 43 [.agg [.int .i64 (y).unit,.int .u32 (y).fns,.int .i64 (y).queue,.sl .unc ((y).wins.map Win.pv),.sl .unc ((y).slts.map Slt.pv)]]):=by rw [hS6];exact blk_set_self _ _ _
 have hn6:p4<S6.nxt:=by rw [hS6];show p4<S4.nxt;omega
 have e6:∀ j,j<p4→S6.blk j=s1.blk j:=fun j hj=>by rw [hS6,blk_set_ne Y32];exact e4 j hj
 have ha6:S6.blk s.nxt=some (if k<i+1 then cpW x else .res):=by rw [e6 _ Y32,hra];exact congrArg some Y150
 have hb6:S6.blk (s.nxt+1)=some (if k<i+1 then cpS x else .res):=by rw [e6 _ Y32,hrb];exact congrArg some Y150
 clear hS6
 have hO6:S6.blk (Sr.nxt+2)=some (.row 24 [.agg [.int .i64 t.frame,.sl kk (cpL k s.nxt (s.nxt+1) 0 (t.tens.take i))]]):=by rw [e6 _ Y32];exact hO
 have hR6:S6.blk (Sr.nxt+1)=some (.row 24 [.agg [.int .i64 0,.sl .nil []]]):=by rw [e6 _ Y32];exact hR
 have hgr2:Grows S6 kk (cpL k s.nxt (s.nxt+1) 0 (t.tens.take i)).length (Try.prog.cellsOf 43):=by
  rw [cpL_len,htl]
  exact hgr.mono fun t ht=>e6 _ Y95
 have lo6:∀ j,j<s.nxt→S6.blk j=s.blk j:=fun j hj=>by rw [e6 _ Y32];exact hlo j hj
 have H:=aj hx6 (aj hO6 H)
 refine rr (k:=ro (pre:=[_,_,_]) (k:=rO (k:=?_)))
 refine RunO.grow (xs:=cpL k s.nxt (s.nxt+1) 0 (t.tens.take i)) (ys:=[.agg [.int .i64 (y).unit,.int .u32 (y).fns,.int .i64 (y).queue,.sl .unc ((y).wins.map Win.pv),.sl .unc ((y).slts.map Slt.pv)]]) au au au Try.td22 Y147 Y99 Y100 Y148 Y151 hgr2 Y90 ?_
 intro k' s2 hgr' htm
 have hn2:=htm.nxt
 have hO2:s2.blk (Sr.nxt+2)=some (.row 24 [.agg [.int .i64 t.frame,.sl kk (cpL k s.nxt (s.nxt+1) 0 (t.tens.take i))]]):=by
  rw [htm.rest _ Y32 (fun z e=>hgr2.ne e _ hO6 Y90 rfl)];exact hO6
 have hR2:s2.blk (Sr.nxt+1)=some (.row 24 [.agg [.int .i64 0,.sl .nil []]]):=by
  rw [htm.rest _ Y32 (fun z e=>hgr2.ne e _ hR6 Y90 rfl)];exact hR6
 have hlt6:∀ j,j<Sr.nxt→s2.blk j=S6.blk j:=fun j hj=>htm.rest _ Y32 Y101
 have H:=aj hO2 (aj hR2 H)
 refine rh [2,3,10,11,12] (k:=rB (k:=rg [2,3,10,11,12] (k:=?_)))
 rw [cpL_len,htl] at hgr'
 have htl0:0+(t.tens.take i).length=i:=Y32
 refine Run.lp ⟨⟨i+1,k',rfl,Y32,Y46,?_,?_,?_,fun t' z e=>?_,fun j hj=>?_,?_,?_⟩,?_⟩
 ·rw [blk_set_ne Y32];exact hR2
 ·rw [blk_set_self,take_get hil,hye,cpL_snoc,htl0]
  unfold cpEl
  rw [if_neg hik];rfl
 refine jO 1 ?_;rotate_left
 refine jO 2 ?_;rotate_left
 ·exact Y152
 ·exact Y153
 ·exact Y154
 ·exact Y43
 ·refine rX (k:=rs (k:=?_))
  have hi2:i=t.tens.length:=by have:=of_decide_eq_false hc0;omega
  have htl8:t.tens.take i=t.tens:=by rw [hi2,List.take_length]
  rw [htl8] at hO
  have H:=aj hO (aj hR H)
  refine rr (k:=ro (pre:=[_,_]) (k:=rC (h:=clip_TenG (cpL_blw Y32 Y32 _ _)) (k:=rh [2,3] (k:=rs (k:=rg [2] (k:=rR (k:=?_)))))))
  refine Ret.putN (r':=.agg [.int .i64 t.frame,.sl .unk (PV.weaks (cpL k s.nxt (s.nxt+1) 0 t.tens))]) ((s.new (cpW x)).new (cpS x)) (by simp only [Try.f16,go_sem,↓reduceIte]<;>rfl) (by simp only [PV.weak,PV.weaks,cpL_weak2]) (by show s.nxt≤s.nxt+1+1;omega) (by simp only [PV.blw,PV.blws,and_true,true_and];exact ⟨fun t z e=>Y89,cpL_blw (by show s.nxt<s.nxt+1+1;omega) (by show s.nxt+1<s.nxt+1+1;omega) _ _⟩) (new_wf (new_wf hwf _) _) (fun j hj=>?_) (fun j b hb=>?_) ⟨rfl,rfl⟩
  ·have hj:j<s.nxt+2:=hj
   rw [blk_set_ne Y32,blk_set_ne Y32]
   by_cases h1:j=s.nxt+1
   ·rw [h1,hrb,if_pos Y32];exact blk_new_eq.symm
   ·rw [blk_new_ne h1]
    by_cases h2:j=s.nxt
    ·rw [h2,hra,if_pos Y32];exact blk_new_eq.symm
    ·rw [blk_new_ne h2];exact hlo j Y32
  ·by_cases h1:j=s.nxt+1
   ·rw [h1,show ((s.new (cpW x)).new (cpS x)).blk (s.nxt+1)=some (cpS x) from blk_new_eq] at hb
    cases hb
    exact .inr (blws_slts _ _)
   ·rw [blk_new_ne h1] at hb
    by_cases h2:j=s.nxt
    ·rw [h2,blk_new_eq] at hb
     cases hb
     refine .inr ?_
     unfold cpW
     split
     ·trivial
     ·exact blws_wins _ _
    ·rw [blk_new_ne h2] at hb;exact .inl hb
 have hd0:decide (i<t.tens.length)=true:=decide_eq_true Y32
 have H:=aj hd0 H
 refine rs (k:=rg [2,3,10,11,12,13] (k:=rs (k:=rc (ht:=fun hc0=>?_) (hf:=fun hc0=>?_))))
 refine rk (k:=rs (k:=rb (k:=rs (k:=?_))))
 have hil:i<t.tens.length:=Y96
 have hbt:=ht.bt
 obtain ⟨y,hye⟩:∃ z_,t.tens[i]'hil=z_:=⟨_,rfl⟩
 have hxy:(t.tens.map Ten.pv)[i]? =some (.agg [.int .i64 (y).unit,.int .u32 (y).fns,.int .i64 (y).queue,.sl .unk ((y).wins.map Win.pv),.sl .unk ((y).slts.map Slt.pv)]):=by rw [map_get hil,hye];rfl
 have hw:IntKind.i64.wrap ((i:Int)+1)=((i+1:Nat):Int):=Y39
 have hyok:y.ok:=Y97
 have hXn:(Sr.nxt+2=s1.nxt)=False:=eq_false Y32
 have hXn1:(Sr.nxt+1=s1.nxt)=False:=eq_false Y32
 have htl:(t.tens.take i).length=i:=Y164
 have hyx:i=k→y=x:=fun h=>Y98
 have H:=aj hxy (aj hw (aj hO (aj hXn (aj hXn1 H))))
 refine rg [2,3,5,10,11,12] (k:=rs (k:=?_))
 have hyx:=hyx hik
 have hyw:y.wins≠[]:=by rw [hyx];exact hxw
 have hys:y.slts≠[]:=by rw [hyx];exact hsl
 refine Run.genS fun S4 hS4=>?_
 obtain ⟨p4,hp4⟩:∃ p,p=s1.nxt:=⟨_,rfl⟩
 rw [← hp4]
 have hx4:S4.blk p4=some (.row 43 [(.agg [.int .i64 y.unit,.int .u32 y.fns,.int .i64 y.queue,.sl .unk (y.wins.map Win.pv),.sl .unk (y.slts.map Slt.pv)])]):=Y165
 have hn4:S4.nxt=p4+1:=by rw [hS4,hp4];rfl
 have e4:∀ j,j<p4→S4.blk j=s1.blk j:=fun j hj=>by rw [hS4,blk_new_ne Y32]
 clear hS4
 have cW:ACalls Try.prog 26 [.sl .unk (y.wins.map Win.pv)] S4 (fun r s'=>r=.own (p4+1) 0 y.wins.length∧s'=S4.new (.row 45 (y.wins.map Win.pv))):=by
  have h:=clone_WinO (xs:=y.wins) hyw (by have:=hyok.bw;omega) (s:=S4)
  rw [hn4] at h;exact h
 have cS:ACalls Try.prog 28 [.sl .unk (y.slts.map Slt.pv)] (S4.new (.row 45 (y.wins.map Win.pv))) (fun r s'=>r=.own (p4+2) 0 y.slts.length∧s'=(S4.new (.row 45 (y.wins.map Win.pv))).new (.row 48 (y.slts.map Slt.pv))):=by
  have h:=clone_SltO (xs:=y.slts) hys (by have:=hyok.bs;omega) (s:=S4.new (.row 45 (y.wins.map Win.pv)))
  rw [nxt_new,hn4] at h;exact h
 have hcw:(S4.new (.row 45 (y.wins.map Win.pv))).blk (p4+1)=some (.row 45 (y.wins.map Win.pv)):=by rw [← hn4];exact blk_new_eq
 have hcs:((S4.new (.row 45 (y.wins.map Win.pv))).new (.row 48 (y.slts.map Slt.pv))).blk (p4+2)=some (.row 48 (y.slts.map Slt.pv)):=by rw [show p4+2=(S4.new (.row 45 (y.wins.map Win.pv))).nxt from Y45];exact blk_new_eq
 have hpn:(p4=S4.nxt)=False:=eq_false Y32
 have H:=aj hx4 (aj hpn H)
 refine rH 12 [2,6,9,11] [[false,false,false,false],[true,false,false,false],[true,true,false,false],[true,true,true,false],[true,true,true,true]] [S4,(S4.new (.row 45 (y.wins.map Win.pv))),((S4.new (.row 45 (y.wins.map Win.pv))).new (.row 48 (y.slts.map Slt.pv))),(((S4.new (.row 45 (y.wins.map Win.pv))).new (.row 48 (y.slts.map Slt.pv))).set p4 (some (.row 43 [(.agg [.int .i64 y.unit,.int .u32 y.fns,.int .i64 y.queue,.own (p4+1) 0 y.wins.length,.sl .unk (y.slts.map Slt.pv)])]))),(((S4.new (.row 45 (y.wins.map Win.pv))).new (.row 48 (y.slts.map Slt.pv))).set p4 (some (.row 43 [(.agg [.int .i64 y.unit,.int .u32 y.fns,.int .i64 y.queue,.own (p4+1) 0 y.wins.length,.own (p4+2) 0 y.slts.length])])))] Try.mixed (k:=?_)
 refine dP [0] (pre:=[_,_]) (k:=?_)
 refine dX (v:=.own (p4+1) 0 y.wins.length) [(0,1)] (h:=by intro q0 hq0;rw [List.mem_singleton.1 hq0];exact cW) (k:=?_)
 refine DetHC.call (v:=.own (p4+1) 0 y.wins.length) [1] [(S4.new (.row 45 (y.wins.map Win.pv)))] Y36 rfl au au au Y36 (fun q hq=>by rw [List.mem_singleton.1 hq];exact clip_WinO (els:=y.wins.map Win.pv) hcw) ?_
 refine dP [0,1] (pre:=[_,_]) (k:=?_)
 refine dX (v:=.own (p4+2) 0 y.slts.length) [(1,2)] (h:=by intro q0 hq0;rw [List.mem_singleton.1 hq0];exact cS) (k:=?_)
 refine DetHC.call (v:=.own (p4+2) 0 y.slts.length) [2] [((S4.new (.row 45 (y.wins.map Win.pv))).new (.row 48 (y.slts.map Slt.pv)))] Y36 rfl au au au Y36 Y102 ?_
 refine dP [1,2] (pre:=[_]) (k:=?_)
 refine dE [(2,3)] (k:=?_)
 refine dP [3] (pre:=[_]) (k:=?_)
 refine dE [(3,4)] (k:=?_)
 refine DetHC.nil ?_
 refine rl [2,3,5,10,11,12] (k:=?_)
 refine Run.genS fun S5 hS5=>?_
 have e5:∀ j,j<p4→S5.blk j=s1.blk j:=fun j hj=>by rw [hS5,blk_set_ne Y32];rw [blk_new_ne Y45,blk_new_ne Y32];exact e4 j hj
 have hx5:S5.blk p4=some (.row 43 [(.agg [.int .i64 y.unit,.int .u32 y.fns,.int .i64 y.queue,.own (p4+1) 0 y.wins.length,.own (p4+2) 0 y.slts.length])]):=by rw [hS5];exact blk_set_self _ _ _
 have hn5:S5.nxt=p4+3:=by rw [hS5];simp only [nxt_set,nxt_new,hn4]
 have hw5:S5.blk (p4+1)=some (.row 45 (y.wins.map Win.pv)):=by rw [hS5,blk_set_ne Y32,blk_new_ne Y45,← hn4];exact blk_new_eq
 have hs5:S5.blk (p4+2)=some (.row 48 (y.slts.map Slt.pv)):=by rw [hS5,blk_set_ne Y32,show p4+2=(S4.new (.row 45 (y.wins.map Win.pv))).nxt from Y45];exact blk_new_eq
 clear hS5
 rw [if_neg Y32] at hra hrb
 refine Run.moveB p4 (p4+1) s.nxt hw5 (by rw [e5 _ Y32];exact hra) hx5 Y32 Y32 fun S5a h5a=>?_
 have hx5a:S5a.blk p4=some (.row 43 [(.agg [.int .i64 y.unit,.int .u32 y.fns,.int .i64 y.queue,.own s.nxt 0 y.wins.length,.own (p4+2) 0 y.slts.length])]):=by rw [h5a,blk_set_self];simp [renE,renC]
 have hs5a:S5a.blk (p4+2)=some (.row 48 (y.slts.map Slt.pv)):=by rw [h5a,blk_set_ne Y32,blk_set_ne Y32,blk_set_ne Y32];exact hs5
 have ha5a:S5a.blk s.nxt=some (.row 45 (y.wins.map Win.pv)):=by rw [h5a,blk_set_ne Y32];exact blk_set_self _ _ _
 have e5a:∀ j,j<p4→j≠s.nxt→S5a.blk j=s1.blk j:=fun j hj h2=>by rw [h5a,blk_set_ne Y32,blk_set_ne h2,blk_set_ne Y32];exact e5 j hj
 have hn5a:S5a.nxt=p4+3:=by rw [h5a];simp only [nxt_set];exact hn5
 clear h5a
 refine Run.moveB p4 (p4+2) (s.nxt+1) hs5a (by rw [e5a _ Y32 Y32];exact hrb) hx5a Y32 Y32 fun S6 hS6=>?_
 have hx6:S6.blk p4=some (.row 43 [(.agg [.int .i64 y.unit,.int .u32 y.fns,.int .i64 y.queue,.own s.nxt 0 y.wins.length,.own (s.nxt+1) 0 y.slts.length])]):=by rw [hS6,blk_set_self];simp [renE,renC];omega
 have ha6:S6.blk s.nxt=some (if k<i+1 then cpW x else .res):=by rw [hS6,blk_set_ne Y32,blk_set_ne Y32,blk_set_ne Y32,ha5a,if_pos Y32];unfold cpW;rw [← hyx,if_neg hyw]
 have hb6:S6.blk (s.nxt+1)=some (if k<i+1 then cpS x else .res):=Y155
 have e6:∀ j,j<p4→j≠s.nxt→j≠s.nxt+1→S6.blk j=s1.blk j:=fun j hj h2 h3=>by rw [hS6,blk_set_ne Y32,blk_set_ne h3,blk_set_ne Y32];exact e5a j hj h2
 have hn6:p4<S6.nxt:=by rw [hS6];simp only [nxt_set];omega
 clear hS6
 have hO6:S6.blk (Sr.nxt+2)=some (.row 24 [.agg [.int .i64 t.frame,.sl kk (cpL k s.nxt (s.nxt+1) 0 (t.tens.take i))]]):=by rw [e6 _ Y32 Y32 Y32];exact hO
 have hR6:S6.blk (Sr.nxt+1)=some (.row 24 [.agg [.int .i64 0,.sl .nil []]]):=by rw [e6 _ Y32 Y32 Y32];exact hR
 have hgr2:Grows S6 kk (cpL k s.nxt (s.nxt+1) 0 (t.tens.take i)).length (Try.prog.cellsOf 43):=by
  rw [cpL_len,htl]
  exact hgr.mono fun t ht=>e6 _ Y95 Y103 Y103
 have lo6:∀ j,j<s.nxt→S6.blk j=s.blk j:=fun j hj=>by rw [e6 _ Y32 Y32 Y32];exact hlo j hj
 have H:=aj hx6 (aj hO6 H)
 refine rr (k:=ro (pre:=[_,_,_]) (k:=rO (k:=?_)))
 refine RunO.grow (xs:=cpL k s.nxt (s.nxt+1) 0 (t.tens.take i)) (ys:=[(.agg [.int .i64 y.unit,.int .u32 y.fns,.int .i64 y.queue,.own s.nxt 0 y.wins.length,.own (s.nxt+1) 0 y.slts.length])]) au au au Try.td22 Y147 Y99 Y100 Y148 Y151 hgr2 Y90 ?_
 intro k' s2 hgr' htm
 have hn2:=htm.nxt
 have hO2:s2.blk (Sr.nxt+2)=some (.row 24 [.agg [.int .i64 t.frame,.sl kk (cpL k s.nxt (s.nxt+1) 0 (t.tens.take i))]]):=by
  rw [htm.rest _ Y32 (fun z e=>hgr2.ne e _ hO6 Y90 rfl)];exact hO6
 have hR2:s2.blk (Sr.nxt+1)=some (.row 24 [.agg [.int .i64 0,.sl .nil []]]):=by
  rw [htm.rest _ Y32 (fun z e=>hgr2.ne e _ hR6 Y90 rfl)];exact hR6
 have hlt6:∀ j,j<Sr.nxt→s2.blk j=S6.blk j:=fun j hj=>htm.rest _ Y32 Y101
 have H:=aj hO2 (aj hR2 H)
 refine rh [2,3,10,11,12] (k:=rB (k:=rg [2,3,10,11,12] (k:=?_)))
 rw [cpL_len,htl] at hgr'
 have htl0:0+(t.tens.take i).length=i:=Y32
 refine Run.lp ⟨⟨i+1,k',rfl,Y32,Y46,?_,?_,?_,fun t' z e=>?_,fun j hj=>?_,?_,?_⟩,?_⟩
 ·rw [blk_set_ne Y32];exact hR2
 ·rw [blk_set_self,take_get hil,hye,cpL_snoc,htl0]
  unfold cpEl
  rw [if_pos hik];unfold ownE;rw [if_neg hyw]
 refine jO 1 ?_;rotate_left
 refine jO 2 ?_;rotate_left
 ·exact Y152
 ·exact Y153
 ·exact Y154
 ·exact Y43
 ·cases hc0
 have hd0:decide (i<t.tens.length)=true:=decide_eq_true Y32
 have H:=aj hd0 H
 refine rs (k:=rg [2,3,10,11,12,13] (k:=rs (k:=rc (ht:=fun hc0=>?_) (hf:=fun hc0=>?_))))
 refine rk (k:=rs (k:=rb (k:=rs (k:=?_))))
 have hil:i<t.tens.length:=Y96
 have hbt:=ht.bt
 obtain ⟨y,hye⟩:∃ z_,t.tens[i]'hil=z_:=⟨_,rfl⟩
 have hxy:(t.tens.map Ten.pv)[i]? =some (.agg [.int .i64 (y).unit,.int .u32 (y).fns,.int .i64 (y).queue,.sl .unk ((y).wins.map Win.pv),.sl .unk ((y).slts.map Slt.pv)]):=by rw [map_get hil,hye];rfl
 have hw:IntKind.i64.wrap ((i:Int)+1)=((i+1:Nat):Int):=Y39
 have hyok:y.ok:=Y97
 have hXn:(Sr.nxt+2=s1.nxt)=False:=eq_false Y32
 have hXn1:(Sr.nxt+1=s1.nxt)=False:=eq_false Y32
 have htl:(t.tens.take i).length=i:=Y164
 have hyx:i=k→y=x:=fun h=>Y98
 have H:=aj hxy (aj hw (aj hO (aj hXn (aj hXn1 H))))
 refine rg [2,3,5,10,11,12] (k:=rs (k:=?_))
 have hyx:=hyx hik
 have hyw:y.wins=[]:=by rw [hyx];exact hxw
 have hys:y.slts≠[]:=by rw [hyx];exact hsl
 refine Run.genS fun S4 hS4=>?_
 obtain ⟨p4,hp4⟩:∃ p,p=s1.nxt:=⟨_,rfl⟩
 rw [← hp4]
 have hx4:S4.blk p4=some (.row 43 [(.agg [.int .i64 y.unit,.int .u32 y.fns,.int .i64 y.queue,.sl .unk (y.wins.map Win.pv),.sl .unk (y.slts.map Slt.pv)])]):=Y165
 have hn4:S4.nxt=p4+1:=by rw [hS4,hp4];rfl
 have e4:∀ j,j<p4→S4.blk j=s1.blk j:=fun j hj=>by rw [hS4,blk_new_ne Y32]
 clear hS4
 have cS:ACalls Try.prog 28 [.sl .unk (y.slts.map Slt.pv)] S4 (fun r s'=>r=.own (p4+1) 0 y.slts.length∧s'=S4.new (.row 48 (y.slts.map Slt.pv))):=by
  have h:=clone_SltO (xs:=y.slts) hys (by have:=hyok.bs;omega) (s:=S4)
  rw [hn4] at h;exact h
 have hcs:(S4.new (.row 48 (y.slts.map Slt.pv))).blk (p4+1)=some (.row 48 (y.slts.map Slt.pv)):=by rw [← hn4];exact blk_new_eq
 have hpn:(p4=S4.nxt)=False:=eq_false Y32
 have hw0:y.wins.map Win.pv=[]:=by rw [hyw];rfl
 have H:=aj hx4 (aj hpn (aj hw0 H))
 refine rH 12 [6,9,11] [[false,false,false],[true,false,false],[true,true,false],[true,true,true]] [S4,(S4.new (.row 48 (y.slts.map Slt.pv))),((S4.new (.row 48 (y.slts.map Slt.pv))).set p4 (some (.row 43 [(.agg [.int .i64 y.unit,.int .u32 y.fns,.int .i64 y.queue,.sl .unc [],.sl .unk (y.slts.map Slt.pv)])]))),((S4.new (.row 48 (y.slts.map Slt.pv))).set p4 (some (.row 43 [(.agg [.int .i64 y.unit,.int .u32 y.fns,.int .i64 y.queue,.sl .unc [],.own (p4+1) 0 y.slts.length])])))] Try.mixed (k:=?_)
 refine dP [0] (pre:=[_,_]) (k:=?_)
 refine dC [0] (h:=fun s _=>clone_Win (xs:=y.wins) (by have:=hyok.bw;omega)) (k:=?_)
 refine dC [0] (h:=fun s _=>clip_Win (xs:=y.wins)) (k:=?_)
 refine dP [0] (pre:=[_,_]) (k:=?_)
 refine dX (v:=.own (p4+1) 0 y.slts.length) [(0,1)] (h:=by intro q0 hq0;rw [List.mem_singleton.1 hq0];exact cS) (k:=?_)
 refine DetHC.call (v:=.own (p4+1) 0 y.slts.length) [1] [(S4.new (.row 48 (y.slts.map Slt.pv)))] Y36 rfl au au au Y36 Y102 ?_
 refine dP [0,1] (pre:=[_]) (k:=?_)
 refine dE [(1,2)] (k:=?_)
 refine dP [2] (pre:=[_]) (k:=?_)
 refine dE [(2,3)] (k:=?_)
 refine DetHC.nil ?_
 refine rl [2,3,5,10,11,12] (k:=?_)
 refine Run.genS fun S5 hS5=>?_
 have e5:∀ j,j<p4→S5.blk j=s1.blk j:=fun j hj=>by rw [hS5,blk_set_ne Y32];rw [blk_new_ne Y32];exact e4 j hj
 have hx5:S5.blk p4=some (.row 43 [(.agg [.int .i64 y.unit,.int .u32 y.fns,.int .i64 y.queue,.sl .unc [],.own (p4+1) 0 y.slts.length])]):=by rw [hS5];exact blk_set_self _ _ _
 have hn5:S5.nxt=p4+2:=by rw [hS5];simp only [nxt_set,nxt_new,hn4]
 have hs5:S5.blk (p4+1)=some (.row 48 (y.slts.map Slt.pv)):=by rw [hS5,blk_set_ne Y32,← hn4];exact blk_new_eq
 clear hS5
 rw [if_neg Y32] at hra hrb
 refine Run.moveB p4 (p4+1) (s.nxt+1) hs5 (by rw [e5 _ Y32];exact hrb) hx5 Y32 Y32 fun S6 hS6=>?_
 have hx6:S6.blk p4=some (.row 43 [(.agg [.int .i64 y.unit,.int .u32 y.fns,.int .i64 y.queue,.sl .unc [],.own (s.nxt+1) 0 y.slts.length])]):=by rw [hS6,blk_set_self];simp [renE,renC]
 have ha6:S6.blk s.nxt=some (if k<i+1 then cpW x else .res):=by rw [hS6,blk_set_ne Y32,blk_set_ne Y32,blk_set_ne Y32,e5 _ Y32,hra,if_pos Y32];unfold cpW;rw [← hyx,if_pos hyw]
 have hb6:S6.blk (s.nxt+1)=some (if k<i+1 then cpS x else .res):=Y155
 have e6:∀ j,j<p4→j≠s.nxt→j≠s.nxt+1→S6.blk j=s1.blk j:=fun j hj h2 h3=>by rw [hS6,blk_set_ne Y32,blk_set_ne h3,blk_set_ne Y32];exact e5 j hj
 have hn6:p4<S6.nxt:=by rw [hS6];simp only [nxt_set];omega
 clear hS6
 have hO6:S6.blk (Sr.nxt+2)=some (.row 24 [.agg [.int .i64 t.frame,.sl kk (cpL k s.nxt (s.nxt+1) 0 (t.tens.take i))]]):=by rw [e6 _ Y32 Y32 Y32];exact hO
 have hR6:S6.blk (Sr.nxt+1)=some (.row 24 [.agg [.int .i64 0,.sl .nil []]]):=by rw [e6 _ Y32 Y32 Y32];exact hR
 have hgr2:Grows S6 kk (cpL k s.nxt (s.nxt+1) 0 (t.tens.take i)).length (Try.prog.cellsOf 43):=by
  rw [cpL_len,htl]
  exact hgr.mono fun t ht=>e6 _ Y95 Y103 Y103
 have lo6:∀ j,j<s.nxt→S6.blk j=s.blk j:=fun j hj=>by rw [e6 _ Y32 Y32 Y32];exact hlo j hj
 have H:=aj hx6 (aj hO6 H)
 refine rr (k:=ro (pre:=[_,_,_]) (k:=rO (k:=?_)))
 refine RunO.grow (xs:=cpL k s.nxt (s.nxt+1) 0 (t.tens.take i)) (ys:=[(.agg [.int .i64 y.unit,.int .u32 y.fns,.int .i64 y.queue,.sl .unc [],.own (s.nxt+1) 0 y.slts.length])]) au au au Try.td22 Y147 Y99 Y100 Y148 Y151 hgr2 Y90 ?_
 intro k' s2 hgr' htm
 have hn2:=htm.nxt
 have hO2:s2.blk (Sr.nxt+2)=some (.row 24 [.agg [.int .i64 t.frame,.sl kk (cpL k s.nxt (s.nxt+1) 0 (t.tens.take i))]]):=by
  rw [htm.rest _ Y32 (fun z e=>hgr2.ne e _ hO6 Y90 rfl)];exact hO6
 have hR2:s2.blk (Sr.nxt+1)=some (.row 24 [.agg [.int .i64 0,.sl .nil []]]):=by
  rw [htm.rest _ Y32 (fun z e=>hgr2.ne e _ hR6 Y90 rfl)];exact hR6
 have hlt6:∀ j,j<Sr.nxt→s2.blk j=S6.blk j:=fun j hj=>htm.rest _ Y32 Y101
 have H:=aj hO2 (aj hR2 H)
 refine rh [2,3,10,11,12] (k:=rB (k:=rg [2,3,10,11,12] (k:=?_)))
 rw [cpL_len,htl] at hgr'
 have htl0:0+(t.tens.take i).length=i:=Y32
 refine Run.lp ⟨⟨i+1,k',rfl,Y32,Y46,?_,?_,?_,fun t' z e=>?_,fun j hj=>?_,?_,?_⟩,?_⟩
 ·rw [blk_set_ne Y32];exact hR2
 ·rw [blk_set_self,take_get hil,hye,cpL_snoc,htl0]
  unfold cpEl
  rw [if_pos hik];unfold ownE;rw [if_pos hyw]
 refine jO 1 ?_;rotate_left
 refine jO 2 ?_;rotate_left
 ·exact Y152
 ·exact Y153
 ·exact Y154
 ·exact Y43
 ·cases hc0
 any_goals
  refine jI 1 ?_
  refine (show Grows s2 k' (i+1) _ from hgr').mono fun t' ht=>?_
  rw [blk_set_ne (hgr'.ne ht _ hO2 Y90)]
 any_goals
  refine jI 2 ?_
  rw [nxt_set]
  rcases htm.fresh t' z e with ⟨z2,h⟩ | ⟨h1,h2⟩
  ·have:=htk t' z2 h;omega
  ·omega
end Go.Proofs
namespace Go.Proofs
open Go.PM
set_option maxHeartbeats 2000000
end Go.Proofs
namespace Go.Proofs
open Go.PM
set_option maxHeartbeats 2000000
theorem Ten.ext5 {a b:Ten} (h1:a.unit=b.unit) (h2:a.fns=b.fns) (h3:a.queue=b.queue) (h4:a.wins=b.wins) (h5:a.slts=b.slts):a=b:=by
 cases a;cases b;simp at *;exact ⟨h1,h2,h3,h4,h5⟩
theorem Tab.ext2 {a b:Tab} (h1:a.frame=b.frame) (h2:a.tens=b.tens):a=b:=by
 cases a;cases b;simp at *;exact ⟨h1,h2⟩
theorem take_eq_all {α:Type} {l m:List α} {i:Nat} (h:i=l.length) (hl:l.length=m.length) (e:l.take i=m.take i):l=m:=by
 rw [h,List.take_length,hl,List.take_length] at e;exact e
theorem ref11_Same {a b:Ten} (ha:a.ok) {s:St}:ACalls Try.prog 24 [a.pv,b.pv] s (fun r s'=>r=.bool (tenSame a b)∧s'=s):=by
 refine go Try.func24 (k:=fun hwf H=>?_)
 have hbw:=ha.bw
 have hbs:=ha.bs
 refine rs (k:=rg [2,3] (k:=rs (k:=rs (k:=rg [2,3,43] (k:=rc (ht:=fun hc0=>?_) (hf:=fun hc0=>?_))))))
 refine jO 1 ?_;rotate_left
 refine rk (k:=rs (k:=rs (k:=?_)))
 have hfl:a.unit=b.unit∧a.fns=b.fns∧a.queue=b.queue∧a.wins.length=b.wins.length∧a.slts.length=b.slts.length:=by
  simp only [Bool.or_eq_false_iff,Bool.not_eq_false',decide_eq_true_eq] at hc0
  omega
 refine rg [2,3,46,47] (k:=rb (k:=?_))
 refine Run.loop (fun e s'=>s'=(s.new (.row 43 [.agg [.int .i64 (a).unit,.int .u32 (a).fns,.int .i64 (a).queue,.sl .unk ((a).wins.map Win.pv),.sl .unk ((a).slts.map Slt.pv)]])).new (.row 43 [.agg [.int .i64 (b).unit,.int .u32 (b).fns,.int .i64 (b).queue,.sl .unk ((b).wins.map Win.pv),.sl .unk ((b).slts.map Slt.pv)]])∧∃ i:Nat,e=[(2,.ptr s.nxt 0 0),(3,.ptr (s.nxt+1) 0 0),(46,.int .i64 a.wins.length),(47,.int .i64 i)]∧i≤a.wins.length∧a.wins.take i=b.wins.take i) (fun e s'=>(a.wins).length-ivar e 47) ?_ ?_
 ·exact Y37
 rintro e s' ⟨hs,i,rfl,hi,hbe⟩
 subst s'
 refine rs (k:=rg [2,3,46,47,48] (k:=rs (k:=rc (ht:=fun hc1=>?_) (hf:=fun hc1=>?_))))
 refine rk (k:=rs (k:=rb (k:=rs (k:=?_))))
 have hil:i<(a.wins).length:=Y42
 have hjl:i<(b.wins).length:=Y32
 obtain ⟨x,hxe⟩:∃ z_,(a.wins)[i]'hil=z_:=⟨_,rfl⟩
 have hxx:((a.wins).map Win.pv)[i]? =some (.agg [.int .i64 (x).space,.int .i64 (x).virt,.int .i64 (x).phys,.int .i64 (x).cnt]):=Y38
 obtain ⟨y,hye⟩:∃ z_,(b.wins)[i]'hjl=z_:=⟨_,rfl⟩
 have hxy:((b.wins).map Win.pv)[i]? =some (.agg [.int .i64 (y).space,.int .i64 (y).virt,.int .i64 (y).phys,.int .i64 (y).cnt]):=Y94
 have hwi:IntKind.i64.wrap ((i:Int)+1)=((i+1:Nat):Int):=Y39
 have H:=aj hxx (aj hxy (aj hwi (aj hil (aj hjl H))))
 refine rg [2,3,5,46,47] (k:=rs (k:=?_))
 refine Run.drawC [] [2,3,46,47,60] Try.mixed Y36 ?_
 refine DetC.all au ?_
 refine re (k:=rc (ht:=fun hc2=>?_) (hf:=fun hc2=>?_))
 refine jO 1 ?_;rotate_left
 ·refine rk (k:=rB (k:=rg [2,3,46,47] (k:=?_)))
  have hxy:x=y:=by
   simp at hc2
   exact Win.ext4 hc2.1 hc2.2.1 hc2.2.2.1 hc2.2.2.2
  refine Run.lp ⟨⟨rfl,i+1,rfl,Y32,by rw [take_get hil,take_get hjl,hbe,hxe,hye,hxy]⟩,?_⟩
  simp only [ivar,go_sem,↓reduceIte,Nat.reduceEqDiff]
  omega
 refine rX (k:=rs (k:=rs (k:=rg [2,3,64,65] (k:=rb (k:=?_)))))
 refine Run.loop (fun e s'=>s'=(s.new (.row 43 [.agg [.int .i64 (a).unit,.int .u32 (a).fns,.int .i64 (a).queue,.sl .unk ((a).wins.map Win.pv),.sl .unk ((a).slts.map Slt.pv)]])).new (.row 43 [.agg [.int .i64 (b).unit,.int .u32 (b).fns,.int .i64 (b).queue,.sl .unk ((b).wins.map Win.pv),.sl .unk ((b).slts.map Slt.pv)]])∧∃ j:Nat,e=[(2,.ptr s.nxt 0 0),(3,.ptr (s.nxt+1) 0 0),(64,.int .i64 a.slts.length),(65,.int .i64 j)]∧j≤a.slts.length∧a.slts.take j=b.slts.take j) (fun e s'=>(a.slts).length-ivar e 65) ?_ ?_
 ·exact Y37
 rintro e s' ⟨hs,j,rfl,hj,hbs2⟩
 subst s'
 refine rs (k:=rg [2,3,64,65,66] (k:=rs (k:=rc (ht:=fun hc3=>?_) (hf:=fun hc3=>?_))))
 refine rk (k:=rs (k:=rb (k:=rs (k:=?_))))
 have hil:j<(a.slts).length:=by have:=of_decide_eq_true hc3;omega
 have hjl:j<(b.slts).length:=Y32
 obtain ⟨x,hxe⟩:∃ z_,(a.slts)[j]'hil=z_:=⟨_,rfl⟩
 have hxx:((a.slts).map Slt.pv)[j]? =some (.agg [.int .i64 (x).pos,.int .i64 (x).len]):=Y38
 obtain ⟨y,hye⟩:∃ z_,(b.slts)[j]'hjl=z_:=⟨_,rfl⟩
 have hxy:((b.slts).map Slt.pv)[j]? =some (.agg [.int .i64 (y).pos,.int .i64 (y).len]):=Y94
 have hwj:IntKind.i64.wrap ((j:Int)+1)=((j+1:Nat):Int):=Y39
 have H:=aj hxx (aj hxy (aj hwj (aj hil (aj hjl H))))
 refine rg [2,3,6,64,65] (k:=rs (k:=?_))
 refine Run.drawC [] [2,3,64,65,78] Try.mixed Y36 ?_
 refine DetC.all au ?_
 refine re (k:=rc (ht:=fun hc4=>?_) (hf:=fun hc4=>?_))
 refine jO 1 ?_;rotate_left
 ·refine rk (k:=rB (k:=rg [2,3,64,65] (k:=?_)))
  have hxy:x=y:=by
   simp at hc4
   exact Slt.ext2 hc4.1 hc4.2
  refine Run.lp ⟨⟨rfl,j+1,rfl,Y32,by rw [take_get hil,take_get hjl,hbs2,hxe,hye,hxy]⟩,?_⟩
  simp only [ivar,go_sem,↓reduceIte,Nat.reduceEqDiff]
  omega
 refine rX (k:=rs (k:=rg [4] (k:=rR (k:=?_))))
 refine jO 2 ?_;rotate_left
 any_goals
  refine jI 1 ?_
  refine rs (k:=rg [4] (k:=rR (k:=?_)))
  refine jO 2 ?_;rotate_left
 any_goals
  refine jI 2 ?_
  refine Ret.pure (by simp only [Try.f24,go_sem]<;>rfl) rfl Y41 hwf (by first | exact (((Fr.refl hwf).new _).new _).blk) ⟨?_,rfl⟩
  refine jO 3 ?_;rotate_left
 any_goals
  refine jI 3 ?_
  first
   |(have hne:a≠b:=by rintro rfl;simp at hc0
     rw [tenSame,decide_eq_false hne];rfl)
   |(have hne:a≠b:=by
      rintro rfl
      rw [hxe] at hye
      subst hye
      first
       |(simp at hc2;done)
       |(simp at hc4;done)
     rw [tenSame,decide_eq_false hne];rfl)
   |(have he:a=b:=Ten.ext5 hfl.1 hfl.2.1 hfl.2.2.1 (take_eq_all Y141 hfl.2.2.2.1 hbe) (take_eq_all (by have:=of_decide_eq_false hc3;omega) hfl.2.2.2.2 hbs2)
     rw [tenSame,decide_eq_true he];rfl)
theorem ref11_Equal {a b:Tab} (ha:a.ok) {s:St}:ACalls Try.prog 15 [a.pv,b.pv] s (fun r s'=>r=.bool (tabSame a b)∧s'=s):=by
 refine go Try.func15 (k:=fun hwf H=>?_)
 have hbt:=ha.bt
 refine rs (k:=rg [2,3] (k:=rs (k:=rs (k:=rg [2,3,19] (k:=rc (ht:=fun hc0=>?_) (hf:=fun hc0=>?_))))))
 refine jO 1 ?_;rotate_left
 refine rk (k:=rs (k:=rs (k:=?_)))
 have hfl:a.frame=b.frame∧a.tens.length=b.tens.length:=by
  simp only [Bool.or_eq_false_iff,Bool.not_eq_false',decide_eq_true_eq] at hc0
  omega
 refine rg [2,3,22,23] (k:=rb (k:=?_))
 refine Run.loop (fun e s'=>s'=(s.new (.row 24 [.agg [.int .i64 (a).frame,.sl .unk ((a).tens.map Ten.pv)]])).new (.row 24 [.agg [.int .i64 (b).frame,.sl .unk ((b).tens.map Ten.pv)]])∧∃ i:Nat,e=[(2,.ptr s.nxt 0 0),(3,.ptr (s.nxt+1) 0 0),(22,.int .i64 a.tens.length),(23,.int .i64 i)]∧i≤a.tens.length∧a.tens.take i=b.tens.take i) (fun e s'=>(a.tens).length-ivar e 23) ?_ ?_
 ·exact Y37
 rintro e s' ⟨hs,i,rfl,hi,hbe⟩
 subst s'
 refine rs (k:=rg [2,3,22,23,24] (k:=rs (k:=rc (ht:=fun hc1=>?_) (hf:=fun hc1=>?_))))
 refine rk (k:=rs (k:=rb (k:=rs (k:=?_))))
 have hil:i<(a.tens).length:=Y42
 have hjl:i<(b.tens).length:=Y32
 obtain ⟨x,hxe⟩:∃ z_,(a.tens)[i]'hil=z_:=⟨_,rfl⟩
 have hxx:((a.tens).map Ten.pv)[i]? =some (.agg [.int .i64 (x).unit,.int .u32 (x).fns,.int .i64 (x).queue,.sl .unk ((x).wins.map Win.pv),.sl .unk ((x).slts.map Slt.pv)]):=Y38
 obtain ⟨y,hye⟩:∃ z_,(b.tens)[i]'hjl=z_:=⟨_,rfl⟩
 have hxy:((b.tens).map Ten.pv)[i]? =some (.agg [.int .i64 (y).unit,.int .u32 (y).fns,.int .i64 (y).queue,.sl .unk ((y).wins.map Win.pv),.sl .unk ((y).slts.map Slt.pv)]):=Y94
 have hwi:IntKind.i64.wrap ((i:Int)+1)=((i+1:Nat):Int):=Y39
 have H:=aj hxx (aj hxy (aj hwi (aj hil (aj hjl H))))
 refine rg [2,3,5,22,23] (k:=rs (k:=?_))
 refine Run.drawC [] [2,3,22,23,37] Try.mixed Y36 ?_
 refine DetC.pre (pre:=[_,_,_,_,_,_,_,_,_,_]) au ?_
 refine DetC.call au au au Y36 (ref11_Same (a:=x) (b:=y) (by rw [← hxe];exact ha.tens _ (List.getElem_mem _))) ?_
 refine DetC.all au ?_
 refine re (k:=rc (ht:=fun hc2=>?_) (hf:=fun hc2=>?_))
 refine jO 1 ?_;rotate_left
 ·refine rk (k:=rB (k:=rg [2,3,22,23] (k:=?_)))
  have hxy:x=y:=by simpa [tenSame] using hc2
  refine Run.lp ⟨⟨rfl,i+1,rfl,Y32,by rw [take_get hil,take_get hjl,hbe,hxe,hye,hxy]⟩,?_⟩
  simp only [ivar,go_sem,↓reduceIte,Nat.reduceEqDiff]
  omega
 refine rX (k:=rs (k:=rg [4] (k:=rR (k:=?_))))
 refine jO 2 ?_;rotate_left
 any_goals
  refine jI 1 ?_
  refine rs (k:=rg [4] (k:=rR (k:=?_)))
  refine jO 2 ?_;rotate_left
 any_goals
  refine jI 2 ?_
  refine Ret.pure (by simp only [Try.f15,go_sem]<;>rfl) rfl Y41 hwf (by first | exact (((Fr.refl hwf).new _).new _).blk) ⟨?_,rfl⟩
  refine jO 3 ?_;rotate_left
 any_goals
  refine jI 3 ?_
  first
   |(have hne:a≠b:=by rintro rfl;simp at hc0
     rw [tabSame,decide_eq_false hne];rfl)
   |(have hne:a≠b:=by
      rintro rfl
      rw [hxe] at hye
      subst hye
      simp [tenSame] at hc2
     rw [tabSame,decide_eq_false hne];rfl)
   |(have he:a=b:=Tab.ext2 hfl.1 (take_eq_all Y141 hfl.2 hbe)
     rw [tabSame,decide_eq_true he];rfl)
end Go.Proofs
namespace Go.Proofs
open Go.PM
set_option maxHeartbeats 2000000
theorem Y156 {p:Prop} (h:p:=by simp only [Try.f17,go_sem];rfl):p:=h
theorem within_ {n lo hi:Int} (h0:0≤lo) (h1:lo≤hi) (h2:hi≤1152921504606846976) {s:St}:ACalls Try.prog 17 [.int .i64 n,.int .i64 lo,.int .i64 hi] s (fun r s'=>r=.int .i64 (withinI n lo hi)∧s'=s):=by
 refine go Try.func17 (k:=fun hwf H=>?_)
 have hb:=tmod_bound n (m:=hi-lo+1) Y32
 have hw1:IntKind.i64.wrap (hi-lo)=hi-lo:=wrap_i64 Y32
 have hw2:IntKind.i64.wrap (hi-lo+1)=hi-lo+1:=wrap_i64 Y32
 have hw3:IntKind.i64.wrap (n.tmod (hi-lo+1)+hi)=n.tmod (hi-lo+1)+hi:=wrap_i64 Y32
 have hw4:IntKind.i64.wrap (n.tmod (hi-lo+1)+hi-lo)=n.tmod (hi-lo+1)+hi-lo:=wrap_i64 Y32
 have hw5:IntKind.i64.wrap (n.tmod (hi-lo+1)+hi-lo+1)=n.tmod (hi-lo+1)+hi-lo+1:=wrap_i64 Y32
 have hne:(hi-lo+1=0)=False:=eq_false Y32
 have H:=aj hw1 (aj hw2 (aj hw3 (aj hw4 (aj hw5 (aj hne H)))))
 refine rs (k:=rg [0,1,2] (k:=rs (k:=rs (k:=rg [0,1,2,14] (k:=rc (ht:=fun hc0=>?_) (hf:=fun hc0=>?_))))))
 refine rs (k:=rg [6] (k:=rR (k:=rP Y156 hwf ⟨?_,rfl⟩)))
 refine jO 1 ?_;rotate_left
 refine rk (k:=rs (k:=rg [0,1,2] (k:=rs (k:=rs (k:=rg [0,1,2,23] (k:=rc (ht:=fun hc1=>?_) (hf:=fun hc1=>?_)))))))
 refine rg [0,1] (k:=rs (k:=rg [6] (k:=rR (k:=rP Y156 hwf ⟨?_,rfl⟩))))
 refine jO 1 ?_;rotate_left
 refine rk (k:=rs (k:=rg [6] (k:=rR (k:=rP Y156 hwf ⟨?_,rfl⟩))))
 refine jO 1 ?_;rotate_left
 any_goals
  refine jI 1 ?_
  unfold withinI
  refine jO 2 ?_;rotate_left
 any_goals
  refine jI 2 ?_
  first
   |(have h:lo≤n∧n≤hi:=by simpa using hc0
     rw [if_pos h];rfl)
   |(have h:¬ (lo≤n∧n≤hi):=by simpa using hc0
     have hm:=of_decide_eq_true hc1
     rw [if_neg h,if_pos hm,wrap_i64 Y32];rfl)
   |(have h:¬ (lo≤n∧n≤hi):=by simpa using hc0
     have hm:=of_decide_eq_false hc1
     rw [if_neg h,if_neg hm,wrap_i64 Y32];rfl)
theorem tape_Next {t:Tp} (ht:t.ok) {n:Int} {s:St} {tp:Nat} (hb:s.blk tp=some (.row 29 [t.pv])):ACalls Try.prog 19 [.ptr tp 0 0,.int .i64 n] s (fun r s'=>r=.int .i64 (t.val n)∧s'=s.set tp (some (.row 29 [(t.nx n).pv]))):=by
 refine go Try.func19 (k:=fun hwf H=>?_)
 rw [Tp.pv] at hb
 have hlen:=ht.len
 have hpos:=ht.pos
 have H:=aj hb H
 refine rs (k:=rg [0,1] (k:=rs (k:=rs (k:=?_))))
 refine Run.drawC [] [0,1,18] Try.mixed Y36 ?_
 refine DetC.all au ?_
 refine re (k:=rc (ht:=fun hc0=>?_) (hf:=fun hc0=>?_))
 refine rs (k:=rg [4] (k:=rR (k:=?_)))
 refine jO 1 ?_;rotate_left
 refine rk (k:=rs (k:=?_))
 have hc1:¬ (t.l.length≤t.pos∨n<1):=by simp only [Bool.or_eq_false_iff,decide_eq_false_iff_not] at hc0;omega
 have hw:IntKind.i64.wrap ((t.pos:Int)+1)=((t.pos+1:Nat):Int):=Y39
 have hw1:IntKind.i64.wrap (((t.pos+1:Nat):Int)-1)=((t.pos:Nat):Int):=Y39
 have hx:(t.l.map (PV.int .i64))[t.pos]? =some (.int .i64 (t.l[t.pos]?.getD 0)):=by rw [List.getElem?_map,List.getElem?_eq_getElem Y32];rfl
 have hn0:(n=0)=False:=eq_false Y32
 have hlt:((t.pos:Int)<(t.l.length:Int))=True:=eq_true Y32
 have H:=aj hw (aj hw1 (aj hx (aj hn0 (aj hlt H))))
 refine rg [0,1] (k:=rs (k:=?_))
 refine Run.drawC [] [4] Try.mixed Y36 ?_
 refine DetC.pre (pre:=[_,_,_,_,_,_,_,_,_,_,_]) au ?_
 refine DetC.call au au au Y36 (within_ (lo:=0) (hi:=1073741824) Y34 Y34 Y34) ?_
 refine DetC.all au ?_
 refine re (k:=rR (k:=?_))
 refine jO 1 ?_;rotate_left
 any_goals
  refine jI 1 ?_
  first
   |(have h0:t.l.length≤t.pos∨n<1:=by simp only [Bool.or_eq_true,decide_eq_true_eq] at hc0;omega
     refine Ret.all (by simp only [Try.f19,go_sem]<;>rfl) ⟨?_,?_⟩
     ·rw [Tp.val,if_pos h0]
     ·rw [Tp.nx,if_pos h0,Tp.pv];exact (St.set_self hb).symm)
   |(refine Ret.all (by simp only [Try.f19,go_sem]<;>rfl) ⟨?_,?_⟩
     ·rw [Tp.val,if_neg hc1]
     ·rw [Tp.nx,if_neg hc1];rfl)
end Go.Proofs
namespace Go.Proofs
open Go.PM
set_option maxHeartbeats 2000000
attribute [local go_sem] gD_set_map
theorem Y47 {p:Prop} (h:p:=by simp only [List.forall_mem_cons];exact ⟨Y32,Y32,Y90⟩):p:=h
theorem Y104 {p:Prop} (h:p:=by rw [K1.fr.blk tp hlt,blk_set,if_pos rfl]):p:=h
theorem Y157 {p:Prop} (h:p:=by simp only [go_sem,↓reduceIte,htN]):p:=h
theorem Y158 {p:Prop} (h:p:=by simp only [Blk.blw,PV.blws];exact ⟨blw_tape _ _,trivial⟩):p:=h
set_option maxRecDepth 100000 in
theorem tape_windows {T:Tp} (hT:T.ok) {i:Nat} (hi:i≤3) {s:St} {tp:Nat} (hb:s.blk tp=some (.row 29 [T.pv])):ACalls Try.prog 20 [.ptr tp 0 0,.int .i64 i] s (fun r s'=>∃ (ws:List Win) (T':Tp),r=.sl .unk (ws.map Win.pv)∧s'=s.set tp (some (.row 29 [T'.pv]))∧T'.ok∧WGood i ws):=by
 refine go Try.func20 (k:=fun hwf H=>?_)
 have hlt:tp<s.nxt:=lt_blk hwf hb
 have hs0:s.set tp (some (.row 29 [T.pv]))=s:=St.set_self hb
 have hw128:IntKind.i64.wrap (128*(i:Int))=128*(i:Int):=wrap_i64 Y32
 have hFt:(s.nxt=tp)=False:=eq_false Y32
 have hVt:(s.nxt+1=tp)=False:=eq_false Y32
 have htF:(tp=s.nxt)=False:=eq_false Y32
 have htV:(tp=s.nxt+1)=False:=eq_false Y32
 have H:=aj hw128 (aj hFt (aj hVt (aj htF (aj htV H))))
 refine rs (k:=rg [0,1] (k:=rs (k:=rg [0,1,5] (k:=rs (k:=rg [0,5,6] (k:=rs (k:=rg [0,5,6,7] (k:=rs (k:=rs (k:=rr (k:=ro (pre:=[_]) (k:=?_))))))))))))
 refine RunO.callw au au au Y36 ((tape_Next hT (n:=6) (by simp only [go_sem,htF,htV,↓reduceIte];exact hb)).mono ?_)
 rintro r s2 ⟨rfl,hs⟩
 subst s2
 refine rh [0,5,6,7,8] (k:=rb (k:=?_))
 refine Run.loop (fun e s'=>∃ (T1:Tp) (c:Nat) (m:Int) (ws:List Win) (fr vi:List Int) (kk:SK),e=[(0,.ptr tp 0 0),(5,.sl kk (ws.map Win.pv)),(6,.ptr s.nxt 0 0),(7,.ptr (s.nxt+1) 0 0),(8,.int .i64 m)]∧T1.ok∧Kp (s.set tp (some (.row 29 [T1.pv]))) s' [(s.nxt+1,.row 66 [.agg ((vi).map (PV.int .i64))]),(s.nxt,.row 66 [.agg ((fr).map (PV.int .i64))])]∧WInv i c ws fr vi∧Grows s' kk ws.length 4∧(∀ t z,kk=.tok t z→s.nxt+1<t∧t<s'.nxt)∧ -1≤m∧c+m≤5) (fun e s'=>ivar1 e 8) ?_ ?_
 ·have K0:Kp (s.set tp (some (.row 29 [(T.nx 6).pv]))) ((((s.new (.row 66 [.agg [.int .i64 (128*(i:Int)),.int .i64 (128*(i:Int)),.int .i64 (128*(i:Int)),.int .i64 (128*(i:Int))]])).new (.row 66 [.agg [.int .i64 0,.int .i64 0,.int .i64 0,.int .i64 0]])).set (s.nxt+1) (some (.row 66 [.agg [.int .i64 0,.int .i64 0,.int .i64 0,.int .i64 0]]))).set tp (some (.row 29 [(T.nx 6).pv]))) [(s.nxt+1,.row 66 [.agg [.int .i64 0,.int .i64 0,.int .i64 0,.int .i64 0]]),(s.nxt,.row 66 [.agg [.int .i64 (128*(i:Int)),.int .i64 (128*(i:Int)),.int .i64 (128*(i:Int)),.int .i64 (128*(i:Int))]])]:=by
   have h0:Kp (s.set tp (some (.row 29 [T.pv]))) (((s.new (.row 66 [.agg [.int .i64 (128*(i:Int)),.int .i64 (128*(i:Int)),.int .i64 (128*(i:Int)),.int .i64 (128*(i:Int))]])).new (.row 66 [.agg [.int .i64 0,.int .i64 0,.int .i64 0,.int .i64 0]])).set (s.nxt+1) (some (.row 66 [.agg [.int .i64 0,.int .i64 0,.int .i64 0,.int .i64 0]]))) [(s.nxt+1,.row 66 [.agg [.int .i64 0,.int .i64 0,.int .i64 0,.int .i64 0]]),(s.nxt,.row 66 [.agg [.int .i64 (128*(i:Int)),.int .i64 (128*(i:Int)),.int .i64 (128*(i:Int)),.int .i64 (128*(i:Int))]])]:=by
    rw [hs0]
    exact ((Kp.nil (Fr.refl hwf)).push _).pushset _ _ rfl
   exact h0.setbase hlt Y47 _
  have hv6:=T.val_bound (n:=6) Y34
  have hgr0:Grows s .nil 0 4:=.inl ⟨rfl,rfl⟩
  refine ⟨T.nx 6,0,T.val 6,[],[128*(i:Int),128*i,128*i,128*i],[0,0,0,0],.nil,rfl,hT.nx 6,K0,WInv.first i,.inl ⟨rfl,rfl⟩,fun t z e=>Y89,Y32,Y32⟩
 rintro e s1 ⟨T1,c,m,ws,fr,vi,kk,rfl,hT1,K1,WI,hgr,htk,hm1,hcm⟩
 refine rs (k:=rs (k:=rg [0,5,6,7,8,24] (k:=rc (ht:=fun hc0=>?_) (hf:=fun hc0=>?_))))
 ·refine rk (k:=rs (k:=rb (k:=rs (k:=?_))))
  have hT1b:s1.blk tp=some (.row 29 [T1.pv]):=Y104
  have hm0:0≤m:=of_decide_eq_true hc0
  obtain ⟨u,hu,hue⟩:=T1.val_nat (n:=6) Y34
  have hue:T1.val 6=(u:Int):=hue
  obtain ⟨hsp,hk4⟩:=spL_get (v:=u) Y32
  obtain ⟨k,hke⟩:∃ k,spL u=k:=⟨_,rfl⟩
  rw [hke] at hsp hk4
  have H:=aj hue (aj hsp H)
  refine rr (k:=rO (k:=ro (pre:=[_]) (k:=?_)))
  refine RunO.callw au au au Y36 ((tape_Next hT1 (n:=6) hT1b).mono ?_)
  rintro r s2 ⟨rfl,hs⟩
  subst s2
  refine rh [0,5,6,7,8,9] (k:=rs (k:=?_))
  obtain ⟨x,hx,hxe⟩:=(T1.nx 6).val_nat (n:=4) Y34
  have hxe:(T1.nx 6).val 4=(x:Int):=hxe
  obtain ⟨hg4,hg0,hg5⟩:=g4_get (u:=x) Y32
  obtain ⟨n3,hn3e⟩:∃ y,((T1.nx 6).nx 4).val 3=y:=⟨_,rfl⟩
  have hn3:=((T1.nx 6).nx 4).val_bound (n:=3) Y34
  rw [hn3e] at hn3
  obtain ⟨n18,hn18e⟩:∃ y,(((T1.nx 6).nx 4).nx 3).val 18=y:=⟨_,rfl⟩
  have hn18:=(((T1.nx 6).nx 4).nx 3).val_bound (n:=18) Y34
  rw [hn18e] at hn18
  have hfb:=WI.fb k hk4
  have hvb:=WI.vb k hk4
  have hfl:=WI.fl
  have hvl:=WI.vl
  have hd:∀ p∈([(s.nxt+1,.row 66 [.agg ((vi).map (PV.int .i64))]),(s.nxt,.row 66 [.agg ((fr).map (PV.int .i64))])]:List (Nat × Blk)),p.1≠tp:=by
   intro p hp
   simp only [List.mem_cons,List.not_mem_nil,or_false] at hp
   rcases hp with rfl | rfl<;>simp only<;>omega
  have hdV:((vi.map (PV.int .i64)).drop k).head? =some (.int .i64 (gD vi k)):=gD_drop Y32
  have hdF:((fr.map (PV.int .i64)).drop k).head? =some (.int .i64 (gD fr k)):=gD_drop Y32
  have hw1:IntKind.i64.wrap (gD vi k+g4 x)=gD vi k+g4 x:=wrap_i64 Y32
  have hw2:IntKind.i64.wrap (gD fr k+n3)=gD fr k+n3:=wrap_i64 Y32
  have hw3:IntKind.i64.wrap (1+n18)=1+n18:=wrap_i64 Y32
  have hk40:((k:Int)<4)=True:=eq_true Y32
  have hV:s1.blk (s.nxt+1)=some (.row 66 [.agg ((vi).map (PV.int .i64))]):=K1.hd
  have hF:s1.blk s.nxt=some (.row 66 [.agg ((fr).map (PV.int .i64))]):=K1.tl.hd
  have htN':tp≠s1.nxt:=by have:=K1.tl.lt;simp only at this;omega
  have htN:(tp=s1.nxt)=False:=eq_false htN'
  have hFs:(s.nxt=s1.nxt)=False:=eq_false (by have:=K1.tl.lt;omega)
  have hVs:(s.nxt+1=s1.nxt)=False:=K1.ne 0
  have H:=aj hxe (aj hg4 (aj hn3e (aj hn18e (aj hfl (aj hvl (aj hdV (aj hdF (aj hw1 (aj hw2 (aj hw3 (aj hk40 (aj hk4 (aj hV (aj hF (aj hFs (aj hVs (aj htN H)))))))))))))))))
  refine Run.drawG 21 [6,14,17] 20 (fun s=>s.new (.row 45 [.agg [.int .i64 0,.int .i64 0,.int .i64 0,.int .i64 0]])) [(s1.set tp (some (.row 29 [(T1.nx 6).pv]))),((s1.set tp (some (.row 29 [(T1.nx 6).pv]))).set tp (some (.row 29 [((T1.nx 6).nx 4).pv]))),(((s1.set tp (some (.row 29 [(T1.nx 6).pv]))).set tp (some (.row 29 [((T1.nx 6).nx 4).pv]))).set tp (some (.row 29 [(((T1.nx 6).nx 4).nx 3).pv]))),((((s1.set tp (some (.row 29 [(T1.nx 6).pv]))).set tp (some (.row 29 [((T1.nx 6).nx 4).pv]))).set tp (some (.row 29 [(((T1.nx 6).nx 4).nx 3).pv]))).set tp (some (.row 29 [((((T1.nx 6).nx 4).nx 3).nx 18).pv])))] Try.mixed Y36 Y36 Y34 Y34 ?_
  refine DetGC.pre (pre:=[_,_,_,_,_,_]) Y34 List.mem_cons_self au ?_
  refine DetGC.callE Y34 List.mem_cons_self au au au Y36 (tape_Next (hT1.nx 6) (n:=4) Y44) ((tape_Next (hT1.nx 6) (n:=4) Y157).new_set (by simp only [go_sem];exact htN')) ?_
  refine DetGC.pre (pre:=[_,_,_,_,_,_,_]) Y34 (List.mem_cons_of_mem _ List.mem_cons_self) au ?_
  refine DetGC.callE Y34 (List.mem_cons_of_mem _ List.mem_cons_self) au au au Y36 (tape_Next ((hT1.nx 6).nx 4) (n:=3) Y44) ((tape_Next ((hT1.nx 6).nx 4) (n:=3) Y157).new_set (by simp only [go_sem];exact htN')) ?_
  refine DetGC.pre (pre:=[_,_]) Y34 (List.mem_cons_of_mem _ (List.mem_cons_of_mem _ List.mem_cons_self)) au ?_
  refine DetGC.callE Y34 (List.mem_cons_of_mem _ (List.mem_cons_of_mem _ List.mem_cons_self)) au au au Y36 (tape_Next (((hT1.nx 6).nx 4).nx 3) (n:=18) Y44) ((tape_Next (((hT1.nx 6).nx 4).nx 3) (n:=18) Y157).new_set (by simp only [go_sem];exact htN')) ?_
  refine DetGC.pre (pre:=[_,_]) Y34 (List.mem_cons_of_mem _ (List.mem_cons_of_mem _ (List.mem_cons_of_mem _ List.mem_cons_self))) au ?_
  refine DetGC.alloc (v:=.ptr s1.nxt 0 0) Y34 (List.mem_cons_of_mem _ (List.mem_cons_of_mem _ (List.mem_cons_of_mem _ List.mem_cons_self))) au au ?_
  refine DetGC.nil (List.mem_cons_of_mem _ (List.mem_cons_of_mem _ (List.mem_cons_of_mem _ List.mem_cons_self))) ?_
  refine rh [0,5,6,7,8,9,10] (k:=rs (k:=?_))
  obtain ⟨sB,hsB⟩:∃ y,((((((s1.set tp (some (.row 29 [(T1.nx 6).pv]))).set tp (some (.row 29 [((T1.nx 6).nx 4).pv]))).set tp (some (.row 29 [(((T1.nx 6).nx 4).nx 3).pv]))).set tp (some (.row 29 [((((T1.nx 6).nx 4).nx 3).nx 18).pv]))).new (.row 45 [.agg [.int .i64 0,.int .i64 0,.int .i64 0,.int .i64 0]])).set s1.nxt (some (.row 45 [.agg [.int .i64 (k:Int),.int .i64 (gD vi k+g4 x),.int .i64 (gD fr k+n3),.int .i64 (1+n18)]])))=y:=⟨_,rfl⟩
  have KA:=(((K1.setbase (b':=(some (.row 29 [(T1.nx 6).pv]))) hlt hd).setbase (b':=(some (.row 29 [((T1.nx 6).nx 4).pv]))) hlt hd).setbase (b':=(some (.row 29 [(((T1.nx 6).nx 4).nx 3).pv]))) hlt hd).setbase (b':=(some (.row 29 [((((T1.nx 6).nx 4).nx 3).nx 18).pv]))) hlt hd
  have KB:Kp (s.set tp (some (.row 29 [((((T1.nx 6).nx 4).nx 3).nx 18).pv]))) sB [(s1.nxt,.row 45 [.agg [.int .i64 (k:Int),.int .i64 (gD vi k+g4 x),.int .i64 (gD fr k+n3),.int .i64 (1+n18)]]),(s.nxt+1,.row 66 [.agg ((vi).map (PV.int .i64))]),(s.nxt,.row 66 [.agg ((fr).map (PV.int .i64))])]:=by
   rw [← hsB]
   exact KA.pushset _ _ rfl
  rw [hsB]
  have hBV:sB.blk (s.nxt+1)=some (.row 66 [.agg ((vi).map (PV.int .i64))]):=KB.tl.hd
  have hBF:sB.blk s.nxt=some (.row 66 [.agg ((fr).map (PV.int .i64))]):=KB.tl.tl.hd
  have hBW:sB.blk s1.nxt=some (.row 45 [.agg [.int .i64 (k:Int),.int .i64 (gD vi k+g4 x),.int .i64 (gD fr k+n3),.int .i64 (1+n18)]]):=KB.hd
  have hWV:(s1.nxt=s.nxt+1)=False:=eq_false (by have:=K1.lt;omega)
  have hWF:(s1.nxt=s.nxt)=False:=eq_false (by have:=K1.lt;omega)
  have hw4:IntKind.i64.wrap (gD vi k+g4 x+(1+n18))=gD vi k+g4 x+(1+n18):=wrap_i64 Y32
  have hw5:IntKind.i64.wrap (gD fr k+n3+(1+n18))=gD fr k+n3+(1+n18):=wrap_i64 Y32
  have hk1:(k+1≤4)=True:=eq_true Y32
  have H:=aj hBV (aj hBF (aj hBW (aj hWV (aj hWF (aj hw4 (aj hw5 (aj hk1 H)))))))
  refine Run.drawM 16 [13,15] [sB,(sB.set (s.nxt+1) (some (.row 66 [.agg ((vi.set k (gD vi k+g4 x+(1+n18))).map (PV.int .i64))]))),((sB.set (s.nxt+1) (some (.row 66 [.agg ((vi.set k (gD vi k+g4 x+(1+n18))).map (PV.int .i64))]))).set s.nxt (some (.row 66 [.agg ((fr.set k (gD fr k+n3+(1+n18))).map (PV.int .i64))])))] Try.mixed Y36 Y36 ?_
  refine DetBC.pre (pre:=[_,_,_,_,_,_,_,_,_,_,_,_,_]) Y34 List.mem_cons_self au ?_
  refine DetBC.eff Y34 List.mem_cons_self au au ?_
  refine DetBC.pre (pre:=[_]) Y34 (List.mem_cons_of_mem _ List.mem_cons_self) au ?_
  refine DetBC.eff Y34 (List.mem_cons_of_mem _ List.mem_cons_self) au au ?_
  refine DetBC.nil (List.mem_cons_of_mem _ (List.mem_cons_of_mem _ List.mem_cons_self)) ?_
  refine rl [0,5,6,7,8,10] (k:=?_)
  have hwl:=WI.len
  have hc5:c≤5:=Y32
  have hlt1:s.nxt+1<s1.nxt:=K1.lt
  have hnB:sB.nxt=s1.nxt+1:=by rw [← hsB];rfl
  have KC:Kp (s.set tp (some (.row 29 [((((T1.nx 6).nx 4).nx 3).nx 18).pv]))) ((sB.set (s.nxt+1) (some (.row 66 [.agg ((vi.set k (gD vi k+g4 x+(1+n18))).map (PV.int .i64))]))).set s.nxt (some (.row 66 [.agg ((fr.set k (gD fr k+n3+(1+n18))).map (PV.int .i64))]))) [(s.nxt+1,.row 66 [.agg ((vi.set k (gD vi k+g4 x+(1+n18))).map (PV.int .i64))]),(s.nxt,.row 66 [.agg ((fr.set k (gD fr k+n3+(1+n18))).map (PV.int .i64))])]:=((KB.tl.setset (b':=.row 66 [.agg ((vi.set k (gD vi k+g4 x+(1+n18))).map (PV.int .i64))]) Y90 Y46).swap.setset (b':=.row 66 [.agg ((fr.set k (gD fr k+n3+(1+n18))).map (PV.int .i64))]) Y90 Y46).swap
  obtain ⟨sC,hsC⟩:∃ y,((sB.set (s.nxt+1) (some (.row 66 [.agg ((vi.set k (gD vi k+g4 x+(1+n18))).map (PV.int .i64))]))).set s.nxt (some (.row 66 [.agg ((fr.set k (gD fr k+n3+(1+n18))).map (PV.int .i64))])))=y:=⟨_,rfl⟩
  have hnC:sC.nxt=s1.nxt+1:=by rw [← hsC];exact hnB
  have hgr2:Grows sC kk ws.length 4:=by
   refine hgr.mono fun t ht=>?_
   have ht:=htk t 4 ht
   have a1:(t=s.nxt)=False:=eq_false Y32
   have a2:(t=s.nxt+1)=False:=eq_false Y32
   have a3:(t=tp)=False:=eq_false Y32
   have a4:(t=s1.nxt)=False:=eq_false Y32
   rw [← hsC,← hsB]
   simp only [go_sem,a1,a2,a3,a4,↓reduceIte]
  have hCW:sC.blk s1.nxt=some (.row 45 [.agg [.int .i64 (k:Int),.int .i64 (gD vi k+g4 x),.int .i64 (gD fr k+n3),.int .i64 (1+n18)]]):=by rw [← hsC];simp only [go_sem,hWV,hWF,↓reduceIte];exact hBW
  rw [hsC] at KC
  rw [hsC]
  have hwm:IntKind.i64.wrap (m-1)=m-1:=wrap_i64 Y32
  have H:=aj hCW (aj hwm H)
  refine rr (k:=ro (pre:=[_,_]) (k:=rO (k:=?_)))
  refine RunO.grow au au au Try.td40 (by rw [Try.zp45];rfl) (isEls_map (fun a=>⟨rfl,by rw [Try.cz45];rfl⟩) _) (isEls_map (f:=Win.pv) (fun a=>⟨rfl,by rw [Try.cz45];rfl⟩) [⟨(k:Int),gD vi k+g4 x,gD fr k+n3,1+n18⟩]) (by rw [Try.by45];decide) (by rw [Try.by45];simp;omega) (by rw [Try.cz45,List.length_map];exact hgr2) Y90 ?_
  intro k' s2 hgr' htm
  refine rh [0,5,6,7,8] (k:=rB (k:=rg [0,5,6,7,8] (k:=?_)))
  rw [List.length_map,Try.cz45] at hgr'
  refine Run.lp ⟨⟨_,c+1,m-1,ws++[⟨(k:Int),gD vi k+g4 x,gD fr k+n3,1+n18⟩],fr.set k (gD fr k+n3+(1+n18)),vi.set k (gD vi k+g4 x+(1+n18)),k',by rw [List.map_append];rfl,(((hT1.nx 6).nx 4).nx 3).nx 18,KC.tm htm (fun t z e=>?_) (fun p hp z e=>?_),WI.step hk4 ⟨hg0,hg5⟩ ⟨hn3.1,Y32⟩ ⟨hn18.1,Y32⟩,by rw [List.length_append];exact hgr',fun t z e=>?_,Y32,Y32⟩,?_⟩
  ·have:=htk t z e
   rw [nxt_set];omega
  ·have:=htk _ z e
   simp only [List.mem_cons,List.not_mem_nil,or_false] at hp
   rcases hp with rfl | rfl<;>simp only at this<;>omega
  ·have h9:=htm.nxt
   rcases htm.fresh t z e with ⟨z',h⟩ | ⟨h1,h2⟩
   ·have:=htk t z' h;omega
   ·omega
  ·simp only [ivar1,go_sem,↓reduceIte,Nat.reduceEqDiff]
   omega
 ·refine rX (k:=rs (k:=rg [4] (k:=rR (k:=?_))))
  refine Ret.baseK (r':=.sl .unk (ws.map Win.pv)) tp (.row 29 [T1.pv]) hlt (by simp only [Try.f20,go_sem,↓reduceIte]<;>rfl) (by simp only [PV.weak,weaks_wins]) (blw_wins _ _) Y158 hwf K1.fr.blk ⟨ws,T1,rfl,rfl,hT1,WI.good hi Y32⟩
end Go.Proofs
namespace Go.Proofs
open Go.PM
set_option maxHeartbeats 2000000
theorem Y48 {p:Prop} (h:p:=by simp only [List.forall_mem_cons];exact ⟨Y32,Y90⟩):p:=h
set_option maxRecDepth 100000 in
theorem tape_Table {T:Tp} (hT:T.ok) {s:St} {tp:Nat} (hb:s.blk tp=some (.row 29 [T.pv])):ACalls Try.prog 8 [.ptr tp 0 0] s (fun r s'=>∃ (t:Tab) (T':Tp),r=t.pv∧s'=s.set tp (some (.row 29 [T'.pv]))∧T'.ok∧tabRight t=true∧t.few 6):=by
 refine go Try.func8 (k:=fun hwf H=>?_)
 have hlt:tp<s.nxt:=lt_blk hwf hb
 have hs0:s.set tp (some (.row 29 [T.pv]))=s:=St.set_self hb
 have hFt:(s.nxt=tp)=False:=eq_false Y32
 have hVt:(s.nxt+1=tp)=False:=eq_false Y32
 have htF:(tp=s.nxt)=False:=eq_false Y32
 have htV:(tp=s.nxt+1)=False:=eq_false Y32
 have hv4:=T.val_bound (n:=4) Y34
 obtain ⟨n,hne⟩:∃ y,1+T.val 4=y:=⟨_,rfl⟩
 have hwn:IntKind.i64.wrap (1+T.val 4)=n:=by rw [wrap_i64 Y32,hne]
 have H:=aj hFt (aj hVt (aj htF (aj htV H)))
 refine rs (k:=rg [0,2] (k:=rs (k:=rr (k:=ro (pre:=[_]) (k:=?_)))))
 refine RunO.callw au au au Y36 ((tape_Next hT (n:=4) (by simp only [go_sem,htF,↓reduceIte];exact hb)).mono ?_)
 rintro r s9 ⟨rfl,hs⟩
 subst s9
 have H:=aj hwn H
 refine rh [0,2,3] (k:=rs (k:=rg [0,2,3,4] (k:=rs (k:=rr (k:=ro (pre:=[_]) (k:=?_))))))
 refine RunO.callw au au au Y36 ((tape_Next (hT.nx 4) (n:=5) (by simp only [go_sem,htV,↓reduceIte])).mono ?_)
 rintro r s9 ⟨rfl,hs⟩
 subst s9
 refine rh [0,2,3,4,5] (k:=rs (k:=rs (k:=rg [0,2,3,4,5,6] (k:=rb (k:=?_)))))
 refine Run.loop (fun e s'=>∃ (T1:Tp) (i:Nat) (lo:Int) (tens:List Ten) (kk:SK),e=[(0,.ptr tp 0 0),(2,.ptr s.nxt 0 0),(3,.int .i64 n),(4,.ptr (s.nxt+1) 0 0),(5,.int .i64 lo),(6,.int .i64 (i:Int))]∧T1.ok∧Kp (s.set tp (some (.row 29 [(T1).pv]))) s' [(s.nxt+1,.row 24 [.agg [.int .i64 0,.sl kk (tens.map Ten.pv)]]),(s.nxt,.row 24 [.agg [.int .i64 0,.sl .nil []]])]∧TInv i lo tens∧Grows s' kk tens.length (Try.prog.cellsOf 43)∧(∀ t z,kk=.tok t z→s.nxt+1<t∧t<s'.nxt)∧(i:Int)≤n) (fun e s'=>n.toNat-ivar e 6) ?_ ?_
 ·have K0:Kp (s.set tp (some (.row 29 [(T.nx 4).pv]))) ((s.new (.row 24 [.agg [.int .i64 0,.sl .nil []]])).set tp (some (.row 29 [(T.nx 4).pv]))) [(s.nxt,.row 24 [.agg [.int .i64 0,.sl .nil []]])]:=by
   have h0:Kp (s.set tp (some (.row 29 [(T).pv]))) (s.new (.row 24 [.agg [.int .i64 0,.sl .nil []]])) [(s.nxt,.row 24 [.agg [.int .i64 0,.sl .nil []]])]:=by rw [hs0];exact (Kp.nil (Fr.refl hwf)).push _
   exact h0.setbase hlt Y48 _
  have K00:=(K0.push (.row 24 [.agg [.int .i64 0,.sl .nil []]])).setbase (b':=(some (.row 29 [((T.nx 4).nx 5).pv]))) hlt (by simp only [List.forall_mem_cons];exact ⟨Y93,Y32,Y90⟩)
  have hv5:=(T.nx 4).val_bound (n:=5) Y34
  refine ⟨(T.nx 4).nx 5,0,(T.nx 4).val 5,[],.nil,rfl,(hT.nx 4).nx 5,K00,TInv.first Y32,.inl ⟨rfl,rfl⟩,fun t z e=>Y89,Y32⟩
 rintro e s1 ⟨T1,i,lo,tens,kk,rfl,hT1,K1,TI,hgr,htk,hin⟩
 refine rs (k:=rs (k:=rg [0,2,3,4,5,6,17] (k:=rc (ht:=fun hc0=>?_) (hf:=fun hc0=>?_))))
 refine rk (k:=rs (k:=rb (k:=rs (k:=?_))))
 have hin:(i:Int)<n:=of_decide_eq_true hc0
 have hi3:i≤3:=Y32
 have hT1b:s1.blk tp=some (.row 29 [T1.pv]):=Y104
 have hv3:=T1.val_bound (n:=3) Y34
 have hv2:=(T1.nx 3).val_bound (n:=2) Y34
 have hq4:=((T1.nx 3).nx 2).val_bound (n:=4) Y34
 obtain ⟨u,hu⟩:∃ y,1+T1.val 3+(i:Int)=y:=⟨_,rfl⟩
 have hwu1:IntKind.i64.wrap (1+T1.val 3)=1+T1.val 3:=wrap_i64 Y32
 have hwu:IntKind.i64.wrap (1+T1.val 3+(i:Int))=u:=by rw [wrap_i64 Y32,hu]
 obtain ⟨q4,hq⟩:∃ y,1+((T1.nx 3).nx 2).val 4=y:=⟨_,rfl⟩
 have hwq:IntKind.i64.wrap (1+((T1.nx 3).nx 2).val 4)=q4:=by rw [wrap_i64 Y32,hq]
 have hlt1:s.nxt+1<s1.nxt:=K1.lt
 have htN:(tp=s1.nxt)=False:=eq_false Y32
 have hNt:(s1.nxt=tp)=False:=eq_false Y32
 have htl1:tp<s1.nxt:=Y32
 have hs1:s1.set tp (some (.row 29 [T1.pv]))=s1:=St.set_self hT1b
 have H:=aj hwu1 (aj hwu (aj hwq (aj htN (aj hNt H))))
 refine rr (k:=ro (pre:=[_]) (k:=?_))
 refine RunO.callw au au au Y36 ((tape_Next hT1 (n:=3) hT1b).mono ?_)
 rintro r s9 ⟨rfl,hs⟩
 subst s9
 refine ro (pre:=[_,_,_,_]) (k:=?_)
 refine RunO.callw au au au Y36 ((tape_Next (hT1.nx 3) (n:=2) Y44).mono ?_)
 rintro r s9 ⟨rfl,hs⟩
 subst s9
 rw [set_set]
 refine ro (pre:=[_,_,_,_]) (k:=?_)
 refine RunO.callw au au au Y36 ((tape_Next ((hT1.nx 3).nx 2) (n:=4) Y44).mono ?_)
 rintro r s9 ⟨rfl,hs⟩
 subst s9
 rw [set_set]
 refine ro (pre:=[_,_,_]) (k:=?_)
 refine RunO.callw au au au Y36 ((tape_windows (((hT1.nx 3).nx 2).nx 4) (i:=i) Y32 Y44).mono ?_)
 rintro r s9 ⟨wins,T2,rfl,hs,hT2,WG⟩
 subst s9
 rw [set_set]
 refine rh [0,2,3,4,5,6,7] (k:=rs (k:=rs (k:=?_)))
 obtain ⟨F0,hF0⟩:∃ y,ibits BinOp.or IntKind.u32 12812798 (IntKind.u32.wrap (IntKind.u32.wrap ((T1.nx 3).val 2)*2 ^ min (Int.toNat 9) 32))=y:=⟨_,rfl⟩
 have hU0:U32 F0:=by rw [← hF0];exact U32_ibits _ _ _
 rw [hF0]
 have K8:Kp (s1.set tp (some (.row 29 [(T2).pv]))) (((s1.set tp (some (.row 29 [(T2).pv]))).new (.row 43 [.agg [.int .i64 0,.int .u32 0,.int .i64 0,.sl .nil [],.sl .nil []]])).set s1.nxt (some (.row 43 [.agg [.int .i64 u,.int .u32 F0,.int .i64 q4,.sl .unk (wins.map Win.pv),.sl .nil []]]))) [(s1.nxt,.row 43 [.agg [.int .i64 u,.int .u32 F0,.int .i64 q4,.sl .unk (wins.map Win.pv),.sl .nil []]])] :=
  (Kp.nil (show Fr (s1.set tp (some (.row 29 [(T2).pv]))) (s1.set tp (some (.row 29 [(T2).pv]))) from Fr.refl (K1.setbase hlt Y47 _).fr.wf)).pushset _ _ rfl
 refine rr (k:=ro (pre:=[_]) (k:=?_))
 refine RunO.callw au au au Y36 ((tape_Next hT2 (n:=5) (by simp only [go_sem,htN,↓reduceIte])).mono ?_)
 rintro r s9 ⟨rfl,hs⟩
 subst s9
 refine rh [0,2,3,4,5,6,7,39] (k:=?_)
 refine Run.join (fun e s'=>∃ (T2:Tp) (F:Int),e=[(0,.ptr tp 0 0),(2,.ptr s.nxt 0 0),(3,.int .i64 n),(4,.ptr (s.nxt+1) 0 0),(5,.int .i64 lo),(6,.int .i64 (i:Int)),(7,.ptr s1.nxt 0 0)]∧T2.ok∧U32 F∧Kp (s1.set tp (some (.row 29 [(T2).pv]))) s' [(s1.nxt,.row 43 [.agg [.int .i64 u,.int .u32 F,.int .i64 q4,.sl .unk (wins.map Win.pv),.sl .nil []]])]) ?_ ?_
 rintro e s2 ⟨T3,F,rfl,hT3,hF,K2⟩
 refine rs (k:=rs (k:=?_))
 have hT3b:s2.blk tp=some (.row 29 [T3.pv]):=by rw [K2.fr.blk tp Y46,blk_set,if_pos rfl]
 have hv2':=T3.val_bound (n:=2) Y34
 refine rr (k:=ro (pre:=[_]) (k:=?_))
 refine RunO.callw au au au Y36 ((tape_Next hT3 (n:=2) hT3b).mono ?_)
 rintro r s9 ⟨rfl,hs⟩
 subst s9
 refine rh [0,2,3,4,5,6,7,8] (k:=rb (k:=?_))
 refine Run.loop (fun e s'=>∃ (T4:Tp) (c:Nat) (m q:Int) (slts:List Slt) (k:SK),e=[(0,.ptr tp 0 0),(2,.ptr s.nxt 0 0),(3,.int .i64 n),(4,.ptr (s.nxt+1) 0 0),(5,.int .i64 q),(6,.int .i64 (i:Int)),(7,.ptr s1.nxt 0 0),(8,.int .i64 m)]∧T4.ok∧Kp (s1.set tp (some (.row 29 [(T4).pv]))) s' [(s1.nxt,.row 43 [.agg [.int .i64 u,.int .u32 F,.int .i64 q4,.sl .unk (wins.map Win.pv),.sl k (slts.map Slt.pv)]])]∧SInv lo q slts∧Grows s' k slts.length (Try.prog.cellsOf 48)∧(∀ t z,k=.tok t z→s1.nxt<t∧t<s'.nxt)∧slts.length=c∧ -1≤m∧c+m≤1∧0≤c+m) (fun e s'=>ivar1 e 8) ?_ ?_
 ·refine ⟨T3.nx 2,0,T3.val 2,lo,[],.nil,rfl,hT3.nx 2,K2.setbase htl1 Y48 _,SInv.first lo,.inl ⟨rfl,rfl⟩,fun t z e=>Y89,rfl,Y32,Y32,Y32⟩
 rintro e s2 ⟨T4,c,m,q,slts,k,rfl,hT4,K2,SI,hgr2,htk2,hsl,hm1,hcm,hcm0⟩
 refine rs (k:=rs (k:=rg [0,2,3,4,5,6,7,8,49] (k:=rc (ht:=fun hc2=>?_) (hf:=fun hc2=>?_))))
 refine rk (k:=rs (k:=rb (k:=rs (k:=?_))))
 have hT4b:s2.blk tp=some (.row 29 [T4.pv]):=by rw [K2.fr.blk tp Y46,blk_set,if_pos rfl]
 have hlt2:s1.nxt<s2.nxt:=K2.lt
 have hm0:0≤m:=of_decide_eq_true hc2
 have hv9:=T4.val_bound (n:=9) Y34
 have hv7:=(T4.nx 9).val_bound (n:=7) Y34
 obtain ⟨n9,hn9⟩:∃ y,T4.val 9=y:=⟨_,rfl⟩
 obtain ⟨n7,hn7⟩:∃ y,(T4.nx 9).val 7=y:=⟨_,rfl⟩
 rw [hn9] at hv9
 rw [hn7] at hv7
 have hq1:=SI.lb
 have hq2:=SI.ub
 have hq3:=TI.lo
 have hq5:=TI.hi
 have hw9:IntKind.i64.wrap (72+n9)=72+n9:=wrap_i64 Y32
 have hwq1:IntKind.i64.wrap (q+(72+n9))=q+(72+n9):=wrap_i64 Y32
 have hwq2:IntKind.i64.wrap (q+(72+n9)+n7)=q+(72+n9)+n7:=wrap_i64 Y32
 have hwm:IntKind.i64.wrap (m-1)=m-1:=wrap_i64 Y32
 have htM:(tp=s2.nxt)=False:=eq_false Y32
 have hMt:(s2.nxt=tp)=False:=eq_false Y32
 have H:=aj hn9 (aj hn7 (aj hw9 (aj hwq1 (aj hwq2 (aj hwm (aj htM (aj hMt H)))))))
 refine rr (k:=ro (pre:=[_,_]) (k:=?_))
 refine RunO.callw au au au Y36 ((tape_Next hT4 (n:=9) hT4b).mono ?_)
 rintro r s9 ⟨rfl,hs⟩
 subst s9
 refine rh [0,2,3,4,6,7,8,9] (k:=rs (k:=?_))
 refine Run.drawM 9 [6] [(((s2.set tp (some (.row 29 [(T4.nx 9).pv]))).new (.row 48 [.agg [.int .i64 0,.int .i64 0]])).set s2.nxt (some (.row 48 [.agg [.int .i64 q,.int .i64 (72+n9)]]))),((((s2.set tp (some (.row 29 [(T4.nx 9).pv]))).new (.row 48 [.agg [.int .i64 0,.int .i64 0]])).set s2.nxt (some (.row 48 [.agg [.int .i64 q,.int .i64 (72+n9)]]))).set tp (some (.row 29 [((T4.nx 9).nx 7).pv])))] Try.mixed Y36 Y36 ?_
 refine DetBC.pre (pre:=[_,_,_,_,_,_]) Y34 List.mem_cons_self au ?_
 refine DetBC.callE Y34 List.mem_cons_self au au au Y36 (tape_Next (hT4.nx 9) (n:=7) (by simp only [go_sem,htM,↓reduceIte])) ?_
 refine DetBC.all Y34 (List.mem_cons_of_mem _ List.mem_cons_self) au ?_
 refine rl [0,2,3,4,5,6,7,8,9] (k:=?_)
 obtain ⟨sB,hsB⟩:∃ y,((((s2.set tp (some (.row 29 [(T4.nx 9).pv]))).new (.row 48 [.agg [.int .i64 0,.int .i64 0]])).set s2.nxt (some (.row 48 [.agg [.int .i64 q,.int .i64 (72+n9)]]))).set tp (some (.row 29 [((T4.nx 9).nx 7).pv])))=y:=⟨_,rfl⟩
 have KB:Kp (s1.set tp (some (.row 29 [((T4.nx 9).nx 7).pv]))) sB [(s2.nxt,.row 48 [.agg [.int .i64 q,.int .i64 (72+n9)]]),(s1.nxt,.row 43 [.agg [.int .i64 u,.int .u32 F,.int .i64 q4,.sl .unk (wins.map Win.pv),.sl k (slts.map Slt.pv)]])]:=by
  rw [← hsB]
  exact ((K2.setbase (b':=(some (.row 29 [(T4.nx 9).pv]))) htl1 Y48).pushset _ _ rfl).setbase htl1 (by simp only [List.forall_mem_cons];exact ⟨by first | omega |(simp only [go_sem];omega),Y32,Y90⟩) _
 rw [hsB]
 have hBR:sB.blk s1.nxt=some (.row 43 [.agg [.int .i64 u,.int .u32 F,.int .i64 q4,.sl .unk (wins.map Win.pv),.sl k (slts.map Slt.pv)]]):=KB.tl.hd
 have hBS:sB.blk s2.nxt=some (.row 48 [.agg [.int .i64 q,.int .i64 (72+n9)]]):=KB.hd
 have hnB:sB.nxt=s2.nxt+1:=by rw [← hsB];rfl
 have hgr3:Grows sB k slts.length (Try.prog.cellsOf 48):=by
  refine hgr2.mono fun t ht=>?_
  have ht:=htk2 t _ ht
  have a1:(t=tp)=False:=eq_false Y32
  have a2:(t=s2.nxt)=False:=eq_false Y32
  rw [← hsB]
  simp only [go_sem,a1,a2,↓reduceIte]
 have H:=aj hBR (aj hBS H)
 refine rr (k:=ro (pre:=[_,_,_]) (k:=rO (k:=?_)))
 refine RunO.grow au au au Try.td41 (by rw [Try.zp48];rfl) (isEls_map (fun a=>⟨rfl,by rw [Try.cz48];rfl⟩) _) (isEls_map (f:=Slt.pv) (fun a=>⟨rfl,by rw [Try.cz48];rfl⟩) [⟨q,72+n9⟩]) (by rw [Try.by48];decide) (by rw [Try.by48];simp;omega) (by rw [List.length_map];exact hgr3) Y90 ?_
 intro k' s4 hgr' htm
 have KD:=KB.tm htm (fun t z e=>by have:=htk2 t z e;rw [nxt_set];omega) (fun p hp z e=>by have:=htk2 _ z e;simp only [List.mem_cons,List.not_mem_nil,or_false] at hp;rcases hp with rfl | rfl<;>simp only at this<;>omega)
 have hR4:s4.blk s1.nxt=some (.row 43 [.agg [.int .i64 u,.int .u32 F,.int .i64 q4,.sl .unk (wins.map Win.pv),.sl k (slts.map Slt.pv)]]):=KD.tl.hd
 have H:=aj hR4 H
 refine rh [0,2,3,4,5,6,7,8] (k:=rB (k:=rg [0,2,3,4,5,6,7,8] (k:=?_)))
 rw [List.length_map] at hgr'
 refine Run.lp ⟨⟨_,c+1,m-1,q+(72+n9)+n7,slts++[⟨q,72+n9⟩],k',rfl,(hT4.nx 9).nx 7,?_,SI.step ⟨Y32,Y32⟩ ⟨Y32,Y32⟩,?_,fun t z e=>?_,by rw [List.length_append,hsl];rfl,Y32,Y32,Y32⟩,?_⟩
 ·rw [List.map_append]
  exact KD.tl.setset Y90 Y46
 refine jO 1 ?_;rotate_left
 ·rw [nxt_set]
  have h9:=htm.nxt
  rcases htm.fresh t z e with ⟨z',h⟩ | ⟨h1,h2⟩
  ·have:=htk2 t z' h;omega
  ·omega
 ·simp only [ivar1,go_sem,↓reduceIte,Nat.reduceEqDiff]
  omega
 refine rX (k:=?_)
 have hcc2:¬ 0≤m:=of_decide_eq_false hc2
 have hb2:∀ j,j<s1.nxt→j≠tp→s2.blk j=s1.blk j:=fun j hj hne=>by rw [K2.fr.blk j Y46,blk_set,if_neg hne]
 have hn2:s1.nxt<s2.nxt:=K2.lt
 have KE:Kp (s.set tp (some (.row 29 [(T4).pv]))) s2 [(s1.nxt,.row 43 [.agg [.int .i64 u,.int .u32 F,.int .i64 q4,.sl .unk (wins.map Win.pv),.sl k (slts.map Slt.pv)]]),(s.nxt+1,.row 24 [.agg [.int .i64 0,.sl kk (tens.map Ten.pv)]]),(s.nxt,.row 24 [.agg [.int .i64 0,.sl .nil []]])]:=(K1.setbase hlt Y47 _).trans K2
 have hE1:s2.blk (s.nxt+1)=some (.row 24 [.agg [.int .i64 0,.sl kk (tens.map Ten.pv)]]):=KE.tl.hd
 have hE2:s2.blk s1.nxt=some (.row 43 [.agg [.int .i64 u,.int .u32 F,.int .i64 q4,.sl .unk (wins.map Win.pv),.sl k (slts.map Slt.pv)]]):=KE.hd
 have hgr4:Grows s2 kk tens.length (Try.prog.cellsOf 43):=hgr.mono fun t ht=>by
  have:=htk t _ ht
  exact hb2 t this.2 Y32
 have hTl:=TI.len
 have hwi:IntKind.i64.wrap ((i:Int)+1)=((i+1:Nat):Int):=Y39
 have H:=aj hE1 (aj hE2 (aj hwi H))
 refine rr (k:=ro (pre:=[_,_,_]) (k:=?_))
 refine RunO.wkE 73 (v:=.agg [.int .i64 ((⟨u,F,q4,wins,slts⟩:Ten)).unit,.int .u32 ((⟨u,F,q4,wins,slts⟩:Ten)).fns,.int .i64 ((⟨u,F,q4,wins,slts⟩:Ten)).queue,.sl .unk (((⟨u,F,q4,wins,slts⟩:Ten)).wins.map Win.pv),.sl .unk (((⟨u,F,q4,wins,slts⟩:Ten)).slts.map Slt.pv)]) (by simp only [go_sem,↓reduceIte,Nat.reduceEqDiff,PV.weak,PV.weaks,weaks_wins,weaks_slts]) ?_
 refine rO (k:=?_)
 refine RunO.grow au au au Try.td22 Y147 (isEls_map (fun a=>⟨rfl,by rw [Try.cz43];rfl⟩) _) (isEls_map (f:=Ten.pv) (fun a=>⟨rfl,by rw [Try.cz43];rfl⟩) [⟨u,F,q4,wins,slts⟩]) Y148 (by rw [Try.by43];simp;omega) (by rw [List.length_map];exact hgr4) Y90 ?_
 intro k' s4 hgr' htm
 have KD:=KE.tm htm (fun t z e=>by have:=htk t z e;rw [nxt_set];omega) (fun p hp z e=>by have:=htk _ z e;simp only [List.mem_cons,List.not_mem_nil,or_false] at hp;rcases hp with rfl | rfl | rfl<;>simp only at this<;>omega)
 have hR4:s4.blk (s.nxt+1)=some (.row 24 [.agg [.int .i64 0,.sl kk (tens.map Ten.pv)]]):=KD.tl.hd
 have H:=aj hR4 H
 refine rh [0,2,3,4,5,6] (k:=rB (k:=rg [0,2,3,4,5,6] (k:=?_)))
 rw [List.length_map] at hgr'
 have hs1':=SI.lb
 have hs2':=TI.lo
 have hXG:XGood i q ⟨u,F,q4,wins,slts⟩:=⟨⟨Y33,Y33⟩,hF,⟨Y33,Y33⟩,WG,fun a ha=>by have:=SI.all a ha;omega,⟨Y33,Y33⟩⟩
 refine Run.lp ⟨⟨T4,i+1,q,tens++[⟨u,F,q4,wins,slts⟩],k',rfl,hT4,?_,TI.step hXG SI,?_,fun t z e=>?_,Y32⟩,?_⟩
 ·rw [List.map_append]
  exact KD.tl.setset Y48 Y46
 refine jO 1 ?_;rotate_left
 ·rw [nxt_set]
  have h9:=htm.nxt
  rcases htm.fresh t z e with ⟨z',h⟩ | ⟨h1,h2⟩
  ·have:=htk t z' h;omega
  ·omega
 ·exact Y43
 intro hJc1
 refine rc (ht:=fun hc1=>?_) (hf:=fun hc1=>?_)
 ·refine rr (k:=ro (pre:=[_]) (k:=?_))
  refine RunO.callw au au au Y36 ((tape_Next (hT2.nx 5) (n:=24) Y44).mono ?_)
  rintro r s9 ⟨rfl,hs⟩
  subst s9
  refine rh [0,2,3,4,5,6,7] (k:=?_)
  obtain ⟨F1,hF1⟩:∃ y,ibits BinOp.or IntKind.u32 65608 (IntKind.u32.wrap (1*2 ^ min (IntKind.u64.wrap ((T2.nx 5).val 24)).toNat 32))=y:=⟨_,rfl⟩
  rw [hF1]
  have hU1:U32 F1:=by rw [← hF1];exact U32_ibits _ _ _
  exact hJc1 _ _ ⟨_,F1,rfl,(hT2.nx 5).nx 24,hU1,((K8.setbase (b':=(some (.row 29 [(T2.nx 5).pv]))) htl1 Y48).setbase (b':=(some (.row 29 [((T2.nx 5).nx 24).pv]))) htl1 Y48).setset Y90 Y46⟩
 ·refine rk (k:=rp [0,2,3,4,5,6,7] (k:=?_))
  exact hJc1 _ _ ⟨_,_,rfl,hT2.nx 5,hU0,K8.setbase htl1 Y48 _⟩
 ·refine rX (k:=rs (k:=?_))
  have hT1b:s1.blk tp=some (.row 29 [T1.pv]):=Y104
  have hin':¬ (i:Int)<n:=of_decide_eq_false hc0
  have hlt1:s.nxt+1<s1.nxt:=K1.lt
  have hv20:=T1.val_bound (n:=20) Y34
  obtain ⟨n20,hn20⟩:∃ y,T1.val 20=y:=⟨_,rfl⟩
  rw [hn20] at hv20
  have hq3:=TI.lo
  have hq5:=TI.hi
  have hw20:IntKind.i64.wrap (lo+n20)=lo+n20:=wrap_i64 Y32
  have hE1:s1.blk (s.nxt+1)=some (.row 24 [.agg [.int .i64 0,.sl kk (tens.map Ten.pv)]]):=K1.hd
  have hE0:s1.blk s.nxt=some (.row 24 [.agg [.int .i64 0,.sl .nil []]]):=K1.tl.hd
  have H:=aj hn20 (aj hw20 (aj hE1 (aj hE0 H)))
  refine rr (k:=ro (pre:=[_,_]) (k:=?_))
  refine RunO.callw au au au Y36 ((tape_Next hT1 (n:=20) hT1b).mono ?_)
  rintro r s9 ⟨rfl,hs⟩
  subst s9
  refine rh [2,4] (k:=rs (k:=rg [2] (k:=rR (k:=?_))))
  have KF:=(((K1.setbase (b':=(some (.row 29 [(T1.nx 20).pv]))) hlt Y47).setset (b':=.row 24 [.agg [.int .i64 (lo+n20),.sl kk (tens.map Ten.pv)]]) Y90 Y46).swap.setset (b':=.row 24 [.agg [.int .i64 (lo+n20),.sl kk (tens.map Ten.pv)]]) Y90 Y46)
  have hpos:=TI.pos Y32
  refine Ret.baseK (r':=Tab.pv ⟨lo+n20,tens⟩) tp (.row 29 [(T1.nx 20).pv]) hlt (by simp only [Try.f8,go_sem,↓reduceIte]<;>rfl) (by simp only [Tab.pv,PV.weak,PV.weaks,weaks_tens]) (blw_tab _ _) Y158 hwf KF.fr.blk
   ⟨⟨lo+n20,tens⟩,T1.nx 20,rfl,rfl,hT1.nx 20,(TI.right Y32 Y32 Y32).1,TI.few Y32 Y32 Y32⟩
 any_goals
  refine jI 1 ?_
  rw [List.length_append]
  refine jO 2 ?_;rotate_left
 any_goals
  refine jI 2 ?_
  refine (show Grows s4 k' _ _ from hgr').mono fun t ht=>?_
  rw [blk_set,if_neg (hgr'.ne ht _ hR4 Y90)]
end Go.Proofs
namespace Go.Proofs
open Go.PM
set_option maxHeartbeats 2000000
theorem tabSame_self (t:Tab):tabSame t t=true:=by simp [tabSame]
attribute [local go_sem] tabSame_self
instance decI64 (n:Int):Decidable (I64 n):=by unfold I64;exact inferInstance
theorem known_ok {f a b:Int} {l m:List Win} (hf:I64 f) (ha:I64 a) (hb:I64 b) (hl:∀ w∈l,w.ok) (hm:∀ w∈m,w.ok) (nl:l.length≤6) (nm:m.length≤6):Tab.ok ⟨f,[⟨1,0,1,l,[⟨a,72⟩]⟩,⟨1,0,1,m,[⟨b,72⟩]⟩]⟩:=by
 refine ⟨hf,fun x hx=>?_,Y90⟩
 simp only [List.mem_cons,List.not_mem_nil,or_false] at hx
 rcases hx with rfl | rfl
 ·exact ⟨(show I64 1 from Y34),⟨Y90,Y90⟩,(show I64 1 from Y34),hl,fun s hs=>by rw [List.mem_singleton.1 hs];exact ⟨ha,(show I64 72 from Y34)⟩,Y33,Y90⟩
 ·exact ⟨(show I64 1 from Y34),⟨Y90,Y90⟩,(show I64 1 from Y34),hm,fun s hs=>by rw [List.mem_singleton.1 hs];exact ⟨hb,(show I64 72 from Y34)⟩,Y33,Y90⟩
theorem known_w:∀ w∈[(⟨3,0,0,4⟩:Win)],w.ok:=fun w hw=>by rw [List.mem_singleton.1 hw];exact ⟨Y34,Y34,Y34,Y34⟩
theorem known_n:∀ w∈([]:List Win),w.ok:=fun w hw=>by cases hw
set_option maxRecDepth 100000 in
theorem law_known {s:St}:ACalls Try.prog 12 [] s (fun r s'=>r=.bool true∧s'=s):=by
 refine go Try.func12 (k:=fun hwf H=>?_)
 have e0:tabWhere (⟨0,[]⟩:Tab)=(20,-1):=Y34
 have eA:tabWhere (⟨144,[⟨1,0,1,[⟨3,0,0,4⟩],[⟨0,72⟩]⟩,⟨1,0,1,[⟨3,0,0,4⟩],[⟨72,72⟩]⟩]⟩:Tab)=(24,1):=Y34
 have eX:tabWhere (⟨144,[⟨1,0,1,[⟨3,0,0,4⟩],[⟨0,72⟩]⟩,⟨1,0,1,[],[⟨72,72⟩]⟩]⟩:Tab)=(0,-1):=Y34
 have eD:tabWhere (⟨143,[⟨1,0,1,[⟨3,0,0,4⟩],[⟨0,72⟩]⟩,⟨1,0,1,[],[⟨72,72⟩]⟩]⟩:Tab)=(25,1):=Y34
 have eR:tabRight (⟨144,[⟨1,0,1,[⟨3,0,0,4⟩],[⟨0,72⟩]⟩,⟨1,0,1,[],[⟨72,72⟩]⟩]⟩:Tab)=true:=Y34
 have eE:tabSame (⟨144,[⟨1,0,1,[⟨3,0,0,4⟩],[⟨0,72⟩]⟩,⟨1,0,1,[],[⟨72,72⟩]⟩]⟩:Tab) (⟨144,[⟨1,0,1,[⟨3,0,0,4⟩],[⟨0,72⟩]⟩,⟨1,0,1,[],[⟨72,72⟩]⟩]⟩:Tab)=true:=tabSame_self _
 have eS:tenSame ⟨1,0,1,[⟨3,0,0,4⟩],[⟨0,72⟩]⟩ ⟨1,0,1,[],[⟨72,72⟩]⟩=false:=Y34
 have o0:Tab.ok ⟨0,[]⟩:=⟨Y34,fun x hx=>(by cases hx),Y34⟩
 have oA:Tab.ok (⟨144,[⟨1,0,1,[⟨3,0,0,4⟩],[⟨0,72⟩]⟩,⟨1,0,1,[⟨3,0,0,4⟩],[⟨72,72⟩]⟩]⟩:Tab):=known_ok Y34 Y34 Y34 known_w known_w Y34 Y34
 have oX:Tab.ok (⟨144,[⟨1,0,1,[⟨3,0,0,4⟩],[⟨0,72⟩]⟩,⟨1,0,1,[],[⟨72,72⟩]⟩]⟩:Tab):=known_ok Y34 Y34 Y34 known_w known_n Y34 Y34
 have oD:Tab.ok (⟨143,[⟨1,0,1,[⟨3,0,0,4⟩],[⟨0,72⟩]⟩,⟨1,0,1,[],[⟨72,72⟩]⟩]⟩:Tab):=known_ok Y34 Y34 Y34 known_w known_n Y34 Y34
 refine rs (k:=rg [] (k:=rs (k:=rr (k:=ro (pre:=[_]) (k:=rO (k:=ro (pre:=[_]) (k:=rO (k:=rh [1] (k:=rs (k:=rg [1,2] (k:=rs (k:=rr (k:=ro (pre:=[_]) (k:=rO (k:=rh [1,2] (k:=rs (k:=rr (k:=ro (pre:=[_]) (k:=?_)))))))))))))))))))
 refine RunO.callw au au au Y36 ((table_Where (t:=(⟨0,[]⟩:Tab)) o0).mono ?_)
 rintro r s9 ⟨rfl,hs⟩
 subst s9
 rw [e0]
 refine rh [1,2,3,4] (k:=rs (k:=rr (k:=ro (pre:=[_,_]) (k:=rO (k:=ro (pre:=[_]) (k:=?_))))))
 refine RunO.callw au au au Y36 ((table_Where (t:=(⟨144,[⟨1,0,1,[⟨3,0,0,4⟩],[⟨0,72⟩]⟩,⟨1,0,1,[⟨3,0,0,4⟩],[⟨72,72⟩]⟩]⟩:Tab)) oA).mono ?_)
 rintro r s9 ⟨rfl,hs⟩
 subst s9
 rw [eA]
 refine rh [1,2,3,4,5,6] (k:=rs (k:=rg [1,2,3,4,5,6] (k:=rs (k:=rr (k:=ro (pre:=[_,_]) (k:=rO (k:=rh [1,2,3,4,5,6,7] (k:=rs (k:=rr (k:=ro (pre:=[_]) (k:=?_)))))))))))
 refine RunO.callw au au au Y36 ((table_Where (t:=(⟨144,[⟨1,0,1,[⟨3,0,0,4⟩],[⟨0,72⟩]⟩,⟨1,0,1,[],[⟨72,72⟩]⟩]⟩:Tab)) oX).mono ?_)
 rintro r s9 ⟨rfl,hs⟩
 subst s9
 rw [eX]
 refine rh [1,2,3,4,5,6,7,8,9] (k:=rs (k:=rr (k:=ro (pre:=[_,_]) (k:=rO (k:=ro (pre:=[_]) (k:=?_))))))
 refine RunO.callw au au au Y36 ((table_Where (t:=(⟨143,[⟨1,0,1,[⟨3,0,0,4⟩],[⟨0,72⟩]⟩,⟨1,0,1,[],[⟨72,72⟩]⟩]⟩:Tab)) oD).mono ?_)
 rintro r s9 ⟨rfl,hs⟩
 subst s9
 rw [eD]
 refine rh [1,2,3,4,5,6,7,8,9,10,11] (k:=rs (k:=rr (k:=ro (pre:=[_]) (k:=rC (h:=table_Copy (t:=(⟨144,[⟨1,0,1,[⟨3,0,0,4⟩],[⟨0,72⟩]⟩,⟨1,0,1,[],[⟨72,72⟩]⟩]⟩:Tab)) oX) (k:=rh [1,2,3,4,5,6,7,8,9,10,11,12] (k:=rs (k:=rrA [some 55,some 56,some 57,some 58,some 59,some 60,some 61,some 62,some 63,some 64,some 65,some 66,some 67,some 68,some 69,some 70,some 71,some 72,some 73,some 74,some 75,some 76,some 77,some 78,some 79,some 80,some 81,some 82,some 83,some 84,some 85,some 86,some 87,some 88,some 89,some 90,some 91,some 92,some 93,some 94,some 95,some 96,some 97,some 98,some 99,some 0] (k:=fun ops hops=>?_))))))))
 have H:=aj hops H
 refine ro (pre:=[_,_,_,_,_,_,_,_,_,_,_,_,_,_,_,_,_,_,_,_,_,_,_,_,_,_,_,_,_,_,_]) (k:=rQ 85 (ht:=fun hg30=>?_) (hf:=fun hg30=>?_))
 ·refine rg1 (k:=rg1 (k:=?_))
  refine RunO.callw au au au Y36 ((table_Equal (a:=(⟨144,[⟨1,0,1,[⟨3,0,0,4⟩],[⟨0,72⟩]⟩,⟨1,0,1,[],[⟨72,72⟩]⟩]⟩:Tab)) (b:=(⟨144,[⟨1,0,1,[⟨3,0,0,4⟩],[⟨0,72⟩]⟩,⟨1,0,1,[],[⟨72,72⟩]⟩]⟩:Tab)) oX).mono ?_)
  rintro r s9 ⟨rfl,hs⟩
  subst s9
  rw [eE]
  refine ro (pre:=[_,_]) (k:=rQ 90 (ht:=fun hg35=>?_) (hf:=fun hg35=>?_))
  ·refine rg1 (k:=rg1 (k:=?_))
   refine RunO.callw au au au Y36 ((table_Same (a:=⟨1,0,1,[⟨3,0,0,4⟩],[⟨0,72⟩]⟩) (b:=⟨1,0,1,[],[⟨72,72⟩]⟩) (oX.tens _ Y90)).mono ?_)
   rintro r s9 ⟨rfl,hs⟩
   subst s9
   rw [eS]
   refine rg1 (k:=ro (pre:=[_,_]) (k:=rQ 96 (ht:=fun hg41=>?_) (hf:=fun hg41=>?_)))
   ·refine rg1 (k:=?_)
    refine RunO.callw au au au Y36 ((table_Right (t:=(⟨144,[⟨1,0,1,[⟨3,0,0,4⟩],[⟨0,72⟩]⟩,⟨1,0,1,[],[⟨72,72⟩]⟩]⟩:Tab)) oX).mono ?_)
    rintro r s9 ⟨rfl,hs⟩
    subst s9
    rw [eR]
    refine rh [0] (k:=rR (k:=rP (by simp only [Try.f12,go_sem];rfl) hwf ⟨?_,rfl⟩))
    simp [PV.weak,go_sem]
   ·cases hg41
  ·cases hg35
 ·cases hg30
end Go.Proofs
namespace Go.Proofs
open Go.PM
set_option maxHeartbeats 2000000
def mixF {α:Type} (f:α→α) (l:List α) (i:Nat):List α:=(l.take i).map f++l.drop i
theorem mix_0 {α:Type} (f:α→α) (l:List α):mixF f l 0=l:=by simp [mixF]
theorem mix_all {α:Type} (f:α→α) (l:List α) {i:Nat} (h:i=l.length):mixF f l i=l.map f:=by simp [mixF,h]
theorem mix_get {α:Type} (f:α→α) (l:List α) {i:Nat} (h:i<l.length):(mixF f l i)[i]? =some l[i]:=by
 unfold mixF
 rw [List.getElem?_append_right Y164,List.length_map,List.length_take,Nat.min_eq_left Y32,Nat.sub_self,List.getElem?_drop,Nat.add_zero,List.getElem?_eq_getElem h]
theorem mix_set {α:Type} (f:α→α) (l:List α) {i:Nat} (h:i<l.length):(mixF f l i).set i (f l[i])=mixF f l (i+1):=by
 unfold mixF
 rw [List.set_append_right _ _ Y164,List.length_map,List.length_take,Nat.min_eq_left Y32,Nat.sub_self,take_get h,drop_get h,List.set_cons_zero,List.map_append,List.append_assoc]
 rfl
theorem cpL_set {k a b:Nat} {x:Ten}:∀ {l:List Ten} {j i:Nat},l[i]? =some x→j+i=k→PV.weaks (cpL k a b j l)=(l.map Ten.pv).set i (ownE a b x).weak
 | y::l,j,0,h,e=>by
   simp only [List.getElem?_cons_zero,Option.some.injEq] at h
   subst h
   have hr:∀ (l:List Ten) (j:Nat),k<j→PV.weaks (cpL k a b j l)=l.map Ten.pv:=by
    intro l
    induction l with
    | nil=>intro j _;rfl
    | cons z l ih =>
      intro j hj
      rw [cpL,PV.weaks,ih (j+1) Y32,cpEl,if_neg Y32,pvc_weak]
      rfl
   rw [cpL,PV.weaks,hr l (j+1) Y32,cpEl,if_pos Y32]
   rfl
 | y::l,j,i+1,h,e=>by
   simp only [List.getElem?_cons_succ] at h
   rw [cpL,PV.weaks,cpL_set h Y32,cpEl,if_neg Y32,pvc_weak]
   rfl
theorem frz_win (s:St) (q:Nat→Bool) (n:Nat) (w:Win):PV.frz false s q n w.pv=w.pv:=by
 rcases n with _ | _ | n<;>simp [Win.pv,PV.frz,PV.weak,PV.weaks]
theorem frz_slt (s:St) (q:Nat→Bool) (n:Nat) (w:Slt):PV.frz false s q n w.pv=w.pv:=by
 rcases n with _ | _ | n<;>simp [Slt.pv,PV.frz,PV.weak,PV.weaks]
theorem frz_wins (s:St) (q:Nat→Bool) (n:Nat) (l:List Win):(l.map Win.pv).map (PV.frz false s q n)=l.map Win.pv:=by
 rw [List.map_map];exact List.map_congr_left fun w _=>frz_win s q n w
theorem frz_slts (s:St) (q:Nat→Bool) (n:Nat) (l:List Slt):(l.map Slt.pv).map (PV.frz false s q n)=l.map Slt.pv:=by
 rw [List.map_map];exact List.map_congr_left fun w _=>frz_slt s q n w
theorem frz_ten (s:St) (q:Nat→Bool) (x:Ten):PV.frz false s q 4 x.pv=x.pv:=by
 simp only [Ten.pv,PV.frz,List.map_cons,List.map_nil,PV.weak,frz_wins,frz_slts,Bool.false_eq_true,if_false]
theorem frz_tens (s:St) (q:Nat→Bool) (l:List Ten):(l.map Ten.pv).map (PV.frz false s q 4)=l.map Ten.pv:=by
 rw [List.map_map];exact List.map_congr_left fun w _=>frz_ten s q w
def tnF (n:Int) (x:Ten):Ten:=⟨x.unit,x.fns,x.queue,x.wins.map fun w=>⟨w.space,w.virt,n,w.cnt⟩,x.slts.map fun y=>⟨y.pos+1,y.len⟩⟩
theorem tnF_ne {n:Int} {x:Ten} (h:x.slts≠[]):x≠tnF n x:=by
 intro e
 have:=congrArg Ten.slts e
 cases hs:x.slts with
 | nil=>exact h hs
 | cons y l =>
   rw [show (tnF n x).slts=x.slts.map fun y=>⟨y.pos+1,y.len⟩ from rfl,hs,List.map_cons,List.cons.injEq] at this
   have:=congrArg Slt.pos this.1
   simp only at this
   omega
theorem tn_tab {n:Int} {t:Tab} {k:Nat} {x:Ten} (hk:t.tens[k]? =some x) (h:x.slts≠[]):tabSame t ⟨t.frame,t.tens.set k (tnF n x)⟩=false:=by
 refine decide_eq_false fun e=>?_
 have e:=congrArg Tab.tens e
 simp only at e
 have h2:(t.tens.set k (tnF n x))[k]? =some (tnF n x):=List.getElem?_set_self (List.getElem?_eq_some_iff.1 hk).1
 rw [← e,hk] at h2
 exact tnF_ne h (Option.some.inj h2)
theorem blws_set {n:Nat} {v:PV} (hv:v.blw n):∀ {l:List PV} {k:Nat},PV.blws n l→PV.blws n (l.set k v)
 | [],_,h=>Y138
 | x::l,0,h=>⟨hv,h.2⟩
 | x::l,k+1,h=>⟨h.1,blws_set hv h.2⟩
theorem frz_ownA {s:St} {a T n:Nat} {l:List Win} (hn:n=l.length) (h:s.blk a=some (.row T (l.map Win.pv))):PV.frz false s (fun j=>j != a) 3 (.own a 0 n)=.sl .unk (l.map Win.pv):=by
 subst hn
 rw [PV.frz,if_neg Y90,h]
 dsimp only
 rw [if_pos Y90,List.drop_zero,← List.length_map (f:=Win.pv),List.take_length,frz_wins]
theorem frz_ownS {s:St} {a T n:Nat} {l:List Slt} (hn:n=l.length) (h:s.blk a=some (.row T (l.map Slt.pv))):PV.frz false s (fun j=>j != a) 3 (.own a 0 n)=.sl .unk (l.map Slt.pv):=by
 subst hn
 rw [PV.frz,if_neg Y90,h]
 dsimp only
 rw [if_pos Y90,List.drop_zero,← List.length_map (f:=Slt.pv),List.take_length,frz_slts]
theorem frz_ownK {s:St} {a b n:Nat} (h:b≠a):PV.frz false s (fun j=>j != a) 3 (.own b 0 n)=.own b 0 n:=by
 rw [PV.frz,if_pos Y138]
theorem frz_row {s:St} {q:Nat→Bool} {f:Int} {l:List Ten} {k:Nat} {u v w:Int} {c d:PV}:[PV.agg [.int .i64 f,.sl .unk ((l.map Ten.pv).set k (.agg [.int .i64 u,.int .u32 v,.int .i64 w,c,d]))]].map (PV.frz false s q 6)=[.agg [.int .i64 f,.sl .unk ((l.map Ten.pv).set k (.agg [.int .i64 u,.int .u32 v,.int .i64 w,PV.frz false s q 3 c,PV.frz false s q 3 d]))]]:=by
 have h:∀ (L:List PV),PV.frz false s q 6 (.agg [.int .i64 f,.sl .unk L])=.agg [.int .i64 f,.sl .unk (L.map (PV.frz false s q 4))]:=fun x=>by simp only [PV.frz,List.map_cons,List.map_nil,PV.weak,Bool.false_eq_true,if_false]
 rw [List.map_cons,List.map_nil,h,List.map_set,frz_tens]
 simp only [PV.frz,List.map_cons,List.map_nil,PV.weak]
attribute [local go_sem] set_set
theorem Y49 {p:Prop} (h:p:=by intro q hq;simp only [List.mem_cons,List.not_mem_nil,or_false] at hq;rcases hq with rfl | rfl | rfl | rfl<;>refine ⟨by simp (disch:=first | omega |(simp only [nxt_set,nxt_new]<;>omega) | fail) only [go_sem]<;>assumption,?_⟩<;>first | rfl | exact (set_comm _ Y32 _ _).symm | exact set_comm _ Y32 _ _):p:=h
theorem Y50 {p:Prop} (h:p:=by first | exact ⟨F2,xn,x7,x8,x9,0,rfl,Nat.zero_le _,by rw [if_neg hxw,mix_0];exact ca,by rw [mix_0];exact xb⟩ | exact ⟨F2,xn,x7,x8,x9,0,by rw [hxw];rfl,Nat.zero_le _,by rw [if_pos hxw,xa];unfold cpW;rw [if_pos hxw],by rw [mix_0];exact xb⟩):p:=h
theorem Y51 {p:Prop} (h:p:=by
 refine rk (k:=rs (k:=rb (k:=rs (k:=?_))))
 have hil:i<x.slts.length:=by have:=of_decide_eq_true hc2;omega
 obtain ⟨y,hye⟩:∃ z_,x.slts[i]'hil=z_:=⟨_,rfl⟩
 have hyx:((mixF (fun y:Slt=>(⟨y.pos+1,y.len⟩:Slt)) x.slts i).map Slt.pv)[i]? =some (.agg [.int .i64 (y).pos,.int .i64 (y).len]):=by rw [List.getElem?_map,mix_get _ _ hil,hye];rfl
 have hilT:(i<x.slts.length)=True:=eq_true hil
 have hyp:=hrt.p x hxm y (by rw [← hye];exact List.getElem_mem _)
 have hff:=hrt.f
 have hw:IntKind.i64.wrap ((i:Int)+1)=((i+1:Nat):Int):=by have:=hxok.bs;rw [wrap_i64 Y32];omega
 have hw2:IntKind.i64.wrap (y.pos+1)=y.pos+1:=wrap_i64 Y32
 have H:=aj hyx (aj hilT (aj hw (aj hw2 (aj y8 (aj yb H)))))
 refine rg [7,8,9,10,12,78,79] (k:=rH 21 [20] [[false],[true]] [s1,(s1.set (s.nxt+5) (some (.row 48 (((mixF (fun y:Slt=>(⟨y.pos+1,y.len⟩:Slt)) x.slts i).map Slt.pv).set i (.agg [.int .i64 (y.pos+1),.int .i64 y.len])))))] Try.mixed (k:=?_))
 refine dP [0] (pre:=[_,_,_,_,_,_,_,_,_,_,_,_,_,_,_,_,_,_,_,_]) (k:=?_)
 refine dE [(0,1)] (k:=?_)
 refine DetHC.nil ?_
 refine rl [7,8,9,10,78,79] (k:=rB (k:=rg [7,8,9,10,78,79] (k:=?_)))
 refine Run.lp ⟨⟨F1.set Y32 Y32 _,n1,?_,?_,?_,i+1,rfl,Y32,?_,?_⟩,?_⟩
 ·rw [blk_set_ne Y32];exact y7
 ·rw [blk_set_ne Y32];exact y8
 ·rw [blk_set_ne Y32];exact y9
 ·rw [blk_set_ne Y32];exact ya
 ·rw [blk_set_self,← mix_set _ _ hil,List.map_set,hye];rfl
 ·simp only [ivar,go_sem,↓reduceIte,Nat.reduceEqDiff]
  omega):p:=h
theorem Y52 {p:Prop} (h:p:=by simp only [PV.blws,PV.blw,and_true,true_and];exact ⟨fun t z e=>Y89,blws_set (by simp only [PV.blw,PV.blws,and_true,true_and];exact ⟨⟨fun t z e=>Y89,blws_wins _ _⟩,fun t z e=>Y89,blws_slts _ _⟩) (blws_tens _ _)⟩):p:=h
theorem Y105 {p:Prop} (h:p:=by first | omega |(simp only [nxt_set];omega)):p:=h
theorem Y106 {p:Prop} (h:p:=by first |(have:=of_decide_eq_false hc1;omega) |(rw [hxw] at hi ⊢;simpa using hi)):p:=h
theorem Y107 {p:Prop} (h:p:=by rw [hS3];repeat (first | exact F1 | refine Fr.set ?_ Y32 Y105 _)):p:=h
theorem Y159 {p:Prop} (h:p:=by exact ⟨F1,n1,y7,y8,y9,0,rfl,Nat.zero_le _,by rw [← hie];exact ya,yb⟩):p:=h
theorem Y160 {p:Prop} (h:p:=by rw [hS3];simp (disch:=first | omega | fail) only [blk_set_ne];exact y7):p:=h
theorem Y161 {p:Prop} (h:p:=by rw [hS3];simp (disch:=first | omega | fail) only [blk_set_ne];exact y9):p:=h
theorem Y162 {p:Prop} (h:p:=by rw [← hU,List.map_set,List.getElem?_set_self (by simpa using hkl)];rfl):p:=h
set_option maxRecDepth 100000 in
theorem law_Copies {l:List Int} (hl:l.length*8≤140737488351232) {at_ n:Int} (hat:I64 at_) (hn:I64 n) {s:St}:ACalls Try.prog 6 [.sl .unk (l.map (PV.int .i64)),.int .i64 at_,.int .i64 n] s (fun r s'=>r=.bool true∧s'=s):=by
 refine go Try.func6 (k:=fun hwf H=>?_)
 refine rs (k:=rg [0,1,2] (k:=rs (k:=rr (k:=ro (pre:=[_,_,_]) (k:=?_)))))
 refine RunO.callw au au au Y36 ((tape_Table (T:=⟨l,0⟩) ⟨hl,Y33⟩ (tp:=s.nxt) (by simp (disch:=omega) only [go_sem,↓reduceIte]<;>rfl)).mono ?_)
 rintro r s9 ⟨t,T2,rfl,hs,hT2,hR,hfw⟩
 subst s9
 rw [Tab.pv]
 refine rh [1,2,7] (k:=rs (k:=?_))
 have hw0:(tabWhere t).1=0:=by simpa [tabRight] using hR
 have hrt:=right_rt hR
 have hnt:=hrt.n
 have htok:=hfw.ok
 have hkb:=withinI_bound (n:=at_) (lo:=0) (hi:=(t.tens.length:Int)-1) Y32
 obtain ⟨k,hk⟩:∃ k:Nat,withinI at_ 0 ((t.tens.length:Int)-1)=k:=⟨_,(Int.toNat_of_nonneg hkb.1).symm⟩
 have hkl:k<t.tens.length:=Y32
 obtain ⟨x,hxe⟩:∃ z_,t.tens[k]'hkl=z_:=⟨_,rfl⟩
 have hkx:t.tens[k]? =some x:=by rw [List.getElem?_eq_getElem hkl,hxe]
 have hxx:(t.tens.map Ten.pv)[k]? =some (.agg [.int .i64 (x).unit,.int .u32 (x).fns,.int .i64 (x).queue,.sl .unk ((x).wins.map Win.pv),.sl .unk ((x).slts.map Slt.pv)]):=by rw [map_get hkl,hxe];rfl
 have hxm:x∈t.tens:=Y92
 have hxok:=htok.tens x hxm
 have hsl:x.slts≠[]:=fun h=>by have:=(hrt.s x hxm).1;rw [h] at this;simp at this
 have hww:IntKind.i64.wrap ((t.tens.length:Int)-1)=(t.tens.length:Int)-1:=wrap_i64 Y32
 obtain ⟨fe,hfe⟩:∃ z,z=(if x.wins=[] then .sl .unk [] else .own (s.nxt+4) 0 x.wins.length:PV):=⟨_,rfl⟩
 have hX0:=ownE_weak (s.nxt+4) (s.nxt+5) x
 rw [← hfe] at hX0
 obtain ⟨E,hE⟩:∃ z,(t.tens.map Ten.pv).set k (.agg [.int .i64 x.unit,.int .u32 x.fns,.int .i64 x.queue,fe,.own (s.nxt+5) 0 x.slts.length])=z:=⟨_,rfl⟩
 have hEl:E.length=t.tens.length:=by rw [← hE,List.length_set,List.length_map]
 have hEk:E[k]? =some (.agg [.int .i64 x.unit,.int .u32 x.fns,.int .i64 x.queue,fe,.own (s.nxt+5) 0 x.slts.length]):=by rw [← hE];exact List.getElem?_set_self (by simpa using hkl)
 refine Run.reserve ?_
 refine Run.reserve ?_
 refine Run.genS fun S0 hS0=>?_
 have hn0:S0.nxt=s.nxt+4:=by rw [hS0];rfl
 have r80:S0.blk (s.nxt+2)=some .res:=by rw [hS0,blk_new_ne (by show s.nxt+2≠s.nxt+1+1+1;omega)];exact blk_new_eq
 have r90:S0.blk (s.nxt+3)=some .res:=by rw [hS0];exact blk_new_eq
 have r70:S0.blk (s.nxt+1)=some (.row 24 [.agg [.int .i64 t.frame,.sl .unk (t.tens.map Ten.pv)]]):=by rw [hS0];simp (disch:=first | omega |(simp only [nxt_set,nxt_new]<;>omega) | fail) only [go_sem]<;>rfl
 have F0:Fr s S0:=by rw [hS0];repeat (first | exact Fr.refl hwf | refine Fr.new ?_ _ | refine Fr.set ?_ (by first | omega |(simp only [nxt_new,nxt_set];omega)) (by simp only [nxt_new,nxt_set];omega) _)
 clear hS0
 have hcp:∀ S:St,S.nxt=s.nxt+4→ACalls Try.prog 16 [.agg [.int .i64 t.frame,.sl .unk (t.tens.map Ten.pv)]] S (fun r s'=>r=.agg [.int .i64 t.frame,.sl .unk E]∧s'=(S.new (cpW x)).new (cpS x)):=fun S h=>by
  have h9:=table_CopyK htok hkx hsl (s:=S)
  rw [h,cpL_set hkx (Nat.zero_add k),hX0,hE] at h9
  exact h9
 obtain ⟨W0,hW0⟩:∃ z,(S0.new (cpW x)).new (cpS x)=z:=⟨_,rfl⟩
 have hW1:∀ (S:St) i c,S.nxt=s.nxt+4→i<s.nxt+4→((S.set i c).new (cpW x)).new (cpS x)=((S.new (cpW x)).new (cpS x)).set i c:=fun S i c h0 h=>by rw [set_new_ne _ _ _ _ Y45,set_new_ne _ _ _ _ Y32]
 have hc0:=hcp S0 hn0
 have hc8:∀ z,ACalls Try.prog 16 [.agg [.int .i64 t.frame,.sl .unk (t.tens.map Ten.pv)]] (S0.set (s.nxt+2) z) (fun r s'=>r=.agg [.int .i64 t.frame,.sl .unk E]∧s'=W0.set (s.nxt+2) z):=fun z=>by have h9:=hcp (S0.set (s.nxt+2) z) hn0;rw [hW1 _ _ _ hn0 Y32,hW0] at h9;exact h9
 have hc9:∀ z,ACalls Try.prog 16 [.agg [.int .i64 t.frame,.sl .unk (t.tens.map Ten.pv)]] (S0.set (s.nxt+3) z) (fun r s'=>r=.agg [.int .i64 t.frame,.sl .unk E]∧s'=W0.set (s.nxt+3) z):=fun z=>by have h9:=hcp (S0.set (s.nxt+3) z) hn0;rw [hW1 _ _ _ hn0 Y32,hW0] at h9;exact h9
 have hc89:∀ z,ACalls Try.prog 16 [.agg [.int .i64 t.frame,.sl .unk (t.tens.map Ten.pv)]] ((S0.set (s.nxt+2) z).set (s.nxt+3) z) (fun r s'=>r=.agg [.int .i64 t.frame,.sl .unk E]∧s'=(W0.set (s.nxt+2) z).set (s.nxt+3) z):=fun z=>by have h9:=hcp ((S0.set (s.nxt+2) z).set (s.nxt+3) z) hn0;rw [hW1 (S0.set (s.nxt+2) z) _ _ hn0 Y32,hW1 _ _ _ hn0 Y32,hW0] at h9;exact h9
 rw [hW0] at hc0
 have hwn:W0.nxt=s.nxt+6:=by rw [← hW0];simp only [nxt_new,hn0]
 have w8:W0.blk (s.nxt+2)=some .res:=by rw [← hW0,blk_new_ne Y45,blk_new_ne Y32];exact r80
 have w9:W0.blk (s.nxt+3)=some .res:=by rw [← hW0,blk_new_ne Y45,blk_new_ne Y32];exact r90
 have w7:W0.blk (s.nxt+1)=some (.row 24 [.agg [.int .i64 t.frame,.sl .unk (t.tens.map Ten.pv)]]):=by rw [← hW0,blk_new_ne Y45,blk_new_ne Y32];exact r70
 have wa:W0.blk (s.nxt+4)=some (cpW x):=by rw [← hW0,blk_new_ne Y45,← hn0];exact blk_new_eq
 have wb:W0.blk (s.nxt+5)=some (cpS x):=by rw [← hW0,show s.nxt+5=(S0.new (cpW x)).nxt from Y45];exact blk_new_eq
 have FW:Fr s W0:=by rw [← hW0];exact (F0.new _).new _
 have H:=aj r70 (aj w7 H)
 refine rH 8 [1,4,5,6,7] [[false,false,false,false,false],[true,false,false,false,false],[false,true,false,false,false],[false,false,true,false,false],[true,true,false,false,false],[true,false,true,false,false],[false,true,true,false,false],[true,true,true,false,false],[true,true,true,true,false],[true,true,true,true,true]] [S0,W0,(S0.set (s.nxt+2) (some (.row 24 [.agg [.int .i64 0,.sl .nil []]]))),(S0.set (s.nxt+3) (some (.row 24 [.agg [.int .i64 0,.sl .nil []]]))),(W0.set (s.nxt+2) (some (.row 24 [.agg [.int .i64 0,.sl .nil []]]))),(W0.set (s.nxt+3) (some (.row 24 [.agg [.int .i64 0,.sl .nil []]]))),((S0.set (s.nxt+2) (some (.row 24 [.agg [.int .i64 0,.sl .nil []]]))).set (s.nxt+3) (some (.row 24 [.agg [.int .i64 0,.sl .nil []]]))),((W0.set (s.nxt+2) (some (.row 24 [.agg [.int .i64 0,.sl .nil []]]))).set (s.nxt+3) (some (.row 24 [.agg [.int .i64 0,.sl .nil []]]))),(((W0.set (s.nxt+2) (some (.row 24 [.agg [.int .i64 0,.sl .nil []]]))).set (s.nxt+3) (some (.row 24 [.agg [.int .i64 0,.sl .nil []]]))).set (s.nxt+2) (some (.row 24 [.agg [.int .i64 t.frame,.sl .unk E]]))),((((W0.set (s.nxt+2) (some (.row 24 [.agg [.int .i64 0,.sl .nil []]]))).set (s.nxt+3) (some (.row 24 [.agg [.int .i64 0,.sl .nil []]]))).set (s.nxt+2) (some (.row 24 [.agg [.int .i64 t.frame,.sl .unk E]]))).set (s.nxt+3) (some (.row 24 [.agg [.int .i64 t.frame,.sl .unk (t.tens.map Ten.pv)]])))] Try.mixed (k:=?_)
 refine dP [0,2,3,6] (pre:=[_]) (k:=?_)
 refine dX (v:=.agg [.int .i64 t.frame,.sl .unk E]) [(0,1),(2,4),(3,5),(6,7)] (h:=by intro q hq;simp only [List.mem_cons,List.not_mem_nil,or_false] at hq;rcases hq with rfl | rfl | rfl | rfl<;>first | exact hc0 | exact hc8 _ | exact hc9 _ | exact hc89 _) (k:=?_)
 refine dP [0,1,2,3,4,5,6,7] (pre:=[_]) (k:=?_)
 refine dC [1,4,5,7] (h:=fun s _=>table_Copy htok) (k:=?_)
 refine DetHC.resAlloc (id:=(s.nxt+2)) [(0,2),(1,4),(3,6),(5,7)] _ Y36 pq au rfl (by rw [Try.zp24]<;>rfl) Y49 ?_
 refine DetHC.resAlloc (id:=(s.nxt+3)) [(0,3),(1,5),(2,6),(4,7)] _ Y36 pq au rfl (by rw [Try.zp24]<;>rfl) Y49 ?_
 refine dE [(7,8)] (k:=?_)
 refine dE [(8,9)] (k:=?_)
 refine DetHC.nil ?_
 refine rl [1,2,7,8,9] (k:=rs (k:=?_))
 refine Run.genS fun S2 hS2=>?_
 have x7:S2.blk (s.nxt+1)=some (.row 24 [.agg [.int .i64 t.frame,.sl .unk (t.tens.map Ten.pv)]]):=by rw [hS2];simp (disch:=first | omega | fail) only [blk_set_ne];exact w7
 have x8:S2.blk (s.nxt+2)=some (.row 24 [.agg [.int .i64 t.frame,.sl .unk E]]):=by rw [hS2,blk_set_ne Y32];exact blk_set_self _ _ _
 have x9:S2.blk (s.nxt+3)=some (.row 24 [.agg [.int .i64 t.frame,.sl .unk (t.tens.map Ten.pv)]]):=by rw [hS2];exact blk_set_self _ _ _
 have xa:S2.blk (s.nxt+4)=some (cpW x):=by rw [hS2];simp (disch:=first | omega | fail) only [blk_set_ne];exact wa
 have xb:S2.blk (s.nxt+5)=some (cpS x):=by rw [hS2];simp (disch:=first | omega | fail) only [blk_set_ne];exact wb
 have xn:S2.nxt=s.nxt+6:=by rw [hS2];simp only [nxt_set];exact hwn
 have F2:Fr s S2:=by rw [hS2];repeat (first | exact FW | refine Fr.set ?_ Y32 Y105 _)
 clear hS2
 have H:=aj x7 (aj x8 (aj x9 (aj hww (aj hxx (aj hEl (aj hEk (aj hkl H)))))))
 refine rr (k:=ro (pre:=[_,_,_,_,_]) (k:=?_))
 refine RunO.callw au au au Y36 ((within_ (lo:=0) (hi:=(t.tens.length:Int)-1) Y34 Y32 Y32).mono ?_)
 rintro r s9 ⟨rfl,hs⟩
 subst s9
 rw [hk]
 refine rh [2,7,8,9,10] (k:=rs (k:=rs (k:=?_)))
 refine Run.drawC [] [2,7,8,9,10,50] Try.mixed Y36 ?_
 refine DetC.pre (pre:=[_,_,_,_,_,_,_,_]) au ?_
 refine DetC.gdo au au ?_
 refine DetC.gdo au au ?_
 refine DetC.gdo au au ?_
 refine DetC.gdo au au ?_
 refine DetC.gdo au au ?_
 refine DetC.gdo au au ?_
 refine DetC.gdo au au ?_
 refine DetC.gdo au au ?_
 refine DetC.gdo au au ?_
 refine DetC.gdo au au ?_
 refine DetC.gdo au au ?_
 refine DetC.gdo au au ?_
 refine DetC.gdo au au ?_
 refine DetC.gdo au au ?_
 refine DetC.gdo au au ?_
 refine DetC.all au ?_
 refine re (k:=rc (ht:=fun hc0=>?_) (hf:=fun hc0=>?_))
 ·cases hc0
 ·refine rk (k:=rs (k:=rs (k:=?_)))
  rcases Decidable.em (x.wins=[]) with hxw | hxw
  rotate_left
  ·rw [if_neg hxw] at hfe
   subst hfe
   have ca:S2.blk (s.nxt+4)=some (.row 45 (x.wins.map Win.pv)):=by rw [xa];unfold cpW;rw [if_neg hxw]
   refine rg [2,7,8,9,10,57,58] (k:=rb (k:=?_))
   refine Run.loop (fun e s'=>Fr s s'∧s'.nxt=s.nxt+6∧s'.blk (s.nxt+1)=some (.row 24 [.agg [.int .i64 t.frame,.sl .unk (t.tens.map Ten.pv)]])∧s'.blk (s.nxt+2)=some (.row 24 [.agg [.int .i64 t.frame,.sl .unk E]])∧s'.blk (s.nxt+3)=some (.row 24 [.agg [.int .i64 t.frame,.sl .unk (t.tens.map Ten.pv)]])∧∃ i:Nat,e=[(2,.int .i64 (n)),(7,.ptr (s.nxt+1) 0 0),(8,.ptr (s.nxt+2) 0 0),(9,.ptr (s.nxt+3) 0 0),(10,.int .i64 ((k:Int))),(57,.int .i64 ((x.wins.length:Int))),(58,.int .i64 ((i:Int)))]∧i≤x.wins.length∧s'.blk (s.nxt+4)=some (if x.wins=[] then .res else .row 45 ((mixF (fun w:Win=>(⟨w.space,w.virt,n,w.cnt⟩:Win)) x.wins i).map Win.pv))∧s'.blk (s.nxt+5)=some (.row 48 ((mixF (fun y:Slt=>(⟨y.pos+1,y.len⟩:Slt)) x.slts 0).map Slt.pv))) (fun e s'=>x.wins.length-ivar e 58) ?_ ?_
   ·exact Y50
   rintro e s1 ⟨F1,n1,y7,y8,y9,i,rfl,hi,ya,yb⟩
   refine rs (k:=rg [2,7,8,9,10,57,58,59] (k:=rs (k:=rc (ht:=fun hc1=>?_) (hf:=fun hc1=>?_))))
   ·refine rk (k:=rs (k:=rb (k:=rs (k:=?_))))
    have hil:i<x.wins.length:=Y42
    obtain ⟨w,hwe⟩:∃ z_,x.wins[i]'hil=z_:=⟨_,rfl⟩
    have hwx:((mixF (fun w:Win=>(⟨w.space,w.virt,n,w.cnt⟩:Win)) x.wins i).map Win.pv)[i]? =some (.agg [.int .i64 (w).space,.int .i64 (w).virt,.int .i64 (w).phys,.int .i64 (w).cnt]):=by rw [List.getElem?_map,mix_get _ _ hil,hwe];rfl
    have hilT:(i<x.wins.length)=True:=eq_true hil
    have hw:IntKind.i64.wrap ((i:Int)+1)=((i+1:Nat):Int):=by have:=hxok.bw;rw [wrap_i64 Y32];omega
    rw [if_neg hxw] at ya
    have H:=aj hwx (aj hilT (aj hw (aj y8 (aj ya H))))
    refine rg [2,7,8,9,10,11,57,58] (k:=rg [2,7,8,9,10,57,58] (k:=rB (k:=rg [2,7,8,9,10,57,58] (k:=?_))))
    refine Run.lp ⟨⟨F1.set Y32 Y32 _,n1,?_,?_,?_,i+1,rfl,Y32,?_,?_⟩,?_⟩
    ·rw [blk_set_ne Y32];exact y7
    ·rw [blk_set_ne Y32];exact y8
    ·rw [blk_set_ne Y32];exact y9
    ·rw [blk_set_self,if_neg hxw,← mix_set _ _ hil,List.map_set,hwe];rfl
    ·rw [blk_set_ne Y32];exact yb
    ·exact Y43
   ·refine rX (k:=rs (k:=rs (k:=?_)))
    have hie:i=x.wins.length:=Y106
    have H:=aj y8 H
    refine rg [7,8,9,10,78,79] (k:=rb (k:=?_))
    refine Run.loop (fun e s'=>Fr s s'∧s'.nxt=s.nxt+6∧s'.blk (s.nxt+1)=some (.row 24 [.agg [.int .i64 t.frame,.sl .unk (t.tens.map Ten.pv)]])∧s'.blk (s.nxt+2)=some (.row 24 [.agg [.int .i64 t.frame,.sl .unk E]])∧s'.blk (s.nxt+3)=some (.row 24 [.agg [.int .i64 t.frame,.sl .unk (t.tens.map Ten.pv)]])∧∃ i:Nat,e=[(7,.ptr (s.nxt+1) 0 0),(8,.ptr (s.nxt+2) 0 0),(9,.ptr (s.nxt+3) 0 0),(10,.int .i64 ((k:Int))),(78,.int .i64 ((x.slts.length:Int))),(79,.int .i64 ((i:Int)))]∧i≤x.slts.length∧s'.blk (s.nxt+4)=some (if x.wins=[] then .res else .row 45 ((mixF (fun w:Win=>(⟨w.space,w.virt,n,w.cnt⟩:Win)) x.wins x.wins.length).map Win.pv))∧s'.blk (s.nxt+5)=some (.row 48 ((mixF (fun y:Slt=>(⟨y.pos+1,y.len⟩:Slt)) x.slts i).map Slt.pv))) (fun e s'=>x.slts.length-ivar e 79) ?_ ?_
    ·exact Y159
    rintro e s1 ⟨F1,n1,y7,y8,y9,i,rfl,hi,ya,yb⟩
    refine rs (k:=rg [7,8,9,10,78,79,80] (k:=rs (k:=rc (ht:=fun hc2=>?_) (hf:=fun hc2=>?_))))
    ·exact Y51
    ·refine rX (k:=rs (k:=?_))
     have hie2:i=x.slts.length:=by have:=of_decide_eq_false hc2;omega
     rw [mix_all _ _ hie2] at yb
     rw [← hE] at y8
     rw [if_neg hxw,mix_all _ _ rfl] at ya
     refine Run.thawB (s.nxt+2) (s.nxt+4) 6 (els':=[.agg [.int .i64 t.frame,.sl .unk ((t.tens.map Ten.pv).set k (.agg [.int .i64 x.unit,.int .u32 x.fns,.int .i64 x.queue,.sl .unk ((tnF n x).wins.map Win.pv),.own (s.nxt+5) 0 x.slts.length]))]]) y8 Y32 (by rw [frz_row,frz_ownK (a:=s.nxt+4) (b:=s.nxt+5) Y32,frz_ownA (by rw [List.length_map]) ya];rfl) (by simp only [PV.blws,PV.blw,and_true,true_and];exact ⟨fun t z e=>Y89,blws_set (by simp only [PV.blw,PV.blws,and_true,true_and];exact ⟨⟨fun t z e=>Y89,blws_wins _ _⟩,Y105⟩) (blws_tens _ _)⟩) ?_
     refine Run.thawB (s.nxt+2) (s.nxt+5) 6 (els':=[.agg [.int .i64 t.frame,.sl .unk ((t.tens.map Ten.pv).set k (.agg [.int .i64 x.unit,.int .u32 x.fns,.int .i64 x.queue,.sl .unk ((tnF n x).wins.map Win.pv),.sl .unk ((tnF n x).slts.map Slt.pv)]))]]) (blk_set_self _ _ _) Y32 (by rw [frz_row,frz_ownS (l:=x.slts.map (fun y:Slt=>(⟨y.pos+1,y.len⟩:Slt))) (by rw [List.length_map]) (by rw [blk_set_ne Y32,blk_set_ne Y32];exact yb)];simp only [PV.frz,Bool.false_eq_true,if_false,frz_wins];rfl) Y52 ?_
     refine Run.genS fun S3 hS3=>?_
     obtain ⟨x',hx'⟩:∃ z,tnF n x=z:=⟨_,rfl⟩
     obtain ⟨U,hU⟩:∃ z,t.tens.set k x'=z:=⟨_,rfl⟩
     have hUm:(t.tens.map Ten.pv).set k (.agg [.int .i64 x.unit,.int .u32 x.fns,.int .i64 x.queue,.sl .unk ((tnF n x).wins.map Win.pv),.sl .unk ((tnF n x).slts.map Slt.pv)])=U.map Ten.pv:=by rw [← hU,List.map_set,← hx'];rfl
     rw [hUm] at hS3
     have z7:S3.blk (s.nxt+1)=some (.row 24 [.agg [.int .i64 t.frame,.sl .unk (t.tens.map Ten.pv)]]):=Y160
     have z8:S3.blk (s.nxt+2)=some (.row 24 [.agg [.int .i64 t.frame,.sl .unk (U.map Ten.pv)]]):=by rw [hS3];exact blk_set_self _ _ _
     have z9:S3.blk (s.nxt+3)=some (.row 24 [.agg [.int .i64 t.frame,.sl .unk (t.tens.map Ten.pv)]]):=Y161
     have F3:Fr s S3:=Y107
     clear hS3
     have hUk:(U.map Ten.pv)[k]? =some (.agg [.int .i64 (x').unit,.int .u32 (x').fns,.int .i64 (x').queue,.sl .unk ((x').wins.map Win.pv),.sl .unk ((x').slts.map Slt.pv)]):=Y162
     have eqT:∀ S:St,ACalls Try.prog 14 [t.pv,t.pv] S (fun r s'=>r=.bool true∧s'=S):=fun S=>by
      have h:=table_Equal (a:=t) (b:=t) htok (s:=S)
      rw [tabSame_self] at h;exact h
     have rqT:∀ S:St,ACalls Try.prog 15 [t.pv,t.pv] S (fun r s'=>r=.bool true∧s'=S):=fun S=>by
      have h:=ref11_Equal (a:=t) (b:=t) htok (s:=S)
      rw [tabSame_self] at h;exact h
     have eqU:∀ S:St,ACalls Try.prog 14 [t.pv,(⟨t.frame,U⟩:Tab).pv] S (fun r s'=>r=.bool false∧s'=S):=fun S=>by
      have h:=table_Equal (a:=t) (b:=⟨t.frame,U⟩) htok (s:=S)
      rw [← hU,← hx',tn_tab hkx hsl] at h
      rw [← hU,← hx'];exact h
     have smU:∀ S:St,ACalls Try.prog 18 [x.pv,x'.pv] S (fun r s'=>r=.bool false∧s'=S):=fun S=>by
      have h:=table_Same (a:=x) (b:=x') hxok (s:=S)
      rw [show tenSame x x'=false from decide_eq_false (by rw [← hx'];exact tnF_ne hsl)] at h;exact h
     have rtT:∀ S:St,ACalls Try.prog 9 [t.pv] S (fun r s'=>r=.bool true∧s'=S):=fun S=>by
      have h:=table_Right htok (s:=S)
      rw [hR] at h;exact h
     have H:=aj z7 (aj z8 (aj z9 (aj hUk H)))
     refine Run.drawC [] [6] Try.mixed Y36 ?_
     refine DetC.pre (pre:=[_,_]) au ?_
     refine DetC.call au au au Y36 (eqT _) ?_
     refine DetC.pre (pre:=[_]) au ?_
     refine DetC.gdo au au ?_
     refine DetC.gdo au au ?_
     refine DetC.call au au au Y36 (rqT _) ?_
     refine DetC.pre (pre:=[_,_]) au ?_
     refine DetC.gdo au au ?_
     refine DetC.gdo au au ?_
     refine DetC.call au au au Y36 (eqU _) ?_
     refine DetC.gdo au au ?_
     refine DetC.pre (pre:=[_,_]) au ?_
     refine DetC.gdo au au ?_
     refine DetC.gdo au au ?_
     refine DetC.gdo au au ?_
     refine DetC.gdo au au ?_
     refine DetC.gdo au au ?_
     refine DetC.gdo au au ?_
     refine DetC.gdo au au ?_
     refine DetC.gdo au au ?_
     refine DetC.gdo au au ?_
     refine DetC.gdo au au ?_
     refine DetC.call au au au Y36 (smU _) ?_
     refine DetC.gdo au au ?_
     refine DetC.pre (pre:=[_,_]) au ?_
     refine DetC.gdo au au ?_
     refine DetC.call au au au Y36 (rtT _) ?_
     refine DetC.pre (pre:=[_,_]) au ?_
     refine DetC.call au au au Y36 (law_known) ?_
     refine DetC.all au ?_
     refine re (k:=rR (k:=?_))
     exact Ret.pure (r':=.bool true) (by simp only [Try.f6,go_sem,↓reduceIte]<;>rfl) rfl (by simp only [PV.blw]) hwf (fun i hi=>F3.blk i hi) ⟨rfl,rfl⟩
  ·rw [if_pos hxw] at hfe
   subst hfe
   refine rg [2,7,8,9,10,57,58] (k:=rb (k:=?_))
   refine Run.loop (fun e s'=>Fr s s'∧s'.nxt=s.nxt+6∧s'.blk (s.nxt+1)=some (.row 24 [.agg [.int .i64 t.frame,.sl .unk (t.tens.map Ten.pv)]])∧s'.blk (s.nxt+2)=some (.row 24 [.agg [.int .i64 t.frame,.sl .unk E]])∧s'.blk (s.nxt+3)=some (.row 24 [.agg [.int .i64 t.frame,.sl .unk (t.tens.map Ten.pv)]])∧∃ i:Nat,e=[(2,.int .i64 (n)),(7,.ptr (s.nxt+1) 0 0),(8,.ptr (s.nxt+2) 0 0),(9,.ptr (s.nxt+3) 0 0),(10,.int .i64 ((k:Int))),(57,.int .i64 ((x.wins.length:Int))),(58,.int .i64 ((i:Int)))]∧i≤x.wins.length∧s'.blk (s.nxt+4)=some (if x.wins=[] then .res else .row 45 ((mixF (fun w:Win=>(⟨w.space,w.virt,n,w.cnt⟩:Win)) x.wins i).map Win.pv))∧s'.blk (s.nxt+5)=some (.row 48 ((mixF (fun y:Slt=>(⟨y.pos+1,y.len⟩:Slt)) x.slts 0).map Slt.pv))) (fun e s'=>x.wins.length-ivar e 58) ?_ ?_
   ·exact Y50
   rintro e s1 ⟨F1,n1,y7,y8,y9,i,rfl,hi,ya,yb⟩
   refine rs (k:=?_)
   have hd0:decide (i<x.wins.length)=false:=decide_eq_false (by rw [hxw];simp)
   have H:=aj hd0 H
   refine rg [2,7,8,9,10,57,58,59] (k:=rs (k:=rc (ht:=fun hc1=>?_) (hf:=fun hc1=>?_)))
   ·cases hc1
   ·refine rX (k:=rs (k:=rs (k:=?_)))
    have hie:i=x.wins.length:=Y106
    have H:=aj y8 H
    refine rg [7,8,9,10,78,79] (k:=rb (k:=?_))
    refine Run.loop (fun e s'=>Fr s s'∧s'.nxt=s.nxt+6∧s'.blk (s.nxt+1)=some (.row 24 [.agg [.int .i64 t.frame,.sl .unk (t.tens.map Ten.pv)]])∧s'.blk (s.nxt+2)=some (.row 24 [.agg [.int .i64 t.frame,.sl .unk E]])∧s'.blk (s.nxt+3)=some (.row 24 [.agg [.int .i64 t.frame,.sl .unk (t.tens.map Ten.pv)]])∧∃ i:Nat,e=[(7,.ptr (s.nxt+1) 0 0),(8,.ptr (s.nxt+2) 0 0),(9,.ptr (s.nxt+3) 0 0),(10,.int .i64 ((k:Int))),(78,.int .i64 ((x.slts.length:Int))),(79,.int .i64 ((i:Int)))]∧i≤x.slts.length∧s'.blk (s.nxt+4)=some (if x.wins=[] then .res else .row 45 ((mixF (fun w:Win=>(⟨w.space,w.virt,n,w.cnt⟩:Win)) x.wins x.wins.length).map Win.pv))∧s'.blk (s.nxt+5)=some (.row 48 ((mixF (fun y:Slt=>(⟨y.pos+1,y.len⟩:Slt)) x.slts i).map Slt.pv))) (fun e s'=>x.slts.length-ivar e 79) ?_ ?_
    ·exact Y159
    rintro e s1 ⟨F1,n1,y7,y8,y9,i,rfl,hi,ya,yb⟩
    refine rs (k:=rg [7,8,9,10,78,79,80] (k:=rs (k:=rc (ht:=fun hc2=>?_) (hf:=fun hc2=>?_))))
    ·exact Y51
    ·refine rX (k:=rs (k:=?_))
     have hie2:i=x.slts.length:=by have:=of_decide_eq_false hc2;omega
     rw [mix_all _ _ hie2] at yb
     rw [← hE] at y8
     refine Run.thawB (s.nxt+2) (s.nxt+5) 6 (els':=[.agg [.int .i64 t.frame,.sl .unk ((t.tens.map Ten.pv).set k (.agg [.int .i64 x.unit,.int .u32 x.fns,.int .i64 x.queue,.sl .unk ((tnF n x).wins.map Win.pv),.sl .unk ((tnF n x).slts.map Slt.pv)]))]]) y8 Y32 (by rw [frz_row,frz_ownS (l:=x.slts.map (fun y:Slt=>(⟨y.pos+1,y.len⟩:Slt))) (by rw [List.length_map]) yb];rw [show (tnF n x).wins=[] by unfold tnF;simp only [hxw,List.map_nil]];rfl) Y52 ?_
     refine Run.genS fun S3 hS3=>?_
     obtain ⟨x',hx'⟩:∃ z,tnF n x=z:=⟨_,rfl⟩
     obtain ⟨U,hU⟩:∃ z,t.tens.set k x'=z:=⟨_,rfl⟩
     have hUm:(t.tens.map Ten.pv).set k (.agg [.int .i64 x.unit,.int .u32 x.fns,.int .i64 x.queue,.sl .unk ((tnF n x).wins.map Win.pv),.sl .unk ((tnF n x).slts.map Slt.pv)])=U.map Ten.pv:=by rw [← hU,List.map_set,← hx'];rfl
     rw [hUm] at hS3
     have z7:S3.blk (s.nxt+1)=some (.row 24 [.agg [.int .i64 t.frame,.sl .unk (t.tens.map Ten.pv)]]):=Y160
     have z8:S3.blk (s.nxt+2)=some (.row 24 [.agg [.int .i64 t.frame,.sl .unk (U.map Ten.pv)]]):=by rw [hS3];exact blk_set_self _ _ _
     have z9:S3.blk (s.nxt+3)=some (.row 24 [.agg [.int .i64 t.frame,.sl .unk (t.tens.map Ten.pv)]]):=Y161
     have F3:Fr s S3:=Y107
     clear hS3
     have hUk:(U.map Ten.pv)[k]? =some (.agg [.int .i64 (x').unit,.int .u32 (x').fns,.int .i64 (x').queue,.sl .unk ((x').wins.map Win.pv),.sl .unk ((x').slts.map Slt.pv)]):=Y162
     have eqT:∀ S:St,ACalls Try.prog 14 [t.pv,t.pv] S (fun r s'=>r=.bool true∧s'=S):=fun S=>by
      have h:=table_Equal (a:=t) (b:=t) htok (s:=S)
      rw [tabSame_self] at h;exact h
     have rqT:∀ S:St,ACalls Try.prog 15 [t.pv,t.pv] S (fun r s'=>r=.bool true∧s'=S):=fun S=>by
      have h:=ref11_Equal (a:=t) (b:=t) htok (s:=S)
      rw [tabSame_self] at h;exact h
     have eqU:∀ S:St,ACalls Try.prog 14 [t.pv,(⟨t.frame,U⟩:Tab).pv] S (fun r s'=>r=.bool false∧s'=S):=fun S=>by
      have h:=table_Equal (a:=t) (b:=⟨t.frame,U⟩) htok (s:=S)
      rw [← hU,← hx',tn_tab hkx hsl] at h
      rw [← hU,← hx'];exact h
     have smU:∀ S:St,ACalls Try.prog 18 [x.pv,x'.pv] S (fun r s'=>r=.bool false∧s'=S):=fun S=>by
      have h:=table_Same (a:=x) (b:=x') hxok (s:=S)
      rw [show tenSame x x'=false from decide_eq_false (by rw [← hx'];exact tnF_ne hsl)] at h;exact h
     have rtT:∀ S:St,ACalls Try.prog 9 [t.pv] S (fun r s'=>r=.bool true∧s'=S):=fun S=>by
      have h:=table_Right htok (s:=S)
      rw [hR] at h;exact h
     have H:=aj z7 (aj z8 (aj z9 (aj hUk H)))
     refine Run.drawC [] [6] Try.mixed Y36 ?_
     refine DetC.pre (pre:=[_,_]) au ?_
     refine DetC.call au au au Y36 (eqT _) ?_
     refine DetC.pre (pre:=[_]) au ?_
     refine DetC.gdo au au ?_
     refine DetC.gdo au au ?_
     refine DetC.call au au au Y36 (rqT _) ?_
     refine DetC.pre (pre:=[_,_]) au ?_
     refine DetC.gdo au au ?_
     refine DetC.gdo au au ?_
     refine DetC.call au au au Y36 (eqU _) ?_
     refine DetC.gdo au au ?_
     refine DetC.pre (pre:=[_,_]) au ?_
     refine DetC.gdo au au ?_
     refine DetC.gdo au au ?_
     refine DetC.gdo au au ?_
     refine DetC.gdo au au ?_
     refine DetC.gdo au au ?_
     refine DetC.gdo au au ?_
     refine DetC.gdo au au ?_
     refine DetC.gdo au au ?_
     refine DetC.gdo au au ?_
     refine DetC.gdo au au ?_
     refine DetC.call au au au Y36 (smU _) ?_
     refine DetC.gdo au au ?_
     refine DetC.pre (pre:=[_,_]) au ?_
     refine DetC.gdo au au ?_
     refine DetC.call au au au Y36 (rtT _) ?_
     refine DetC.pre (pre:=[_,_]) au ?_
     refine DetC.call au au au Y36 (law_known) ?_
     refine DetC.all au ?_
     refine re (k:=rR (k:=?_))
     exact Ret.pure (r':=.bool true) (by simp only [Try.f6,go_sem,↓reduceIte]<;>rfl) rfl (by simp only [PV.blw]) hwf (fun i hi=>F3.blk i hi) ⟨rfl,rfl⟩
end Go.Proofs

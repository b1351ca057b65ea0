import Derived.Test.YtdeiiaohdcpecaaGreatB1
import Derived.Test.YtdeiiaohdcpecaaGreatProg
import Derived.KernelRfl
set_option linter.unusedVariables false
set_option linter.unusedSimpArgs false
namespace Go.PM
open Go
theorem zdz {P g s w} (h:Inv P g s w):∃ g',Inv P g' (s.new .res) w∧Ext g w g' w:=by
 let g':G:={ nxt:=g.nxt+1,rows:=upd g.rows s.nxt none,live:=g.live,toks:=g.toks,lim:=g.lim }
 have hn:=h.rows_none (Nat.le_refl s.nxt)
 have hk:∀ b,g'.isRow b→g.isRow b:=by
  rintro b ⟨id,sz,e,l⟩
  by_cases hid:id=s.nxt
  ·subst hid;rw [show g'.rows s.nxt=none from yh _ _ _] at e;cases e
  ·rw [show g'.rows id=g.rows id from yD _ _ hid] at e
   exact ⟨id,sz,e,l⟩
 have e:Ext g w g' w :=
  { os:=rfl,tape:=rfl,output:=rfl,size:=Nat.le_refl _,nxt:=Nat.le_succ _,rd:=fun _ _ _ _ h=>h
    free:=fun b n _ hf=>⟨fun k=>hf.1 (hk b k),hf.2⟩
    same:=fun _ _ _ _=>rfl
    rows:=fun id hid x e=>(yD _ _ (by have:=h.nxt;omega):g'.rows id=g.rows id).trans e
    csz:=fun _ _=>rfl,toks:=wi (fun _ _=>rfl) (fun _ _ _ _=>rfl) }
 refine ⟨g',?_,e⟩
 refine Inv.step s.nxt h e zkI ?_ ?_ ?_ ?_ ?_ ?_ ?_ ?_ ?_ (fun _ _ _ _ _ _=>rfl) zoo
 ·exact Y57
 ·exact fun id hid=>⟨if_neg hid,yD _ _ hid,rfl,rfl⟩
 ·exact fun id b n hid l e=>rfl
 ·intro id b n hid et
  exact ⟨rfl,fun k=>(h.toklt et).2.1 (hk _ k)⟩
 ·exact fun b hb=>hb
 ·simp only [St.new,if_true,At]
  exact ⟨hn.1,hn.2,yh _ _ _⟩
 ·exact znA
 ·exact zoe
 ·exact fun b e hl=>h.lim b e hl
theorem UX {P g s w} (h:Inv P g s w) {id:Nat} (hid:s.blk id=some .res) {t ty:TypeId} {els vs} {c:Array Value} (hsz:0<P.cellsOf t) (hr:RA g w els vs) (hc:flat vs <+: c.toList)
  (hv:∀ v∈vs,v.cells.size=P.cellsOf t∧∀ x∈v.cells.toList,x.flat=true) :
  ∃ g',Inv P g' (s.set id (some (.row t els))) (World.newB w (.cells c ty (0,0)))∧Ext g w g' (World.newB w (.cells c ty (0,0))) ∧
   g'.rows id=some (w.heap.size,P.cellsOf t)∧g'.nxt=s.nxt:=by
 let g':G:={ nxt:=g.nxt,rows:=upd g.rows id (some (w.heap.size,P.cellsOf t)),live:=zls g.live id true,toks:=g.toks,lim:=g.lim }
 have hat:=h.at' id
 rw [hid] at hat
 obtain ⟨a1,a2,a3⟩:=hat
 have hlt:id<s.nxt:=h.id_lt (by rw [hid];simp)
 have hold:∀ i x,g.rows i=some x→g'.rows i=some x:=by
  intro i x e
  by_cases hi:i=id
  ·subst hi;rw [a3] at e;cases e
  ·exact (yD _ _ hi:g'.rows i=g.rows i).trans e
 have hrow:∀ b,b<w.heap.size→g'.isRow b→g.isRow b:=by
  intro b hb hk
  rcases Ur rfl (fun i hi=>VO _ _ hi) hk with r | r
  ·omega
  ·exact r
 have e:Ext g w g' (World.newB w (.cells c ty (0,0))) :=
  { os:=rfl,tape:=rfl,output:=rfl,size:=by rw [Zg];omega,nxt:=Nat.le_refl _
    rd:=fun b o v _ hc=>by rw [uc (wH w _ (VJ hc))];exact hc
    free:=fun b n hb hf=>⟨fun k=>hf.1 (hrow b hb k),hf.2⟩
    same:=fun b hb _ _=>wH w _ hb
    rows:=fun i _ x e=>hold i x e
    csz:=fun b hb=>ZX (wH w _ hb)
    toks:=wi (fun _ _=>rfl) (fun _ _ _ _=>rfl) }
 refine ⟨g',?_,e,yh _ _ _,h.nxt⟩
 refine Inv.step id h e h.nxt ?_ ?_ ?_ ?_ ?_ ?_ ?_ ?_ ?_ (fun _ _ _ _ _ _=>rfl) (fun b m _ e=>by rw [show g'.rows id=some (w.heap.size,P.cellsOf t) from yh _ _ _] at e;cases e;exact (h.newfree (Nat.le_refl _)).2)
 ·intro i hi
  simp only [St.set] at hi ⊢
  rw [if_neg Y2]
  exact h.wf i Y2
 ·exact fun i hi=>⟨if_neg hi,yD _ _ hi,VO _ _ hi,rfl⟩
 ·exact fun i b n hi l e=>wH w _ (h.rowlt l e)
 ·intro i b n hi et
  refine ⟨rfl,fun hk=>?_⟩
  have ⟨h1,h2,_⟩:=h.toklt et
  exact h2 (hrow b h1 hk)
 ·exact zke
 ·simp only [St.set,if_true,At]
  exact ⟨a2,zdY _ _ _,w.heap.size,vs,yh _ _ _,hsz,uF _ _ _,ZD _ _ _ _ _ hc,hv,yX e _ _ hr⟩
 ·intro b m j n _ hx hj lj hjr
  have:g'.rows id=some (w.heap.size,P.cellsOf t):=yh _ _ _
  rw [this] at hx
  cases hx
  have:=h.rowlt lj hjr
  omega
 ·intro b m j n hx
  rw [show g'.toks id=none from a2] at hx
  cases hx
 ·exact zn1
theorem YT {P:Program} {g s w} {a:Act} {o:Oper} {t:TypeId} {z:PV} {id:Nat} (h:Inv P g s w) (hid:s.blk id=some .res) (ho:o.op=.alloc t) (hz:zpv P t=some z):vT P o g w a (.ptr id 0 0) (s.set id (some (.row t [z]))):=by
 unfold vT execOp
 rw [ho]
 obtain ⟨zv,h1,h2,h3,h4,h5,h6,h7⟩:=yZ (P:=P) (w:=w) hz
 subst h2
 have hR:=YY g w zv fun cs e x hx=>zpQ
 obtain ⟨c1,c2,c3⟩:=xS hR h7
 obtain ⟨g',k1,k2,k3,k4⟩:=UX (t:=t) (ty:=t) (els:=[zb6 zv]) (vs:=[zv]) (c:=zv.cells) h hid h5 (by simp only [RA];exact ⟨zv,[],rfl,hR,rfl⟩)
  (by simp [flat]) (fun x hx=>by simp at hx;subst hx;exact ⟨Y2,c2⟩)
 have hlt:id<s.nxt:=h.id_lt (by rw [hid];simp)
 refine ⟨.pointer (some ⟨w.heap.size,0,none⟩),_,g',.inl ?_,k1,k2,?_⟩
 ·simp only [Instr.alloc,ze,h1,WY,zo]
 ·simp only [R]
  exact ⟨Y2,_,_,k3,Y1⟩
theorem XA (s:St) {i j:Nat} (h:i≠j) (b c:Option Blk):(s.set i b).set j c=(s.set j c).set i b:=by
 simp only [St.set,St.mk.injEq,true_and]
 funext k
 by_cases h1:k=i
 ·subst h1;simp [h]
 ·by_cases h2:k=j
  ·subst h2;simp [h1]
  ·simp [h1,h2]
section
variable {P:Program} {ops:Array Oper} {ws:List Nat} {al:Nat} {Gf:St→St} {σ:List St} {e e':Env} {s s' s0:St} {N:Nat} {k:List KI} {rt:Env→St→Prop}
theorem Run.reserve {c:Code} (h:Run P N (.code c::k) e (s.new .res) rt):Run P N (.code c::k) e s rt:=by
 intro ok
 have h:=h ok
 intro oc g w a hI hE hd hN
 obtain ⟨g',hI',hX⟩:=zdz hI
 exact wp_mono (h oc g' w a hI' (fun j=>Xi hX _ _ (hE j)) hd hN) fun _ _ _=>Yz.trans hX
theorem xI.resAlloc {o:Oper} {l:List Oper} {i id:Nat} {t:TypeId} {z:PV} {K:Env→St→Prop} (hi:i=al) (hs:s∈σ) (hg:guard? ops o (Env.keep (zu ops o) e)=some true) (ho:o.op=.alloc t) (hz:zpv P t=some z)
  (ha:∀ s∈σ,(s.blk id=some .res∧Gf s=s.set id (some (.row t [z])))∨¬ s.wf) (hd:xI P ops ws al Gf σ (i+1) l (e.put o.dst (.ptr id 0 0)) s K):xI P ops ws al Gf σ i (o::l) e s K:=by
 obtain ⟨e',s',h1,h2⟩:=hd
 refine ⟨e',s',ZE.al hi (fun s hs=>?_) hs h1,h2⟩
 rcases ha s hs with hb | hb
 ·rw [hb.2]
  exact DOp.of_effect hg fun g w a hI hE=>YT hI hb.1 ho hz
 ·exact fun g w a hI=>absurd hI.wf hb
end
end Go.PM
namespace Go.PM
open Go
theorem Zu {P:Program} {w:World} {t e:TypeId} {v:PV} {m n:Nat} (htd:td P t=.sl e) (hz:zpv P e=some v) (hmn:m≤n) (hn2:n<1073741824000000) (hroom:n*P.bytesOf e≤roomBytes) (h48:n*P.bytesOf e≤140737488355328) :
  ∃ z,v=zb6 z∧z.cells.size=P.cellsOf e∧(∀ cs,z=.agg cs→∀ x∈cs.toList,x.flat=true)∧(Instr.makeSlice t (.int .i64 m) (.int .i64 n)).run P w=.ok (.slice (some ⟨w.heap.size,0,none⟩) m n) (World.newB w (.cells (flat (List.replicate n z)).toArray e (0,0))):=by
 obtain ⟨z,hz1,hz2,hz3,hz4,hpos,hz6,hz7⟩:=yZ (P:=P) (w:=w) hz
 obtain ⟨i,hi,hsz⟩:=vA hpos
 have hby:P.bytesOf e=i.bytes:=zlX
 refine ⟨z,hz2,hz4,?_,?_⟩
 ·exact zdc hz3
 ·unfold Instr.makeSlice
  rw [ze,zh (xp htd)]
  simp only [asInt,zo,ze,xU hi]
  have hw:IntKind.i64.wrap (n:Int)=(n:Int):=zi Y2
  have hwm:IntKind.i64.wrap (m:Int)=(m:Int):=zi Y2
  have hc:¬ ((decide ((n:Int)<0)||decide ((i.bytes:Int)*(n:Int)>2 ^ 48))||decide ((m:Int)<0)||decide ((m:Int)>n))=true:=by
   have:(i.bytes:Int)*(n:Int)=((n*P.bytesOf e:Nat):Int):=by rw [hby];push_cast;exact Int.mul_comm _ _
   rw [this]
   simp
   omega
  have ha:(asIntOf (Value.int IntKind.i64 (n:Int))).run P w=.ok (IntKind.i64,(n:Int)) w:=rfl
  have ham:(asIntOf (Value.int IntKind.i64 (m:Int))).run P w=.ok (IntKind.i64,(m:Int)) w:=rfl
  simp only [ha,ham,hw,hwm]
  rw [if_neg hc]
  have hr:askRoom ((n:Int).toNat*i.bytes)=pure ():=by
   unfold askRoom
   rw [if_neg]
   rw [Int.toNat_natCast,← hby]
   omega
  rw [hr]
  simp only [ze,zo,yx hpos,Int.toNat_natCast]
  by_cases h0:n=0
  ·subst h0
   simp only [Nat.zero_mul,if_true,zo,ze]
   have e0:Array.map (fun x=>(#[]:Array Value)[x%(#[]:Array Value).size]!) (Array.range 0)= #[]:=Y1
   have e1:(flat (List.replicate 0 z)).toArray= #[]:=rfl
   rw [e0,e1]
   rfl
  ·have hne:¬ n*P.cellsOf e=0:=by
    have:=Nat.mul_pos (show 0<n from Y2) hpos
    omega
   rw [if_neg hne]
   simp only [ze,zo,hz1]
   rw [← zbX (by rw [hz4];exact hpos),hz4]
   rfl
section
variable {P:Program} {N:Nat} {k:List KI} {e:Env} {s:St} {rt:Env→St→Prop}
theorem Y75 {p:Prop} (h:p:=by
 simp only [R]
 refine ⟨Y2,w.heap.size,P.cellsOf el,n,k3,Nat.le_refl _,Y1,?_⟩
 have:yJ (World.newB w (.cells (flat (List.replicate n z)).toArray el (0,0))) w.heap.size=n*P.cellsOf el:=by
  unfold yJ World.shape?
  rw [XP]
  simp only [Option.map_some,Option.getD_some,List.size_toArray]
  rw [yp (sz:=P.cellsOf el) (fun u hu=>(hfl u hu).1),List.length_replicate]
 rw [this];simp):p:=h
theorem zfb {g w} {a:Act} {o:Oper} {t el:TypeId} {x y:Operand} {n:Nat} {v:PV} (hI:Inv P g s w) (ho:o.op=.makeSlice t x y) (h1:a.eval x=.int .i64 n) (h2:a.eval y=.int .i64 n) (htd:td P t=.sl el) (hz:zpv P el=some v) (hn2:n<1073741824000000) (hroom:n*P.bytesOf el≤140737488355328) :
  vT P o g w a (.own s.nxt 0 n) (s.new (.row el (List.replicate n v))):=by
 obtain ⟨z,r1,r2,r3,r4⟩:=Zu (w:=w) htd hz (Nat.le_refl n) hn2 zl2 hroom
 obtain ⟨_,_,_,_,_,hp,_⟩:=yZ (P:=P) (w:=w) hz
 have hR:R g w v z:=by rw [r1];exact YY g w z r3
 have hfl:∀ u∈List.replicate n z,u.cells.size=P.cellsOf el∧∀ c∈u.cells.toList,c.flat=true:=fun u hu=>by
  rw [(List.mem_replicate.1 hu).2]
  refine ⟨r2,fun c hc=>?_⟩
  have hok:v.ok=true:=by
   obtain ⟨_,_,_,_,_,_,_,h7⟩:=yZ (P:=P) (w:=w) hz
   exact h7
  exact (xS hR hok).2.1 c hc
 obtain ⟨g',k1,k2,k3,k4⟩:=XG (t:=el) (ty:=el) (els:=List.replicate n v) (vs:=List.replicate n z) (c:=(flat (List.replicate n z)).toArray) hI hp (vQ hR n) Y1 hfl
 refine ⟨.slice (some ⟨w.heap.size,0,none⟩) n n,_,g',.inl ?_,k1,k2,?_⟩
 ·unfold execOp
  rw [ho]
  simp only [ze,zo,h1,h2,r4]
 ·exact Y75
theorem zm.makeOwn {ops:Array Oper} {d:Option Nat} {t ty el:TypeId} {x y:Operand} {pos:String} {af:Array Edge} {gd:Option (Nat × Bool)} {l:List Oper} {n:Nat} {v:PV}
  (hg:guard? ops ⟨d,.makeSlice t x y,ty,pos,af,gd⟩ e=some true) (hx:ev e x=.int .i64 n) (hy:ev e y=.int .i64 n) (htd:td P t=.sl el) (hz:zpv P el=some v) (hn2:n<1073741824000000) (hroom:n*P.bytesOf el≤140737488355328)
  (h:zm P N ops l k (e.put d (.own s.nxt 0 n)) (s.new (.row el (List.replicate n v))) rt):zm P N ops (⟨d,.makeSlice t x y,ty,pos,af,gd⟩::l) k e s rt:=by
 refine zm.eff hg (fun g w a hI hE=>?_) h
 have h1:=xE hE x
 have h2:=xE hE y
 rw [hx] at h1
 rw [hy] at h2
 simp only [R] at h1 h2
 exact zfb hI rfl h1 h2 htd hz hn2 hroom
theorem zm.makeCap {ops:Array Oper} {d:Option Nat} {t ty el:TypeId} {x y:Operand} {pos:String} {af:Array Edge} {gd:Option (Nat × Bool)} {l:List Oper} {n:Nat} {v:PV}
  (hg:guard? ops ⟨d,.makeSlice t x y,ty,pos,af,gd⟩ e=some true) (hx:ev e x=.int .i64 0) (hy:ev e y=.int .i64 n) (htd:td P t=.sl el) (hz:zpv P el=some v) (hn2:n<1073741824000000) (hroom:n*P.bytesOf el≤140737488355328)
  (h:zm P N ops l k (e.put d (.sl (.tok s.nxt (P.cellsOf el)) [])) (s.new (.tok 0)) rt):zm P N ops (⟨d,.makeSlice t x y,ty,pos,af,gd⟩::l) k e s rt:=by
 refine zm.eff hg (fun g w a hI hE=>?_) h
 have h1:=xE hE x
 have h2:=xE hE y
 rw [hx] at h1
 rw [hy] at h2
 simp only [R] at h1 h2
 obtain ⟨z,r1,r2,r3,r4⟩:=Zu (w:=w) (m:=0) htd hz (Nat.zero_le n) hn2 zl2 hroom
 obtain ⟨_,_,_,_,_,hp,_⟩:=yZ (P:=P) (w:=w) hz
 obtain ⟨g',k1,k2,k3⟩:=zeS (vs:=[]) (els:=[]) (sz:=P.cellsOf el) (N:=n) (ty:=el) (c:=(flat (List.replicate n z)).toArray) hI rfl (fun u hu=>by cases hu) hp (by simp [flat]) (Nat.zero_le _) (by
  rw [List.size_toArray,yp (sz:=P.cellsOf el) (fun u hu=>by rw [(List.mem_replicate.1 hu).2];exact r2),List.length_replicate];exact Nat.le_refl _)
 refine ⟨_,_,g',.inl ?_,k1,k2,k3⟩
 unfold execOp
 simp only [ze,zo,h1,h2]
 rw [show ((0:Nat):Int)=0 from rfl] at r4
 rw [r4]
 rfl
end
end Go.PM
namespace Go.PM
open Go
def Made (s s1:St) (k:SK) (n z:Nat):Prop:=(k=.nil∨k=.clip)∧n=0∧s1=s∨k=.tok s.nxt z∧s1=s.new (.tok n)
theorem Made.append {P:Program} {s s1:St} {e:TypeId} {k:SK} {xs ys:List PV} (h:Made s s1 k xs.length (P.cellsOf e)) (hy:ys≠[]) :
  yQ P e k xs ys s1=some (.sl (.tok s.nxt (P.cellsOf e)) (xs++ys),s.new (.tok (xs.length+ys.length))):=by
 unfold yQ
 rw [if_neg hy]
 rcases h with ⟨hk,hn,rfl⟩ | ⟨rfl,rfl⟩
 ·rcases hk with rfl | rfl<;>rfl
 ·simp only [blk_new_eq',true_and,and_self,if_true]
  rw [ziy]
where
 blk_new_eq' {s:St} {b:Blk}:(s.new b).blk s.nxt=some b:=if_pos rfl
theorem Made.first {P:Program} {s:St} {e:TypeId} {k:SK} {ys:List PV} (hk:k=.nil∨k=.clip):∃ k' s',yQ P e k [] ys s=some (.sl k' ys,s')∧Made s s' k' ys.length (P.cellsOf e):=by
 by_cases hy:ys=[]
 ·subst hy
  exact ⟨k,s,by unfold yQ;rw [if_pos rfl],.inl ⟨hk,rfl,rfl⟩⟩
 ·refine ⟨.tok s.nxt (P.cellsOf e),s.new (.tok ys.length),?_,.inr ⟨rfl,rfl⟩⟩
  unfold yQ
  rw [if_neg hy]
  rcases hk with rfl | rfl<;>simp
theorem Made.tok {s s1:St} {k:SK} {n z:Nat} (h:Made s s1 k n z) (hn:n≠0):k=.tok s.nxt z∧s1=s.new (.tok n):=by
 rcases h with ⟨_,h,_⟩ | h
 ·exact absurd h hn
 ·exact h
theorem Made.fr {s s1:St} {k:SK} {n z:Nat} (h:Made s s1 k n z) (hwf:s.wf):Fr s s1:=by
 rcases h with ⟨_,_,rfl⟩ | ⟨_,rfl⟩
 ·exact Fr.refl hwf
 ·exact (Fr.refl hwf).new _
theorem zgO (k:IntKind) (l:List Int):Wu 1 (l.map (PV.int k))=True:=eq_true (by
 intro el hel
 obtain ⟨a,_,rfl⟩:=List.mem_map.1 hel
 exact ⟨rfl,rfl⟩)
theorem zfq (l:List Bool):Wu 1 (l.map PV.bool)=True:=eq_true (by
 intro el hel
 obtain ⟨a,_,rfl⟩:=List.mem_map.1 hel
 exact ⟨rfl,rfl⟩)
attribute [go_sem] zgO zfq
theorem xi {P:Program} {e:TypeId} {α:Type} {f:α→PV} {xs ys zs:List α} {s:St} {t L z:Nat} (hz:zs=xs++ys) (hy:ys≠[]) (ht:s.blk t=some (.tok L)) (hL:L=xs.length) (hc:P.cellsOf e=z) :
  yQ P e (.tok t z) (xs.map f) (ys.map f) s=some (.sl (.tok t z) (zs.map f),s.set t (some (.tok zs.length))):=by
 subst hz hL hc
 unfold yQ
 rw [if_neg (by simpa using hy)]
 simp only [ht,List.length_map,and_self,if_true,List.map_append,List.length_append]
theorem Ret.drop {P:Program} {fn:Func} {args:List PV} {s0 s:St} {Q:PV→St→Prop} {e:Env} {r r':PV} (t:Nat) (hr:Xp P fn.results.toList e s=some r) (hr':r'=r.weak) (hb:r'.blw s0.nxt) (hwf:s0.wf) (hk:∀ i,i<s0.nxt→i≠t→s.blk i=s0.blk i) (h:Q r' (s0.set t none)):Ret P fn args s0 Q e s:=by
 have e1:s.keep s0.nxt (fun i=>decide (i<s0.nxt∧i≠t))=s0.set t none:=by
  cases s0 with
  | mk n f =>
    simp only [St.keep,St.set,St.mk.injEq,true_and]
    funext i
    by_cases hi:i<n∧i≠t
    ·simp only [hi,ne_eq,not_false_eq_true,and_self,decide_true,if_true,if_false];exact hk i hi.1 hi.2
    ·simp only [hi,decide_false,Bool.false_eq_true,if_false]
     by_cases hit:i=t
     ·rw [if_pos hit]
     ·rw [if_neg hit]
      exact (hwf i (by simp only;omega)).symm
 refine Ret.keep s0.nxt (fun i=>decide (i<s0.nxt∧i≠t)) hr hr' (Nat.le_refl _) hb (fun i hi _=>(of_decide_eq_true hi).1) ?_ ziE
 intro i b hi hbi
 rw [hk i (of_decide_eq_true hi).1 (of_decide_eq_true hi).2] at hbi
 exact .inl hbi
theorem Made.blk {s s1:St} {k:SK} {n z:Nat} (h:Made s s1 k n z):∀ i,i<s.nxt→s1.blk i=s.blk i:=by
 intro i hi
 rcases h with ⟨_,_,rfl⟩ | ⟨_,rfl⟩
 ·rfl
 ·exact if_neg Y2
theorem Made.nx {s s1:St} {k:SK} {n z:Nat} (h:Made s s1 k n z):s.nxt≤s1.nxt:=by
 rcases h with ⟨_,_,rfl⟩ | ⟨_,rfl⟩
 ·exact Nat.le_refl _
 ·exact Nat.le_succ _
theorem Ret.put {P:Program} {fn:Func} {args:List PV} {s0 s:St} {Q:PV→St→Prop} {e:Env} {r r':PV} (s1:St) (hr:Xp P fn.results.toList e s=some r) (hr':r'=r.weak) (hb:r'.blw s0.nxt) (hwf:s1.wf) (hn:s1.nxt=s0.nxt)
  (hk:∀ i,i<s0.nxt→s.blk i=s1.blk i) (hbl:∀ i b,s1.blk i=some b→s0.blk i=some b∨b.blw s0.nxt) (h:Q r' s1):Ret P fn args s0 Q e s:=by
 have e1:s.keep s0.nxt (fun i=>decide (i<s0.nxt))=s1:=by
  cases s1 with
  | mk n f =>
    simp only at hn
    subst hn
    simp only [St.keep,St.mk.injEq,true_and]
    funext i
    by_cases hi:i<s0.nxt
    ·exact zlm
    ·exact Y61
 refine Ret.keep s0.nxt (fun i=>decide (i<s0.nxt)) hr hr' (Nat.le_refl _) hb (fun i hi _=>of_decide_eq_true hi) ?_ ziE
 intro i b hi hbi
 rw [hk i (of_decide_eq_true hi)] at hbi
 exact hbl i b hbi
theorem St.eq_of' {a b:St} (h1:a.nxt=b.nxt) (h2:∀ i,a.blk i=b.blk i):a=b:=by
 cases a;cases b
 simp only [St.mk.injEq]
 exact ⟨h1,funext h2⟩
section
variable {P:Program} {N:Nat} {k:List KI} {e e':Env} {s:St} {rt:Env→St→Prop}
theorem zm.made {ops:Array Oper} {d:Option Nat} {x y:Operand} {t ty:TypeId} {pos:String} {af:Array Edge} {gd:Option (Nat × Bool)} {l:List Oper} {el:TypeId} {kx ky:SK} {ys:List PV}
  (hg:guard? ops ⟨d,.call ⟨.builtin .append,#[x,y],#[t,t]⟩,ty,pos,af,gd⟩ e=some true) (hx:ev e x=.sl kx []) (hy:ev e y=.sl ky ys) (htd:td P t=.sl el) (hz:(zpv P el).isSome=true)
  (hey:xg P el ys) (hb0:0<P.bytesOf el) (hlen:ys.length*P.bytesOf el≤140737488355328) (hk:kx=.nil∨kx=.clip)
  (h:∀ k' s',Made s s' k' ys.length (P.cellsOf el)→zm P N ops l k (e.put d (.sl k' ys)) s' rt) :
  zm P N ops (⟨d,.call ⟨.builtin .append,#[x,y],#[t,t]⟩,ty,pos,af,gd⟩::l) k e s rt:=by
 obtain ⟨k',s',h1,h2⟩:=Made.first (P:=P) (e:=el) (s:=s) (ys:=ys) hk
 exact zm.append hg hx hy htd hz (fun p hp=>absurd hp List.not_mem_nil) hey hb0 (by simpa using hlen) h1 (h k' s' h2)
theorem Run.genS (h:∀ S,S=s→Run P N k e S rt):Run P N k e s rt:=h s rfl
end
end Go.PM
namespace Go.PM
open Go
theorem ziZ {P:Program} {g s w id off n va ty els} (h:Inv P g s w) (hx:R g w (.own id off n) va) (hb:s.blk id=some (.row ty els)) (hle:off+n≤els.length) :
  ∃ us,uP w va us∧RA g w ((els.drop off).take n) us:=by
 have hat:=h.at' id
 rw [hb] at hat
 obtain ⟨_,hlv,b,vs,hr,hrp,hrow⟩:=hat
 obtain ⟨a1,a2,a3,a4⟩:=hrow
 have hvl:=zV a4
 simp only [R] at hx
 obtain ⟨_,b',sz',cap,hr',hcap,rfl,hcs⟩:=hx
 rw [hr] at hr';cases hr'
 have hsz:∀ v∈vs,v.cells.size=P.cellsOf ty:=fun v hv=>(a3 v hv).1
 have hsz':∀ v∈(vs.drop off).take n,v.cells.size=P.cellsOf ty:=fun v hv=>hsz v (List.mem_of_mem_drop (List.mem_of_mem_take hv))
 refine ⟨(vs.drop off).take n,.inr ⟨b,off*P.cellsOf ty,cap,?_,?_⟩,Zb _ (vz _ a4)⟩
 ·have:((vs.drop off).take n).length=n:=by rw [List.length_take,List.length_drop];omega
  rw [this]
 ·rw [xT hsz']
  intro i v hv
  have hi:i<n:=by
   have:=(List.getElem?_eq_some_iff.1 hv).1
   rw [List.length_take] at this
   omega
  rw [List.getElem?_take,if_pos hi,List.getElem?_drop] at hv
  have:=(xT hsz).1 a2 (off+i) v hv
  rw [Nat.zero_add,Nat.add_mul] at this
  exact this
def zil (P:Program) (e:TypeId) (id off len:Nat) (ys:List PV) (s:St):Option St :=
 match s.blk id with
 | some (.row ty els)=>if ys.length≤len∧P.cellsOf e=P.cellsOf ty∧off+len≤els.length then some (s.set id (some (.row ty (els.take off++ys++els.drop (off+ys.length))))) else none
 | _=>none
theorem ziO {P:Program} {g s w t t2 ty e id off len va vb ys s'} (h:Inv P g s w) (hx:R g w (.own id off len) va) (hy:∃ us,uP w vb us∧RA g w ys us) (hey:xg P e ys) (htd:td P t=.sl e) (hz:(zpv P e).isSome=true) (ha:zil P e id off len ys s=some s') :
  ∃ w',(Builtin.copy_ #[t,t2] ty #[va,vb]).run P w=.ok (.int .i64 ys.length) w'∧Inv P g s' w'∧Ext g w g w':=by
 unfold zil at ha
 split at ha
 case h_2=>cases ha
 rename_i tyr els hbl
 split at ha
 case isFalse=>cases ha
 rename_i hc
 obtain ⟨hl0,hce,hle⟩:=hc
 cases ha
 have hu:=xp htd
 obtain ⟨z,hz⟩:=Option.isSome_iff_exists.1 hz
 obtain ⟨zv,hz1,hz2,hz3,hz4,hpos,hz6,hz7⟩:=yZ (P:=P) (w:=w) hz
 obtain ⟨i,hi,hsi⟩:=vA hpos
 obtain ⟨us,hus,hru⟩:=hy
 have hue:=wG hey hru
 have hul:=zV hru
 have hn:=hus.len (P:=P)
 have hfc:=hus.cells (P:=P) (size:=P.cellsOf e) (fun v hv=>(hue v hv).1)
 have hat:=h.at' id
 rw [hbl] at hat
 obtain ⟨_,hlv,b,vs,hr,hrp,hrow⟩:=hat
 obtain ⟨a1,a2,a3,a4⟩:=hrow
 have hvl:=zV a4
 simp only [R] at hx
 obtain ⟨_,b',sz',cap,hr',hcap,rfl,hcs⟩:=hx
 rw [hr] at hr';cases hr'
 have hsz':∀ v∈vs,v.cells.size=P.cellsOf tyr:=fun v hv=>(a3 v hv).1
 have hfz:(flat us).length=ys.length*P.cellsOf tyr:=by
  rw [yp (sz:=P.cellsOf tyr) (fun u hu=>by rw [(hue u hu).1,hce]),hul]
 have hmul:ys.length*P.cellsOf tyr≤len*P.cellsOf tyr:=Nat.mul_le_mul_right _ hl0
 have hfit:off*P.cellsOf tyr+(flat us).length≤yJ w b:=by
  rw [hfz]
  have h1:(off+len)*P.cellsOf tyr≤(off+cap)*P.cellsOf tyr:=Nat.mul_le_mul_right _ Y2
  rw [Nat.add_mul] at h1
  omega
 have hft:flat (vs.take off)=(flat vs).take (off*P.cellsOf tyr):=Wj vs _ hsz' off
 have hfd:flat (vs.drop (off+ys.length))=(flat vs).drop ((off+ys.length)*P.cellsOf tyr):=Yp vs _ hsz' (off+ys.length)
 have hlt:(flat (vs.take off)).length=off*P.cellsOf tyr:=by
  rw [yp (sz:=P.cellsOf tyr) (fun v hv=>hsz' v (List.mem_of_mem_take hv)),List.length_take,Nat.min_eq_left Y2]
 have hcells:zT (yd w b (off*P.cellsOf tyr) (flat us)) b 0 (flat (vs.take off++us++vs.drop (off+ys.length))):=by
  rw [wA,wA,xa,xa]
  refine ⟨⟨fun j hj=>?_,?_⟩,fun j hj=>?_⟩
  ·exact zqb
  ·rw [hlt,Nat.zero_add]
   exact wj _ _ _ _ hfit
  ·rw [List.length_append,hlt,hfz,Nat.zero_add]
   rw [yn _ _ _ _ _ _ (by rw [hfz];omega)]
   have hq:=xQ a2 ((off+ys.length)*P.cellsOf tyr)
   rw [← hfd] at hq
   have:=hq j hj
   rw [Nat.zero_add,Nat.add_mul] at this
   exact this
 have hcat:∀ v∈vs.take off++us++vs.drop (off+ys.length),v.cells.size=P.cellsOf tyr∧∀ x∈v.cells.toList,x.flat=true:=by
  intro v hv
  rcases List.mem_append.1 hv with hv | hv
  ·rcases List.mem_append.1 hv with hv | hv
   ·exact a3 v (List.mem_of_mem_take hv)
   ·exact ⟨by rw [(hue v hv).1,hce],(hue v hv).2⟩
  ·exact a3 v (List.mem_of_mem_drop hv)
 obtain ⟨k1,k2⟩:=Ya (els':=els.take off++ys++els.drop (off+ys.length)) (vs':=vs.take off++us++vs.drop (off+ys.length)) (o:=off*P.cellsOf tyr) (xs:=flat us) h hbl hr hcells hcat
  (yN (yN (Zb _ a4) hru) (vz _ a4))
 refine ⟨_,?_,k1,k2⟩
 have hst:=wR P b (flat us) w (off*P.cellsOf tyr) 0 (by
  intro v hv
  simp only [flat,List.mem_flatMap] at hv
  obtain ⟨u,hu1,hu2⟩:=hv
  exact (hue u hu1).2 v hu2) a1 (by simpa using hfit)
 have hmin:Nat.min us.length len=us.length:=Nat.min_eq_left Y2
 have hsz2:(sizeOf e:Sem Nat).run P w=.ok i.size w:=by
  simp [sizeOf,typeInfo,hi]
 rw [← hsi] at hfc
 unfold Builtin.copy_
 simp only [List.getElem?_toArray,List.getElem?_cons_zero,List.getElem?_cons_succ,ze,zh hu,hn,hmin,hsz2,hfc,hst,zo,Nat.add_zero,goInt,hul]
theorem YG {P:Program} {t e ty:TypeId} {id off len a m:Nat} {els:List PV} {s:St} (htd:td P t=.sl e) (hz:0<P.cellsOf e) (hc:P.cellsOf e=P.cellsOf ty) (hb:s.blk id=some (.row ty els)) (ha:a<len) (ham:a+m≤len) :
  Yb P t (.own id off len) (some (.int .i64 (a:Int))) (some (.int .i64 ((a+m:Nat):Int))) none s=some (.own id (off+a) m):=by
 unfold Yb
 simp only [ug,htd,Option.getD_some,hb,hc]
 rw [if_pos ⟨Y2,Y2,Y2,Y2,trivial⟩]
 rw [if_pos trivial]
 by_cases h0:a=0
 ·subst h0
  rw [if_pos Y2]
  congr 2<;>omega
 ·rw [if_neg Y2,if_neg Y2]
  congr 2<;>omega
section
variable {P:Program} {N:Nat} {k:List KI} {e e':Env} {s:St} {rt:Env→St→Prop}
theorem zm.copy {ops:Array Oper} {d:Option Nat} {x y:Operand} {t t2 ty:TypeId} {pos:String} {af:Array Edge} {gd:Option (Nat × Bool)} {l:List Oper} {el:TypeId} {id off len:Nat} {ky:SK} {ys:List PV} {s':St}
  (hg:guard? ops ⟨d,.call ⟨.builtin .copy,#[x,y],#[t,t2]⟩,ty,pos,af,gd⟩ e=some true) (hx:ev e x=.own id off len) (hy:ev e y=.sl ky ys) (htd:td P t=.sl el) (hz:(zpv P el).isSome=true) (hey:xg P el ys) (ha:zil P el id off len ys s=some s')
  (h:zm P N ops l k (e.put d (.int .i64 ys.length)) s' rt):zm P N ops (⟨d,.call ⟨.builtin .copy,#[x,y],#[t,t2]⟩,ty,pos,af,gd⟩::l) k e s rt:=by
 refine zm.eff hg (fun g w a hI hE=>?_) h
 have h1:=xE hE x
 have h2:=xE hE y
 rw [hx] at h1
 rw [hy] at h2
 obtain ⟨w',r1,r2,r3⟩:=ziO (t2:=t2) (ty:=ty) hI h1 (zbw h2) hey htd hz ha
 refine ⟨.int .i64 ys.length,w',g,.inl ?_,r2,r3,WW⟩
 unfold execOp
 simp only [resolve,ze,zo,invoke,builtin]
 have:Array.map a.eval #[x,y]= #[a.eval x,a.eval y]:=Y1
 rw [this]
 unfold Go.invoke
 simp only [builtin,ze,r1,zo]
theorem zm.appendFrom {ops:Array Oper} {d:Option Nat} {x y:Operand} {t ty:TypeId} {pos:String} {af:Array Edge} {gd:Option (Nat × Bool)} {l:List Oper} {el ety:TypeId} {kx:SK} {id off n:Nat} {els ys:List PV}
  (hg:guard? ops ⟨d,.call ⟨.builtin .append,#[x,y],#[t,t]⟩,ty,pos,af,gd⟩ e=some true) (hx:ev e x=.sl kx []) (hy:ev e y=.own id off n) (hb:s.blk id=some (.row ety els)) (hys:(els.drop off).take n=ys) (hle:off+n≤els.length) (htd:td P t=.sl el) (hz:(zpv P el).isSome=true)
  (hey:xg P el ys) (hb0:0<P.bytesOf el) (hlen:ys.length*P.bytesOf el≤140737488355328) (hk:kx=.nil∨kx=.clip)
  (h:∀ k' s',Made s s' k' ys.length (P.cellsOf el)→zm P N ops l k (e.put d (.sl k' ys)) s' rt):zm P N ops (⟨d,.call ⟨.builtin .append,#[x,y],#[t,t]⟩,ty,pos,af,gd⟩::l) k e s rt:=by
 obtain ⟨k',s',h1,h2⟩:=Made.first (P:=P) (e:=el) (s:=s) (ys:=ys) hk
 refine zm.eff hg (fun g w a hI hE=>?_) (h k' s' h2)
 have q1:=xE hE x
 have q2:=xE hE y
 rw [hx] at q1
 rw [hy] at q2
 obtain ⟨us,hus,hru⟩:=ziZ hI q2 hb hle
 rw [hys] at hru
 obtain ⟨val,w',g',r1,r2,r3,r4⟩:=Vt (ty:=ty) hI q1 ⟨us,hus,hru⟩ htd hz (fun p hp=>absurd hp List.not_mem_nil) hey hb0 (by simpa using hlen) h1
 exact ⟨val,w',g',.inl (ZS rfl r1),r2,r3,r4⟩
end
end Go.PM
namespace Go.PM
open Go
def zgY (P:Program) (ops:Array Oper) (o:Oper) (e:Env) (s:St) (v:PV) (T:St→Prop):Prop :=
 ∀ g w (a:Act),Inv P g s w→(∀ j∈zu ops o,R g w (e.get j) (a.tmps.getD j undef))→∀ (K:Act→World→Prop) (Q:Exit→Act→World→Prop),
  (∀ s1 val w' g',T s1→Inv P g' s1 w'→Ext g w g' w'→R g' w' v val→K (a.put o.dst val) w') →
  (if Region.wanted o (yielded ops a.tmps) then o.wp P a w K Q∨(o.asks P a w∧LetsOut Q) else K (a.put o.dst undef) w)
theorem DOp.toS {P:Program} {ops:Array Oper} {o:Oper} {e:Env} {s s1:St} {v:PV} {T:St→Prop} (h:DOp P ops o e s v s1) (ht:T s1):zgY P ops o e s v T :=
 fun g w a hI hs K Q hK=>h g w a hI hs K Q fun val w' g'=>hK s1 val w' g' ht
theorem UZ {P:Program} {ops:Array Oper} {N:Nat} {e0:Env} {Q:Exit→Act→World→Prop} {V:Nat→PV} {E:Nat→Env} {g0:G} {w0:World} {n:Nat} {J:(Nat→Bool)→St→Prop}
  (hnsz:n≤ops.size) (hcut:∀ i j,n≤j→j<ops.size→i<j→((zX ops.toList []).getD j 0).testBit i=true) (hok:wD ops [] (fun _=>true)=true) (hN:∀ (i:Nat) (o:Oper),ops[i]? =some o→zbu N o=true)
  (hE0:E 0=e0) (hE:∀ (i:Nat) (o:Oper),i<n→ops[i]? =some o→E (i+1)=(E i).put o.dst (V i))
  (hJ:∀ (L:Nat→Bool) (i:Nat) (o:Oper) (s:St),i<n→ops[i]? =some o→J L s→L i=false→(∀ b,((zX ops.toList []).getD i 0).testBit b=true→L b=true)→(∀ k,L k=true→((zX ops.toList []).getD k 0).testBit i=false) →
    zgY P ops o (E i) s (V i) (J (fun k=>if k=i then true else L k)))
  (hQ:∀ L g s w (a:Act),J L s→(∀ k,k<n→L k=true)→Inv P g s w→yY g w (E n) a.tmps→Ext g0 w0 g w→a.defers=[]→a.tmps.size=N→wpOps P ops Q (List.range' n (ops.size-n)) a w) :
  ∀ (fuel:Nat) (listed:Array Bool) (g:G) (s:St) (w:World) (a:Act),listed.size=ops.size →
   ((List.range ops.size).filter fun k=> !listed.getD k true).length≤fuel→DC ops (fun k=>listed.getD k false=true)→(∀ k,n≤k→listed.getD k false=false) →
   Inv P g s w→Ext g0 w0 g w→a.defers=[]→a.tmps.size=N →
   (∀ j,R g w (match zH (xH ops j) (fun k=>listed.getD k false) n with | none=>e0.get j | some k=>V k) (a.tmps.getD j undef)) →
   J (fun k=>listed.getD k false) s →
   wpAny P .any ops Q fuel listed a w:=by
 have hpair:∀ (i j:Nat) (oi oj:Oper),i<j→ops[i]? =some oi→ops[j]? =some oj→xZ ops [] (fun _=>true) i j oi oj=true→((zX ops.toList []).getD j 0).testBit i=true:=by
  intro i j oi oj hij h1 h2 hc
  unfold wD at hok
  have:=List.all_eq_true.1 hok j (List.mem_range.2 (Array.getElem?_eq_some_iff.1 h2).1)
  rw [h2] at this
  simp only [Bool.and_eq_true] at this
  have:=List.all_eq_true.1 this.2 i (List.mem_range.2 hij)
  rw [h1] at this
  simp only [hc,Bool.not_true,Bool.false_or] at this
  exact this
 have hedge:∀ (j:Nat) (oj:Oper),ops[j]? =some oj→∀ e∈oj.after,Region.binds .any e=true→e.on<j:=by
  intro j oj h2 e he hb
  unfold wD at hok
  have:=List.all_eq_true.1 hok j (List.mem_range.2 (Array.getElem?_eq_some_iff.1 h2).1)
  rw [h2] at this
  simp only [Bool.and_eq_true] at this
  have:=List.all_eq_true.1 this.1 e (by simpa using he)
  simpa [hb] using this
 have hmask:∀ (L:Nat→Prop),DC ops L→∀ (k:Nat) (o:Oper),ops[k]? =some o→(∀ e∈o.after,Region.binds .any e=true→L e.on)→∀ b,((zX ops.toList []).getD k 0).testBit b=true→L b :=
  fun L hdc=>ur hdc ops.toList [] Y1 zki zlu
 have hEget:∀ i,i≤n→∀ j,(E i).get j=(match zH (xH ops j) (fun _=>true) i with | none=>e0.get j | some k=>V k):=by
  intro i
  induction i with
  | zero=>intro _ j;rw [hE0];rfl
  | succ i ih =>
    intro hi j
    obtain ⟨o,ho⟩:∃ o,ops[i]? =some o:=⟨ops[i]'Y2,Y1⟩
    rw [hE i o Y2 ho]
    unfold zH
    rw [yr ho,Bool.and_true]
    unfold zQ
    cases hd:o.dst with
    | none=>simp only [Env.put];rw [ih Y2 j];simp
    | some d =>
      simp only [Env.put,Env.get]
      by_cases hjd:j=d
      ·subst hjd;simp
      ·exact Y63
 intro fuel
 have fin:∀ (fuel:Nat) (listed:Array Bool) (g:G) (s:St) (w:World) (a:Act),listed.size=ops.size →
   ((List.range ops.size).filter fun k=> !listed.getD k true).length≤fuel→DC ops (fun k=>listed.getD k false=true)→(∀ k,n≤k→listed.getD k false=false) →
   Inv P g s w→Ext g0 w0 g w→a.defers=[]→a.tmps.size=N →
   (∀ j,R g w (match zH (xH ops j) (fun k=>listed.getD k false) n with | none=>e0.get j | some k=>V k) (a.tmps.getD j undef)) →
   J (fun k=>listed.getD k false) s→(∀ k,k<n→listed.getD k false=true) →
   wpAny P .any ops Q fuel listed a w:=by
  intro fuel listed g s w a hsz hcnt hdc hhi hI hX hd hn hslots hstore hall'
  refine YU (n:=n) hcut hedge hmask (ops.size-n) fuel n listed a w Y2 ?_ (Nat.le_refl _) ?_ hsz hdc ?_
  ·exact Y9
  ·exact Y66
  ·refine hQ _ g s w a hstore hall' hI ?_ hX hd hn
   intro j
   rw [hEget _ (Nat.le_refl _) j,← ya (l:=fun k=>listed.getD k false) (fun k hk _=>hall' k hk)];exact hslots j
 induction fuel with
 | zero =>
   intro listed g s w a hsz hcnt hdc hhi hI hX hd hn hslots hstore
   refine fin 0 listed g s w a hsz hcnt hdc hhi hI hX hd hn hslots hstore ?_
   have hall:∀ k,k<ops.size→listed.getD k true=true:=by
    intro k hk
    have:(List.range ops.size).filter (fun k=> !listed.getD k true)=[]:=List.length_eq_zero_iff.1 Y2
    have:=List.filter_eq_nil_iff.1 this k (List.mem_range.2 hk)
    simpa using this
   intro k hk
   have:=hall k Y2
   rw [Array.getD_eq_getD_getElem?,Array.getElem?_eq_getElem Y2] at this ⊢
   exact this
 | succ fuel ih =>
   intro listed g s w a hsz hcnt hdc hhi hI hX hd hn hslots hstore
   by_cases hfull:∀ k,k<n→listed.getD k false=true
   ·exact zmO
   refine ⟨?_,?_⟩
   ·exact Y10
   ·intro i hi
    obtain ⟨h0,o,ho,hedges⟩:=mem_ready.1 hi
    have hlt:=(Array.getElem?_eq_some_iff.1 ho).1
    have hnl:listed.getD i false=false:=by
     rw [Array.getD_eq_getD_getElem?,Array.getElem?_eq_getElem Y2] at h0 ⊢
     exact h0
    have hanc:=hmask _ hdc i o ho hedges
    have hin:i<n:=by
     by_cases h:i<n
     ·exact h
     ·exact zmA
    have before:∀ (k:Nat) (ok:Oper),ops[k]? =some ok→k<i→xZ ops [] (fun _=>true) k i ok o=true→listed.getD k false=true :=
     fun k ok hk hki hc=>hanc k (hpair k i ok o hki hk ho hc)
    have behind:∀ (k:Nat) (ok:Oper),ops[k]? =some ok→i<k→xZ ops [] (fun _=>true) i k o ok=true→listed.getD k false=false:=by
     intro k ok hk hki hc
     cases hlk:listed.getD k false with
     | false=>rfl
     | true =>
       have this:listed.getD i false=true:=hmask _ hdc k ok hk (hdc k ok hk hlk) i (hpair i k o ok hki ho hk hc)
       rw [hnl] at this;cases this
    have cell:∀ p:Nat→Bool,(∀ (k:Nat) (ok:Oper),ops[k]? =some ok→k<i→p k=true→xZ ops [] (fun _=>true) k i ok o=true)→(∀ (k:Nat) (ok:Oper),ops[k]? =some ok→i<k→p k=true→xZ ops [] (fun _=>true) i k o ok=true) →
      zH p (fun k=>listed.getD k false) n=zH p (fun _=>true) i∧∀ k,i<k→k<n→(p k&&listed.getD k false)=false:=by
     intro p h1 h2
     have hb:∀ k,i<k→k<n→(p k&&listed.getD k false)=false:=by
      intro k hk hkn
      cases hp:p k with
      | false=>rfl
      | true =>
        obtain ⟨ok,hok'⟩:∃ o,ops[k]? =some o:=⟨ops[k]'Y2,Y1⟩
        rw [behind k ok hok' hk (h2 k ok hok' hk hp)];rfl
     refine ⟨?_,hb⟩
     rw [ul (i:=i) Y2 Y4]
     refine ya fun k hk hp=>?_
     obtain ⟨ok,hok'⟩:∃ o,ops[k]? =some o:=⟨ops[k]'Y2,Y1⟩
     exact before k ok hok' hk (h1 k ok hok' hk hp)
    have hsl:∀ j∈zu ops o,R g w ((E i).get j) (a.tmps.getD j undef):=by
     intro j hj
     have:=(cell (xH ops j) (by
      intro k ok hk hki hp
      rw [yr hk] at hp
      simp only [zQ,beq_iff_eq] at hp
      unfold xZ
      rw [hp]
      simp [hj]
     ) (by
      intro k ok hk hki hp
      rw [yr hk] at hp
      simp only [zQ,beq_iff_eq] at hp
      unfold xZ
      rw [hp]
      simp [hj]
     )).1
     have h3:=hslots j
     rw [this] at h3
     rw [hEget i Y2 j]
     exact h3
    have rest:∀ (s':St) val w' g',J (fun k=>(listed.setIfInBounds i true).getD k false) s' →
      Inv P g' s' w'→Ext g w g' w'→R g' w' (V i) val→wpAny P .any ops Q fuel (listed.setIfInBounds i true) (a.put o.dst val) w':=by
     intro s' val w' g' hs' hI' hX' hR'
     have hgd:∀ k,(listed.setIfInBounds i true).getD k false=if k=i then true else listed.getD k false:=by
      intro k
      by_cases e:k=i
      ·exact Y62
      ·exact Y64
     refine ih _ g' s' w' _ zi7 ?_ ?_ zlG hI' (hX.trans hX') Y58 zkX ?_ hs'
     ·exact Y5
     ·exact Y6
     ·exact Y14
    have hgd':∀ k,(listed.setIfInBounds i true).getD k false=if k=i then true else listed.getD k false:=by
     intro k
     by_cases e:k=i
     ·exact Y62
     ·exact Y64
    unfold wpOp
    rw [ho]
    simp only
    have hd':=hJ (fun k=>listed.getD k false) i o s hin ho hstore hnl hanc (fun k hk=>by
     cases hm:((zX ops.toList []).getD k 0).testBit i with
     | false=>rfl
     | true =>
       have hkn:∃ ok,ops[k]? =some ok:=by
        have hk':listed.getD k false=true:=hk
        have:k<listed.size:=by
         rw [Array.getD_eq_getD_getElem?] at hk'
         cases hx:listed[k]? with
         | none=>rw [hx] at hk';cases hk'
         | some b=>exact (Array.getElem?_eq_some_iff.1 hx).1
        exact ⟨ops[k]'Y2,Y1⟩
       obtain ⟨ok,hok'⟩:=hkn
       have this:listed.getD i false=true:=hmask _ hdc k ok hok' (hdc k ok hok' hk) i hm
       rw [hnl] at this;cases this)
    refine hd' g w a hI hsl _ _ fun s' val w' g' hj' k1 k2 k3=>rest s' val w' g' ?_ k1 k2 k3
    have hfe:(fun k=>(listed.setIfInBounds i true).getD k false)=(fun k=>if k=i then true else listed.getD k false):=funext hgd'
    rw [hfe]
    exact hj'
theorem zfp {P:Program} {ops:Array Oper} {N:Nat} {e0:Env} {Q:Exit→Act→World→Prop} {V:Nat→PV} {E:Nat→Env} {g0:G} {w0:World} {n:Nat} {J:(Nat→Bool)→St→Prop}
  (hnsz:n≤ops.size) (hcut:∀ i j,n≤j→j<ops.size→i<j→((zX ops.toList []).getD j 0).testBit i=true) (hok:wD ops [] (fun _=>true)=true) (hN:∀ (i:Nat) (o:Oper),ops[i]? =some o→zbu N o=true)
  (hE0:E 0=e0) (hE:∀ (i:Nat) (o:Oper),i<n→ops[i]? =some o→E (i+1)=(E i).put o.dst (V i))
  (hJ:∀ (L:Nat→Bool) (i:Nat) (o:Oper) (s:St),i<n→ops[i]? =some o→J L s→L i=false→(∀ b,((zX ops.toList []).getD i 0).testBit b=true→L b=true)→(∀ k,L k=true→((zX ops.toList []).getD k 0).testBit i=false) →
    ∃ s',DOp P ops o (E i) s (V i) s'∧J (fun k=>if k=i then true else L k) s')
  (hQ:∀ L g s w (a:Act),J L s→(∀ k,k<n→L k=true)→Inv P g s w→yY g w (E n) a.tmps→Ext g0 w0 g w→a.defers=[]→a.tmps.size=N→wpOps P ops Q (List.range' n (ops.size-n)) a w) :
  ∀ (fuel:Nat) (listed:Array Bool) (g:G) (s:St) (w:World) (a:Act),listed.size=ops.size →
   ((List.range ops.size).filter fun k=> !listed.getD k true).length≤fuel→DC ops (fun k=>listed.getD k false=true)→(∀ k,n≤k→listed.getD k false=false) →
   Inv P g s w→Ext g0 w0 g w→a.defers=[]→a.tmps.size=N →
   (∀ j,R g w (match zH (xH ops j) (fun k=>listed.getD k false) n with | none=>e0.get j | some k=>V k) (a.tmps.getD j undef)) →
   J (fun k=>listed.getD k false) s →
   wpAny P .any ops Q fuel listed a w :=
 UZ hnsz hcut hok hN hE0 hE (fun L i o s h1 h2 h3 h4 h5 h6=>by
  obtain ⟨s',a,b⟩:=hJ L i o s h1 h2 h3 h4 h5 h6
  exact a.toS b) hQ
end Go.PM
namespace Go.PM
open Go
def znt (fx:List Nat) (i:Nat) (A:List Bool):List Bool:=(fx.zip A).map fun p=>p.2||p.1==i
def znF (ms:List Nat) (fx:List Nat) (i:Nat) (A:List Bool):Bool :=
 (fx.zip A).all fun p=>(!(p.1==i)|| !p.2)&&(!(ms.getD i 0).testBit p.1||p.2)&&(!(ms.getD p.1 0).testBit i|| !p.2)
def Zk (ms:List Nat) (fx:List Nat) (keys:List (List Bool)) (i:Nat) (tr:List (Nat × Nat)):Bool :=
 (List.range keys.length).all fun p=>match keys[p]? with
   | none=>true
   | some A=> !znF ms fx i A||tr.any fun q=>q.1==p&&(keys[q.2]? ==some (znt fx i A))
def zeP (fx:List Nat) (keys:List (List Bool)):Bool :=
 (List.range keys.length).all fun p=> !(keys[p]? ==some (fx.map fun _=>true))||p==keys.length-1
inductive VC (P:Program) (ops:Array Oper) (fx:List Nat) (keys:List (List Bool)) (stores:List St):Nat→List Oper→Env→Env→Prop
 | nil {i e}:VC P ops fx keys stores i [] e e
 | cons {i o l e v e'} (tr:List (Nat × Nat)):Zk (zX ops.toList []) fx keys i tr=true →
    (∀ q∈tr,∀ s s',stores[q.1]? =some s→stores[q.2]? =some s'→DOp P ops o e s v s')→VC P ops fx keys stores (i+1) l (e.put o.dst v) e'→VC P ops fx keys stores i (o::l) e e'
section
variable {P:Program} {ops:Array Oper} {fx:List Nat} {keys:List (List Bool)} {stores:List St} {e e':Env} {s s' s0:St} {N:Nat} {k:List KI} {rt:Env→St→Prop}
theorem zpD {p:Prop} (h:p:=by
 exact
                (fun j o'=>by
  have:=hl (j+1) o'
  rw [show i+1+j=i+(j+1) from Y2]
  simpa using this)):p:=h
theorem VC.lists:∀ {i l e e'},VC P ops fx keys stores i l e e'→(∀ j (o:Oper),l[j]? =some o→ops[i+j]? =some o) →
  ∃ (V:Nat→PV) (E:Nat→Env),E i=e∧E (i+l.length)=e'∧∀ k (o:Oper),i≤k→k<i+l.length→ops[k]? =some o →
   E (k+1)=(E k).put o.dst (V k)∧∃ tr,Zk (zX ops.toList []) fx keys k tr=true∧∀ q∈tr,∀ s s',stores[q.1]? =some s→stores[q.2]? =some s'→DOp P ops o (E k) s (V k) s':=by
 intro i l e e' h
 induction h with
 | nil =>
   rename_i i e
   intro hl
   refine ⟨fun _=>.junk,fun _=>e,rfl,rfl,fun k o hk hk2 ho=>?_⟩
   simp at hk2;omega
 | cons tr h1 h2 hd ih =>
   rename_i i o l e v e'
   intro hl
   obtain ⟨V,E,a1,a3,a5⟩:=ih zpD
   have h0:ops[i]? =some o:=Y68
   refine ⟨fun k=>if k=i then v else V k,fun k=>if k=i then e else E k,if_pos rfl,?_,?_⟩
   ·exact Y7
   ·intro k o' hk hk2 ho'
    by_cases e1:k=i
    ·subst e1
     rw [h0] at ho';cases ho'
     simp only [if_true,show ¬ (k+1=k) from Y2,if_false]
     rw [a1]
     exact ⟨rfl,tr,h1,h2⟩
    ·exact Y12
def zO (P:Program) (ops:Array Oper) (fx:List Nat) (keys:List (List Bool)) (stores:List St) (i:Nat) (l:List Oper) (e:Env) (K:Env→Prop):Prop:=∃ e',VC P ops fx keys stores i l e e'∧K e'
theorem zO.nil {i:Nat} {K:Env→Prop} (h:K e):zO P ops fx keys stores i [] e K:=⟨e,.nil,h⟩
theorem zif {ms fx:List Nat} {L:Nat→Bool} {i:Nat} (h1:L i=false) (h2:∀ b,(ms.getD i 0).testBit b=true→L b=true) (h3:∀ k,L k=true→(ms.getD k 0).testBit i=false):znF ms fx i (fx.map L)=true:=by
 unfold znF
 rw [List.all_eq_true]
 intro p hp
 obtain ⟨a,b⟩:=p
 have hb:b=L a:=by
  clear h1 h2 h3
  induction fx with
  | nil=>simp at hp
  | cons x l ih =>
    simp only [List.map_cons,List.zip_cons_cons,List.mem_cons,Prod.mk.injEq] at hp
    rcases hp with ⟨rfl,rfl⟩ | hp
    ·rfl
    ·exact ih hp
 subst hb
 simp only [Bool.and_eq_true,Bool.or_eq_true,Bool.not_eq_true',beq_eq_false_iff_ne,ne_eq]
 refine ⟨⟨?_,?_⟩,?_⟩
 ·by_cases e:a=i
  ·subst e;exact .inr h1
  ·exact .inl e
 ·cases hm:(ms.getD i 0).testBit a with
  | false=>exact .inl rfl
  | true=>exact .inr (h2 a hm)
 ·cases hl:L a with
  | false=>exact .inr rfl
  | true=>exact .inl (h3 a hl)
theorem zfQ (fx:List Nat) (L:Nat→Bool) (i:Nat):znt fx i (fx.map L)=fx.map (fun k=>if k=i then true else L k):=by
 unfold znt
 induction fx with
 | nil=>rfl
 | cons x l ih =>
   simp only [List.map_cons,List.zip_cons_cons,ih,List.cons.injEq,and_true]
   by_cases e:x=i
   ·subst e;simp
   ·simp [e]
theorem Y21 {p:Prop} (h:p:=by
 apply List.ext_getElem?
 intro i
 simp only [List.getElem?_map,List.getElem?_drop,List.getElem?_range',Array.getElem?_toList]
 by_cases hi:i<ops.size-min n ops.size
 ·exact zoM
 ·rw [List.getElem?_eq_none Vb,Array.getElem?_eq_none Y2]
  rfl):p:=h
theorem zo3 {p:Prop} (h:p:=by
 exact
                   (fun j o ho=>by
  rw [List.getElem?_take] at ho
  split at ho
  ·simpa using ho
  ·cases ho)):p:=h
theorem Run.drawH {id:Nat} (n:Nat) (fx:List Nat) (keys:List (List Bool)) (stores:List St) (sN:St) (hm:P.follows .mixedOrders=true) (hs:wD ops [] (fun _=>true)=true) (hc:UD ops n=true)
  (hfx:fx.all (fun k=>decide (k<n)&&decide (k<ops.size))=true) (hlen:Nat.beq keys.length stores.length=true) (h0:(keys[0]? ==some (fx.map fun _=>false))=true) (hst:stores[0]? =some s0) (hfin:zeP fx keys=true) (hN:stores[keys.length-1]? =some sN)
  (hd:zO P ops fx keys stores 0 (ops.toList.take n) e (fun e'=>zm P N ops (ops.toList.drop n) k e' sN rt)):Run P N (.code (.region id ops true)::k) e s0 rt:=by
 obtain ⟨e',hd,h⟩:=hd
 intro ok
 simp only [okK,okC,Bool.and_eq_true] at ok
 intro _ g w ac hI hE hdf hN2
 obtain ⟨V,E,a1,a3,a5⟩:=hd.lists zo3
 have hlen':(ops.toList.take n).length=min n ops.size:=Y1
 simp only [Nat.zero_add,hlen'] at a3 a5
 have hmin:min n ops.size≤ops.size:=Nat.min_le_right _ _
 have hkl:keys.length=stores.length:=Nat.eq_of_beq_eq_true hlen
 refine wp_region_any hm ?_
 obtain ⟨hI1,hX1⟩:=wV hI (w.drawn+1)
 have hrepl:∀ k,(Array.replicate ops.size false).getD k false=false:=by
  intro k
  rw [Array.getD_eq_getD_getElem?]
  cases hx:(Array.replicate ops.size false)[k]? with
  | none=>rfl
  | some b=>have:=Array.mem_of_getElem? hx;simp at this;rw [this.2];rfl
 have hnone:∀ (p:Nat→Bool) (n:Nat),zH p (fun k=>(Array.replicate ops.size false).getD k false) n=none:=by
  intro p n
  induction n with
  | zero=>rfl
  | succ n ih=>unfold zH;rw [hrepl,ih];simp
 have hcut:∀ i j,min n ops.size≤j→j<ops.size→i<j→((zX ops.toList []).getD j 0).testBit i=true :=
  fun i j h1 h2 h3=>Zr hc i j Y2 h2 h3
 refine zfp (N:=N) (e0:=e) (V:=V) (E:=E) (g0:=g) (w0:=w) (n:=min n ops.size) (J:=fun L s=>∃ p:Nat,keys[p]? =some (fx.map L)∧stores[p]? =some s) hmin hcut hs ?_ a1 (fun i o hi ho=>(a5 i o (Nat.zero_le _) hi ho).1)
  ?_ ?_ ops.size _ g s0 _ ac Y1 ?_ ?_ (fun k _=>hrepl k) hI1 hX1 hdf hN2 ?_ ?_
 ·exact Y65
 ·rintro L i o s hi ho ⟨p,hp1,hp2⟩ h1 h2 h3
  obtain ⟨_,tr,ht1,ht2⟩:=a5 i o (Nat.zero_le _) hi ho
  unfold Zk at ht1
  have hpl:p<keys.length:=(List.getElem?_eq_some_iff.1 hp1).1
  have hh:=List.all_eq_true.1 ht1 p (List.mem_range.2 hpl)
  rw [hp1] at hh
  simp only at hh
  rw [zif h1 h2 h3] at hh
  simp only [Bool.not_true,Bool.false_or,List.any_eq_true,Bool.and_eq_true,beq_iff_eq] at hh
  obtain ⟨q,hq,hq1,hq2⟩:=hh
  rw [zfQ] at hq2
  have hql:q.2<stores.length:=by rw [← hkl];exact (List.getElem?_eq_some_iff.1 hq2).1
  exact ⟨stores[q.2],ht2 q hq s _ (by rw [hq1];exact hp2) (List.getElem?_eq_getElem hql),q.2,hq2,List.getElem?_eq_getElem hql⟩
 ·rintro L g' s w' a' ⟨p,hp1,hp2⟩ hall k1 k2 k3 k4 k5
  have hmap:fx.map L=fx.map (fun _=>true):=by
   refine List.map_congr_left fun x hx=>?_
   have hxn:=List.all_eq_true.1 hfx x hx
   simp only [Bool.and_eq_true,decide_eq_true_eq] at hxn
   exact hall x Y2
  have hpe:p=keys.length-1:=by
   unfold zeP at hfin
   have hlp:p<keys.length:=(List.getElem?_eq_some_iff.1 hp1).1
   have:=List.all_eq_true.1 hfin p (List.mem_range.2 hlp)
   rw [hp1,hmap] at this
   simpa using this
  subst hpe
  rw [hp2] at hN
  cases hN
  rw [a3] at k2
  refine zm.eff.wpOps_mono' (fun _ _ _=>Yz.trans k3) (h ?_ ok.2 _ ?_ g' w' a' k1 k2 k4 k5)
  ·exact zn4
  ·exact Y21
 ·exact zjb
 ·exact Y69
 ·exact zi9
 ·refine ⟨0,?_,hst⟩
  rw [beq_iff_eq.1 h0]
  congr 1
  exact List.map_congr_left fun x _=>(hrepl x).symm
end
end Go.PM
namespace Go.PM
open Go
def Xl (ms:List Nat) (fx:List Nat) (keys:List (List Bool)) (i len:Nat) (ks:List Nat):Bool:=(List.range' i len).all fun j=>Zk ms fx keys j (ks.map fun p=>(p,p))
def vq (stores:List St) (tr:List (Nat × Nat)):List (St × St):=tr.filterMap fun q=>match stores[q.1]?,stores[q.2]? with | some a,some b=>some (a,b) | _,_=>none
theorem Uj {stores:List St} {tr:List (Nat × Nat)} {q:Nat × Nat} {s s':St} (hq:q∈tr) (h1:stores[q.1]? =some s) (h2:stores[q.2]? =some s'):(s,s')∈vq stores tr:=by
 unfold vq
 rw [List.mem_filterMap]
 exact ⟨q,hq,by rw [h1,h2]⟩
section
variable {P:Program} {ops:Array Oper} {fx:List Nat} {keys:List (List Bool)} {stores:List St} {e e':Env} {s s' s0:St} {N:Nat} {k:List KI} {rt:Env→St→Prop}
theorem zO.one {o:Oper} {l:List Oper} {i:Nat} {v:PV} {K:Env→Prop} (tr:List (Nat × Nat)) (prs:List (St × St)) (hk:Zk (zX ops.toList []) fx keys i tr=true) (hp:vq stores tr=prs)
  (h:∀ q∈prs,DOp P ops o e q.1 v q.2) (hd:zO P ops fx keys stores (i+1) l (e.put o.dst v) K):zO P ops fx keys stores i (o::l) e K:=by
 obtain ⟨e',h1,h2⟩:=hd
 subst hp
 exact ⟨e',VC.cons tr hk (fun q hq s s' k1 k2=>h _ (Uj hq k1 k2)) h1,h2⟩
theorem VC.pre {ks:List Nat} {s1:St}:∀ {pre:List Oper} {l:List Oper} {i:Nat} {e e1 e':Env},Xl (zX ops.toList []) fx keys i pre.length ks=true→vN P ops pre e s1 (ks.filterMap fun p=>stores[p]?) e1 →
  VC P ops fx keys stores (i+pre.length) l e1 e'→VC P ops fx keys stores i (pre++l) e e'
 | [],l,i,e,e1,e',_,h,hd=>zkV
 | o::pre,l,i,e,e1,e',hk,h,hd=>by
   simp only [List.length_cons] at hk hd
   obtain ⟨v,hv,hv',h⟩:=h
   unfold Xl at hk
   rw [List.range'_succ,List.all_cons,Bool.and_eq_true] at hk
   refine VC.cons (v:=v) (ks.map fun p=>(p,p)) hk.1 ?_ ?_
   ·intro q hq s s' k1 k2
    obtain ⟨p,hp,rfl⟩:=List.mem_map.1 hq
    rw [k1] at k2
    cases k2
    exact ZQ (hv' s (List.mem_filterMap.2 ⟨p,hp,k1⟩))
   ·refine VC.pre hk.2 h ?_
    rw [show i+1+pre.length=i+(pre.length+1) from Y2]
    exact hd
theorem zO.pre {pre l:List Oper} {i:Nat} {e1:Env} {s1:St} {K:Env→Prop} (ks:List Nat) (sub:List St) (hk:Xl (zX ops.toList []) fx keys i pre.length ks=true) (hs:(ks.filterMap fun p=>stores[p]?)=sub)
  (h:vN P ops pre e s1 sub e1) (hd:zO P ops fx keys stores (i+pre.length) l e1 K):zO P ops fx keys stores i (pre++l) e K:=by
 obtain ⟨e',h1,h2⟩:=hd
 subst hs
 exact ⟨e',VC.pre hk h h1,h2⟩
theorem zO.all {l:List Oper} {i:Nat} {e1:Env} {s1:St} {K:Env→Prop} (ks:List Nat) (sub:List St) (hk:Xl (zX ops.toList []) fx keys i l.length ks=true) (hs:(ks.filterMap fun p=>stores[p]?)=sub)
  (h:vN P ops l e s1 sub e1) (hk':K e1):zO P ops fx keys stores i l e K:=by
 have:=zO.pre (P:=P) (ops:=ops) (l:=[]) ks sub hk hs h (zO.nil hk')
 simpa using this
theorem zO.eff {o:Oper} {l:List Oper} {i:Nat} {v:PV} {K:Env→Prop} (tr:List (Nat × Nat)) (a b:St) (prs:List (St × St)) (hk:Zk (zX ops.toList []) fx keys i tr=true) (hp:vq stores tr=(a,b)::prs)
  (hg:guard? ops o (Env.keep (zu ops o) e)=some true) (h1:uV P o.op (ev (Env.keep (zu ops o) e)) a=some (v,b)) (h2:∀ q∈prs,uV P o.op (ev (Env.keep (zu ops o) e)) q.1=some (v,q.2))
  (hd:zO P ops fx keys stores (i+1) l (e.put o.dst v) K):zO P ops fx keys stores i (o::l) e K :=
 zO.one tr _ hk hp (fun q hq=>by
  rcases List.mem_cons.1 hq with rfl | hq
  ·exact DOp.of_effect hg fun g w ac hI hE=>wY hI (fun x=>xE hE x) h1
  ·exact DOp.of_effect hg fun g w ac hI hE=>wY hI (fun x=>xE hE x) (h2 q hq)) hd
theorem DOp.of_callE {d:Option Nat} {c:Call} {t:TypeId} {pos:String} {af:Array Edge} {gd:Option (Nat × Bool)} {f:FuncId} {args args':List PV} {v:PV} {sa sb:St}
  (hg:guard? ops ⟨d,.call c,t,pos,af,gd⟩ (Env.keep (zu ops ⟨d,.call c,t,pos,af,gd⟩) e)=some true)
  (ha:vn c (Env.keep (zu ops ⟨d,.call c,t,pos,af,gd⟩) e)=some (f,args)) (hw:PV.weaks args=args') (hc:zb P f=true)
  (h:za P f args' sa fun r s2=>r=v∧s2=sb):DOp P ops ⟨d,.call c,t,pos,af,gd⟩ e sa v sb:=by
 subst hw
 intro g w a hI hsl K Q hk
 have hE:=vP hsl
 rw [yR hg hE]
 simp only [if_true]
 obtain ⟨vs,hrun,hra⟩:=wS (P:=P) (o:=⟨d,.call c,t,pos,af,gd⟩) (a:=a) rfl hE ha hc
 left
 unfold Oper.wp
 rw [hrun,Oper.upon_enter]
 refine (h g w vs hI (we _ _ hra)).mono ?_
 rintro e' w' ⟨v',g',r',s',rfl,hI',hR',hX',rfl,rfl⟩
 exact hk _ _ _ hI' hX' hR'
theorem zO.call {d:Option Nat} {c:Call} {t:TypeId} {pos:String} {af:Array Edge} {gd:Option (Nat × Bool)} {l:List Oper} {i:Nat} {f:FuncId} {args args':List PV} {v:PV} {K:Env→Prop} (ks:List Nat) (sub:List St)
  (hk:Xl (zX ops.toList []) fx keys i 1 ks=true) (hs:(ks.filterMap fun p=>stores[p]?)=sub)
  (hg:guard? ops ⟨d,.call c,t,pos,af,gd⟩ (Env.keep (zu ops ⟨d,.call c,t,pos,af,gd⟩) e)=some true)
  (ha:vn c (Env.keep (zu ops ⟨d,.call c,t,pos,af,gd⟩) e)=some (f,args)) (hw:PV.weaks args=args') (hc:zb P f=true)
  (h:∀ s∈sub,za P f args' s fun r s2=>r=v∧s2=s) (hd:zO P ops fx keys stores (i+1) l (e.put d v) K):zO P ops fx keys stores i (⟨d,.call c,t,pos,af,gd⟩::l) e K:=by
 obtain ⟨e',h1,h2⟩:=hd
 subst hs
 unfold Xl at hk
 rw [List.range'_succ,List.all_cons,Bool.and_eq_true] at hk
 refine ⟨e',VC.cons (v:=v) _ hk.1 ?_ h1,h2⟩
 intro q hq s s' k1 k2
 obtain ⟨p,hp,rfl⟩:=List.mem_map.1 hq
 rw [k1] at k2
 cases k2
 exact DOp.of_callE hg ha hw hc (h s (List.mem_filterMap.2 ⟨p,hp,k1⟩))
theorem zO.callE {d:Option Nat} {c:Call} {t:TypeId} {pos:String} {af:Array Edge} {gd:Option (Nat × Bool)} {l:List Oper} {i:Nat} {f:FuncId} {args args':List PV} {v:PV} {K:Env→Prop} (tr:List (Nat × Nat)) (prs:List (St × St))
  (hk:Zk (zX ops.toList []) fx keys i tr=true) (hp:vq stores tr=prs)
  (hg:guard? ops ⟨d,.call c,t,pos,af,gd⟩ (Env.keep (zu ops ⟨d,.call c,t,pos,af,gd⟩) e)=some true)
  (ha:vn c (Env.keep (zu ops ⟨d,.call c,t,pos,af,gd⟩) e)=some (f,args)) (hw:PV.weaks args=args') (hc:zb P f=true)
  (h:∀ q∈prs,za P f args' q.1 fun r s2=>r=v∧s2=q.2) (hd:zO P ops fx keys stores (i+1) l (e.put d v) K):zO P ops fx keys stores i (⟨d,.call c,t,pos,af,gd⟩::l) e K :=
 zO.one tr prs hk hp (fun q hq=>DOp.of_callE hg ha hw hc (h q hq)) hd
theorem zO.resAlloc {o:Oper} {l:List Oper} {i id:Nat} {t:TypeId} {z:PV} {K:Env→Prop} (tr:List (Nat × Nat)) (prs:List (St × St)) (hk:Zk (zX ops.toList []) fx keys i tr=true) (hp:vq stores tr=prs)
  (hg:guard? ops o (Env.keep (zu ops o) e)=some true) (ho:o.op=.alloc t) (hz:zpv P t=some z) (h:∀ q∈prs,q.1.blk id=some .res∧q.2=q.1.set id (some (.row t [z])))
  (hd:zO P ops fx keys stores (i+1) l (e.put o.dst (.ptr id 0 0)) K):zO P ops fx keys stores i (o::l) e K :=
 zO.one tr prs hk hp (fun q hq=>by
  rw [(h q hq).2]
  exact DOp.of_effect hg fun g w a hI hE=>YT hI (h q hq).1 ho hz) hd
theorem zf5 {g w} {a:Act} {o:Oper} {t el:TypeId} {x y:Operand} {n id:Nat} {v:PV} (hI:Inv P g s w) (hid:s.blk id=some .res) (ho:o.op=.makeSlice t x y) (h1:a.eval x=.int .i64 n) (h2:a.eval y=.int .i64 n) (htd:td P t=.sl el) (hz:zpv P el=some v) (hn2:n<1073741824000000) (hroom:n*P.bytesOf el≤140737488355328) :
  vT P o g w a (.own id 0 n) (s.set id (some (.row el (List.replicate n v)))):=by
 obtain ⟨z,r1,r2,r3,r4⟩:=Zu (w:=w) htd hz (Nat.le_refl n) hn2 zl2 hroom
 obtain ⟨_,_,_,_,_,hp,_⟩:=yZ (P:=P) (w:=w) hz
 have hR:R g w v z:=by rw [r1];exact YY g w z r3
 have hfl:∀ u∈List.replicate n z,u.cells.size=P.cellsOf el∧∀ c∈u.cells.toList,c.flat=true:=fun u hu=>by
  rw [(List.mem_replicate.1 hu).2]
  refine ⟨r2,fun c hc=>?_⟩
  have hok:v.ok=true:=by
   obtain ⟨_,_,_,_,_,_,_,h7⟩:=yZ (P:=P) (w:=w) hz
   exact h7
  exact (xS hR hok).2.1 c hc
 obtain ⟨g',k1,k2,k3,k4⟩:=UX (t:=el) (ty:=el) (els:=List.replicate n v) (vs:=List.replicate n z) (c:=(flat (List.replicate n z)).toArray) hI hid hp (vQ hR n) Y1 hfl
 have hlt:id<s.nxt:=hI.id_lt (by rw [hid];simp)
 refine ⟨.slice (some ⟨w.heap.size,0,none⟩) n n,_,g',.inl ?_,k1,k2,?_⟩
 ·unfold execOp
  rw [ho]
  simp only [ze,zo,h1,h2,r4]
 ·exact Y75
theorem zO.resMake {d:Option Nat} {t ty el:TypeId} {x y:Operand} {pos:String} {af:Array Edge} {gd:Option (Nat × Bool)} {l:List Oper} {i:Nat} {v:PV} {K:Env→Prop} (id n:Nat) (tr:List (Nat × Nat)) (prs:List (St × St)) (hk:Zk (zX ops.toList []) fx keys i tr=true) (hp:vq stores tr=prs)
  (hg:guard? ops ⟨d,.makeSlice t x y,ty,pos,af,gd⟩ (Env.keep (zu ops ⟨d,.makeSlice t x y,ty,pos,af,gd⟩) e)=some true)
  (hx:ev (Env.keep (zu ops ⟨d,.makeSlice t x y,ty,pos,af,gd⟩) e) x=.int .i64 n) (hy:ev (Env.keep (zu ops ⟨d,.makeSlice t x y,ty,pos,af,gd⟩) e) y=.int .i64 n)
  (htd:td P t=.sl el) (hz:zpv P el=some v) (hn2:n<1073741824000000) (hroom:n*P.bytesOf el≤140737488355328) (h:∀ q∈prs,q.1.blk id=some .res∧q.2=q.1.set id (some (.row el (List.replicate n v))))
  (hd:zO P ops fx keys stores (i+1) l (e.put d (.own id 0 n)) K):zO P ops fx keys stores i (⟨d,.makeSlice t x y,ty,pos,af,gd⟩::l) e K :=
 zO.one tr prs hk hp (fun q hq=>by
  rw [(h q hq).2]
  refine DOp.of_effect hg fun g w a hI hE=>?_
  have h1:=xE hE x
  have h2:=xE hE y
  rw [hx] at h1
  rw [hy] at h2
  simp only [R] at h1 h2
  exact zf5 hI (h q hq).1 rfl h1 h2 htd hz hn2 hroom) hd
theorem zO.app {d:Option Nat} {x y:Operand} {t ty:TypeId} {pos:String} {af:Array Edge} {gd:Option (Nat × Bool)} {l:List Oper} {i:Nat} {el:TypeId} {kx ky:SK} {xs ys:List PV} {v:PV} {K:Env→Prop} (tr:List (Nat × Nat)) (prs:List (St × St)) (hk:Zk (zX ops.toList []) fx keys i tr=true) (hp:vq stores tr=prs)
  (hg:guard? ops ⟨d,.call ⟨.builtin .append,#[x,y],#[t,t]⟩,ty,pos,af,gd⟩ (Env.keep (zu ops ⟨d,.call ⟨.builtin .append,#[x,y],#[t,t]⟩,ty,pos,af,gd⟩) e)=some true)
  (hx:ev (Env.keep (zu ops ⟨d,.call ⟨.builtin .append,#[x,y],#[t,t]⟩,ty,pos,af,gd⟩) e) x=.sl kx xs) (hy:ev (Env.keep (zu ops ⟨d,.call ⟨.builtin .append,#[x,y],#[t,t]⟩,ty,pos,af,gd⟩) e) y=.sl ky ys)
  (htd:td P t=.sl el) (hz:(zpv P el).isSome=true) (hex:xg P el xs) (hey:xg P el ys) (hb0:0<P.bytesOf el) (hlen:(xs.length+ys.length)*P.bytesOf el≤140737488355328)
  (h:∀ q∈prs,yQ P el kx xs ys q.1=some (v,q.2)) (hd:zO P ops fx keys stores (i+1) l (e.put d v) K):zO P ops fx keys stores i (⟨d,.call ⟨.builtin .append,#[x,y],#[t,t]⟩,ty,pos,af,gd⟩::l) e K :=
 zO.one tr prs hk hp (fun q hq=>by
  refine DOp.of_effect hg fun g w a hI hE=>?_
  have e1:=xE hE x
  have e2:=xE hE y
  rw [hx] at e1
  rw [hy] at e2
  obtain ⟨val,w',g',r1,r2,r3,r4⟩:=Xu (ty:=ty) hI e1 e2 htd hz hex hey hb0 hlen (h q hq)
  exact ⟨val,w',g',.inl (ZS rfl r1),r2,r3,r4⟩) hd
end
end Go.PM
namespace Go.PM
open Go
section
variable {P:Program} {N:Nat} {k:List KI} {e:Env} {s:St} {rt:Env→St→Prop}
variable {ops:Array Oper} {fx:List Nat} {keys:List (List Bool)} {stores:List St}
end
end Go.PM
namespace Go.PM
open Go
section
variable {P:Program} {N:Nat} {k:List KI} {e:Env} {s:St} {rt:Env→St→Prop} {ops:Array Oper} {ws:List Nat}
end
end Go.PM
namespace Go.PM
open Go
end Go.PM
namespace Go.PM
open Go
section
variable {P:Program} {ops:Array Oper} {fx:List Nat} {keys:List (List Bool)} {stores:List St} {e e1:Env} {s s0 s1 sN:St} {N i:Nat} {kk:List KI} {rt:Env→St→Prop} {K:Env→Prop} {l:List Oper} {rest:List St} {prs:List (St × St)}
theorem pq {p:Prop} (h:p:=by simp only [vq,List.filterMap_cons,List.filterMap_nil,List.getElem?_cons_zero,List.getElem?_cons_succ];rfl):p:=h
theorem rH {id:Nat} (n:Nat) (fx:List Nat) (keys:List (List Bool)) (stores:List St) (hm:P.follows .mixedOrders=true) (hs:wD ops [] (fun _=>true)=true:=by kernel_rfl) (hc:UD ops n=true:=by kernel_rfl)
  (hfx:fx.all (fun k=>decide (k<n)&&decide (k<ops.size))=true:=by kernel_rfl) (hlen:Nat.beq keys.length stores.length=true:=by kernel_rfl) (h0:(keys[0]? ==some (fx.map fun _=>false))=true:=by kernel_rfl) (hst:stores[0]? =some s0:=by rfl) (hfin:zeP fx keys=true:=by kernel_rfl)
  (hN:stores[keys.length-1]? =some sN:=by rfl)
  (k:zO P ops fx keys stores 0 (ops.toList.take n) e (fun e'=>zm P N ops (ops.toList.drop n) kk e' sN rt)):Run P N (.code (.region id ops true)::kk) e s0 rt :=
 .drawH n fx keys stores sN hm hs hc hfx hlen h0 hst hfin hN k
theorem dP {pre:List Oper} (ks:List Nat) (hk:Xl (zX ops.toList []) fx keys i pre.length ks=true:=by kernel_rfl) (hs:(ks.filterMap fun p=>stores[p]?)=s1::rest:=by simp only [List.filterMap_cons,List.filterMap_nil,List.getElem?_cons_zero,List.getElem?_cons_succ];rfl)
  (h:vN P ops pre e s1 (s1::rest) e1:=by simp (disch:=first | omega |(simp only [zt,zq]<;>omega) | fail) only [go_sem,↓reduceIte,Nat.reduceEqDiff,Nat.reduceLT,Nat.reduceLeDiff,Nat.reduceAdd,Nat.reduceMul,H]<;>rfl) (k:zO P ops fx keys stores (i+pre.length) l e1 K):zO P ops fx keys stores i (pre++l) e K:=.pre ks _ hk hs h k
theorem dA (ks:List Nat) (hk:Xl (zX ops.toList []) fx keys i l.length ks=true:=by kernel_rfl) (hs:(ks.filterMap fun p=>stores[p]?)=s1::rest:=by simp only [List.filterMap_cons,List.filterMap_nil,List.getElem?_cons_zero,List.getElem?_cons_succ];rfl)
  (h:vN P ops l e s1 (s1::rest) e1:=by simp (disch:=first | omega |(simp only [zt,zq]<;>omega) | fail) only [go_sem,↓reduceIte,Nat.reduceEqDiff,Nat.reduceLT,Nat.reduceLeDiff,Nat.reduceAdd,Nat.reduceMul,H]<;>rfl) (k:K e1):zO P ops fx keys stores i l e K:=.all ks _ hk hs h k
theorem dE {o:Oper} {v:PV} {a b:St} (tr:List (Nat × Nat)) (hk:Zk (zX ops.toList []) fx keys i tr=true:=by kernel_rfl) (hp:vq stores tr=(a,b)::prs:=by simp only [vq,List.filterMap_cons,List.filterMap_nil,List.getElem?_cons_zero,List.getElem?_cons_succ];rfl)
  (hg:guard? ops o (Env.keep (zu ops o) e)=some true:=by simp (disch:=first | omega |(simp only [zt,zq]<;>omega) | fail) only [go_sem,↓reduceIte,Nat.reduceEqDiff,Nat.reduceLT,Nat.reduceLeDiff,Nat.reduceAdd,Nat.reduceMul,H]<;>rfl) (h1:uV P o.op (ev (Env.keep (zu ops o) e)) a=some (v,b):=by simp (disch:=first | omega |(simp only [zt,zq]<;>omega) | fail) only [go_sem,↓reduceIte,Nat.reduceEqDiff,Nat.reduceLT,Nat.reduceLeDiff,Nat.reduceAdd,Nat.reduceMul,H]<;>rfl) (h2:∀ q∈prs,uV P o.op (ev (Env.keep (zu ops o) e)) q.1=some (v,q.2):=by simp (disch:=first | omega |(simp only [zt,zq]<;>omega) | fail) only [go_sem,↓reduceIte,Nat.reduceEqDiff,Nat.reduceLT,Nat.reduceLeDiff,Nat.reduceAdd,Nat.reduceMul,H]<;>rfl)
  (k:zO P ops fx keys stores (i+1) l (e.put o.dst v) K):zO P ops fx keys stores i (o::l) e K:=.eff tr a b prs hk hp hg h1 h2 k
theorem dC {d:Option Nat} {c:Call} {t:TypeId} {pos:String} {af:Array Edge} {gd:Option (Nat × Bool)} {f:FuncId} {args args':List PV} {v:PV} (ks:List Nat) (hk:Xl (zX ops.toList []) fx keys i 1 ks=true:=by kernel_rfl) (hs:(ks.filterMap fun p=>stores[p]?)=s1::rest:=by simp only [List.filterMap_cons,List.filterMap_nil,List.getElem?_cons_zero,List.getElem?_cons_succ];rfl)
  (hg:guard? ops ⟨d,.call c,t,pos,af,gd⟩ (Env.keep (zu ops ⟨d,.call c,t,pos,af,gd⟩) e)=some true:=by simp (disch:=first | omega |(simp only [zt,zq]<;>omega) | fail) only [go_sem,↓reduceIte,Nat.reduceEqDiff,Nat.reduceLT,Nat.reduceLeDiff,Nat.reduceAdd,Nat.reduceMul,H]<;>rfl)
  (ha:vn c (Env.keep (zu ops ⟨d,.call c,t,pos,af,gd⟩) e)=some (f,args):=by simp (disch:=first | omega |(simp only [zt,zq]<;>omega) | fail) only [go_sem,↓reduceIte,Nat.reduceEqDiff,Nat.reduceLT,Nat.reduceLeDiff,Nat.reduceAdd,Nat.reduceMul,H]<;>rfl) (hw:PV.weaks args=args':=by simp (disch:=first | omega |(simp only [zt,zq]<;>omega) | fail) only [go_sem,↓reduceIte,Nat.reduceEqDiff,Nat.reduceLT,Nat.reduceLeDiff,Nat.reduceAdd,Nat.reduceMul,H]<;>rfl) (hc:zb P f=true:=by kernel_rfl)
  (h:∀ s∈s1::rest,za P f args' s fun r s2=>r=v∧s2=s) (k:zO P ops fx keys stores (i+1) l (e.put d v) K):zO P ops fx keys stores i (⟨d,.call c,t,pos,af,gd⟩::l) e K:=.call ks _ hk hs hg ha hw hc h k
theorem dX {d:Option Nat} {c:Call} {t:TypeId} {pos:String} {af:Array Edge} {gd:Option (Nat × Bool)} {f:FuncId} {args args':List PV} {v:PV} (tr:List (Nat × Nat)) (hk:Zk (zX ops.toList []) fx keys i tr=true:=by kernel_rfl) (hp:vq stores tr=prs:=by simp only [vq,List.filterMap_cons,List.filterMap_nil,List.getElem?_cons_zero,List.getElem?_cons_succ];rfl)
  (hg:guard? ops ⟨d,.call c,t,pos,af,gd⟩ (Env.keep (zu ops ⟨d,.call c,t,pos,af,gd⟩) e)=some true:=by simp (disch:=first | omega |(simp only [zt,zq]<;>omega) | fail) only [go_sem,↓reduceIte,Nat.reduceEqDiff,Nat.reduceLT,Nat.reduceLeDiff,Nat.reduceAdd,Nat.reduceMul,H]<;>rfl)
  (ha:vn c (Env.keep (zu ops ⟨d,.call c,t,pos,af,gd⟩) e)=some (f,args):=by simp (disch:=first | omega |(simp only [zt,zq]<;>omega) | fail) only [go_sem,↓reduceIte,Nat.reduceEqDiff,Nat.reduceLT,Nat.reduceLeDiff,Nat.reduceAdd,Nat.reduceMul,H]<;>rfl) (hw:PV.weaks args=args':=by simp (disch:=first | omega |(simp only [zt,zq]<;>omega) | fail) only [go_sem,↓reduceIte,Nat.reduceEqDiff,Nat.reduceLT,Nat.reduceLeDiff,Nat.reduceAdd,Nat.reduceMul,H]<;>rfl) (hc:zb P f=true:=by kernel_rfl)
  (h:∀ q∈prs,za P f args' q.1 fun r s2=>r=v∧s2=q.2) (k:zO P ops fx keys stores (i+1) l (e.put d v) K):zO P ops fx keys stores i (⟨d,.call c,t,pos,af,gd⟩::l) e K:=.callE tr prs hk hp hg ha hw hc h k
end
theorem zm.growL {P:Program} {N:Nat} {k:List KI} {e:Env} {s:St} {rt:Env→St→Prop} {ops:Array Oper} {d:Option Nat} {x y:Operand} {t ty:TypeId} {pos:String} {af:Array Edge} {gd:Option (Nat × Bool)} {l:List Oper} {el:TypeId} {ky:SK} {α:Type} {f:α→PV} (xs ys zs:List α)
  (hg:guard? ops ⟨d,.call ⟨.builtin .append,#[x,y],#[t,t]⟩,ty,pos,af,gd⟩ e=some true) (hx:ev e x=.sl .clip (xs.map f)) (hy:ev e y=.sl ky (ys.map f)) (hzs:zs=xs++ys) (htd:td P t=.sl el) (hz:(zpv P el).isSome=true)
  (hf:∀ a,(f a).ok=true∧(f a).cells.length=P.cellsOf el) (hb0:0<P.bytesOf el) (hlen:zs.length*P.bytesOf el≤140737488355328)
  (h:∀ k' S,(∀ j,j<s.nxt→S.blk j=s.blk j)→s.nxt≤S.nxt→zm P N ops l k (e.put d (.sl k' (zs.map f))) S rt) :
  zm P N ops (⟨d,.call ⟨.builtin .append,#[x,y],#[t,t]⟩,ty,pos,af,gd⟩::l) k e s rt:=by
 subst hzs
 refine zm.grow' hg hx hy htd hz (zp hf xs) (zp hf ys) hb0 (by simpa using hlen) (.inr (.inl (.inl rfl))) (fun k' S _ tm=>?_)
 rw [← List.map_append]
 exact h k' S (fun j hj=>tm.rest j hj (by intro z hz;cases hz)) tm.nxt
end Go.PM
namespace Go.PM
open Go
theorem zhq {P g s w} (h:Inv P g s w) {b L m:Nat} (hl:g.lim b=some m) (hr:¬ g.isRow b) (hw:xf w b) (hf:∀ j n,g.toks j≠some (b,n)) :
  ∃ g',Inv P g' (s.new (.tok L)) w∧Ext g w g' w∧g'.toks s.nxt=some (b,L)∧g'.lim=g.lim∧g'.nxt=s.nxt+1:=by
 let g':G:={ nxt:=g.nxt+1,rows:=g.rows,live:=g.live,toks:=upd g.toks s.nxt (some (b,L)),lim:=g.lim }
 have e:Ext g w g' w:={ os:=rfl,tape:=rfl,output:=rfl,size:=Nat.le_refl _,nxt:=Nat.le_succ _,rd:=fun _ _ _ _ h=>h,free:=fun _ _ _ h=>h,same:=fun _ _ _ _=>rfl,rows:=fun _ _ _ h=>h,csz:=fun _ _=>rfl,toks:=wi (fun t ht=>yD _ _ (by have:=h.nxt;omega)) (fun _ _ _ _=>rfl) }
 have hn:=h.rows_none (Nat.le_refl s.nxt)
 refine ⟨g',?_,e,yh _ _ _,rfl,by show g.nxt+1=_;rw [h.nxt]⟩
 refine Inv.step s.nxt h e zkI ?_ (fun id hid=>⟨if_neg hid,rfl,rfl,yD _ _ hid⟩) (fun _ _ _ _ _ _=>rfl) (fun id b n _ et=>⟨rfl,(h.toklt et).2.1⟩) (fun _ hb=>hb) ?_ ?_ ?_ h.lim (fun _ _ _ _ _ _=>rfl) zoo
 ·exact Y57
 ·simp only [St.new,if_true,At]
  exact ⟨hn.1,b,m,yh _ _ _,hl,hr,hw⟩
 ·exact znA
 ·intro b2 m j n hx hj hjr
  have:g'.toks s.nxt=some (b,L):=yh _ _ _
  rw [this] at hx
  cases hx
  exact hf j n hjr
theorem zgH {P:Program} {g s w t e tk lo xs va} {kk:IntKind} (h:Inv P g s w) (hx:R g w (.sl (.tok tk (P.cellsOf e)) xs) va) (htd:td P t=.sl e) (hz:0<P.cellsOf e) (ht:s.blk tk=some (.tok xs.length)) (h0:0<lo) (h1:lo≤xs.length) :
  ∃ val g',(Instr.sliceAt t va (some (.int kk (lo:Nat))) none none).run P w=.ok val w∧Inv P g' ((s.set tk none).new (.tok (xs.length-lo))) w∧Ext g w g' w∧R g' w (.sl (.tok s.nxt (P.cellsOf e)) (xs.drop lo)) val:=by
 rcases uZ hx Y1 rfl with ⟨b,o,cap,sz,vs,rfl,c1,c2,c3,c4,c5,c6,c7,c8⟩ | ⟨_,e0,_⟩
 case inr=>subst e0;simp at h1;omega
 obtain ⟨rfl,hlt,hlive⟩:=c7 tk _ rfl
 have hat:=h.at' tk
 rw [ht] at hat
 obtain ⟨_,b',E,ht1,ht2,ht3,ht4⟩:=hat
 obtain ⟨_,hlv⟩:=hlive b' _ ht1
 obtain ⟨rfl,hlim,hcs⟩:=hlv rfl
 have hu:=xp htd
 have hn:=zV c8
 have hX1:Ext g w (g.keep s.nxt (fun i=>i != tk)) w:=za2 _ (by rw [h.nxt];exact Nat.le_refl _)
 have hI1:Inv P (g.keep s.nxt (fun i=>i != tk)) (s.set tk none) w:=by
  have:=Yw h s.nxt (fun i=>i != tk) (fun i _ hi=>h.id_lt hi) (fun i b _ hb=>h.blw hb)
  have e:s.keep s.nxt (fun i=>i != tk)=s.set tk none:=by
   simp only [St.keep,St.set,St.mk.injEq,true_and]
   funext i
   by_cases hi:i=tk
   ·subst hi;simp
   ·simp [hi]
  rw [e] at this
  exact this
 obtain ⟨g',k1,k2,k3,k4,k5⟩:=zhq (L:=xs.length-lo) hI1 (b:=b') (m:=E) ht2 (fun ⟨i,k,e,lv⟩=>by
   simp only [G.keep,Bool.and_eq_true] at e lv
   exact ht3 ⟨i,k,e,lv.2⟩) ht4 (fun j n e=>by
   simp only [G.keep] at e
   split at e
   ·rename_i hj
    have:=h.tinj _ _ _ _ _ e ht1
    subst this
    simp at hj
   ·cases e)
 have hX:=hX1.trans k2
 have hb:=vE (P:=P) (w:=w) (isSlice:=true) (len:=xs.length) (cap:=cap) (lo:=some (.int kk (lo:Nat))) (hi:=none) (mx:=none) (lo':=some (lo:Nat)) (hi':=none) (mx':=none) ⟨kk,rfl⟩ rfl rfl rfl rfl Y1 Vb Y1 c1 (fun m e=>zbE)
 have run:(Instr.sliceAt t (.slice (some ⟨b',o,none⟩) xs.length cap) (some (.int kk (lo:Nat))) none none).run P w=.ok (.slice (if cap=lo then some ⟨b',o,none⟩ else some ⟨b',o+lo*P.cellsOf e,none⟩) (xs.length-lo) (cap-lo)) w:=by
  unfold Instr.sliceAt
  rw [ze,zh hu]
  simp only
  unfold Instr.slice
  simp only [ze,zh hu,yx hz,hb,zo,Option.map_some,vh,Option.getD_none,Option.getD_some,Int.toNat_natCast]
 refine ⟨_,g',run,k1,hX,?_⟩
 simp only [R]
 refine ⟨vs.drop lo,yX hX _ _ (vz _ c8),?_⟩
 rw [yT rfl,List.length_drop]
 have k5':g'.nxt=s.nxt+1:=k5
 by_cases hc:cap=lo
 ·rw [if_pos hc]
  refine .inr ⟨.inr (.inr ⟨_,_,rfl,Y2⟩),Y2,⟨b',o,none⟩,?_⟩
  rw [show xs.length-lo=0 from Y2,show cap-lo=0 from Y2]
 ·rw [if_neg hc]
  have hmul:lo*P.cellsOf e+(xs.length-lo)*P.cellsOf e=xs.length*P.cellsOf e:=zos
  have hmul2:lo*P.cellsOf e+(cap-lo)*P.cellsOf e=cap*P.cellsOf e:=zos
  refine .inl ⟨b',o+lo*P.cellsOf e,cap-lo,P.cellsOf e,rfl,Y2,hz,Y1,fun hp=>?_,?_,fun v hv=>c6 v (List.mem_of_mem_drop hv),?_⟩
  ·have:=hX.free b' _ (h.toklt ht1).1 (c4 Y2)
   rw [show o+lo*P.cellsOf e+(xs.length-lo)*P.cellsOf e=o+xs.length*P.cellsOf e from Y2]
   exact this
  ·rw [Yp _ _ c6]
   exact xQ c5 _
  ·intro t' z' e'
   cases e'
   refine ⟨rfl,Y2,fun b2 L2 e2=>?_⟩
   have k3':g'.toks s.nxt=some (b',xs.length-lo):=k3
   rw [k3'] at e2;cases e2
   refine ⟨Nat.le_refl _,fun _=>⟨rfl,?_,?_⟩⟩
   ·rw [k4]
    show g.lim b'=_
    rw [hlim]
    congr 1
    omega
   ·omega
section
variable {P:Program} {N:Nat} {k:List KI} {e:Env} {s:St} {rt:Env→St→Prop}
variable {ops:Array Oper} {fx:List Nat} {keys:List (List Bool)} {stores:List St}
theorem zhh {P:Program} {w:World} {a:Act} {o:Oper} {t:TypeId} {x y:Operand} {val:Value} (hop:o.op=.slice t x (some y) none none)
  (h:(Instr.sliceAt t (a.eval x) (some (a.eval y)) none none).run P w=.ok val w):(execOp a.eval o).run P w=.ok (.value val) w:=by
 unfold execOp
 rw [hop]
 simp only [Option.map_some,Option.map_none]
 rw [ze,h]
 rfl
theorem zO.cut {d:Option Nat} {x y:Operand} {t ty:TypeId} {pos:String} {af:Array Edge} {gd:Option (Nat × Bool)} {l:List Oper} {i:Nat} {el:TypeId} {tk lo z:Nat} {kk:IntKind} {xs:List PV} {v:PV} {K:Env→Prop} (tr:List (Nat × Nat)) (prs:List (St × St)) (hk:Zk (zX ops.toList []) fx keys i tr=true) (hp:vq stores tr=prs)
  (hg:guard? ops ⟨d,.slice t x (some y) none none,ty,pos,af,gd⟩ (Env.keep (zu ops ⟨d,.slice t x (some y) none none,ty,pos,af,gd⟩) e)=some true)
  (hx:ev (Env.keep (zu ops ⟨d,.slice t x (some y) none none,ty,pos,af,gd⟩) e) x=.sl (.tok tk z) xs) (hy:ev (Env.keep (zu ops ⟨d,.slice t x (some y) none none,ty,pos,af,gd⟩) e) y=.int kk (lo:Nat))
  (htd:td P t=.sl el) (hze:P.cellsOf el=z) (hz:0<z) (h0:0<lo) (h1:lo≤xs.length)
  (h:∀ q∈prs,q.1.blk tk=some (.tok xs.length)∧.sl (.tok q.1.nxt z) (xs.drop lo)=v∧q.2=(q.1.set tk none).new (.tok (xs.length-lo))) (hd:zO P ops fx keys stores (i+1) l (e.put d v) K):zO P ops fx keys stores i (⟨d,.slice t x (some y) none none,ty,pos,af,gd⟩::l) e K :=
 zO.one tr prs hk hp (fun q hq=>by
  subst hze
  refine DOp.of_effect hg fun g w a hI hE=>?_
  have e1:=xE hE x
  have e2:=xE hE y
  rw [hx] at e1
  rw [hy] at e2
  simp only [R] at e2
  obtain ⟨q1,q2,q3⟩:=h q hq
  obtain ⟨val,g',r1,r2,r3,r4⟩:=zgH (kk:=kk) hI e1 htd hz q1 h0 h1
  rw [← q2,q3]
  exact ⟨val,w,g',.inl (zhh rfl (by rw [e2];exact r1)),r2,r3,r4⟩) hd
end
end Go.PM
namespace Go.PM
open Go
section
variable {P:Program} {N:Nat} {k:List KI} {e:Env} {s:St} {rt:Env→St→Prop}
variable {ops:Array Oper} {fx:List Nat} {keys:List (List Bool)} {stores:List St}
end
end Go.PM
namespace Go.PM
open Go
theorem zoX {p:Prop} (h:p:=by rintro rfl;simp only [g',if_neg j1,if_true] at lj;cases lj):p:=h
theorem zdy {P g s w} (h:Inv P g s w) {id r t els} (hb:s.blk id=some (.row t els)) (hr0:s.blk r=some .res) :
  ∃ g',Inv P g' ((s.set id none).set r (some (.row t els))) w∧Ext g w g' w∧g'.rows r=g.rows id∧g'.nxt=s.nxt:=by
 have hlt:id<s.nxt:=h.id_lt (by rw [hb];simp)
 have hrlt:r<s.nxt:=h.id_lt (by rw [hr0];simp)
 have hne:r≠id:=by rintro rfl;rw [hb] at hr0;cases hr0
 have hat:=h.at' id
 rw [hb] at hat
 obtain ⟨ht0,hlv,b,vs,hr,hpos,hrow⟩:=hat
 have hnew:=h.at' r
 rw [hr0] at hnew
 obtain ⟨hn1,hn2,hn3⟩:=hnew
 let g':G:={ nxt:=g.nxt,rows:=upd g.rows r (g.rows id),live:=fun i=>if i=r then true else if i=id then false else g.live i,toks:=g.toks,lim:=g.lim }
 have hisrow:∀ b',g'.isRow b'→g.isRow b':=by
  rintro b' ⟨i,n,e,l⟩
  by_cases h1:i=r
  ·subst h1
   have:g'.rows i=g.rows id:=yh _ _ _
   rw [this] at e
   exact ⟨id,n,e,hlv⟩
  ·have e':g'.rows i=g.rows i:=yD _ _ h1
   rw [e'] at e
   simp only [g',if_neg h1] at l
   split at l
   ·cases l
   ·exact ⟨i,n,e,l⟩
 have x:Ext g w g' w :=
  { os:=rfl,tape:=rfl,output:=rfl,size:=Nat.le_refl _,nxt:=Nat.le_refl _,rd:=fun _ _ _ _ h=>h
    free:=fun b' n _ hf=>⟨fun hk=>hf.1 (hisrow b' hk),hf.2⟩
    same:=fun _ _ _ _=>rfl
    rows:=fun i hi x e=>by
     have hir:i≠r:=by rintro rfl;rw [hn3] at e;cases e
     exact (yD _ _ hir:g'.rows i=g.rows i).trans e
    csz:=fun _ _=>rfl
    toks:=wi (fun _ _=>rfl) (fun _ _ _ _=>rfl) }
 have hrows:∀ i,i≠r→g'.rows i=g.rows i:=fun i hi=>yD _ _ hi
 have hlive:∀ i,i≠r→i≠id→g'.live i=g.live i:=fun i h1 h2=>by simp only [g',if_neg h1,if_neg h2]
 refine ⟨g',?_,x,yh _ _ _,h.nxt⟩
 exact {
  nxt:=h.nxt
  wf:=fun i hi=>by
   have hi:s.nxt≤i:=hi
   show (if i=r then some (Blk.row t els) else if i=id then none else s.blk i)=none
   rw [if_neg Y2,if_neg Y2]
   exact h.wf i hi
  at':=fun i=>by
   show At P g' w i (if i=r then some (.row t els) else if i=id then none else s.blk i)
   by_cases h1:i=r
   ·subst h1
    simp only [if_true,At]
    refine ⟨hn2,by simp [g'],b,vs,by rw [show g'.rows i=g.rows id from yh _ _ _];exact hr,hpos,hrow.1,hrow.2.1,hrow.2.2.1,yX x _ _ hrow.2.2.2⟩
   ·rw [if_neg h1]
    by_cases h2:i=id
    ·subst h2
     simp only [if_true,At]
     exact ⟨by simp only [g',if_neg h1,if_true],ht0⟩
    ·rw [if_neg h2]
     have hi:=h.at' i
     cases hbl:s.blk i with
     | none=>rw [hbl] at hi;simp only [At] at hi ⊢;rw [hlive i h1 h2];exact hi
     | some bl =>
       rw [hbl] at hi
       cases bl with
       | row ty el =>
         obtain ⟨a,al,b',vs',a1,a2,a3,a4,a5,a6⟩:=hi
         exact ⟨a,by rw [hlive i h1 h2];exact al,b',vs',by rw [hrows i h1];exact a1,a2,a3,a4,a5,yX x _ _ a6⟩
       | tok L =>
         obtain ⟨a,b',l,a1,a2,a3,a4⟩:=hi
         exact ⟨by rw [hlive i h1 h2];exact a,b',l,a1,a2,fun hk=>a3 (hisrow b' hk),a4⟩
       | map es =>
         obtain ⟨a,al,b',a1,me,cl,a2,a3,a4⟩:=hi
         exact ⟨a,by rw [hlive i h1 h2];exact al,b',by rw [hrows i h1];exact a1,me,cl,a2,yX x _ _ a3,yX x _ _ a4⟩
       | res=>exact ⟨by rw [hlive i h1 h2];exact hi.1,hi.2.1,by rw [hrows i h1];exact hi.2.2⟩
  inj:=fun i j b' m n li lj hi hj=>by
   by_cases i1:i=r
   ·by_cases j1:j=r
    ·rw [i1,j1]
    ·subst i1
     rw [show g'.rows i=g.rows id from yh _ _ _] at hi
     rw [hrows j j1] at hj
     have j2:j≠id:=zoX
     rw [hlive j j1 j2] at lj
     exact absurd (h.inj j id b' n m lj hlv hj hi) j2
   ·rw [hrows i i1] at hi
    have i2:i≠id:=by rintro rfl;simp only [g',if_neg i1,if_true] at li;cases li
    rw [hlive i i1 i2] at li
    by_cases j1:j=r
    ·subst j1
     rw [show g'.rows j=g.rows id from yh _ _ _] at hj
     exact absurd (h.inj i id b' m n li hlv hi hj) i2
    ·rw [hrows j j1] at hj
     have j2:j≠id:=zoX
     rw [hlive j j1 j2] at lj
     exact h.inj i j b' m n li lj hi hj
  tinj:=h.tinj
  lim:=h.lim
  rlim:=fun i b' n li hi=>by
   obtain ⟨j,m,e,l⟩:=hisrow b' ⟨i,n,hi,li⟩
   exact h.rlim j b' m l e }
theorem zgv {P g s w} (h:Inv P g s w) {p t els els'} (hb:s.blk p=some (.row t els)) (hat:At P g w p (some (.row t els'))):Inv P g (s.set p (some (.row t els'))) w:=by
 have hlt:p<s.nxt:=h.id_lt (by rw [hb];simp)
 exact {
  nxt:=h.nxt
  wf:=fun i hi=>by
   have hi:s.nxt≤i:=hi
   show (if i=p then some (Blk.row t els') else s.blk i)=none
   rw [if_neg Y2]
   exact h.wf i hi
  at':=fun i=>by
   show At P g w i (if i=p then some (.row t els') else s.blk i)
   by_cases h1:i=p
   ·subst h1;rw [if_pos rfl];exact hat
   ·rw [if_neg h1];exact h.at' i
  inj:=h.inj
  tinj:=h.tinj
  lim:=h.lim
  rlim:=h.rlim }
theorem zev {P g s w t e id off n tyr els a} {k1 k2:IntKind} (h:Inv P g s w) (hx:R g w (.own id off n) a) (htd:td P t=.sl e) (hpos:0<P.cellsOf e) (hb:s.blk id=some (.row tyr els)) (heq:P.cellsOf e=P.cellsOf tyr) :
  ∃ val,(Instr.sliceAt t a none (some (.int k1 n)) (some (.int k2 n))).run P w=.ok val w∧R g w (.own id off n) val:=by
 have hu:=xp htd
 simp only [R] at hx
 obtain ⟨h0,b,sz,cap,hr,hcap,rfl,hcs⟩:=hx
 have hat:=h.at' id
 rw [hb] at hat
 obtain ⟨_,_,b',vs,hr',_⟩:=hat
 rw [hr] at hr';cases hr'
 have hbd:=vE (P:=P) (w:=w) (isSlice:=true) (len:=n) (cap:=cap) (lo:=none) (hi:=some (.int k1 n)) (mx:=some (.int k2 n)) (l:=0) (h:=n) (lo':=none) (hi':=some (n:Int)) (mx':=some (n:Int)) rfl ⟨k1,rfl⟩ ⟨k2,rfl⟩ rfl rfl (Int.le_refl _) Y2 (Int.le_refl _) hcap (fun m e=>by cases e;exact ⟨rfl,Y1⟩)
 have run:(Instr.sliceAt t (.slice (some ⟨b,off*P.cellsOf tyr,none⟩) n cap) none (some (.int k1 n)) (some (.int k2 n))).run P w=.ok (.slice (some ⟨b,off*P.cellsOf tyr,none⟩) n n) w:=by
  unfold Instr.sliceAt
  rw [ze,zh hu]
  simp only
  unfold Instr.slice
  simp only [ze,zh hu,yx hpos,hbd,zo,Option.map_some,vh,Option.getD_some,Int.toNat_natCast,Int.toNat_zero,Nat.zero_mul,Nat.add_zero,Nat.sub_zero,ite_self]
 refine ⟨_,run,?_⟩
 simp only [R]
 exact ⟨h0,b,P.cellsOf tyr,n,hr,Nat.le_refl _,rfl,Nat.le_trans (Nat.mul_le_mul_right _ Y2) hcs⟩
section
variable {P:Program} {N:Nat} {k:List KI} {e:Env} {s:St} {rt:Env→St→Prop}
theorem zeA {P:Program} {w:World} {a:Act} {o:Oper} {t:TypeId} {x y z:Operand} {val:Value} (hop:o.op=.slice t x none (some y) (some z))
  (h:(Instr.sliceAt t (a.eval x) none (some (a.eval y)) (some (a.eval z))).run P w=.ok val w):(execOp a.eval o).run P w=.ok (.value val) w:=by
 unfold execOp
 rw [hop]
 simp only [Option.map_some,Option.map_none]
 rw [ze,h]
 rfl
theorem zm.clipOwn {ops:Array Oper} {d:Option Nat} {x y z:Operand} {t ty:TypeId} {pos:String} {af:Array Edge} {gd:Option (Nat × Bool)} {l:List Oper} {el tyr:TypeId} {id off n:Nat} {els:List PV} {k1 k2:IntKind}
  (hg:guard? ops ⟨d,.slice t x none (some y) (some z),ty,pos,af,gd⟩ e=some true) (hx:ev e x=.own id off n) (hy:ev e y=.int k1 n) (hz:ev e z=.int k2 n) (htd:td P t=.sl el) (hpos:0<P.cellsOf el) (hb:s.blk id=some (.row tyr els)) (heq:P.cellsOf el=P.cellsOf tyr)
  (h:zm P N ops l k (e.put d (.own id off n)) s rt):zm P N ops (⟨d,.slice t x none (some y) (some z),ty,pos,af,gd⟩::l) k e s rt:=by
 refine zm.eff hg (fun g w a hI hE=>?_) h
 have e1:=xE hE x
 have e2:=xE hE y
 have e3:=xE hE z
 rw [hx] at e1
 rw [hy] at e2
 rw [hz] at e3
 simp only [R] at e2 e3
 obtain ⟨val,r1,r2⟩:=zev (k1:=k1) (k2:=k2) hI e1 htd hpos hb heq
 exact ⟨val,w,g,.inl (zeA rfl (by rw [e2,e3];exact r1)),hI,Ext.refl _ _,r2⟩
theorem zm.move {ops:Array Oper} {l:List Oper} (i id r:Nat) {off n:Nat} {t:TypeId} {els:List PV} (hv:e.get i=.own id off n) (hb:s.blk id=some (.row t els)) (hr:s.blk r=some .res)
  (h:zm P N ops l k ((i,.own r off n)::e) ((s.set id none).set r (some (.row t els))) rt):zm P N ops l k e s rt:=by
 intro ok okk idx hidx g w a hI hE hd hN
 obtain ⟨g',hI',hX,hrr,hnx⟩:=zdy hI hb hr
 have hrlt:r<s.nxt:=hI.id_lt (by rw [hr];simp)
 refine zm.eff.wpOps_lift hX (h ok okk idx hidx _ w a hI' (fun j=>?_) hd hN)
 simp only [Env.get]
 split
 ·rename_i hj
  subst hj
  have:=hE j
  rw [hv] at this
  simp only [R] at this ⊢
  obtain ⟨_,b,sz,cap,q1,q2⟩:=this
  exact ⟨Y2,b,sz,cap,hrr.trans q1,q2⟩
 ·exact Xi hX _ _ (hE j)
theorem Run.thawB {c:Code} (p id fuel:Nat) {t:TypeId} {els els':List PV} (hb:s.blk p=some (.row t els)) (hp:p≠id) (hv:els.map (PV.frz false s (fun j=>j != id) fuel)=els') (hbl:PV.blws s.nxt els')
  (h:Run P N (.code c::k) e ((s.set id none).set p (some (.row t els'))) rt):Run P N (.code c::k) e s rt:=by
 intro ok
 have h:=h ok
 intro oc g w a hI hE hd hN
 have hX:Ext g w (g.keep s.nxt (fun i=>i != id)) w:=za2 _ (by rw [hI.nxt];exact Nat.le_refl _)
 have hI':Inv P (g.keep s.nxt (fun i=>i != id)) (s.set id none) w:=by
  have:=Yw hI s.nxt (fun i=>i != id) (fun i _ hi=>hI.id_lt hi) (fun i b _ hb=>hI.blw hb)
  have e:s.keep s.nxt (fun i=>i != id)=s.set id none:=by
   simp only [St.keep,St.set,St.mk.injEq,true_and]
   funext i
   by_cases hi:i=id
   ·subst hi;simp
   ·simp [hi]
  rw [e] at this
  exact this
 have hat:=hI.at' p
 rw [hb] at hat
 obtain ⟨c1,c2,b,vs,c3,c4,c5,c6,c7,hra⟩:=hat
 have hb':(s.set id none).blk p=some (.row t els):=by
  show (if p=id then none else s.blk p)=_
  rw [if_neg hp];exact hb
 have hI2:=zgv (els':=els') hI' hb' ⟨by simp only [G.keep];split;exact c1;rfl,by simp only [G.keep,c2,Bool.and_true];simpa using hp,b,vs,c3,c4,c5,c6,c7,by
  subst hv
  exact uz (fun p v=>zlv hI s.nxt false (fun j=>j != id) fuel p v) els vs hbl hra⟩
 exact wp_mono (h oc _ w a hI2 (fun j=>Xi hX _ _ (hE j)) hd hN) fun _ _ _=>Yz.trans hX
end
end Go.PM
namespace Go.Proofs
open Go.PM Go
def XR (b:List Int) (q:Req):Rep :=
 let f:=(b[0]?).getD 0
 if 128≤f then ⟨f-128,if 1<b.length then (b[1]?).getD 0 else 0,0,0,0,[],[],0,0,[]⟩
 else if f=1∨f=2 then ⟨f,0,0,0,0,(xy (b.drop 2) q.count).getD [],[],0,0,[]⟩
 else if f=3∨f=4∨f=23 then ⟨f,0,0,0,0,[],xl b 2,0,0,[]⟩
 else if f=5 then ⟨f,0,zP b 1,0,0,[decide (zP b 3=65280)],[],0,0,[]⟩
 else if f=6 then ⟨f,0,zP b 1,0,0,[],[zP b 3],0,0,[]⟩
 else if f=8 then ⟨f,0,0,0,zP b 1,[],[zP b 3],0,0,[]⟩
 else if f=15∨f=16 then ⟨f,0,zP b 1,zP b 3,0,[],[],0,0,[]⟩
 else if f=22 then ⟨f,0,zP b 1,0,0,[],[],zP b 3,zP b 5,[]⟩
 else if f=17 then ⟨f,0,0,0,0,[],[],0,0,b.drop 2⟩
 else ⟨f,0,0,0,0,[],[],0,0,[]⟩
theorem zky {R:Rep} {q:Req} (h:Yn R q) (hq:1≤q.fn∧q.fn≤127) (hv:OkW R.vals):XR (yK R) q=R:=by
 have hf:=h.fn
 by_cases hc:R.code=0
 case neg =>
  have hg:=h.good
  unfold yg at hg
  rw [if_pos hc] at hg
  split at hg
  ·rename_i k
   have e:yK R=[R.fn+128,R.code]:=by unfold yK;rw [if_pos hc]
   rw [e]
   unfold XR
   dsimp only [List.getElem?_cons_zero,Option.getD_some]
   rw [if_pos Y18]
   show (⟨R.fn+128-128,R.code,0,0,0,[],[],0,0,[]⟩:Rep)=R
   rw [show R.fn+128-128=R.fn from Y18]
   exact k.2.2.2.2.symm
  ·cases hg
 have ht:=h.took
 have hgo:=WH h.good hc
 have g1:=hgo.has
 have g2:=hgo.v6
 have h2:1<(yK R).length:=by
  unfold yK
  rw [if_neg (fun n=>n hc)]
  repeat' split
  all_goals simp only [List.length_cons,List.length_append,show ∀ n,(zx n).length=2 from fun _=>rfl];omega
 have h0:((yK R)[0]?).getD 0=R.fn:=by rw [Vo,if_neg (fun n=>n hc)]
 have hs:=yM g1
 refine Eq.trans ?_ ht
 unfold XR xL
 dsimp only
 rw [h0,if_neg (show ¬ 128≤R.fn from Y18),if_neg (show ¬ 128≤R.fn from Y18)]
 by_cases e1:R.fn=1∨R.fn=2
 ·rw [if_pos e1,if_pos e1,if_pos h2,if_neg (by rcases e1 with e | e<;>rw [e]<;>decide)]
 rw [if_neg e1,if_neg e1]
 by_cases e3:R.fn=3∨R.fn=4∨R.fn=23
 ·rw [if_pos e3,if_pos e3,if_neg (by rcases e3 with e | e | e<;>rw [e]<;>decide)]
 rw [if_neg e3,if_neg e3]
 by_cases e15:R.fn=15∨R.fn=16
 ·rw [if_neg (show ¬ R.fn=5 from Y18),if_neg (show ¬ R.fn=6 from Y18),if_neg (show ¬ R.fn=8 from Y18),if_pos e15,if_pos e15,if_pos (by rcases e15 with e | e<;>rw [e]<;>decide)]
 by_cases e17:R.fn=17
 ·rw [if_neg (show ¬ R.fn=5 from Y18),if_neg (show ¬ R.fn=6 from Y18),if_neg (show ¬ R.fn=8 from Y18),if_neg e15,if_neg (show ¬ R.fn=22 from Y18),if_neg e15,if_pos e17,if_pos e17,if_pos h2,if_neg (by rw [e17];decide)]
 rw [if_neg e15,if_neg e15,if_neg e17,if_neg e17]
 have n14:¬ (1≤R.fn∧R.fn≤4):=Y18
 by_cases e5:R.fn=5
 ·have n8:¬ R.fn=8:=Y18
  have hgr:zC (yK R)=⟨R.fn,zP (yK R) 1,0,0,0,[decide (¬ zP (yK R) 3=0)],[],0,0⟩:=by
   unfold zC
   dsimp only
   rw [h0,if_neg n14,if_neg n8,if_pos e5]
  rw [if_pos e5,hgr,if_pos (by rw [e5];decide)]
  have el:yK R=R.fn::(zx R.at_++zx (if R.bits=[true] then 65280 else 0)):=by
   unfold yK
   rw [if_neg (fun n=>n hc),if_neg e1,if_neg e3,if_pos e5]
  have u65:U16 (if R.bits=[true] then 65280 else 0):=znZ
  have e:decide (zP (yK R) 3=65280)=decide (¬ zP (yK R) 3=0):=by
   rw [el,YZ u65]
   split<;>rfl
  dsimp only
  rw [e]
 rw [if_neg e5]
 by_cases e6:R.fn=6
 ·obtain ⟨v,hvv⟩:=List.length_eq_one_iff.1 (g2 (.inl e6))
  have n8:¬ R.fn=8:=Y18
  have hgr:zC (yK R)=⟨R.fn,zP (yK R) 1,0,0,0,[],xl (yK R) 3,0,0⟩:=by
   unfold zC
   dsimp only
   rw [h0,if_neg n14,if_neg n8,if_neg e5,if_pos e6]
  rw [if_pos e6,hgr,if_pos (by rw [e6];decide)]
  have el:yK R=R.fn::(zx R.at_++R.vals.flatMap zx):=by
   unfold yK
   rw [if_neg (fun n=>n hc),if_neg e1,if_neg e3,if_neg e5,if_pos e6]
  have ew:xl (yK R) 3=R.vals:=by
   rw [el,show R.fn::(zx R.at_++R.vals.flatMap zx)=(R.fn::zx R.at_)++R.vals.flatMap zx from rfl,uI hv (by rfl)]
  have en:zP (yK R) 3=v:=by
   rw [el,hvv,show [v].flatMap zx=zx v from Y71,YZ (hv v (by rw [hvv];simp))]
  dsimp only
  rw [ew,en,hvv]
 rw [if_neg e6]
 by_cases e8:R.fn=8
 ·obtain ⟨v,hvv⟩:=List.length_eq_one_iff.1 (g2 (.inr e8))
  have hgr:zC (yK R)=⟨R.fn,0,0,0,zP (yK R) 1,[],xl (yK R) 3,0,0⟩:=by
   unfold zC
   dsimp only
   rw [h0,if_neg n14,if_pos e8]
  rw [if_pos e8,hgr,if_neg (by rw [e8];decide)]
  have el:yK R=R.fn::(zx R.sub++R.vals.flatMap zx):=by
   unfold yK
   rw [if_neg (fun n=>n hc),if_neg e1,if_neg e3,if_neg e5,if_neg e6,if_pos e8]
  have ew:xl (yK R) 3=R.vals:=by
   rw [el,show R.fn::(zx R.sub++R.vals.flatMap zx)=(R.fn::zx R.sub)++R.vals.flatMap zx from rfl,uI hv (by rfl)]
  have en:zP (yK R) 3=v:=by
   rw [el,hvv,show [v].flatMap zx=zx v from Y71,YZ (hv v (by rw [hvv];simp))]
  dsimp only
  rw [ew,en,hvv]
 have e22:R.fn=22:=Y18
 have hgr:zC (yK R)=⟨R.fn,zP (yK R) 1,0,0,0,[],[],zP (yK R) 3,zP (yK R) 5⟩:=by
  unfold zC
  dsimp only
  rw [h0,if_neg n14,if_neg e8,if_neg e5,if_neg e6,if_pos e22]
 have n15:¬ (R.fn=15∨R.fn=16):=e15
 rw [if_neg e8,if_pos e22,hgr,if_pos (by rw [e22];decide)]
end Go.Proofs
namespace Go.Proofs
open Go.PM Go
structure Pc where
 at_:Int
 phys:Int
 cnt:Int
 deriving DecidableEq
def Pc.pv (p:Pc):PV:=.agg [.int .i64 p.at_,.int .i64 p.phys,.int .i64 p.cnt]
def zaq (a b:Sp):Bool:=ym a b&&decide (vd a b=a)
def vZ (x:Int) (s:Sp):Bool:=decide (s.pos≤x∧x<s.pos+s.cnt)
def vC (l:List Sp) (e:Int):Nat→Int→List Sp→Option (List Sp)
 | 0,_,out=>some out
 | k+1,x,out=>if x<e then match l.find? (vZ x) with
    | none=>none
    | some s=>vC l e k (min (s.pos+s.cnt) e) (out++[⟨x,min (s.pos+s.cnt) e-x⟩])
   else some out
def wh (l:List Sp) (s:Sp):List Sp × Bool :=
 if zM s yE=false∨(l.any fun x=> !zM x yE)=true then ([],false)
 else match vC l (s.pos+s.cnt) s.cnt.toNat s.pos [] with
  | none=>([],false)
  | some o=>(o,true)
theorem Zt {l:List Sp} {e:Int}:∀ (k:Nat) (x:Int) (out:List Sp),e≤x→vC l e k x out=some out
 | 0,_,_,_=>rfl
 | k+1,x,out,h=>by
   unfold vC
   rw [if_neg Y18]
theorem ZK {l:List Sp} {e x:Int} {k:Nat} {out:List Sp} (h:x<e) (hk:(e-x).toNat≤k):vC l e k x out=match l.find? (vZ x) with
   | none=>none
   | some s=>vC l e (k-1) (min (s.pos+s.cnt) e) (out++[⟨x,min (s.pos+s.cnt) e-x⟩]):=by
 obtain ⟨k,rfl⟩:∃ j,k=j+1:=⟨k-1,Y18⟩
 show (if x<e then _ else _)=_
 rw [if_pos h]
 rfl
theorem UC {l:List Sp} (hl:∀ s∈l,1≤s.cnt) {e:Int}:∀ (k j:Nat) (x:Int) (out:List Sp),(e-x).toNat≤k→(e-x).toNat≤j→vC l e k x out=vC l e j x out
 | 0,j,x,out,h1,h2=>by rw [Zt j x out Y18];rfl
 | k+1,0,x,out,h1,h2=>by rw [Zt (k+1) x out Y18];rfl
 | k+1,j+1,x,out,h1,h2=>by
   by_cases h:x<e
   ·rw [ZK h h1,ZK h h2]
    cases hf:l.find? (vZ x) with
    | none=>rfl
    | some s =>
      have hs:=List.find?_some hf
      have hs:=of_decide_eq_true hs
      exact UC hl k j _ _ Y18 Y18
   ·rw [Zt _ _ _ Y18,Zt _ _ _ Y18]
def ofW (l:List Win) (space:Int):List Win:=l.filter fun w=>yj w&&decide (w.space=space)
def WT (ws:List Win) (x:Int):Int:=match ws.find? (fun w=>zaq ⟨x,1⟩ w.v) with
 | some w=>w.phys+x-w.virt
 | none=>0
def xW (l:List Win) (space at_ n:Int):List Pc × Bool :=
 ((wh ((ofW l space).map Win.v) ⟨at_,n⟩).1.map fun p=>⟨p.pos,WT (ofW l space) p.pos,p.cnt⟩,(wh ((ofW l space).map Win.v) ⟨at_,n⟩).2)
def ut (fn:Int):Int:=if fn=1∨fn=5∨fn=15 then 0 else if fn=2 then 1 else if fn=4 then 2 else 3
def zJ (t:Ten) (q:Req):List Pc × List Pc × Bool :=
 if q.fn=1∨q.fn=2∨q.fn=3∨q.fn=4 then ([],xW t.wins (ut q.fn) q.at_ q.count)
 else if q.fn=5∨q.fn=6 then ((xW t.wins (ut q.fn) q.at_ 1).1,[],(xW t.wins (ut q.fn) q.at_ 1).2)
 else if q.fn=15∨q.fn=16 then ((xW t.wins (ut q.fn) q.at_ q.count).1,[],(xW t.wins (ut q.fn) q.at_ q.count).2)
 else if q.fn=22 then ((xW t.wins 3 q.at_ 1).1,xW t.wins 3 q.at_ 1)
 else if q.fn=23 then ((xW t.wins 3 q.wat q.vals.length).1,(xW t.wins 3 q.at_ q.count).1,(xW t.wins 3 q.wat q.vals.length).2&&(xW t.wins 3 q.at_ q.count).2)
 else ([],[],true)
def Ws (t:Ten) (fn:Int):Bool:=decide (t.fns.toNat.testBit fn.toNat=true)
def xr (t:Ten) (q:Req):Int :=
 if zD q=15∨Ws t q.fn=false then 1
 else if ¬ zD q=0∨yu q=false then 3
 else if (zJ t q).2.2=false then 2
 else if 6<(zJ t q).1.length+(zJ t q).2.1.length then 4
 else 0
def vI (fn:Int) (p:Pc):Req × Bool:=(⟨fn,p.phys,p.cnt,0,0,[],[],0,0⟩,false)
def vR (q:Req) (p:Pc):Req × Bool :=
 (if q.fn=5 then ⟨5,p.phys,0,0,0,q.bits,[],0,0⟩
  else if q.fn=6 then ⟨6,p.phys,0,0,0,[],q.vals,0,0⟩
  else if q.fn=15 then ⟨15,p.phys,p.cnt,0,0,(q.bits.drop (p.at_-q.at_).toNat).take p.cnt.toNat,[],0,0⟩
  else if q.fn=16 then ⟨16,p.phys,p.cnt,0,0,[],(q.vals.drop (p.at_-q.at_).toNat).take p.cnt.toNat,0,0⟩
  else ⟨16,p.phys,p.cnt,0,0,[],(q.vals.drop (p.at_-q.wat).toNat).take p.cnt.toNat,0,0⟩,true)
def yy (t:Ten) (q:Req):List (Req × Bool) × Int :=
 if ¬ xr t q=0 then ([],xr t q)
 else if q.fn=22 then ((zJ t q).2.1.take 1 |>.flatMap fun p=>[vI 3 p,(⟨6,p.phys,0,0,0,[],[0],0,0⟩,true)],0)
 else ((zJ t q).1.map (vR q)++(zJ t q).2.1.map (vI (if q.fn=23 then 3 else q.fn)),0)
def uR (q:Req):Bool:=decide (q.fn=8∨q.fn=17)
def yH (q:Req) (bits:List Bool) (vals:List Int):Rep :=
 if q.fn=5 then ⟨5,0,q.at_,0,0,q.bits,[],0,0,[]⟩
 else if q.fn=6 then ⟨6,0,q.at_,0,0,[],q.vals,0,0,[]⟩
 else if q.fn=15∨q.fn=16 then ⟨q.fn,0,q.at_,q.count,0,[],[],0,0,[]⟩
 else if q.fn=22 then ⟨22,0,q.at_,0,0,[],[],q.and_,q.or_,[]⟩
 else if (bits.length:Int)+vals.length=q.count then ⟨q.fn,0,0,0,0,bits,vals,0,0,[]⟩ else zE q.fn 4
def uQ (q:Req):List (Req × Bool)→List Rep→List Bool→List Int→Rep
 | ps,[],bits,vals=>if ps=[] then yH q bits vals else zE q.fn 4
 | [],_::_,bits,vals=>yH q bits vals
 |(x,w)::ps,r::l,bits,vals =>
  if ¬ r.fn=x.fn∨¬ yg r=0 then zE q.fn 4 else uQ q ps l (if w then bits else bits++r.bits) (if w then vals else vals++r.vals)
def xz (t:Ten) (q:Req) (l:List Rep):Rep :=
 if ¬ (yy t q).2=0 then zE q.fn (yy t q).2
 else if uR q=true then zE q.fn 4
 else match (l.take (yy t q).1.length).find? (fun r=>decide (¬ r.code=0)) with
  | some r=>zE q.fn r.code
  | none=>uQ q (yy t q).1 (l.take (yy t q).1.length) [] []
structure Cn where
 m:Int
 e:Int
 b:Int
 deriving DecidableEq
structure Cn.ok (c:Cn):Prop where
 m:0≤c.m∧c.m≤1073741824
 e:0≤c.e∧c.e≤1073741824
 b:0≤c.b∧c.b≤1073741824
def Cn.pv (c:Cn):PV:=.agg [.int .i64 c.m,.int .i64 c.e,.int .i64 c.b]
def Cn.msg (c:Cn):Cn:={ c with m:=min (c.m+1) 1073741824 }
def Cn.exc (c:Cn):Cn:={ c with e:=min (c.e+1) 1073741824 }
def Cn.bad (c:Cn) (n:Int):Cn:={ c with b:=c.b+max 0 (min n (1073741824-c.b)) }
def Cn.get (c:Cn) (sub:Int):Option Int:=if sub=11∨sub=14 then some (c.m%65536) else if sub=12 then some (c.b%65536) else if sub=13 then some (c.e%65536) else none
theorem Cn.ok.msg {c:Cn} (h:c.ok):c.msg.ok:=⟨by have:=h.m;show 0≤min (c.m+1) _∧min (c.m+1) _≤_;omega,h.e,h.b⟩
theorem Cn.ok.exc {c:Cn} (h:c.ok):c.exc.ok:=⟨h.m,by have:=h.e;show 0≤min (c.e+1) _∧min (c.e+1) _≤_;omega,h.b⟩
theorem Cn.ok.bad {c:Cn} (h:c.ok) (n:Int):(c.bad n).ok:=⟨h.m,h.e,by have:=h.b;show 0≤c.b+max 0 (min n (1073741824-c.b))∧c.b+max 0 (min n (1073741824-c.b))≤_;omega⟩
def Cn.doC (c:Cn) (q:Req) (unit:Int):Rep × Cn :=
 if ¬ q.fn=8∧¬ q.fn=17 then (zE q.fn 1,c)
 else if ¬ zD q=0 then (zE q.fn 3,c)
 else if q.fn=17 then (⟨17,0,0,0,0,[],[],0,0,[unit%256,255]⟩,c)
 else if q.sub=0 then (⟨8,0,0,0,q.sub,[],q.vals,0,0,[]⟩,c)
 else if q.sub=10 then (⟨8,0,0,0,q.sub,[],q.vals,0,0,[]⟩,⟨0,0,0⟩)
 else match c.get q.sub with
  | none=>(zE q.fn 3,c)
  | some n=>if q.vals.headD 0=0 then (⟨8,0,0,0,q.sub,[],[n],0,0,[]⟩,c) else (zE q.fn 3,c)
theorem Cn.ok.doC {c:Cn} (h:c.ok) (q:Req) (unit:Int):(c.doC q unit).2.ok:=by
 have z:(⟨0,0,0⟩:Cn).ok:=⟨Y20,Y20,Y20⟩
 unfold Cn.doC
 repeat' split
 all_goals first | exact h | exact z
end Go.Proofs
namespace Go.Proofs
open Go.PM Go
structure zho (at_ n:Int) (p:Pc):Prop where
 lo:at_≤p.at_
 hi:p.at_+p.cnt≤at_+n
 one:1≤p.cnt
 ph:0≤p.phys
 pe:p.phys+p.cnt≤512
theorem ui {x:Int} {s:Sp}:vZ x s=true↔s.pos≤x∧x<s.pos+s.cnt:=by simp [vZ]
theorem YV {l:List Sp} {e:Int} (hl:∀ s∈l,1≤s.cnt):∀ (k:Nat) (x:Int) (out o:List Sp),vC l e k x out=some o →
  ∃ o',o=out++o'∧(∀ p∈o',x≤p.pos∧p.pos+p.cnt≤e∧1≤p.cnt∧∃ s,l.find? (vZ p.pos)=some s∧p.pos+p.cnt≤s.pos+s.cnt)∧(x<e→1≤k→o'≠[])∧(o'.length≤k)
 | 0,x,out,o,h=>⟨[],by cases h;simp,fun p hp=>absurd hp (List.not_mem_nil),fun _ hk=>absurd hk Y19,Nat.le_refl _⟩
 | k+1,x,out,o,h=>by
   unfold vC at h
   split at h
   ·rename_i hx
    split at h
    ·cases h
    ·rename_i s hs
     have hc:=ui.1 (List.find?_some hs)
     obtain ⟨o',rfl,h1,h2,h3⟩:=YV hl k _ _ _ h
     refine ⟨⟨x,min (s.pos+s.cnt) e-x⟩::o',Y71,fun p hp=>?_,fun _ _=>List.cons_ne_nil _ _,Yk⟩
     rcases List.mem_cons.1 hp with rfl | hp
     ·dsimp only
      exact ⟨Y18,Y18,Y18,s,hs,Y18⟩
     ·have q:=h1 p hp
      exact ⟨Y18,q.2.1,q.2.2.1,q.2.2.2⟩
   ·rename_i hx
    cases h
    exact ⟨[],Y71,fun p hp=>absurd hp (List.not_mem_nil),fun h _=>absurd h hx,Nat.zero_le _⟩
theorem zay {l:List Sp} (h:¬ (l.any fun x=> !zM x yE)=true):∀ x∈l,1≤x.cnt:=fun x hx=>by
 have:zM x yE=true:=by
  cases e:zM x yE with
  | true=>rfl
  | false=>exact absurd (List.any_eq_true.2 ⟨x,hx,by rw [e];rfl⟩) h
 exact (yb.1 this).2.1
theorem zhZ {p:Prop} (h:p:=by simpa using h1):p:=h
theorem zcU {l:List Sp} {s p:Sp} (hp:p∈(wh l s).1):s.pos≤p.pos∧p.pos+p.cnt≤s.pos+s.cnt∧1≤p.cnt∧0≤p.pos∧p.pos+p.cnt≤yE∧∃ y,l.find? (vZ p.pos)=some y∧p.pos+p.cnt≤y.pos+y.cnt:=by
 unfold wh at hp
 split at hp
 ·cases hp
 ·rename_i h
  have h1:=fun q=>h (.inl q)
  have h2:=fun q=>h (.inr q)
  have hs:=yb.1 (show zM s yE=true from zhZ)
  have hl:=zay h2
  split at hp
  ·cases hp
  ·rename_i o ho
   obtain ⟨o',e,q1,q2,q3⟩:=YV hl _ _ _ _ ho
   rw [List.nil_append] at e
   subst e
   have q:=q1 p hp
   unfold yE at hs ⊢
   exact ⟨q.1,q.2.1,q.2.2.1,Y18,Y18,q.2.2.2⟩
theorem zaM (l:List Sp) (s:Sp):(wh l s).1.length≤2147483648:=by
 unfold wh
 split
 ·simp
 ·rename_i h
  have h1:=fun q=>h (.inl q)
  have h2:=fun q=>h (.inr q)
  have hs:=yb.1 (show zM s yE=true from zhZ)
  have hl:=zay h2
  split
  ·simp
  ·rename_i o ho
   obtain ⟨o',e,q1,q2,q3⟩:=YV hl _ _ _ _ ho
   rw [List.nil_append] at e
   subst e
   unfold yE at hs
   dsimp only
   omega
theorem zjL {l:List Sp} {s:Sp} (h:(wh l s).2=true):(wh l s).1≠[]:=by
 unfold wh at h ⊢
 split at h
 ·cases h
 ·rename_i g
  rw [if_neg g]
  have h1:=fun q=>g (.inl q)
  have h2:=fun q=>g (.inr q)
  have hs:=yb.1 (show zM s yE=true from zhZ)
  have hl:=zay h2
  split at h
  ·cases h
  ·rename_i o ho
   obtain ⟨o',e,q1,q2,q3⟩:=YV hl _ _ _ _ ho
   rw [List.nil_append] at e
   subst e
   exact q2 Y18 Y18
theorem vJ {l:List Win} {sp:Int} {w:Win} (h:w∈ofW l sp):yj w=true∧w.space=sp∧w∈l:=by
 unfold ofW at h
 rw [List.mem_filter] at h
 have h2:=Bool.and_eq_true_iff.1 h.2
 exact ⟨h2.1,of_decide_eq_true h2.2,h.1⟩
theorem vD {w:Win} (h:yj w=true):0≤w.space∧w.space≤3∧0≤w.virt∧1≤w.cnt∧w.virt+w.cnt≤65536∧0≤w.phys∧w.phys+w.cnt≤512:=by
 simp only [yj,Bool.and_eq_true,decide_eq_true_eq] at h
 have h1:=yb.1 h.1.2
 have h2:=yb.1 h.2
 have:=h.1.1
 simp only [Win.v,Win.p] at h1 h2
 omega
theorem Zp {w:Win} (h:yj w=true):zM w.v yE=true:=by
 have h:=vD h
 refine yb.2 ?_
 unfold yE Win.v
 dsimp only
 omega
theorem zkt {x:Int} {s:Sp} (hx:0≤x∧x<2147483648) (hs:zM s yE=true):zaq ⟨x,1⟩ s=vZ x s:=by
 have hr:zM ⟨x,1⟩ yE=true:=yb.2 (by unfold yE;dsimp only;omega)
 have h:=yb.1 hs
 by_cases c:vZ x s=true
 ·have k:=ui.1 c
  have m:ym ⟨x,1⟩ s=true:=by
   simp only [ym,hr,hs,Bool.true_and,decide_eq_true_eq]
   omega
  rw [c]
  unfold zaq vd
  rw [if_pos m,m,Bool.true_and,decide_eq_true_eq]
  have e1:max x s.pos=x:=Y18
  have e2:min (x+1) (s.pos+s.cnt)=x+1:=Y18
  dsimp only
  rw [e1,e2]
  congr 1
  omega
 ·have k:¬ (s.pos≤x∧x<s.pos+s.cnt):=fun q=>c (ui.2 q)
  rw [show vZ x s=false by simpa using c]
  have m:ym ⟨x,1⟩ s=false:=by
   simp only [ym,hr,hs,Bool.true_and,decide_eq_false_iff_not]
   omega
  unfold zaq
  rw [m];rfl
theorem zbR {α:Type} {p q:α→Bool}:∀ {l:List α},(∀ x∈l,p x=q x)→l.find? p=l.find? q
 | [],_=>rfl
 | x::l,h=>by
   rw [List.find?_cons,List.find?_cons,h x Y71,zbR (l:=l) fun y hy=>h y (by simp [hy])]
theorem zdb {l:List Win} {sp x:Int} (hx:0≤x∧x<2147483648) {y:Sp} (h:((ofW l sp).map Win.v).find? (vZ x)=some y):∃ w∈ofW l sp,y=w.v∧(ofW l sp).find? (fun w=>zaq ⟨x,1⟩ w.v)=some w∧WT (ofW l sp) x=w.phys+x-w.virt∧vZ x w.v=true:=by
 rw [List.find?_map] at h
 obtain ⟨w,hw,rfl⟩:=Option.map_eq_some_iff.1 h
 have e:(ofW l sp).find? (fun w=>zaq ⟨x,1⟩ w.v)=some w:=by
  rw [← hw]
  exact zbR fun z hz=>zkt hx (Zp (vJ hz).1)
 refine ⟨w,List.mem_of_find?_eq_some hw,rfl,e,?_,List.find?_some (p:=vZ x ∘ Win.v) hw⟩
 unfold WT
 rw [e]
theorem vx {l:List Win} {sp at_ n:Int} {p:Pc} (h:p∈(xW l sp at_ n).1):zho at_ n p∧0≤p.at_∧∃ w∈ofW l sp,p.phys=w.phys+p.at_-w.virt∧w.virt≤p.at_∧p.at_+p.cnt≤w.virt+w.cnt:=by
 unfold xW at h
 obtain ⟨s,hs,rfl⟩:=List.mem_map.1 h
 obtain ⟨h1,h2,h3,h4,h5,y,hy,h6⟩:=zcU hs
 unfold yE at h5
 obtain ⟨w,hw,rfl,_,e,c⟩:=zdb Y18 hy
 have hb:=vD (vJ hw).1
 have c:=ui.1 c
 simp only [Win.v] at c h6
 dsimp only at h1 h2 ⊢
 refine ⟨⟨h1,h2,h3,?_,?_⟩,h4,w,hw,e,Y18,Y18⟩<;>dsimp only<;>rw [e]<;>omega
theorem zho.b {at_ n:Int} {p:Pc} (h:zho at_ n p):p.cnt≤n∧p.cnt≤512∧0≤p.phys∧p.phys≤511∧1≤p.cnt∧0≤p.at_-at_∧p.at_-at_+p.cnt≤n:=by
 have h1:=h.lo;have h2:=h.hi;have h3:=h.one;have h4:=h.ph;have h5:=h.pe
 omega
theorem ze0 (l:List Win) (sp at_ n:Int):(xW l sp at_ n).1.length≤2147483648:=by
 unfold xW
 rw [List.length_map]
 exact zaM _ _
theorem zmg {l:List Win} {sp at_ n:Int} (h:(xW l sp at_ n).2=true):(xW l sp at_ n).1≠[]:=by
 unfold xW at h ⊢
 intro e
 exact zjL h (List.map_eq_nil_iff.1 e)
end Go.Proofs
namespace Go.Proofs
open Go.PM Go
def zh7 (q:Req):Int:=if q.fn=23 then q.wat else q.at_
def zis (q:Req):Int:=if q.fn=5∨q.fn=6∨q.fn=22 then 1 else if q.fn=23 then q.vals.length else q.count
theorem zfX {t:Ten} {q:Req} {p:Pc} (h:p∈(zJ t q).1):zho (zh7 q) (zis q) p:=by
 unfold zJ at h
 unfold zh7 zis
 split at h
 ·cases h
 ·split at h
  ·rename_i h5
   rw [if_neg Y18,if_pos Y18]
   exact (vx h).1
  ·split at h
   ·rename_i h15
    rw [if_neg Y18,if_neg Y18,if_neg Y18]
    exact (vx h).1
   ·split at h
    ·rw [if_neg Y18,if_pos Y18]
     exact (vx h).1
    ·split at h
     ·rename_i h23
      rw [if_pos h23,if_neg Y18,if_pos h23]
      exact (vx h).1
     ·cases h
theorem zex {t:Ten} {q:Req} {p:Pc} (h:p∈(zJ t q).2.1):zho q.at_ (if q.fn=22 then 1 else q.count) p:=by
 unfold zJ at h
 split at h
 ·rw [if_neg Y18]
  exact (vx h).1
 ·split at h
  ·cases h
  ·split at h
   ·cases h
   ·split at h
    ·rename_i h22
     rw [if_pos h22]
     exact (vx h).1
    ·split at h
     ·rw [if_neg Y18]
      exact (vx h).1
     ·cases h
theorem zdd {t:Ten} {q:Req} {p:Pc} (h:p∈(zJ t q).1):q.fn=5∨q.fn=6∨q.fn=15∨q.fn=16∨q.fn=22∨q.fn=23:=by
 unfold zJ at h
 repeat' split at h
 all_goals first | omega | cases h
theorem zjT {t:Ten} {q:Req} {p:Pc} (h:p∈(zJ t q).2.1):1≤q.fn∧q.fn≤4∨q.fn=22∨q.fn=23:=by
 unfold zJ at h
 repeat' split at h
 all_goals first | omega | cases h
theorem zaF (t:Ten) (q:Req):(zJ t q).1.length≤2147483648∧(zJ t q).2.1.length≤2147483648:=by
 unfold zJ
 repeat' split
 all_goals exact ⟨by first | exact ze0 _ _ _ _ | simp,by first | exact ze0 _ _ _ _ | simp⟩
structure zhU (t:Ten) (q:Req):Prop where
 has:Ws t q.fn=true
 r:zD q=0
 c:yu q=true
 ok:(zJ t q).2.2=true
 len:(zJ t q).1.length+(zJ t q).2.1.length≤6
theorem zdQ {t:Ten} {q:Req} (h:xr t q=0):zhU t q:=by
 unfold xr at h
 split at h
 ·cases h
 ·split at h
  ·cases h
  ·split at h
   ·cases h
   ·split at h
    ·cases h
    ·rename_i h1 h2 h3 h4
     simp only [not_or,Classical.not_not,Bool.not_eq_false,Nat.not_lt] at h1 h2 h3 h4
     exact ⟨h1.2,h2.1,h2.2,h3,h4⟩
theorem zc3 (t:Ten) (q:Req):0≤xr t q∧xr t q≤4:=by
 unfold xr
 repeat' split
 all_goals decide
theorem zm8 {t:Ten} {q:Req} (h:xr t q=0) (e:q.fn=22):(zJ t q).2.1≠[]∧(zJ t q).1=(zJ t q).2.1:=by
 have k:=(zdQ h).ok
 have e2:zJ t q=((xW t.wins 3 q.at_ 1).1,xW t.wins 3 q.at_ 1):=by
  unfold zJ
  rw [if_neg Y18,if_neg Y18,if_neg Y18,if_pos e]
 rw [e2] at k ⊢
 exact ⟨zmg k,rfl⟩
structure zai (q:Req):Prop where
 ok:q.ok
 r:zD q=0
 len:(yF q).length≤253
theorem Y76 {p:Prop} (h:p:=by constructor<;>omega):p:=h
theorem Y77 {p:Prop} (h:p:=by dsimp only;omega):p:=h
theorem Xk {fn a n:Int} {bits:List Bool} {vals:List Int} (h:(1≤fn∧fn≤4∧0≤n∧n≤512∧bits=[]∧vals=[])∨(fn=5∧n=0∧bits.length=1∧vals=[])∨(fn=6∧n=0∧bits=[]∧vals.length=1) ∨
  (fn=15∧(bits.length:Int)=n∧n≤512∧vals=[])∨(fn=16∧(vals.length:Int)=n∧n≤123∧bits=[])) (ha:0≤a∧a≤511) (hv:OkW vals):zai ⟨fn,a,n,0,0,bits,vals,0,0⟩:=by
 have lb:bits.length≤512:=by rcases h with ⟨_,_,_,_,rfl,_⟩ | ⟨_,_,h,_⟩ | ⟨_,_,rfl,_⟩ | ⟨_,_,_,_⟩ | ⟨_,_,_,rfl⟩<;>(first | omega |(simp only [List.length_nil];omega))
 have lv:vals.length≤123:=by rcases h with ⟨_,_,_,_,_,rfl⟩ | ⟨_,_,h,rfl⟩ | ⟨_,_,_,_⟩ | ⟨_,_,_,rfl⟩ | ⟨_,_,_,_⟩<;>(first | omega |(simp only [List.length_nil];omega))
 have hf:1≤fn∧fn≤4∨fn=5∨fn=6∨fn=15∨fn=16:=Y18
 have hn:0≤n∧n≤512:=Y18
 have hx:∀ x:Int,-70000≤x∧x≤70000→I64 x:=fun x h=>Y76
 have z16:U16 0:=Y20
 have z64:I64 0:=Y20
 have zw:xD 0=true:=Y19
 refine ⟨⟨hx _ Y77,hx _ Y77,hx _ Y77,z64,z64,hv,z16,z16,Y77,Y77⟩,zgr ⟨?_,?_,?_,?_,?_,?_,?_,?_,?_,?_⟩,?_⟩
 ·exact decide_eq_true Y77
 ·refine decide_eq_true ?_
  dsimp only
  refine ⟨.inl Y18,?_,.inr rfl,.inr rfl,.inr ⟨rfl,rfl⟩⟩
  omega
 ·exact decide_eq_true Y77
 ·exact zw
 ·exact zw
 ·exact decide_eq_true Y77
 ·unfold Zl
  dsimp only
  rcases h with ⟨_,_,_,_,rfl,_⟩ | ⟨rfl,_,h,_⟩ | ⟨rfl,_,rfl,_⟩ | ⟨rfl,h,_,_⟩ | ⟨rfl,_,_,rfl⟩
  ·rw [if_neg Y18,if_neg Y18];rfl
  ·rw [if_pos rfl];omega
  ·rfl
  ·exact h
  ·rfl
 ·unfold uN
  dsimp only
  rcases h with ⟨_,_,_,_,_,rfl⟩ | ⟨rfl,_,_,rfl⟩ | ⟨rfl,_,_,h⟩ | ⟨rfl,_,_,rfl⟩ | ⟨rfl,h,_,_⟩
  ·rw [if_neg Y18,if_neg Y18,if_neg Y18];rfl
  ·rfl
  ·rw [if_pos Y71];omega
  ·rfl
  ·exact h
 ·dsimp only;omega
 ·dsimp only;omega
 ·have h3:=wC vals
  have h4:=xe bits
  unfold yF
  dsimp only
  rw [if_neg Y18,if_neg Y18]
  repeat' split
  all_goals
   simp only [List.length_cons,List.length_append,List.length_nil,h3,h4,show ∀ n,(zx n).length=2 from fun _=>rfl]
   omega
theorem ze7 {fn a n:Int} {p:Pc} (hf:1≤fn∧fn≤4) (h:zho a n p):zai (vI fn p).1:=by
 have:=h.b
 exact Xk (.inl ⟨hf.1,hf.2,Y18,Y18,rfl,rfl⟩) ⟨Y18,Y18⟩ (fun x hx=>absurd hx List.not_mem_nil)
theorem Ye {α:Type} {l:List α} {a n:Int} (h0:0≤a) (h1:0≤n) (h:a+n≤l.length):((l.drop a.toNat).take n.toNat).length=n.toNat:=by
 rw [List.length_take,List.length_drop]
 omega
theorem OkW.cut {l:List Int} (h:OkW l) (a n:Nat):OkW ((l.drop a).take n):=fun x hx=>h x (List.mem_of_mem_drop (List.mem_of_mem_take hx))
theorem zka {t:Ten} {q:Req} (h:zhU t q):(q.fn=15→q.bits.length=q.count)∧(q.fn=16→q.vals.length=q.count∧q.count≤123)∧(q.fn=23→q.vals.length≤121)∧(q.fn=5→q.bits.length=1)∧(q.fn=6→q.vals.length=1)∧(q.fn=8→q.vals.length=1):=by
 have hR:=vF h.r
 have hc:=h.c
 unfold yu at hc
 have hc:=(of_decide_eq_true hc).2
 have nb:=hR.nb
 have nv:=hR.nv
 unfold Zl at nb
 unfold uN at nv
 refine ⟨fun e=>?_,fun e=>?_,fun e=>?_,fun e=>?_,fun e=>?_,fun e=>?_⟩<;>rw [e] at nb nv hc<;>simp at nb nv hc<;>omega
theorem zi1 {t:Ten} {q:Req} {p:Pc} (hq:q.ok) (h:zhU t q) (hp:p∈(zJ t q).1) (h22:¬ q.fn=22):zai (vR q p).1:=by
 have hi:=zfX hp
 have hb:=hi.b
 have hc:=zka h
 have hv:=hq.vals
 have nv:OkW []:=fun x hx=>absurd hx List.not_mem_nil
 unfold zh7 zis at hb
 unfold vR
 dsimp only
 split
 ·rename_i e
  exact Xk (.inr (.inl ⟨rfl,rfl,by have:=hc.2.2.2.1 e;omega,rfl⟩)) ⟨Y18,Y18⟩ nv
 ·split
  ·rename_i e
   exact Xk (.inr (.inr (.inl ⟨rfl,rfl,rfl,by have:=hc.2.2.2.2.1 e;omega⟩))) ⟨Y18,Y18⟩ hv
  ·split
   ·rename_i e
    have:=hc.1 e
    rw [if_neg Y18,if_neg Y18,if_neg Y18] at hb
    refine Xk (.inr (.inr (.inr (.inl ⟨rfl,?_,Y18,rfl⟩)))) ⟨Y18,Y18⟩ nv
    rw [Ye Y18 Y18 Y18]
    omega
   ·split
    ·rename_i e
     have:=hc.2.1 e
     rw [if_neg Y18,if_neg Y18,if_neg Y18] at hb
     refine Xk (.inr (.inr (.inr (.inr ⟨rfl,?_,Y18,rfl⟩)))) ⟨Y18,Y18⟩ (hv.cut _ _)
     rw [Ye Y18 Y18 Y18]
     omega
    ·rename_i n1 n2 n3 n4
     have e:q.fn=23:=by have:=zdd hp;omega
     have:=hc.2.2.1 e
     rw [if_pos e,if_neg Y18,if_pos e] at hb
     refine Xk (.inr (.inr (.inr (.inr ⟨rfl,?_,Y18,rfl⟩)))) ⟨Y18,Y18⟩ (hv.cut _ _)
     rw [Ye Y18 Y18 Y18]
     omega
theorem zmB {t:Ten} {q:Req} {p:Pc} (hp:p∈(zJ t q).2.1) (h22:¬ q.fn=22):1≤(if q.fn=23 then 3 else q.fn)∧(if q.fn=23 then 3 else q.fn)≤4:=by
 have:=zjT hp
 split<;>omega
theorem zmD (v:Int) (q:Req):U16 (Xj v q):=wW _ _ _
theorem zcN {a:Int} {v:Int} (ha:0≤a∧a≤511) (hv:U16 v):zai ⟨6,a,0,0,0,[],[v],0,0⟩ :=
 Xk (.inr (.inr (.inl ⟨rfl,rfl,rfl,rfl⟩))) ha (fun x hx=>by rw [List.mem_singleton] at hx;subst hx;exact hv)
theorem Zw {t:Ten} {q:Req} (h:xr t q=0) (e:q.fn=22):∃ p,(zJ t q).2.1.head? =some p∧zho q.at_ 1 p∧yy t q=([vI 3 p,(⟨6,p.phys,0,0,0,[],[0],0,0⟩,true)],0):=by
 have hn:=(zm8 h e).1
 obtain ⟨p,l,hl⟩:=List.exists_cons_of_ne_nil hn
 refine ⟨p,by rw [hl];rfl,?_,?_⟩
 ·have:=zex (t:=t) (q:=q) (p:=p) (by rw [hl];simp)
  rwa [if_pos e] at this
 ·unfold yy
  rw [if_neg (by rw [h];decide),if_pos e,hl]
  rfl
theorem uv {t:Ten} {q:Req} (h:xr t q=0) (e:¬ q.fn=22):yy t q=((zJ t q).1.map (vR q)++(zJ t q).2.1.map (vI (if q.fn=23 then 3 else q.fn)),0):=by
 unfold yy
 rw [if_neg (by rw [h];decide),if_neg e]
theorem Vv {t:Ten} {q:Req} (h:¬ xr t q=0):yy t q=([],xr t q):=by
 unfold yy
 rw [if_pos h]
theorem zbs (t:Ten) (q:Req):(yy t q).2=xr t q:=by
 by_cases h:xr t q=0
 ·by_cases e:q.fn=22
  ·obtain ⟨p,_,_,e2⟩:=Zw h e
   rw [e2,h]
  ·rw [uv h e,h]
 ·rw [Vv h]
theorem zbn {t:Ten} {q:Req} (hq:q.ok):∀ x∈(yy t q).1,zai x.1:=by
 intro x hx
 by_cases h:xr t q=0
 ·by_cases e:q.fn=22
  ·obtain ⟨p,_,hp,e2⟩:=Zw h e
   rw [e2] at hx
   have hb:=hp.b
   simp only [List.mem_cons,List.not_mem_nil,or_false] at hx
   rcases hx with rfl | rfl
   ·exact ze7 Y19 hp
   ·exact zcN Y18 Y20
  ·rw [uv h e] at hx
   simp only [List.mem_append,List.mem_map] at hx
   rcases hx with ⟨p,hp,rfl⟩ | ⟨p,hp,rfl⟩
   ·exact zi1 hq (zdQ h) hp e
   ·exact ze7 (zmB hp e) (zex hp)
 ·rw [Vv h] at hx
  cases hx
theorem UA (t:Ten) (q:Req):(yy t q).1.length≤6:=by
 by_cases h:xr t q=0
 ·by_cases e:q.fn=22
  ·obtain ⟨p,_,hp,e2⟩:=Zw h e
   rw [e2];simp
  ·rw [uv h e]
   have:=(zdQ h).len
   simp only [List.length_append,List.length_map]
   exact this
 ·rw [Vv h];simp
end Go.Proofs
namespace Go.Proofs
open Go.PM Go
theorem xu:I64 0:=Y20
theorem vS:U16 0:=Y20
theorem vW:OkW []:=fun x hx=>absurd hx List.not_mem_nil
theorem ziL {p:Prop} (h:p:=by show 0*2≤_;decide):p:=h
theorem zjJ {p:Prop} (h:p:=by show 0≤_;decide):p:=h
theorem wX (fn code:Int):(zE fn code).ok:=⟨by show I64 (fn%128);constructor<;>omega,by show I64 (code%256);constructor<;>omega,xu,xu,xu,vW,vS,vS,OkB.nil,zjJ,ziL,zjJ⟩
theorem zdg {r:Rep} (h:yg r=0):r.bits.length≤2040∧r.vals.length≤127:=by
 by_cases hc:r.code=0
 ·have:=WH h hc
  exact ⟨this.mb,this.mv⟩
 ·rw [(zaP h hc).2.2.2.2]
  exact ⟨Nat.zero_le _,Nat.zero_le _⟩
theorem zcO {q:Req} (hq:q.ok) {bits:List Bool} {vals:List Int} (hv:OkW vals) (h1:bits.length≤100000) (h2:vals.length≤100000):(yH q bits vals).ok:=by
 have z:=Nat.zero_le
 have n5:I64 5:=Y20
 have n6:I64 6:=Y20
 have n22:I64 22:=Y20
 unfold yH
 repeat' split
 ·exact ⟨n5,xu,hq.at_,xu,xu,vW,vS,vS,OkB.nil,hq.nb,ziL,z _⟩
 ·exact ⟨n6,xu,hq.at_,xu,xu,hq.vals,vS,vS,OkB.nil,z _,hq.nv,z _⟩
 ·exact ⟨hq.fn,xu,hq.at_,hq.count,xu,vW,vS,vS,OkB.nil,z _,ziL,z _⟩
 ·exact ⟨n22,xu,hq.at_,xu,xu,vW,hq.and_,hq.or_,OkB.nil,z _,ziL,z _⟩
 ·exact ⟨hq.fn,xu,xu,xu,xu,hv,vS,vS,OkB.nil,Y77,Y77,z _⟩
 ·exact wX _ _
theorem zfC {q:Req} (hq:q.ok):∀ {ps:List (Req × Bool)} {l:List Rep} {bits:List Bool} {vals:List Int},(∀ r∈l,r.ok)→OkW vals→bits.length+2040*l.length≤100000→vals.length+127*l.length≤100000→(uQ q ps l bits vals).ok
 | ps,[],bits,vals,_,hv,h1,h2=>by
   cases ps with
   | nil=>exact zcO hq hv zhZ (by simpa using h2)
   | cons x ps=>exact wX _ _
 | [],_::_,bits,vals,_,hv,h1,h2=>zcO hq hv Y18 Y18
 |(x,w)::ps,r::l,bits,vals,hl,hv,h1,h2=>by
  unfold uQ
  split
  ·exact wX _ _
  ·rename_i hg
   have hg:yg r=0:=by
    simp only [not_or,Classical.not_not] at hg
    exact hg.2
   have hn:=zdg hg
   have hr:=hl r Y71
   rw [List.length_cons] at h1 h2
   refine zfC hq (fun y hy=>hl y (by simp [hy])) ?_ ?_ ?_
   ·split
    ·exact hv
    ·exact fun y hy=>(List.mem_append.1 hy).elim (hv y) (hr.vals y)
   ·split
    ·omega
    ·rw [List.length_append];omega
   ·split
    ·omega
    ·rw [List.length_append];omega
theorem zj7 {t:Ten} {q:Req} (hq:q.ok) {l:List Rep} (hl:∀ r∈l,r.ok):(xz t q l).ok:=by
 unfold xz
 split
 ·exact wX _ _
 ·split
  ·exact wX _ _
  ·split
   ·exact wX _ _
   ·have hn:(l.take (yy t q).1.length).length≤6:=by
     rw [List.length_take]
     have:=UA t q
     omega
    exact zfC hq (fun r hr=>hl r (List.mem_of_mem_take hr)) vW (by rw [List.length_nil];omega) (by rw [List.length_nil];omega)
theorem Cn.get_u {c:Cn} {sub n:Int} (h:c.get sub=some n):U16 n:=by
 unfold Cn.get at h
 unfold U16
 repeat' split at h
 all_goals first |(cases h;done) |(have e:=Option.some.inj h;omega)
theorem zoD {p:Prop} (h:p:=by exact ⟨n8,xu,xu,xu,hq.sub,hq.vals,vS,vS,OkB.nil,z _,hq.nv,z _⟩):p:=h
theorem zmS {c:Cn} {q:Req} (hq:q.ok) (unit:Int):(c.doC q unit).1.ok:=by
 have z:=Nat.zero_le
 have n8:I64 8:=Y20
 have n17:I64 17:=Y20
 have e2:0*2≤140737488351232:=Y19
 unfold Cn.doC
 repeat' split
 ·exact wX _ _
 ·exact wX _ _
 ·refine ⟨n17,xu,xu,xu,xu,vW,vS,vS,?_,z _,e2,by show 2≤140737488351232;decide⟩
  intro x hx
  simp only [List.mem_cons,List.not_mem_nil,or_false] at hx
  unfold U8
  omega
 ·exact zoD
 ·exact zoD
 ·exact wX _ _
 ·rename_i n hg _
  exact ⟨n8,xu,xu,xu,hq.sub,fun x hx=>by rw [List.mem_singleton] at hx;subst hx;exact Cn.get_u hg,vS,vS,OkB.nil,z _,by show 1*2≤_;decide,z _⟩
 ·exact wX _ _
end Go.Proofs
namespace Go.PM
open Go
inductive XK (P:Program) (ops:Array Oper) (fx:List Nat) (keys:List (List Bool)) (T:St→List St) (good post:St→Prop) (c:Nat):Nat→List Oper→Env→Env→Prop
 | nil {i e}:XK P ops fx keys T good post c i [] e e
 | cons {i o l e v e'} (tr:List (Nat × Nat)):i≠c→Zk (zX ops.toList []) fx keys i tr=true →
    (∀ X,good X→∀ q∈tr,∀ s s',(T X)[q.1]? =some s→(T X)[q.2]? =some s'→DOp P ops o e s v s')→XK P ops fx keys T good post c (i+1) l (e.put o.dst v) e'→XK P ops fx keys T good post c i (o::l) e e'
 | wild {i o l e v e'} (tr:List (Nat × Nat)):i=c→Zk (zX ops.toList []) fx keys i tr=true →
    (∀ X,good X→∀ q∈tr,∀ s,(T X)[q.1]? =some s→zgY P ops o e s v (fun s'=>∃ Y,post Y∧(T Y)[q.2]? =some s'))→XK P ops fx keys T good post c (i+1) l (e.put o.dst v) e'→XK P ops fx keys T good post c i (o::l) e e'
section
variable {P:Program} {ops:Array Oper} {fx:List Nat} {keys:List (List Bool)} {T:St→List St} {good post:St→Prop} {c:Nat} {e e':Env} {s s' s0:St} {N:Nat} {k:List KI} {rt:Env→St→Prop}
theorem XK.lists:∀ {i l e e'},XK P ops fx keys T good post c i l e e'→(∀ j (o:Oper),l[j]? =some o→ops[i+j]? =some o) →
  ∃ (V:Nat→PV) (E:Nat→Env),E i=e∧E (i+l.length)=e'∧∀ k (o:Oper),i≤k→k<i+l.length→ops[k]? =some o →
   E (k+1)=(E k).put o.dst (V k)∧∃ tr,Zk (zX ops.toList []) fx keys k tr=true ∧
    (k≠c→∀ X,good X→∀ q∈tr,∀ s s',(T X)[q.1]? =some s→(T X)[q.2]? =some s'→DOp P ops o (E k) s (V k) s') ∧
    (k=c→∀ X,good X→∀ q∈tr,∀ s,(T X)[q.1]? =some s→zgY P ops o (E k) s (V k) (fun s'=>∃ Y,post Y∧(T Y)[q.2]? =some s')):=by
 intro i l e e' h
 have step:∀ {i:Nat} {o:Oper} {l:List Oper} {e e':Env} {v:PV} (tr:List (Nat × Nat)),Zk (zX ops.toList []) fx keys i tr=true →
   (i≠c→∀ X,good X→∀ q∈tr,∀ s s',(T X)[q.1]? =some s→(T X)[q.2]? =some s'→DOp P ops o e s v s') →
   (i=c→∀ X,good X→∀ q∈tr,∀ s,(T X)[q.1]? =some s→zgY P ops o e s v (fun s'=>∃ Y,post Y∧(T Y)[q.2]? =some s')) →
   ((∀ j (o:Oper),l[j]? =some o→ops[i+1+j]? =some o)→∃ (V:Nat→PV) (E:Nat→Env),E (i+1)=e.put o.dst v∧E (i+1+l.length)=e'∧∀ k (o:Oper),i+1≤k→k<i+1+l.length→ops[k]? =some o →
   E (k+1)=(E k).put o.dst (V k)∧∃ tr,Zk (zX ops.toList []) fx keys k tr=true ∧
    (k≠c→∀ X,good X→∀ q∈tr,∀ s s',(T X)[q.1]? =some s→(T X)[q.2]? =some s'→DOp P ops o (E k) s (V k) s') ∧
    (k=c→∀ X,good X→∀ q∈tr,∀ s,(T X)[q.1]? =some s→zgY P ops o (E k) s (V k) (fun s'=>∃ Y,post Y∧(T Y)[q.2]? =some s'))) →
   (∀ j (o':Oper),(o::l)[j]? =some o'→ops[i+j]? =some o')→∃ (V:Nat→PV) (E:Nat→Env),E i=e∧E (i+(o::l).length)=e'∧∀ k (o':Oper),i≤k→k<i+(o::l).length→ops[k]? =some o' →
   E (k+1)=(E k).put o'.dst (V k)∧∃ tr,Zk (zX ops.toList []) fx keys k tr=true ∧
    (k≠c→∀ X,good X→∀ q∈tr,∀ s s',(T X)[q.1]? =some s→(T X)[q.2]? =some s'→DOp P ops o' (E k) s (V k) s') ∧
    (k=c→∀ X,good X→∀ q∈tr,∀ s,(T X)[q.1]? =some s→zgY P ops o' (E k) s (V k) (fun s'=>∃ Y,post Y∧(T Y)[q.2]? =some s')):=by
  intro i o l e e' v tr h1 h2 h3 ih hl
  obtain ⟨V,E,a1,a3,a5⟩:=ih zpD
  have h0:ops[i]? =some o:=Y68
  refine ⟨fun k=>if k=i then v else V k,fun k=>if k=i then e else E k,if_pos rfl,?_,?_⟩
  ·exact Y7
  ·intro k o' hk hk2 ho'
   by_cases e1:k=i
   ·subst e1
    rw [h0] at ho';cases ho'
    simp only [if_true,show ¬ (k+1=k) from Y2,if_false]
    rw [a1]
    exact ⟨rfl,tr,h1,h2,h3⟩
   ·exact Y12
 induction h with
 | nil =>
   rename_i i e
   intro hl
   refine ⟨fun _=>.junk,fun _=>e,rfl,rfl,fun k o hk hk2 ho=>?_⟩
   simp at hk2;omega
 | cons tr h0 h1 h2 hd ih=>exact step tr h1 (fun _=>h2) (fun h=>absurd h h0) ih
 | wild tr h0 h1 h2 hd ih=>exact step tr h1 (fun h=>absurd h0 h) (fun _=>h2) ih
def wK (P:Program) (ops:Array Oper) (fx:List Nat) (keys:List (List Bool)) (T:St→List St) (good post:St→Prop) (c i:Nat) (l:List Oper) (e:Env) (K:Env→Prop):Prop:=∃ e',XK P ops fx keys T good post c i l e e'∧K e'
theorem wK.nil {i:Nat} {K:Env→Prop} (h:K e):wK P ops fx keys T good post c i [] e K:=⟨e,.nil,h⟩
theorem Run.drawW {id:Nat} (n:Nat) (fx:List Nat) (keys:List (List Bool)) (T:St→List St) (good post:St→Prop) (c:Nat) (hm:P.follows .mixedOrders=true) (hs:wD ops [] (fun _=>true)=true) (hc:UD ops n=true)
  (hcn:(decide (c<n)&&decide (c<ops.size))=true) (hfx:fx.all (fun k=>decide (k<n)&&decide (k<ops.size))=true) (hlen:∀ X,keys.length=(T X).length) (h0:(keys[0]? ==some (fx.map fun _=>false))=true) (hst:(T s0)[0]? =some s0) (hg0:good s0) (hpg:∀ X,post X→good X) (hfin:zeP fx keys=true)
  (hd:wK P ops fx keys T good post c 0 (ops.toList.take n) e (fun e'=>∀ X sN,post X→(T X)[keys.length-1]? =some sN→zm P N ops (ops.toList.drop n) k e' sN rt)):Run P N (.code (.region id ops true)::k) e s0 rt:=by
 obtain ⟨e',hd,h⟩:=hd
 intro ok
 simp only [okK,okC,Bool.and_eq_true] at ok
 intro _ g w ac hI hE hdf hN2
 obtain ⟨V,E,a1,a3,a5⟩:=hd.lists zo3
 have hlen':(ops.toList.take n).length=min n ops.size:=Y1
 simp only [Nat.zero_add,hlen'] at a3 a5
 have hmin:min n ops.size≤ops.size:=Nat.min_le_right _ _
 simp only [Bool.and_eq_true,decide_eq_true_eq] at hcn
 refine wp_region_any hm ?_
 obtain ⟨hI1,hX1⟩:=wV hI (w.drawn+1)
 have hrepl:∀ k,(Array.replicate ops.size false).getD k false=false:=by
  intro k
  rw [Array.getD_eq_getD_getElem?]
  cases hx:(Array.replicate ops.size false)[k]? with
  | none=>rfl
  | some b=>have:=Array.mem_of_getElem? hx;simp at this;rw [this.2];rfl
 have hnone:∀ (p:Nat→Bool) (n:Nat),zH p (fun k=>(Array.replicate ops.size false).getD k false) n=none:=by
  intro p n
  induction n with
  | zero=>rfl
  | succ n ih=>unfold zH;rw [hrepl,ih];simp
 have hcut:∀ i j,min n ops.size≤j→j<ops.size→i<j→((zX ops.toList []).getD j 0).testBit i=true :=
  fun i j h1 h2 h3=>Zr hc i j Y2 h2 h3
 refine UZ (N:=N) (e0:=e) (V:=V) (E:=E) (g0:=g) (w0:=w) (n:=min n ops.size) (J:=fun L s=>∃ X,good X∧(L c=true→post X)∧∃ p:Nat,keys[p]? =some (fx.map L)∧(T X)[p]? =some s) hmin hcut hs ?_ a1 (fun i o hi ho=>(a5 i o (Nat.zero_le _) hi ho).1)
  ?_ ?_ ops.size _ g s0 _ ac Y1 ?_ ?_ (fun k _=>hrepl k) hI1 hX1 hdf hN2 ?_ ?_
 ·exact Y65
 ·rintro L i o s hi ho ⟨X,hX,hP,p,hp1,hp2⟩ h1 h2 h3
  obtain ⟨_,tr,ht1,ht2,ht3⟩:=a5 i o (Nat.zero_le _) hi ho
  unfold Zk at ht1
  have hpl:p<keys.length:=(List.getElem?_eq_some_iff.1 hp1).1
  have hh:=List.all_eq_true.1 ht1 p (List.mem_range.2 hpl)
  rw [hp1] at hh
  simp only at hh
  rw [zif h1 h2 h3] at hh
  simp only [Bool.not_true,Bool.false_or,List.any_eq_true,Bool.and_eq_true,beq_iff_eq] at hh
  obtain ⟨q,hq,hq1,hq2⟩:=hh
  rw [zfQ] at hq2
  by_cases e1:i=c
  ·refine fun g w a hI hs K Q hK=>ht3 e1 X hX q hq s (by rw [hq1];exact hp2) g w a hI hs K Q fun s1 val w' g' ⟨Y,hY1,hY2⟩=>hK s1 val w' g' ⟨Y,hpg Y hY1,fun _=>hY1,q.2,hq2,hY2⟩
  ·have hql:q.2<(T X).length:=by rw [← hlen X];exact (List.getElem?_eq_some_iff.1 hq2).1
   exact (ht2 e1 X hX q hq s _ (by rw [hq1];exact hp2) (List.getElem?_eq_getElem hql)).toS ⟨X,hX,fun hl=>hP (by have hl:(if c=i then true else L c)=true:=hl;rw [if_neg (fun h=>e1 h.symm)] at hl;exact hl),q.2,hq2,List.getElem?_eq_getElem hql⟩
 ·rintro L g' s w' a' ⟨X,hX,hP,p,hp1,hp2⟩ hall k1 k2 k3 k4 k5
  have hmap:fx.map L=fx.map (fun _=>true):=by
   refine List.map_congr_left fun x hx=>?_
   have hxn:=List.all_eq_true.1 hfx x hx
   simp only [Bool.and_eq_true,decide_eq_true_eq] at hxn
   exact hall x Y2
  have hpe:p=keys.length-1:=by
   unfold zeP at hfin
   have hlp:p<keys.length:=(List.getElem?_eq_some_iff.1 hp1).1
   have:=List.all_eq_true.1 hfin p (List.mem_range.2 hlp)
   rw [hp1,hmap] at this
   simpa using this
  subst hpe
  rw [a3] at k2
  refine zm.eff.wpOps_mono' (fun _ _ _=>Yz.trans k3) (h X s (hP (hall c Y2)) hp2 ?_ ok.2 _ ?_ g' w' a' k1 k2 k4 k5)
  ·exact zn4
  ·exact Y21
 ·exact zjb
 ·exact Y69
 ·exact zi9
 ·refine ⟨s0,hg0,fun h=>?_,0,?_,hst⟩
  ·have h:(Array.replicate ops.size false).getD c false=true:=h
   rw [hrepl] at h;cases h
  rw [beq_iff_eq.1 h0]
  congr 1
  exact List.map_congr_left fun x _=>(hrepl x).symm
theorem XK.pre {ks:List Nat} {s1:St} (hg1:good s1):∀ {pre:List Oper} {l:List Oper} {i:Nat} {e e1 e':Env},(i+pre.length≤c∨c<i)→Xl (zX ops.toList []) fx keys i pre.length ks=true→(∀ X,good X→vN P ops pre e s1 (ks.filterMap fun p=>(T X)[p]?) e1) →
  XK P ops fx keys T good post c (i+pre.length) l e1 e'→XK P ops fx keys T good post c i (pre++l) e e'
 | [],l,i,e,e1,e',_,_,h,hd=>by cases h s1 hg1;exact hd
 | o::pre,l,i,e,e1,e',hic,hk,h,hd=>by
   simp only [List.length_cons] at hk hd hic
   obtain ⟨v,hv,hv',h1⟩:=h s1 hg1
   unfold Xl at hk
   rw [List.range'_succ,List.all_cons,Bool.and_eq_true] at hk
   have same:∀ X,good X→(∀ s∈ks.filterMap fun p=>(T X)[p]?,zal P ops o (Env.keep (zu ops o) e) s=some v)∧vN P ops pre (e.put o.dst v) s1 (ks.filterMap fun p=>(T X)[p]?) e1:=fun X hX=>by
    obtain ⟨v2,hv2,hv2',h2⟩:=h X hX
    rw [hv] at hv2
    cases hv2
    exact ⟨hv2',h2⟩
   refine XK.cons (v:=v) (ks.map fun p=>(p,p)) Y2 hk.1 ?_ ?_
   ·intro X hX q hq s s' k1 k2
    obtain ⟨p,hp,rfl⟩:=List.mem_map.1 hq
    rw [k1] at k2
    cases k2
    exact ZQ ((same X hX).1 s (List.mem_filterMap.2 ⟨p,hp,k1⟩))
   ·refine XK.pre hg1 Y2 hk.2 (fun X hX=>(same X hX).2) ?_
    rw [show i+1+pre.length=i+(pre.length+1) from Y2]
    exact hd
theorem wK.pre {pre l:List Oper} {i:Nat} {e1:Env} {s1:St} {K:Env→Prop} (ks:List Nat) (hg1:good s1) (hic:(decide (i+pre.length≤c)||decide (c<i))=true) (hk:Xl (zX ops.toList []) fx keys i pre.length ks=true)
  (h:∀ X,good X→vN P ops pre e s1 (ks.filterMap fun p=>(T X)[p]?) e1) (hd:wK P ops fx keys T good post c (i+pre.length) l e1 K):wK P ops fx keys T good post c i (pre++l) e K:=by
 obtain ⟨e',h1,h2⟩:=hd
 exact ⟨e',XK.pre hg1 (by simpa using hic) hk h h1,h2⟩
theorem wK.callX {d:Option Nat} {cl:Call} {t:TypeId} {pos:String} {af:Array Edge} {gd:Option (Nat × Bool)} {l:List Oper} {i:Nat} {f:FuncId} {args args':List PV} {v:PV} {K:Env→Prop} (tr:List (Nat × Nat))
  (hi:Nat.beq i c=true) (hk:Zk (zX ops.toList []) fx keys i tr=true)
  (hg:guard? ops ⟨d,.call cl,t,pos,af,gd⟩ (Env.keep (zu ops ⟨d,.call cl,t,pos,af,gd⟩) e)=some true)
  (ha:vn cl (Env.keep (zu ops ⟨d,.call cl,t,pos,af,gd⟩) e)=some (f,args)) (hw:PV.weaks args=args') (hc:zb P f=true)
  (h:∀ X,good X→∀ q∈tr,∀ s,(T X)[q.1]? =some s→za P f args' s fun r s2=>r=v∧∃ Y,post Y∧(T Y)[q.2]? =some s2) (hd:wK P ops fx keys T good post c (i+1) l (e.put d v) K):wK P ops fx keys T good post c i (⟨d,.call cl,t,pos,af,gd⟩::l) e K:=by
 obtain ⟨e',h1,h2⟩:=hd
 refine ⟨e',XK.wild (v:=v) tr (Nat.eq_of_beq_eq_true hi) hk ?_ h1,h2⟩
 subst hw
 intro X hX q hq s hs g w a hI hsl K Q hk
 have hE:=vP hsl
 rw [yR hg hE]
 simp only [if_true]
 obtain ⟨vs,hrun,hra⟩:=wS (P:=P) (o:=⟨d,.call cl,t,pos,af,gd⟩) (a:=a) rfl hE ha hc
 left
 unfold Oper.wp
 rw [hrun,Oper.upon_enter]
 refine (h X hX q hq s hs g w vs hI (we _ _ hra)).mono ?_
 rintro e' w' ⟨v',g',r',s',rfl,hI',hR',hX',rfl,hT⟩
 exact hk s' _ _ _ hT hI' hX' hR'
theorem wK.eff {o:Oper} {l:List Oper} {i:Nat} {v:PV} {K:Env→Prop} (tr:List (Nat × Nat)) (hi:(!Nat.beq i c)=true) (hk:Zk (zX ops.toList []) fx keys i tr=true)
  (hg:guard? ops o (Env.keep (zu ops o) e)=some true) (h:∀ X,good X→∀ q∈vq (T X) tr,uV P o.op (ev (Env.keep (zu ops o) e)) q.1=some (v,q.2))
  (hd:wK P ops fx keys T good post c (i+1) l (e.put o.dst v) K):wK P ops fx keys T good post c i (o::l) e K:=by
 obtain ⟨e',h1,h2⟩:=hd
 refine ⟨e',XK.cons (v:=v) tr (by intro h;subst h;simp at hi) hk ?_ h1,h2⟩
 intro X hX q hq s s' k1 k2
 exact DOp.of_effect hg fun g w a hI hE=>wY hI (fun x=>xE hE x) (h X hX _ (Uj hq k1 k2))
theorem wK.resAlloc {o:Oper} {l:List Oper} {i id:Nat} {t:TypeId} {z:PV} {K:Env→Prop} (tr:List (Nat × Nat)) (hi:(!Nat.beq i c)=true) (hk:Zk (zX ops.toList []) fx keys i tr=true)
  (hg:guard? ops o (Env.keep (zu ops o) e)=some true) (ho:o.op=.alloc t) (hz:zpv P t=some z) (h:∀ X,good X→∀ q∈vq (T X) tr,q.1.blk id=some .res∧q.2=q.1.set id (some (.row t [z])))
  (hd:wK P ops fx keys T good post c (i+1) l (e.put o.dst (.ptr id 0 0)) K):wK P ops fx keys T good post c i (o::l) e K:=by
 obtain ⟨e',h1,h2⟩:=hd
 refine ⟨e',XK.cons (v:=.ptr id 0 0) tr (by intro h;subst h;simp at hi) hk ?_ h1,h2⟩
 intro X hX q hq s s' k1 k2
 have h9:=h X hX _ (Uj hq k1 k2)
 have e9:s'=s.set id (some (.row t [z])):=h9.2
 rw [e9]
 exact DOp.of_effect hg fun g w a hI hE=>YT hI h9.1 ho hz
end
end Go.PM
namespace Go.Proofs
open Go.PM Go
def ZV:Int→Int→List Pc→Prop
 | a,e,[]=>a=e
 | a,e,p::l=>p.at_=a∧1≤p.cnt∧ZV (a+p.cnt) e l
theorem UR {l:List Sp} {e:Int} (hl:∀ s∈l,1≤s.cnt) {f:Sp→Pc} (hf:∀ s,(f s).at_=s.pos∧(f s).cnt=s.cnt):∀ (k:Nat) (x:Int) (out o:List Sp),x≤e→(e-x).toNat≤k→vC l e k x out=some o→∃ o',o=out++o'∧ZV x e (o'.map f)
 | 0,x,out,o,h1,h2,h=>⟨[],by cases h;simp,show x=e from Y18⟩
 | k+1,x,out,o,h1,h2,h=>by
   unfold vC at h
   split at h
   ·rename_i hx
    split at h
    ·cases h
    ·rename_i s hs
     have hc:=ui.1 (List.find?_some hs)
     obtain ⟨o',rfl,h3⟩:=UR hl hf k _ _ _ Y18 Y18 h
     refine ⟨⟨x,min (s.pos+s.cnt) e-x⟩::o',Y71,?_⟩
     rw [List.map_cons]
     have hq:=hf ⟨x,min (s.pos+s.cnt) e-x⟩
     refine ⟨hq.1,by rw [hq.2];dsimp only;omega,?_⟩
     rw [hq.2]
     dsimp only
     rw [show x+(min (s.pos+s.cnt) e-x)=min (s.pos+s.cnt) e from Y18]
     exact h3
   ·rename_i hx
    cases h
    exact ⟨[],Y71,show x=e from Y18⟩
theorem zdf {l:List Win} {sp a n:Int} (h:(xW l sp a n).2=true):ZV a (a+n) (xW l sp a n).1:=by
 unfold xW at h ⊢
 dsimp only at h ⊢
 unfold wh at h ⊢
 split at h
 ·cases h
 ·rename_i g
  rw [if_neg g]
  have h1:=fun q=>g (.inl q)
  have h2:=fun q=>g (.inr q)
  have hs:=yb.1 (show zM ⟨a,n⟩ yE=true from zhZ)
  have hl:=zay h2
  dsimp only at hs
  split at h
  ·cases h
  ·rename_i o ho
   obtain ⟨o',e,q⟩:=UR hl (f:=fun p=>(⟨p.pos,WT (ofW l sp) p.pos,p.cnt⟩:Pc)) (fun s=>⟨rfl,rfl⟩) _ _ _ _ Y77 Y77 ho
   rw [List.nil_append] at e
   subst e
   exact q
theorem ZV.range {e:Int}:∀ {l:List Pc} {a:Int},ZV a e l→a≤e∧∀ p∈l,a≤p.at_∧p.at_+p.cnt≤e
 | [],a,h=>⟨by have h:a=e:=h;omega,fun p hp=>absurd hp List.not_mem_nil⟩
 | p::l,a,h=>by
   obtain ⟨h1,h2,h3⟩:=h
   obtain ⟨k1,k2⟩:=ZV.range h3
   refine ⟨Y18,fun q hq=>?_⟩
   rcases List.mem_cons.1 hq with rfl | hq
   ·exact ⟨Y18,Y18⟩
   ·have:=k2 q hq;exact ⟨Y18,Y18⟩
theorem ZV.find {e:Int}:∀ {l:List Pc} {a:Int},ZV a e l→∀ x,a≤x→x<e→∃ p∈l,p.at_≤x∧x<p.at_+p.cnt
 | [],a,h,x,h1,h2=>by have h:a=e:=h;omega
 | p::l,a,h,x,h1,h2=>by
   obtain ⟨k1,k2,k3⟩:=h
   by_cases hx:x<a+p.cnt
   ·exact ⟨p,Y71,Y18,Y18⟩
   ·obtain ⟨q,hq,h5⟩:=ZV.find k3 x Y18 h2
    exact ⟨q,by simp [hq],h5⟩
theorem ZV.order {e:Int}:∀ {l:List Pc} {a:Int},ZV a e l→l.Pairwise fun p q=>p.at_+p.cnt≤q.at_
 | [],a,h=>List.Pairwise.nil
 | p::l,a,h=>by
   obtain ⟨k1,k2,k3⟩:=h
   exact List.Pairwise.cons (fun q hq=>by have:=(k3.range.2 q hq).1;omega) (ZV.order k3)
theorem WC:∀ {l ahead:List Win},vp ahead l=true→(∀ x∈l,∀ y∈ahead,YW x y=false)∧l.Pairwise fun x y=>YW y x=false
 | [],ahead,h=>⟨fun x hx=>absurd hx List.not_mem_nil,List.Pairwise.nil⟩
 | z::l,ahead,h=>by
   unfold vp at h
   have h:=Bool.and_eq_true_iff.1 h
   obtain ⟨h1,h2⟩:=WC h.2
   have h3:∀ y∈ahead,YW z y=false:=fun y hy=>by
    have:=List.all_eq_true.1 h.1 y hy
    simpa using this
   refine ⟨fun x hx y hy=>?_,List.Pairwise.cons (fun y hy=>h1 y hy z Y71) h2⟩
   rcases List.mem_cons.1 hx with rfl | hx
   ·exact h3 y hy
   ·exact h1 x hx y (by simp [hy])
theorem zba {a b:Sp} (ha:zM a yE=true) (hb:zM b yE=true) (h:ym a b=false):a.pos+a.cnt≤b.pos∨b.pos+b.cnt≤a.pos:=by
 have h1:=yb.1 ha
 have h2:=yb.1 hb
 simp only [ym,ha,hb,Bool.true_and,decide_eq_false_iff_not] at h
 omega
theorem zcG {x y:Win} (hx:yj x=true) (hy:yj y=true) (hs:x.space=y.space) (h:YW x y=false):(x.phys+x.cnt≤y.phys∨y.phys+y.cnt≤x.phys)∧(x.virt+x.cnt≤y.virt∨y.virt+y.cnt≤x.virt):=by
 have h:=Bool.or_eq_false_iff.1 h
 have bx:=vD hx
 have by':=vD hy
 have gp:∀ w:Win,yj w=true→zM w.p yE=true:=fun w hw=>by
  have:=vD hw
  exact yb.2 (by unfold yE Win.p;dsimp only;omega)
 have e1:ym x.p y.p=false:=by
  have h1:=h.1
  unfold Wl at h1
  rw [hx,hy,decide_eq_true hs] at h1
  simpa using h1
 have e2:ym x.v y.v=false:=by
  have h1:=h.2
  unfold Vn at h1
  rw [hx,hy,decide_eq_true hs] at h1
  simpa using h1
 exact ⟨zba (gp x hx) (gp y hy) e1,zba (Zp hx) (Zp hy) e2⟩
theorem zdx {l:List Win} (h:uE l=true) {x y:Win} (hx:x∈l) (hy:y∈l) (rx:yj x=true) (ry:yj y=true) (hs:x.space=y.space):x=y∨((x.phys+x.cnt≤y.phys∨y.phys+y.cnt≤x.phys)∧(x.virt+x.cnt≤y.virt∨y.virt+y.cnt≤x.virt)):=by
 have hp:=(WC h).2
 obtain ⟨i,hi,rfl⟩:=List.getElem_of_mem hx
 obtain ⟨j,hj,rfl⟩:=List.getElem_of_mem hy
 rw [List.pairwise_iff_getElem] at hp
 rcases Nat.lt_trichotomy i j with hlt | rfl | hlt
 ·right
  have:=zcG ry rx hs.symm (hp i j hi hj hlt)
  omega
 ·exact .inl rfl
 ·right
  have:=zcG rx ry hs (hp j i hj hi hlt)
  omega
theorem zeo {l:List Win} (h:uE l=true) {sp a n:Int} (ht:(xW l sp a n).2=true):(xW l sp a n).1.Pairwise fun p q=>p.phys+p.cnt≤q.phys∨q.phys+q.cnt≤p.phys:=by
 have ho:=(zdf ht).order
 refine List.Pairwise.imp_of_mem (fun {p q} hp hq hpq=>?_) ho
 obtain ⟨hp1,_,w,hw,e1,e2,e3⟩:=vx hp
 obtain ⟨hq1,_,v,hv,f1,f2,f3⟩:=vx hq
 have bp:=hp1.one
 have bq:=hq1.one
 have rw':=vJ hw
 have rv:=vJ hv
 rcases zdx h rw'.2.2 rv.2.2 rw'.1 rv.1 (by rw [rw'.2.1,rv.2.1]) with rfl | ⟨g1,g2⟩
 ·omega
 ·omega
theorem zi5 {l:List Win} (h:uE l=true) {sp a n:Int} {p:Pc} (hp:p∈(xW l sp a n).1) {y:Win} (hy:y∈l) (ry:yj y=true) (hs:y.space=sp) {x:Int} (hx:p.at_≤x∧x<p.at_+p.cnt) (hv:y.virt≤x∧x<y.virt+y.cnt):p.phys+(x-p.at_)=y.phys+(x-y.virt):=by
 obtain ⟨hp1,_,w,hw,e1,e2,e3⟩:=vx hp
 have rw':=vJ hw
 rcases zdx h rw'.2.2 hy rw'.1 ry (by rw [rw'.2.1,hs]) with rfl | ⟨g1,g2⟩
 ·omega
 ·omega
theorem zmk {p:Prop} (h:p:=by rw [List.length_append];omega):p:=h
theorem zcB {v x:List Int} {a c:Nat} (h:a+x.length≤v.length):(yi v a x)[c]? =if a≤c∧c<a+x.length then x[c-a]? else v[c]? :=by
 unfold yi
 have ht:(v.take a).length=a:=by rw [List.length_take];omega
 by_cases h1:c<a
 ·rw [if_neg Y18,List.append_assoc,List.getElem?_append_left Y18,List.getElem?_take_of_lt h1]
 ·by_cases h2:c<a+x.length
  ·rw [if_pos ⟨Y18,h2⟩,List.append_assoc,List.getElem?_append_right Y18,ht,List.getElem?_append_left Y18]
  ·rw [if_neg Y18,List.getElem?_append_right zmk,List.length_append,ht,List.getElem?_drop]
   congr 1
   omega
def ptF (w:List Int) (k:Int) (p:Pc):List Int:=(w.drop (p.at_-k).toNat).take p.cnt.toNat
def wrF (w:List Int) (k:Int):List Int→List Pc→List Int
 | v,[]=>v
 | v,p::l=>wrF w k (yi v p.phys.toNat (ptF w k p)) l
structure zag (N:Nat) (w:List Int) (k:Int) (p:Pc):Prop where
 ph:0≤p.phys
 pe:p.phys+p.cnt≤N
 one:1≤p.cnt
 lo:k≤p.at_
 hi:p.at_+p.cnt≤k+w.length
theorem YJ {N:Nat} {w:List Int} {k:Int} {p:Pc} (h:zag N w k p):(ptF w k p).length=p.cnt.toNat:=by
 have h1:=h.lo;have h2:=h.hi;have h3:=h.one
 unfold ptF
 rw [List.length_take,List.length_drop]
 omega
theorem zee {w:List Int} {k:Int}:∀ (l:List Pc) (v:List Int),(∀ p∈l,zag v.length w k p)→(wrF w k v l).length=v.length
 | [],v,h=>rfl
 | p::l,v,h=>by
   have hp:=h p Y71
   have h1:=hp.ph;have h2:=hp.pe;have h3:=hp.one
   have e:(yi v p.phys.toNat (ptF w k p)).length=v.length:=wT (by rw [YJ hp];omega)
   show (wrF w k (yi v p.phys.toNat (ptF w k p)) l).length=_
   rw [zee l _ (fun q hq=>by rw [e];exact h q (by simp [hq])),e]
theorem ze1 {p:Prop} (h:p:=by rw [hl];omega):p:=h
theorem zea {w:List Int} {k:Int} {c:Nat}:∀ (l:List Pc) (v:List Int),(∀ p∈l,zag v.length w k p)→(∀ p∈l,(c:Int)<p.phys∨p.phys+p.cnt≤c)→(wrF w k v l)[c]? =v[c]?
 | [],v,h,ho=>rfl
 | p::l,v,h,ho=>by
   have hp:=h p Y71
   have h1:=hp.ph;have h2:=hp.pe;have h3:=hp.one
   have hl:=YJ hp
   have e:(yi v p.phys.toNat (ptF w k p)).length=v.length:=wT ze1
   show (wrF w k (yi v p.phys.toNat (ptF w k p)) l)[c]? =_
   rw [zea l _ (fun q hq=>by rw [e];exact h q (by simp [hq])) (fun q hq=>ho q (by simp [hq])),zcB ze1,if_neg]
   have:=ho p Y71
   rw [hl]
   omega
theorem zhP {w:List Int} {k:Int} {c:Nat}:∀ (l:List Pc) (v:List Int),(∀ p∈l,zag v.length w k p)→l.Pairwise (fun p q=>p.phys+p.cnt≤q.phys∨q.phys+q.cnt≤p.phys)→∀ p∈l,p.phys≤c→(c:Int)<p.phys+p.cnt→(wrF w k v l)[c]? =w[(p.at_-k+(c-p.phys)).toNat]?
 | [],v,h,hd,p,hp,_,_=>absurd hp List.not_mem_nil
 | q::l,v,h,hd,p,hp,h1,h2=>by
   have hq:=h q Y71
   have q1:=hq.ph;have q2:=hq.pe;have q3:=hq.one;have q4:=hq.lo;have q5:=hq.hi
   have hl:=YJ hq
   have e:(yi v q.phys.toNat (ptF w k q)).length=v.length:=wT ze1
   have hf:∀ z∈l,zag (yi v q.phys.toNat (ptF w k q)).length w k z:=fun z hz=>by rw [e];exact h z (by simp [hz])
   rw [List.pairwise_cons] at hd
   show (wrF w k (yi v q.phys.toNat (ptF w k q)) l)[c]? =_
   rcases List.mem_cons.1 hp with rfl | hp
   ·rw [zea l _ hf (fun z hz=>by have:=hd.1 z hz;have:=(h z (by simp [hz])).one;omega),zcB ze1,if_pos ze1]
    unfold ptF
    rw [List.getElem?_take_of_lt Y18,List.getElem?_drop]
    congr 1
    omega
   ·exact zhP l _ hf hd.2 p hp h1 h2
theorem zgF {w:List Int} {k:Int} {l:List Pc} {v:List Int} (h:∀ p∈l,zag v.length w k p) (hd:l.Pairwise fun p q=>p.phys+p.cnt≤q.phys∨q.phys+q.cnt≤p.phys) {p:Pc} (hp:p∈l):cutF (wrF w k v l) p.phys p.cnt=ptF w k p:=by
 have hf:=h p hp
 have h1:=hf.ph;have h2:=hf.pe;have h3:=hf.one;have h4:=hf.lo;have h5:=hf.hi
 have hl:=zee l v h
 unfold cutF
 rw [if_pos (show zz (wrF w k v l).length p.phys p.cnt=true from decide_eq_true ze1)]
 apply List.ext_getElem?
 intro i
 by_cases hi:i<p.cnt.toNat
 ·rw [List.getElem?_take_of_lt hi,List.getElem?_drop,zhP l v h hd p hp Y18 Y18]
  unfold ptF
  rw [List.getElem?_take_of_lt hi,List.getElem?_drop]
  congr 1
  omega
 ·rw [List.getElem?_eq_none (by rw [List.length_take];omega),List.getElem?_eq_none (by rw [YJ hf];omega)]
theorem zfW {w:List Int} {k e:Int}:∀ {l:List Pc} {a:Int},ZV a e l→k≤a→e=k+w.length→l.flatMap (ptF w k)=w.drop (a-k).toNat
 | [],a,h,h1,h2=>by
   have h:a=e:=h
   rw [List.flatMap_nil,List.drop_eq_nil_of_le Y18]
 | p::l,a,h,h1,h2=>by
   obtain ⟨k1,k2,k3⟩:=h
   have k4:=k3.range.1
   rw [List.flatMap_cons,zfW k3 Y18 h2]
   unfold ptF
   rw [k1,show (a+p.cnt-k).toNat=(a-k).toNat+p.cnt.toNat from Y18,← List.drop_drop,List.take_append_drop]
end Go.Proofs
namespace Go.Proofs
open Go.PM
theorem Y22 {p:Prop} (h:p:=by kernel_rfl):p:=h
@[go_sem] theorem Tryz.td2:td Tryz.prog 2=TD.int Go.IntKind.i64:=Y22
@[go_sem] theorem Tryz.cz2:Tryz.prog.cellsOf 2=1:=Y22
@[go_sem] theorem Tryz.by2:Tryz.prog.bytesOf 2=8:=Y22
@[go_sem] theorem Tryz.ag2:yL Tryz.prog 2=some false:=Y22
@[go_sem] theorem Tryz.zp2:zpv Tryz.prog 2=some (PV.int Go.IntKind.i64 (0)):=Y22
@[go_sem] theorem Tryz.td3:td Tryz.prog 3=TD.int Go.IntKind.i64:=Y22
@[go_sem] theorem Tryz.cz3:Tryz.prog.cellsOf 3=1:=Y22
@[go_sem] theorem Tryz.by3:Tryz.prog.bytesOf 3=8:=Y22
@[go_sem] theorem Tryz.ag3:yL Tryz.prog 3=some false:=Y22
@[go_sem] theorem Tryz.zp3:zpv Tryz.prog 3=some (PV.int Go.IntKind.i64 (0)):=Y22
@[go_sem] theorem Tryz.td4:td Tryz.prog 4=TD.bool:=Y22
@[go_sem] theorem Tryz.cz4:Tryz.prog.cellsOf 4=1:=Y22
@[go_sem] theorem Tryz.by4:Tryz.prog.bytesOf 4=1:=Y22
@[go_sem] theorem Tryz.ag4:yL Tryz.prog 4=some false:=Y22
@[go_sem] theorem Tryz.zp4:zpv Tryz.prog 4=some (PV.bool false):=Y22
@[go_sem] theorem Tryz.td5:td Tryz.prog 5=TD.int Go.IntKind.u8:=Y22
@[go_sem] theorem Tryz.cz5:Tryz.prog.cellsOf 5=1:=Y22
@[go_sem] theorem Tryz.by5:Tryz.prog.bytesOf 5=1:=Y22
@[go_sem] theorem Tryz.ag5:yL Tryz.prog 5=some false:=Y22
@[go_sem] theorem Tryz.zp5:zpv Tryz.prog 5=some (PV.int Go.IntKind.u8 (0)):=Y22
@[go_sem] theorem Tryz.td9:td Tryz.prog 9=TD.str:=Y22
@[go_sem] theorem Tryz.cz9:Tryz.prog.cellsOf 9=1:=Y22
@[go_sem] theorem Tryz.by9:Tryz.prog.bytesOf 9=16:=Y22
@[go_sem] theorem Tryz.ag9:yL Tryz.prog 9=some false:=Y22
@[go_sem] theorem Tryz.zp9:zpv Tryz.prog 9=some (PV.str { data:={ toList:=[] } }):=Y22
@[go_sem] theorem Tryz.td22:td Tryz.prog 22=TD.sl 3:=Y22
@[go_sem] theorem Tryz.cz22:Tryz.prog.cellsOf 22=1:=Y22
@[go_sem] theorem Tryz.by22:Tryz.prog.bytesOf 22=24:=Y22
@[go_sem] theorem Tryz.ag22:yL Tryz.prog 22=some false:=Y22
@[go_sem] theorem Tryz.zp22:zpv Tryz.prog 22=some (PV.sl SK.nil []):=Y22
@[go_sem] theorem Tryz.td23:td Tryz.prog 23=TD.sl 39:=Y22
@[go_sem] theorem Tryz.cz23:Tryz.prog.cellsOf 23=1:=Y22
@[go_sem] theorem Tryz.by23:Tryz.prog.bytesOf 23=24:=Y22
@[go_sem] theorem Tryz.ag23:yL Tryz.prog 23=some false:=Y22
@[go_sem] theorem Tryz.zp23:zpv Tryz.prog 23=some (PV.sl SK.nil []):=Y22
@[go_sem] theorem Tryz.td24:td Tryz.prog 24=TD.int Go.IntKind.u32:=Y22
@[go_sem] theorem Tryz.cz24:Tryz.prog.cellsOf 24=1:=Y22
@[go_sem] theorem Tryz.by24:Tryz.prog.bytesOf 24=4:=Y22
@[go_sem] theorem Tryz.ag24:yL Tryz.prog 24=some false:=Y22
@[go_sem] theorem Tryz.zp24:zpv Tryz.prog 24=some (PV.int Go.IntKind.u32 (0)):=Y22
@[go_sem] theorem Tryz.td25:td Tryz.prog 25=TD.sl 59:=Y22
@[go_sem] theorem Tryz.cz25:Tryz.prog.cellsOf 25=1:=Y22
@[go_sem] theorem Tryz.by25:Tryz.prog.bytesOf 25=24:=Y22
@[go_sem] theorem Tryz.ag25:yL Tryz.prog 25=some false:=Y22
@[go_sem] theorem Tryz.zp25:zpv Tryz.prog 25=some (PV.sl SK.nil []):=Y22
@[go_sem] theorem Tryz.td26:td Tryz.prog 26=TD.sl 117:=Y22
@[go_sem] theorem Tryz.cz26:Tryz.prog.cellsOf 26=1:=Y22
@[go_sem] theorem Tryz.by26:Tryz.prog.bytesOf 26=24:=Y22
@[go_sem] theorem Tryz.ag26:yL Tryz.prog 26=some false:=Y22
@[go_sem] theorem Tryz.zp26:zpv Tryz.prog 26=some (PV.sl SK.nil []):=Y22
@[go_sem] theorem Tryz.td28:td Tryz.prog 28=TD.struct [(0,1,some false),(1,1,some false),(2,1,some false),(3,1,some false),(4,1,some false)]:=Y22
@[go_sem] theorem Tryz.cz28:Tryz.prog.cellsOf 28=5:=Y22
@[go_sem] theorem Tryz.by28:Tryz.prog.bytesOf 28=72:=Y22
@[go_sem] theorem Tryz.ag28:yL Tryz.prog 28=some true:=Y22
@[go_sem] theorem Tryz.zp28:zpv Tryz.prog 28=some (PV.agg [PV.int Go.IntKind.i64 (0),PV.int Go.IntKind.u32 (0),PV.int Go.IntKind.i64 (0),PV.sl SK.nil [],PV.sl SK.nil []]):=Y22
@[go_sem] theorem Tryz.sp28:xh Tryz.prog 28=some [(0,1),(1,1),(2,1),(3,1),(4,1)]:=Y22
@[go_sem] theorem Tryz.fs28:yC Tryz.prog 28=some [TD.int Go.IntKind.i64,TD.int Go.IntKind.u32,TD.int Go.IntKind.i64,TD.sl 59,TD.sl 117]:=Y22
@[go_sem] theorem Tryz.td30:td Tryz.prog 30=TD.ptr 86:=Y22
@[go_sem] theorem Tryz.cz30:Tryz.prog.cellsOf 30=1:=Y22
@[go_sem] theorem Tryz.by30:Tryz.prog.bytesOf 30=8:=Y22
@[go_sem] theorem Tryz.ag30:yL Tryz.prog 30=some false:=Y22
@[go_sem] theorem Tryz.zp30:zpv Tryz.prog 30=some PV.nilp:=Y22
@[go_sem] theorem Tryz.td32:td Tryz.prog 32=TD.ptr 89:=Y22
@[go_sem] theorem Tryz.cz32:Tryz.prog.cellsOf 32=1:=Y22
@[go_sem] theorem Tryz.by32:Tryz.prog.bytesOf 32=8:=Y22
@[go_sem] theorem Tryz.ag32:yL Tryz.prog 32=some false:=Y22
@[go_sem] theorem Tryz.zp32:zpv Tryz.prog 32=some PV.nilp:=Y22
@[go_sem] theorem Tryz.td34:td Tryz.prog 34=TD.ptr 92:=Y22
@[go_sem] theorem Tryz.cz34:Tryz.prog.cellsOf 34=1:=Y22
@[go_sem] theorem Tryz.by34:Tryz.prog.bytesOf 34=8:=Y22
@[go_sem] theorem Tryz.ag34:yL Tryz.prog 34=some false:=Y22
@[go_sem] theorem Tryz.zp34:zpv Tryz.prog 34=some PV.nilp:=Y22
@[go_sem] theorem Tryz.td37:td Tryz.prog 37=TD.ptr 121:=Y22
@[go_sem] theorem Tryz.cz37:Tryz.prog.cellsOf 37=1:=Y22
@[go_sem] theorem Tryz.by37:Tryz.prog.bytesOf 37=8:=Y22
@[go_sem] theorem Tryz.ag37:yL Tryz.prog 37=some false:=Y22
@[go_sem] theorem Tryz.zp37:zpv Tryz.prog 37=some PV.nilp:=Y22
@[go_sem] theorem Tryz.td39:td Tryz.prog 39=TD.int Go.IntKind.u16:=Y22
@[go_sem] theorem Tryz.cz39:Tryz.prog.cellsOf 39=1:=Y22
@[go_sem] theorem Tryz.by39:Tryz.prog.bytesOf 39=2:=Y22
@[go_sem] theorem Tryz.ag39:yL Tryz.prog 39=some false:=Y22
@[go_sem] theorem Tryz.zp39:zpv Tryz.prog 39=some (PV.int Go.IntKind.u16 (0)):=Y22
@[go_sem] theorem Tryz.td41:td Tryz.prog 41=TD.sl 5:=Y22
@[go_sem] theorem Tryz.cz41:Tryz.prog.cellsOf 41=1:=Y22
@[go_sem] theorem Tryz.by41:Tryz.prog.bytesOf 41=24:=Y22
@[go_sem] theorem Tryz.ag41:yL Tryz.prog 41=some false:=Y22
@[go_sem] theorem Tryz.zp41:zpv Tryz.prog 41=some (PV.sl SK.nil []):=Y22
@[go_sem] theorem Tryz.td42:td Tryz.prog 42=TD.int Go.IntKind.i64:=Y22
@[go_sem] theorem Tryz.cz42:Tryz.prog.cellsOf 42=1:=Y22
@[go_sem] theorem Tryz.by42:Tryz.prog.bytesOf 42=8:=Y22
@[go_sem] theorem Tryz.ag42:yL Tryz.prog 42=some false:=Y22
@[go_sem] theorem Tryz.zp42:zpv Tryz.prog 42=some (PV.int Go.IntKind.i64 (0)):=Y22
@[go_sem] theorem Tryz.td45:td Tryz.prog 45=TD.sl 4:=Y22
@[go_sem] theorem Tryz.cz45:Tryz.prog.cellsOf 45=1:=Y22
@[go_sem] theorem Tryz.by45:Tryz.prog.bytesOf 45=24:=Y22
@[go_sem] theorem Tryz.ag45:yL Tryz.prog 45=some false:=Y22
@[go_sem] theorem Tryz.zp45:zpv Tryz.prog 45=some (PV.sl SK.nil []):=Y22
@[go_sem] theorem Tryz.td47:td Tryz.prog 47=TD.struct [(0,1,some false),(1,1,some false),(2,1,some false),(3,1,some false),(4,1,some false),(5,1,some false),(6,1,some false),(7,1,some false),(8,1,some false)]:=Y22
@[go_sem] theorem Tryz.cz47:Tryz.prog.cellsOf 47=9:=Y22
@[go_sem] theorem Tryz.by47:Tryz.prog.bytesOf 47=96:=Y22
@[go_sem] theorem Tryz.ag47:yL Tryz.prog 47=some true:=Y22
@[go_sem] theorem Tryz.zp47:zpv Tryz.prog 47=some (PV.agg [PV.int Go.IntKind.i64 (0),PV.int Go.IntKind.i64 (0),PV.int Go.IntKind.i64 (0),PV.int Go.IntKind.i64 (0),PV.int Go.IntKind.i64 (0),PV.sl SK.nil [],PV.sl SK.nil [],PV.int Go.IntKind.u16 (0),PV.int Go.IntKind.u16 (0)]):=Y22
@[go_sem] theorem Tryz.sp47:xh Tryz.prog 47=some [(0,1),(1,1),(2,1),(3,1),(4,1),(5,1),(6,1),(7,1),(8,1)]:=Y22
@[go_sem] theorem Tryz.fs47:yC Tryz.prog 47=some [TD.int Go.IntKind.i64,TD.int Go.IntKind.i64,TD.int Go.IntKind.i64,TD.int Go.IntKind.i64,TD.int Go.IntKind.i64,TD.sl 4,TD.sl 39,TD.int Go.IntKind.u16,TD.int Go.IntKind.u16]:=Y22
@[go_sem] theorem Tryz.td49:td Tryz.prog 49=TD.struct [(0,1,some false),(1,1,some false),(2,1,some false)]:=Y22
@[go_sem] theorem Tryz.cz49:Tryz.prog.cellsOf 49=3:=Y22
@[go_sem] theorem Tryz.by49:Tryz.prog.bytesOf 49=40:=Y22
@[go_sem] theorem Tryz.ag49:yL Tryz.prog 49=some true:=Y22
@[go_sem] theorem Tryz.zp49:zpv Tryz.prog 49=some (PV.agg [PV.int Go.IntKind.i64 (0),PV.int Go.IntKind.i64 (0),PV.sl SK.nil []]):=Y22
@[go_sem] theorem Tryz.sp49:xh Tryz.prog 49=some [(0,1),(1,1),(2,1)]:=Y22
@[go_sem] theorem Tryz.fs49:yC Tryz.prog 49=some [TD.int Go.IntKind.i64,TD.int Go.IntKind.i64,TD.sl 5]:=Y22
@[go_sem] theorem Tryz.td52:td Tryz.prog 52=TD.struct [(0,1,some false),(1,1,some false),(2,1,some false),(3,1,some false),(4,1,some false),(5,1,some false),(6,1,some false),(7,1,some false),(8,1,some false),(9,1,some false)]:=Y22
@[go_sem] theorem Tryz.cz52:Tryz.prog.cellsOf 52=10:=Y22
@[go_sem] theorem Tryz.by52:Tryz.prog.bytesOf 52=120:=Y22
@[go_sem] theorem Tryz.ag52:yL Tryz.prog 52=some true:=Y22
@[go_sem] theorem Tryz.zp52:zpv Tryz.prog 52=some (PV.agg [PV.int Go.IntKind.i64 (0),PV.int Go.IntKind.i64 (0),PV.int Go.IntKind.i64 (0),PV.int Go.IntKind.i64 (0),PV.int Go.IntKind.i64 (0),PV.sl SK.nil [],PV.sl SK.nil [],PV.int Go.IntKind.u16 (0),PV.int Go.IntKind.u16 (0),PV.sl SK.nil []]):=Y22
@[go_sem] theorem Tryz.sp52:xh Tryz.prog 52=some [(0,1),(1,1),(2,1),(3,1),(4,1),(5,1),(6,1),(7,1),(8,1),(9,1)]:=Y22
@[go_sem] theorem Tryz.fs52:yC Tryz.prog 52=some [TD.int Go.IntKind.i64,TD.int Go.IntKind.i64,TD.int Go.IntKind.i64,TD.int Go.IntKind.i64,TD.int Go.IntKind.i64,TD.sl 4,TD.sl 39,TD.int Go.IntKind.u16,TD.int Go.IntKind.u16,TD.sl 5]:=Y22
@[go_sem] theorem Tryz.td59:td Tryz.prog 59=TD.struct [(0,1,some false),(1,1,some false),(2,1,some false),(3,1,some false)]:=Y22
@[go_sem] theorem Tryz.cz59:Tryz.prog.cellsOf 59=4:=Y22
@[go_sem] theorem Tryz.by59:Tryz.prog.bytesOf 59=32:=Y22
@[go_sem] theorem Tryz.ag59:yL Tryz.prog 59=some true:=Y22
@[go_sem] theorem Tryz.zp59:zpv Tryz.prog 59=some (PV.agg [PV.int Go.IntKind.i64 (0),PV.int Go.IntKind.i64 (0),PV.int Go.IntKind.i64 (0),PV.int Go.IntKind.i64 (0)]):=Y22
@[go_sem] theorem Tryz.sp59:xh Tryz.prog 59=some [(0,1),(1,1),(2,1),(3,1)]:=Y22
@[go_sem] theorem Tryz.fs59:yC Tryz.prog 59=some [TD.int Go.IntKind.i64,TD.int Go.IntKind.i64,TD.int Go.IntKind.i64,TD.int Go.IntKind.i64]:=Y22
@[go_sem] theorem Tryz.td62:td Tryz.prog 62=TD.sl 70:=Y22
@[go_sem] theorem Tryz.cz62:Tryz.prog.cellsOf 62=1:=Y22
@[go_sem] theorem Tryz.by62:Tryz.prog.bytesOf 62=24:=Y22
@[go_sem] theorem Tryz.ag62:yL Tryz.prog 62=some false:=Y22
@[go_sem] theorem Tryz.zp62:zpv Tryz.prog 62=some (PV.sl SK.nil []):=Y22
@[go_sem] theorem Tryz.td63:td Tryz.prog 63=TD.ptr 112:=Y22
@[go_sem] theorem Tryz.cz63:Tryz.prog.cellsOf 63=1:=Y22
@[go_sem] theorem Tryz.by63:Tryz.prog.bytesOf 63=8:=Y22
@[go_sem] theorem Tryz.ag63:yL Tryz.prog 63=some false:=Y22
@[go_sem] theorem Tryz.zp63:zpv Tryz.prog 63=some PV.nilp:=Y22
@[go_sem] theorem Tryz.td65:td Tryz.prog 65=TD.ptr 67:=Y22
@[go_sem] theorem Tryz.cz65:Tryz.prog.cellsOf 65=1:=Y22
@[go_sem] theorem Tryz.by65:Tryz.prog.bytesOf 65=8:=Y22
@[go_sem] theorem Tryz.ag65:yL Tryz.prog 65=some false:=Y22
@[go_sem] theorem Tryz.zp65:zpv Tryz.prog 65=some PV.nilp:=Y22
@[go_sem] theorem Tryz.td67:td Tryz.prog 67=TD.struct [(0,1,some false),(1,1,some false)]:=Y22
@[go_sem] theorem Tryz.cz67:Tryz.prog.cellsOf 67=2:=Y22
@[go_sem] theorem Tryz.by67:Tryz.prog.bytesOf 67=32:=Y22
@[go_sem] theorem Tryz.ag67:yL Tryz.prog 67=some true:=Y22
@[go_sem] theorem Tryz.zp67:zpv Tryz.prog 67=some (PV.agg [PV.sl SK.nil [],PV.int Go.IntKind.i64 (0)]):=Y22
@[go_sem] theorem Tryz.sp67:xh Tryz.prog 67=some [(0,1),(1,1)]:=Y22
@[go_sem] theorem Tryz.fs67:yC Tryz.prog 67=some [TD.sl 3,TD.int Go.IntKind.i64]:=Y22
@[go_sem] theorem Tryz.td70:td Tryz.prog 70=TD.struct [(0,1,some false),(1,1,some false),(2,1,some false),(3,1,some false)]:=Y22
@[go_sem] theorem Tryz.cz70:Tryz.prog.cellsOf 70=4:=Y22
@[go_sem] theorem Tryz.by70:Tryz.prog.bytesOf 70=48:=Y22
@[go_sem] theorem Tryz.ag70:yL Tryz.prog 70=some true:=Y22
@[go_sem] theorem Tryz.zp70:zpv Tryz.prog 70=some (PV.agg [PV.int Go.IntKind.i64 (0),PV.int Go.IntKind.i64 (0),PV.bool false,PV.sl SK.nil []]):=Y22
@[go_sem] theorem Tryz.sp70:xh Tryz.prog 70=some [(0,1),(1,1),(2,1),(3,1)]:=Y22
@[go_sem] theorem Tryz.fs70:yC Tryz.prog 70=some [TD.int Go.IntKind.i64,TD.int Go.IntKind.i64,TD.bool,TD.sl 5]:=Y22
@[go_sem] theorem Tryz.td75:td Tryz.prog 75=TD.sl 78:=Y22
@[go_sem] theorem Tryz.cz75:Tryz.prog.cellsOf 75=1:=Y22
@[go_sem] theorem Tryz.by75:Tryz.prog.bytesOf 75=24:=Y22
@[go_sem] theorem Tryz.ag75:yL Tryz.prog 75=some false:=Y22
@[go_sem] theorem Tryz.zp75:zpv Tryz.prog 75=some (PV.sl SK.nil []):=Y22
@[go_sem] theorem Tryz.td78:td Tryz.prog 78=TD.struct [(0,1,some false),(1,1,some false),(2,1,some false)]:=Y22
@[go_sem] theorem Tryz.cz78:Tryz.prog.cellsOf 78=3:=Y22
@[go_sem] theorem Tryz.by78:Tryz.prog.bytesOf 78=40:=Y22
@[go_sem] theorem Tryz.ag78:yL Tryz.prog 78=some true:=Y22
@[go_sem] theorem Tryz.zp78:zpv Tryz.prog 78=some (PV.agg [PV.int Go.IntKind.i64 (0),PV.int Go.IntKind.i64 (0),PV.sl SK.nil []]):=Y22
@[go_sem] theorem Tryz.sp78:xh Tryz.prog 78=some [(0,1),(1,1),(2,1)]:=Y22
@[go_sem] theorem Tryz.fs78:yC Tryz.prog 78=some [TD.int Go.IntKind.i64,TD.int Go.IntKind.i64,TD.sl 5]:=Y22
@[go_sem] theorem Tryz.td80:td Tryz.prog 80=TD.sl 28:=Y22
@[go_sem] theorem Tryz.cz80:Tryz.prog.cellsOf 80=1:=Y22
@[go_sem] theorem Tryz.by80:Tryz.prog.bytesOf 80=24:=Y22
@[go_sem] theorem Tryz.ag80:yL Tryz.prog 80=some false:=Y22
@[go_sem] theorem Tryz.zp80:zpv Tryz.prog 80=some (PV.sl SK.nil []):=Y22
@[go_sem] theorem Tryz.td82:td Tryz.prog 82=TD.struct [(0,1,some false),(1,1,some false)]:=Y22
@[go_sem] theorem Tryz.cz82:Tryz.prog.cellsOf 82=2:=Y22
@[go_sem] theorem Tryz.by82:Tryz.prog.bytesOf 82=32:=Y22
@[go_sem] theorem Tryz.ag82:yL Tryz.prog 82=some true:=Y22
@[go_sem] theorem Tryz.zp82:zpv Tryz.prog 82=some (PV.agg [PV.int Go.IntKind.i64 (0),PV.sl SK.nil []]):=Y22
@[go_sem] theorem Tryz.sp82:xh Tryz.prog 82=some [(0,1),(1,1)]:=Y22
@[go_sem] theorem Tryz.fs82:yC Tryz.prog 82=some [TD.int Go.IntKind.i64,TD.sl 28]:=Y22
@[go_sem] theorem Tryz.td84:td Tryz.prog 84=TD.arr 4 22:=Y22
@[go_sem] theorem Tryz.cz84:Tryz.prog.cellsOf 84=4:=Y22
@[go_sem] theorem Tryz.by84:Tryz.prog.bytesOf 84=96:=Y22
@[go_sem] theorem Tryz.ag84:yL Tryz.prog 84=some true:=Y22
@[go_sem] theorem Tryz.zp84:zpv Tryz.prog 84=some (PV.agg [PV.sl SK.nil [],PV.sl SK.nil [],PV.sl SK.nil [],PV.sl SK.nil []]):=Y22
@[go_sem] theorem Tryz.td86:td Tryz.prog 86=TD.struct [(0,1,some false),(1,4,some true),(5,1,some false)]:=Y22
@[go_sem] theorem Tryz.cz86:Tryz.prog.cellsOf 86=6:=Y22
@[go_sem] theorem Tryz.by86:Tryz.prog.bytesOf 86=128:=Y22
@[go_sem] theorem Tryz.ag86:yL Tryz.prog 86=some true:=Y22
@[go_sem] theorem Tryz.zp86:zpv Tryz.prog 86=some (PV.agg [PV.nilp,PV.sl SK.nil [],PV.sl SK.nil [],PV.sl SK.nil [],PV.sl SK.nil [],PV.sl SK.nil []]):=Y22
@[go_sem] theorem Tryz.sp86:xh Tryz.prog 86=some [(0,1),(1,4),(5,1)]:=Y22
@[go_sem] theorem Tryz.td89:td Tryz.prog 89=TD.struct [(0,1,some false),(1,1,some false),(2,1,some false),(3,1,some false)]:=Y22
@[go_sem] theorem Tryz.cz89:Tryz.prog.cellsOf 89=4:=Y22
@[go_sem] theorem Tryz.by89:Tryz.prog.bytesOf 89=32:=Y22
@[go_sem] theorem Tryz.ag89:yL Tryz.prog 89=some true:=Y22
@[go_sem] theorem Tryz.zp89:zpv Tryz.prog 89=some (PV.agg [PV.nilp,PV.int Go.IntKind.u8 (0),PV.int Go.IntKind.i64 (0),PV.int Go.IntKind.i64 (0)]):=Y22
@[go_sem] theorem Tryz.sp89:xh Tryz.prog 89=some [(0,1),(1,1),(2,1),(3,1)]:=Y22
@[go_sem] theorem Tryz.fs89:yC Tryz.prog 89=some [TD.ptr 121,TD.int Go.IntKind.u8,TD.int Go.IntKind.i64,TD.int Go.IntKind.i64]:=Y22
@[go_sem] theorem Tryz.td92:td Tryz.prog 92=TD.struct [(0,5,some true),(5,1,some false),(6,1,some false),(7,1,some false)]:=Y22
@[go_sem] theorem Tryz.cz92:Tryz.prog.cellsOf 92=8:=Y22
@[go_sem] theorem Tryz.by92:Tryz.prog.bytesOf 92=96:=Y22
@[go_sem] theorem Tryz.ag92:yL Tryz.prog 92=some true:=Y22
@[go_sem] theorem Tryz.zp92:zpv Tryz.prog 92=some (PV.agg [PV.int Go.IntKind.i64 (0),PV.int Go.IntKind.u32 (0),PV.int Go.IntKind.i64 (0),PV.sl SK.nil [],PV.sl SK.nil [],PV.int Go.IntKind.i64 (0),PV.nilp,PV.nilp]):=Y22
@[go_sem] theorem Tryz.sp92:xh Tryz.prog 92=some [(0,5),(5,1),(6,1),(7,1)]:=Y22
@[go_sem] theorem Tryz.td112:td Tryz.prog 112=TD.struct [(0,1,some false),(1,1,some false),(2,1,some false)]:=Y22
@[go_sem] theorem Tryz.cz112:Tryz.prog.cellsOf 112=3:=Y22
@[go_sem] theorem Tryz.by112:Tryz.prog.bytesOf 112=24:=Y22
@[go_sem] theorem Tryz.ag112:yL Tryz.prog 112=some true:=Y22
@[go_sem] theorem Tryz.zp112:zpv Tryz.prog 112=some (PV.agg [PV.int Go.IntKind.i64 (0),PV.int Go.IntKind.i64 (0),PV.int Go.IntKind.i64 (0)]):=Y22
@[go_sem] theorem Tryz.sp112:xh Tryz.prog 112=some [(0,1),(1,1),(2,1)]:=Y22
@[go_sem] theorem Tryz.fs112:yC Tryz.prog 112=some [TD.int Go.IntKind.i64,TD.int Go.IntKind.i64,TD.int Go.IntKind.i64]:=Y22
@[go_sem] theorem Tryz.td113:td Tryz.prog 113=TD.fn:=Y22
@[go_sem] theorem Tryz.cz113:Tryz.prog.cellsOf 113=1:=Y22
@[go_sem] theorem Tryz.by113:Tryz.prog.bytesOf 113=8:=Y22
@[go_sem] theorem Tryz.ag113:yL Tryz.prog 113=some false:=Y22
@[go_sem] theorem Tryz.zp113:zpv Tryz.prog 113=some PV.nilf:=Y22
@[go_sem] theorem Tryz.td114:td Tryz.prog 114=TD.int Go.IntKind.u64:=Y22
@[go_sem] theorem Tryz.cz114:Tryz.prog.cellsOf 114=1:=Y22
@[go_sem] theorem Tryz.by114:Tryz.prog.bytesOf 114=8:=Y22
@[go_sem] theorem Tryz.ag114:yL Tryz.prog 114=some false:=Y22
@[go_sem] theorem Tryz.zp114:zpv Tryz.prog 114=some (PV.int Go.IntKind.u64 (0)):=Y22
@[go_sem] theorem Tryz.td117:td Tryz.prog 117=TD.struct [(0,1,some false),(1,1,some false)]:=Y22
@[go_sem] theorem Tryz.cz117:Tryz.prog.cellsOf 117=2:=Y22
@[go_sem] theorem Tryz.by117:Tryz.prog.bytesOf 117=16:=Y22
@[go_sem] theorem Tryz.ag117:yL Tryz.prog 117=some true:=Y22
@[go_sem] theorem Tryz.zp117:zpv Tryz.prog 117=some (PV.agg [PV.int Go.IntKind.i64 (0),PV.int Go.IntKind.i64 (0)]):=Y22
@[go_sem] theorem Tryz.sp117:xh Tryz.prog 117=some [(0,1),(1,1)]:=Y22
@[go_sem] theorem Tryz.fs117:yC Tryz.prog 117=some [TD.int Go.IntKind.i64,TD.int Go.IntKind.i64]:=Y22
@[go_sem] theorem Tryz.td118:td Tryz.prog 118=TD.arr 2 45:=Y22
@[go_sem] theorem Tryz.cz118:Tryz.prog.cellsOf 118=2:=Y22
@[go_sem] theorem Tryz.by118:Tryz.prog.bytesOf 118=48:=Y22
@[go_sem] theorem Tryz.ag118:yL Tryz.prog 118=some true:=Y22
@[go_sem] theorem Tryz.zp118:zpv Tryz.prog 118=some (PV.agg [PV.sl SK.nil [],PV.sl SK.nil []]):=Y22
@[go_sem] theorem Tryz.td119:td Tryz.prog 119=TD.arr 2 23:=Y22
@[go_sem] theorem Tryz.cz119:Tryz.prog.cellsOf 119=2:=Y22
@[go_sem] theorem Tryz.by119:Tryz.prog.bytesOf 119=48:=Y22
@[go_sem] theorem Tryz.ag119:yL Tryz.prog 119=some true:=Y22
@[go_sem] theorem Tryz.zp119:zpv Tryz.prog 119=some (PV.agg [PV.sl SK.nil [],PV.sl SK.nil []]):=Y22
@[go_sem] theorem Tryz.td121:td Tryz.prog 121=TD.struct [(0,2,some true),(2,2,some true)]:=Y22
@[go_sem] theorem Tryz.cz121:Tryz.prog.cellsOf 121=4:=Y22
@[go_sem] theorem Tryz.by121:Tryz.prog.bytesOf 121=96:=Y22
@[go_sem] theorem Tryz.ag121:yL Tryz.prog 121=some true:=Y22
@[go_sem] theorem Tryz.zp121:zpv Tryz.prog 121=some (PV.agg [PV.sl SK.nil [],PV.sl SK.nil [],PV.sl SK.nil [],PV.sl SK.nil []]):=Y22
@[go_sem] theorem Tryz.sp121:xh Tryz.prog 121=some [(0,2),(2,2)]:=Y22
@[go_sem] theorem Tryz.td132:td Tryz.prog 132=TD.sl 157:=Y22
@[go_sem] theorem Tryz.cz132:Tryz.prog.cellsOf 132=1:=Y22
@[go_sem] theorem Tryz.by132:Tryz.prog.bytesOf 132=24:=Y22
@[go_sem] theorem Tryz.ag132:yL Tryz.prog 132=some false:=Y22
@[go_sem] theorem Tryz.zp132:zpv Tryz.prog 132=some (PV.sl SK.nil []):=Y22
@[go_sem] theorem Tryz.td137:td Tryz.prog 137=TD.sl 52:=Y22
@[go_sem] theorem Tryz.cz137:Tryz.prog.cellsOf 137=1:=Y22
@[go_sem] theorem Tryz.by137:Tryz.prog.bytesOf 137=24:=Y22
@[go_sem] theorem Tryz.ag137:yL Tryz.prog 137=some false:=Y22
@[go_sem] theorem Tryz.zp137:zpv Tryz.prog 137=some (PV.sl SK.nil []):=Y22
@[go_sem] theorem Tryz.td145:td Tryz.prog 145=TD.arr 4 3:=Y22
@[go_sem] theorem Tryz.cz145:Tryz.prog.cellsOf 145=4:=Y22
@[go_sem] theorem Tryz.by145:Tryz.prog.bytesOf 145=32:=Y22
@[go_sem] theorem Tryz.ag145:yL Tryz.prog 145=some true:=Y22
@[go_sem] theorem Tryz.zp145:zpv Tryz.prog 145=some (PV.agg [PV.int Go.IntKind.i64 (0),PV.int Go.IntKind.i64 (0),PV.int Go.IntKind.i64 (0),PV.int Go.IntKind.i64 (0)]):=Y22
@[go_sem] theorem Tryz.td151:td Tryz.prog 151=TD.sl 155:=Y22
@[go_sem] theorem Tryz.cz151:Tryz.prog.cellsOf 151=1:=Y22
@[go_sem] theorem Tryz.by151:Tryz.prog.bytesOf 151=24:=Y22
@[go_sem] theorem Tryz.ag151:yL Tryz.prog 151=some false:=Y22
@[go_sem] theorem Tryz.zp151:zpv Tryz.prog 151=some (PV.sl SK.nil []):=Y22
@[go_sem] theorem Tryz.td155:td Tryz.prog 155=TD.struct [(0,1,some false),(1,1,some false),(2,1,some false)]:=Y22
@[go_sem] theorem Tryz.cz155:Tryz.prog.cellsOf 155=3:=Y22
@[go_sem] theorem Tryz.by155:Tryz.prog.bytesOf 155=24:=Y22
@[go_sem] theorem Tryz.ag155:yL Tryz.prog 155=some true:=Y22
@[go_sem] theorem Tryz.zp155:zpv Tryz.prog 155=some (PV.agg [PV.int Go.IntKind.i64 (0),PV.int Go.IntKind.i64 (0),PV.int Go.IntKind.i64 (0)]):=Y22
@[go_sem] theorem Tryz.sp155:xh Tryz.prog 155=some [(0,1),(1,1),(2,1)]:=Y22
@[go_sem] theorem Tryz.fs155:yC Tryz.prog 155=some [TD.int Go.IntKind.i64,TD.int Go.IntKind.i64,TD.int Go.IntKind.i64]:=Y22
@[go_sem] theorem Tryz.td157:td Tryz.prog 157=TD.struct [(0,9,some true),(9,1,some false)]:=Y22
@[go_sem] theorem Tryz.cz157:Tryz.prog.cellsOf 157=10:=Y22
@[go_sem] theorem Tryz.by157:Tryz.prog.bytesOf 157=104:=Y22
@[go_sem] theorem Tryz.ag157:yL Tryz.prog 157=some true:=Y22
@[go_sem] theorem Tryz.zp157:zpv Tryz.prog 157=some (PV.agg [PV.int Go.IntKind.i64 (0),PV.int Go.IntKind.i64 (0),PV.int Go.IntKind.i64 (0),PV.int Go.IntKind.i64 (0),PV.int Go.IntKind.i64 (0),PV.sl SK.nil [],PV.sl SK.nil [],PV.int Go.IntKind.u16 (0),PV.int Go.IntKind.u16 (0),PV.bool false]):=Y22
@[go_sem] theorem Tryz.sp157:xh Tryz.prog 157=some [(0,9),(9,1)]:=Y22
@[go_sem] theorem Tryz.td162:td Tryz.prog 162=TD.fn:=Y22
@[go_sem] theorem Tryz.cz162:Tryz.prog.cellsOf 162=1:=Y22
@[go_sem] theorem Tryz.by162:Tryz.prog.bytesOf 162=8:=Y22
@[go_sem] theorem Tryz.ag162:yL Tryz.prog 162=some false:=Y22
@[go_sem] theorem Tryz.zp162:zpv Tryz.prog 162=some PV.nilf:=Y22
@[go_sem] theorem Tryz.td176:td Tryz.prog 176=TD.sl 178:=Y22
@[go_sem] theorem Tryz.cz176:Tryz.prog.cellsOf 176=1:=Y22
@[go_sem] theorem Tryz.by176:Tryz.prog.bytesOf 176=24:=Y22
@[go_sem] theorem Tryz.ag176:yL Tryz.prog 176=some false:=Y22
@[go_sem] theorem Tryz.zp176:zpv Tryz.prog 176=some (PV.sl SK.nil []):=Y22
@[go_sem] theorem Tryz.td178:td Tryz.prog 178=TD.struct [(0,1,some false),(1,1,some false)]:=Y22
@[go_sem] theorem Tryz.cz178:Tryz.prog.cellsOf 178=2:=Y22
@[go_sem] theorem Tryz.by178:Tryz.prog.bytesOf 178=16:=Y22
@[go_sem] theorem Tryz.ag178:yL Tryz.prog 178=some true:=Y22
@[go_sem] theorem Tryz.zp178:zpv Tryz.prog 178=some (PV.agg [PV.int Go.IntKind.i64 (0),PV.int Go.IntKind.i64 (0)]):=Y22
@[go_sem] theorem Tryz.sp178:xh Tryz.prog 178=some [(0,1),(1,1)]:=Y22
@[go_sem] theorem Tryz.fs178:yC Tryz.prog 178=some [TD.int Go.IntKind.i64,TD.int Go.IntKind.i64]:=Y22
@[go_sem] theorem Tryz.td184:td Tryz.prog 184=TD.fn:=Y22
@[go_sem] theorem Tryz.cz184:Tryz.prog.cellsOf 184=1:=Y22
@[go_sem] theorem Tryz.by184:Tryz.prog.bytesOf 184=8:=Y22
@[go_sem] theorem Tryz.ag184:yL Tryz.prog 184=some false:=Y22
@[go_sem] theorem Tryz.zp184:zpv Tryz.prog 184=some PV.nilf:=Y22
@[go_sem] theorem Tryz.td199:td Tryz.prog 199=TD.arr 5 113:=Y22
@[go_sem] theorem Tryz.cz199:Tryz.prog.cellsOf 199=5:=Y22
@[go_sem] theorem Tryz.by199:Tryz.prog.bytesOf 199=40:=Y22
@[go_sem] theorem Tryz.ag199:yL Tryz.prog 199=some true:=Y22
@[go_sem] theorem Tryz.zp199:zpv Tryz.prog 199=some (PV.agg [PV.nilf,PV.nilf,PV.nilf,PV.nilf,PV.nilf]):=Y22
@[go_sem] theorem Tryz.td203:td Tryz.prog 203=TD.fn:=Y22
@[go_sem] theorem Tryz.cz203:Tryz.prog.cellsOf 203=1:=Y22
@[go_sem] theorem Tryz.by203:Tryz.prog.bytesOf 203=8:=Y22
@[go_sem] theorem Tryz.ag203:yL Tryz.prog 203=some false:=Y22
@[go_sem] theorem Tryz.zp203:zpv Tryz.prog 203=some PV.nilf:=Y22
@[go_sem] theorem Tryz.td205:td Tryz.prog 205=TD.arr 24 203:=Y22
@[go_sem] theorem Tryz.cz205:Tryz.prog.cellsOf 205=24:=Y22
@[go_sem] theorem Tryz.by205:Tryz.prog.bytesOf 205=192:=Y22
@[go_sem] theorem Tryz.ag205:yL Tryz.prog 205=some true:=Y22
@[go_sem] theorem Tryz.zp205:zpv Tryz.prog 205=some (PV.agg [PV.nilf,PV.nilf,PV.nilf,PV.nilf,PV.nilf,PV.nilf,PV.nilf,PV.nilf,PV.nilf,PV.nilf,PV.nilf,PV.nilf,PV.nilf,PV.nilf,PV.nilf,PV.nilf,PV.nilf,PV.nilf,PV.nilf,PV.nilf,PV.nilf,PV.nilf,PV.nilf,PV.nilf]):=Y22
@[go_sem] theorem Tryz.cb2:zb Tryz.prog 2=true:=Y22
@[go_sem] theorem Tryz.cb3:zb Tryz.prog 3=true:=Y22
@[go_sem] theorem Tryz.cb4:zb Tryz.prog 4=true:=Y22
@[go_sem] theorem Tryz.cb5:zb Tryz.prog 5=true:=Y22
@[go_sem] theorem Tryz.cb6:zb Tryz.prog 6=true:=Y22
@[go_sem] theorem Tryz.cb7:zb Tryz.prog 7=true:=Y22
@[go_sem] theorem Tryz.cb8:zb Tryz.prog 8=true:=Y22
@[go_sem] theorem Tryz.cb9:zb Tryz.prog 9=true:=Y22
@[go_sem] theorem Tryz.cb10:zb Tryz.prog 10=true:=Y22
@[go_sem] theorem Tryz.cb11:zb Tryz.prog 11=true:=Y22
@[go_sem] theorem Tryz.cb12:zb Tryz.prog 12=true:=Y22
@[go_sem] theorem Tryz.cb13:zb Tryz.prog 13=true:=Y22
@[go_sem] theorem Tryz.cb14:zb Tryz.prog 14=true:=Y22
@[go_sem] theorem Tryz.cb15:zb Tryz.prog 15=true:=Y22
@[go_sem] theorem Tryz.cb16:zb Tryz.prog 16=true:=Y22
@[go_sem] theorem Tryz.cb17:zb Tryz.prog 17=true:=Y22
@[go_sem] theorem Tryz.cb18:zb Tryz.prog 18=true:=Y22
@[go_sem] theorem Tryz.cb19:zb Tryz.prog 19=true:=Y22
@[go_sem] theorem Tryz.cb20:zb Tryz.prog 20=true:=Y22
@[go_sem] theorem Tryz.cb21:zb Tryz.prog 21=true:=Y22
@[go_sem] theorem Tryz.cb22:zb Tryz.prog 22=true:=Y22
@[go_sem] theorem Tryz.cb23:zb Tryz.prog 23=true:=Y22
@[go_sem] theorem Tryz.cb24:zb Tryz.prog 24=true:=Y22
@[go_sem] theorem Tryz.cb25:zb Tryz.prog 25=true:=Y22
@[go_sem] theorem Tryz.cb26:zb Tryz.prog 26=true:=Y22
@[go_sem] theorem Tryz.cb27:zb Tryz.prog 27=true:=Y22
@[go_sem] theorem Tryz.cb28:zb Tryz.prog 28=true:=Y22
@[go_sem] theorem Tryz.cb29:zb Tryz.prog 29=true:=Y22
@[go_sem] theorem Tryz.cb30:zb Tryz.prog 30=true:=Y22
@[go_sem] theorem Tryz.cb31:zb Tryz.prog 31=true:=Y22
@[go_sem] theorem Tryz.cb32:zb Tryz.prog 32=true:=Y22
@[go_sem] theorem Tryz.cb33:zb Tryz.prog 33=true:=Y22
@[go_sem] theorem Tryz.cb34:zb Tryz.prog 34=true:=Y22
@[go_sem] theorem Tryz.cb35:zb Tryz.prog 35=true:=Y22
@[go_sem] theorem Tryz.cb36:zb Tryz.prog 36=true:=Y22
@[go_sem] theorem Tryz.cb37:zb Tryz.prog 37=true:=Y22
@[go_sem] theorem Tryz.cb38:zb Tryz.prog 38=true:=Y22
@[go_sem] theorem Tryz.cb39:zb Tryz.prog 39=true:=Y22
@[go_sem] theorem Tryz.cb40:zb Tryz.prog 40=true:=Y22
@[go_sem] theorem Tryz.cb41:zb Tryz.prog 41=true:=Y22
@[go_sem] theorem Tryz.cb42:zb Tryz.prog 42=true:=Y22
@[go_sem] theorem Tryz.cb43:zb Tryz.prog 43=true:=Y22
@[go_sem] theorem Tryz.cb44:zb Tryz.prog 44=true:=Y22
@[go_sem] theorem Tryz.cb45:zb Tryz.prog 45=true:=Y22
@[go_sem] theorem Tryz.cb46:zb Tryz.prog 46=true:=Y22
@[go_sem] theorem Tryz.cb47:zb Tryz.prog 47=true:=Y22
@[go_sem] theorem Tryz.cb48:zb Tryz.prog 48=true:=Y22
@[go_sem] theorem Tryz.cb49:zb Tryz.prog 49=true:=Y22
@[go_sem] theorem Tryz.cb50:zb Tryz.prog 50=true:=Y22
@[go_sem] theorem Tryz.cb51:zb Tryz.prog 51=true:=Y22
@[go_sem] theorem Tryz.cb52:zb Tryz.prog 52=true:=Y22
@[go_sem] theorem Tryz.cb53:zb Tryz.prog 53=true:=Y22
@[go_sem] theorem Tryz.cb54:zb Tryz.prog 54=true:=Y22
@[go_sem] theorem Tryz.cb55:zb Tryz.prog 55=true:=Y22
@[go_sem] theorem Tryz.cb56:zb Tryz.prog 56=true:=Y22
@[go_sem] theorem Tryz.cb57:zb Tryz.prog 57=true:=Y22
@[go_sem] theorem Tryz.cb58:zb Tryz.prog 58=true:=Y22
@[go_sem] theorem Tryz.cb59:zb Tryz.prog 59=true:=Y22
@[go_sem] theorem Tryz.cb60:zb Tryz.prog 60=true:=Y22
@[go_sem] theorem Tryz.cb61:zb Tryz.prog 61=true:=Y22
@[go_sem] theorem Tryz.cb62:zb Tryz.prog 62=true:=Y22
@[go_sem] theorem Tryz.cb63:zb Tryz.prog 63=true:=Y22
@[go_sem] theorem Tryz.cb64:zb Tryz.prog 64=true:=Y22
@[go_sem] theorem Tryz.cb65:zb Tryz.prog 65=true:=Y22
@[go_sem] theorem Tryz.cb66:zb Tryz.prog 66=true:=Y22
@[go_sem] theorem Tryz.cb67:zb Tryz.prog 67=true:=Y22
@[go_sem] theorem Tryz.cb68:zb Tryz.prog 68=true:=Y22
@[go_sem] theorem Tryz.cb69:zb Tryz.prog 69=true:=Y22
@[go_sem] theorem Tryz.cb70:zb Tryz.prog 70=true:=Y22
@[go_sem] theorem Tryz.cb71:zb Tryz.prog 71=true:=Y22
@[go_sem] theorem Tryz.cb72:zb Tryz.prog 72=true:=Y22
@[go_sem] theorem Tryz.cb73:zb Tryz.prog 73=true:=Y22
@[go_sem] theorem Tryz.cb74:zb Tryz.prog 74=true:=Y22
@[go_sem] theorem Tryz.cb75:zb Tryz.prog 75=true:=Y22
@[go_sem] theorem Tryz.cb76:zb Tryz.prog 76=true:=Y22
@[go_sem] theorem Tryz.cb77:zb Tryz.prog 77=true:=Y22
@[go_sem] theorem Tryz.cb78:zb Tryz.prog 78=true:=Y22
@[go_sem] theorem Tryz.cb79:zb Tryz.prog 79=true:=Y22
@[go_sem] theorem Tryz.cb80:zb Tryz.prog 80=true:=Y22
@[go_sem] theorem Tryz.cb81:zb Tryz.prog 81=true:=Y22
@[go_sem] theorem Tryz.cb82:zb Tryz.prog 82=true:=Y22
@[go_sem] theorem Tryz.cb83:zb Tryz.prog 83=true:=Y22
@[go_sem] theorem Tryz.cb84:zb Tryz.prog 84=true:=Y22
@[go_sem] theorem Tryz.cb85:zb Tryz.prog 85=true:=Y22
@[go_sem] theorem Tryz.cb86:zb Tryz.prog 86=true:=Y22
@[go_sem] theorem Tryz.cb87:zb Tryz.prog 87=true:=Y22
@[go_sem] theorem Tryz.cb88:zb Tryz.prog 88=true:=Y22
@[go_sem] theorem Tryz.cb89:zb Tryz.prog 89=true:=Y22
@[go_sem] theorem Tryz.cb90:zb Tryz.prog 90=true:=Y22
@[go_sem] theorem Tryz.cb91:zb Tryz.prog 91=true:=Y22
@[go_sem] theorem Tryz.cb92:zb Tryz.prog 92=true:=Y22
@[go_sem] theorem Tryz.cb93:zb Tryz.prog 93=true:=Y22
@[go_sem] theorem Tryz.cb94:zb Tryz.prog 94=true:=Y22
@[go_sem] theorem Tryz.cb95:zb Tryz.prog 95=true:=Y22
@[go_sem] theorem Tryz.cb96:zb Tryz.prog 96=true:=Y22
@[go_sem] theorem Tryz.cb97:zb Tryz.prog 97=true:=Y22
@[go_sem] theorem Tryz.cb98:zb Tryz.prog 98=true:=Y22
@[go_sem] theorem Tryz.cb99:zb Tryz.prog 99=true:=Y22
@[go_sem] theorem Tryz.cb100:zb Tryz.prog 100=true:=Y22
@[go_sem] theorem Tryz.cb101:zb Tryz.prog 101=true:=Y22
@[go_sem] theorem Tryz.cb102:zb Tryz.prog 102=true:=Y22
@[go_sem] theorem Tryz.cb103:zb Tryz.prog 103=true:=Y22
@[go_sem] theorem Tryz.cb104:zb Tryz.prog 104=true:=Y22
@[go_sem] theorem Tryz.cb105:zb Tryz.prog 105=true:=Y22
@[go_sem] theorem Tryz.cb106:zb Tryz.prog 106=true:=Y22
@[go_sem] theorem Tryz.cb107:zb Tryz.prog 107=true:=Y22
@[go_sem] theorem Tryz.cb108:zb Tryz.prog 108=true:=Y22
@[go_sem] theorem Tryz.cb109:zb Tryz.prog 109=true:=Y22
@[go_sem] theorem Tryz.cb110:zb Tryz.prog 110=true:=Y22
@[go_sem] theorem Tryz.cb111:zb Tryz.prog 111=true:=Y22
@[go_sem] theorem Tryz.cb112:zb Tryz.prog 112=true:=Y22
@[go_sem] theorem Tryz.cb113:zb Tryz.prog 113=true:=Y22
@[go_sem] theorem Tryz.cb114:zb Tryz.prog 114=true:=Y22
@[go_sem] theorem Tryz.cb115:zb Tryz.prog 115=true:=Y22
@[go_sem] theorem Tryz.cb116:zb Tryz.prog 116=true:=Y22
@[go_sem] theorem Tryz.cb117:zb Tryz.prog 117=true:=Y22
@[go_sem] theorem Tryz.cb118:zb Tryz.prog 118=true:=Y22
@[go_sem] theorem Tryz.cb119:zb Tryz.prog 119=true:=Y22
@[go_sem] theorem Tryz.cb120:zb Tryz.prog 120=true:=Y22
@[go_sem] theorem Tryz.cb121:zb Tryz.prog 121=true:=Y22
@[go_sem] theorem Tryz.cb122:zb Tryz.prog 122=true:=Y22
@[go_sem] theorem Tryz.cb123:zb Tryz.prog 123=true:=Y22
@[go_sem] theorem Tryz.cb124:zb Tryz.prog 124=true:=Y22
@[go_sem] theorem Tryz.cb125:zb Tryz.prog 125=true:=Y22
@[go_sem] theorem Tryz.cb126:zb Tryz.prog 126=true:=Y22
@[go_sem] theorem Tryz.cb127:zb Tryz.prog 127=true:=Y22
@[go_sem] theorem Tryz.cb128:zb Tryz.prog 128=true:=Y22
@[go_sem] theorem Tryz.cb129:zb Tryz.prog 129=true:=Y22
@[go_sem] theorem Tryz.cb130:zb Tryz.prog 130=true:=Y22
@[go_sem] theorem Tryz.cb131:zb Tryz.prog 131=true:=Y22
@[go_sem] theorem Tryz.cb132:zb Tryz.prog 132=true:=Y22
@[go_sem] theorem Tryz.cb133:zb Tryz.prog 133=true:=Y22
@[go_sem] theorem Tryz.cb134:zb Tryz.prog 134=true:=Y22
@[go_sem] theorem Tryz.cb135:zb Tryz.prog 135=true:=Y22
@[go_sem] theorem Tryz.cb136:zb Tryz.prog 136=true:=Y22
@[go_sem] theorem Tryz.cb137:zb Tryz.prog 137=true:=Y22
@[go_sem] theorem Tryz.cb138:zb Tryz.prog 138=true:=Y22
@[go_sem] theorem Tryz.cb139:zb Tryz.prog 139=true:=Y22
@[go_sem] theorem Tryz.cb140:zb Tryz.prog 140=true:=Y22
@[go_sem] theorem Tryz.cb141:zb Tryz.prog 141=true:=Y22
@[go_sem] theorem Tryz.cb142:zb Tryz.prog 142=true:=Y22
@[go_sem] theorem Tryz.cb143:zb Tryz.prog 143=true:=Y22
@[go_sem] theorem Tryz.cb144:zb Tryz.prog 144=true:=Y22
@[go_sem] theorem Tryz.cb145:zb Tryz.prog 145=true:=Y22
@[go_sem] theorem Tryz.cb146:zb Tryz.prog 146=true:=Y22
@[go_sem] theorem Tryz.cb147:zb Tryz.prog 147=true:=Y22
@[go_sem] theorem Tryz.cb148:zb Tryz.prog 148=true:=Y22
@[go_sem] theorem Tryz.cb149:zb Tryz.prog 149=true:=Y22
@[go_sem] theorem Tryz.cb150:zb Tryz.prog 150=true:=Y22
@[go_sem] theorem Tryz.cb151:zb Tryz.prog 151=true:=Y22
@[go_sem] theorem Tryz.cb152:zb Tryz.prog 152=true:=Y22
@[go_sem] theorem Tryz.cb153:zb Tryz.prog 153=true:=Y22
@[go_sem] theorem Tryz.cb154:zb Tryz.prog 154=true:=Y22
@[go_sem] theorem Tryz.cb155:zb Tryz.prog 155=true:=Y22
@[go_sem] theorem Tryz.cb156:zb Tryz.prog 156=true:=Y22
@[go_sem] theorem Tryz.cb157:zb Tryz.prog 157=true:=Y22
@[go_sem] theorem Tryz.cb158:zb Tryz.prog 158=true:=Y22
@[go_sem] theorem Tryz.cb159:zb Tryz.prog 159=true:=Y22
@[go_sem] theorem Tryz.cb160:zb Tryz.prog 160=true:=Y22
@[go_sem] theorem Tryz.cb161:zb Tryz.prog 161=true:=Y22
@[go_sem] theorem Tryz.cb162:zb Tryz.prog 162=true:=Y22
@[go_sem] theorem Tryz.cb163:zb Tryz.prog 163=true:=Y22
@[go_sem] theorem Tryz.cb164:zb Tryz.prog 164=true:=Y22
@[go_sem] theorem Tryz.cb165:zb Tryz.prog 165=true:=Y22
@[go_sem] theorem Tryz.cb166:zb Tryz.prog 166=true:=Y22
@[go_sem] theorem Tryz.cb167:zb Tryz.prog 167=true:=Y22
@[go_sem] theorem Tryz.cb168:zb Tryz.prog 168=true:=Y22
@[go_sem] theorem Tryz.cb169:zb Tryz.prog 169=true:=Y22
@[go_sem] theorem Tryz.cb170:zb Tryz.prog 170=true:=Y22
@[go_sem] theorem Tryz.cb171:zb Tryz.prog 171=true:=Y22
@[go_sem] theorem Tryz.cb172:zb Tryz.prog 172=true:=Y22
@[go_sem] theorem Tryz.cb173:zb Tryz.prog 173=true:=Y22
@[go_sem] theorem Tryz.cb174:zb Tryz.prog 174=true:=Y22
@[go_sem] theorem Tryz.cb175:zb Tryz.prog 175=true:=Y22
theorem Tryz.mixed:Tryz.prog.follows .mixedOrders=true:=Y22
end Go.Proofs
namespace Go.Proofs
open Go.PM
set_option maxHeartbeats 2000000
theorem Y23 {p:Prop} (h:p:=by simp only [PV.blw];exact ⟨fun t z e=>Y17,Vh _ _⟩):p:=h
theorem vX {xs:List Int} {s:St}:za Tryz.prog 48 [.sl .unk (xs.map (PV.int .u8))] s (fun r s'=>r=.sl .unc (xs.map (PV.int .u8))∧s'=s):=by
 refine go Tryz.func48 (k:=fun hwf H=>?_)
 have hfull:(xs.map (PV.int .u8)).take xs.length=xs.map (PV.int .u8):=by rw [← List.length_map (f:=(PV.int .u8)),List.take_length]
 have H:=aj hfull H
 refine rs (k:=rg [0] (k:=rs (k:=rg [2] (k:=rR (k:=?_)))))
 refine Ret.pureK (r:=.sl .unc (xs.map (PV.int .u8))) au Y23 hwf (fun _ _=>rfl) ⟨rfl,rfl⟩
theorem Y24 {p:Prop} (h:p:=by rw [zi Y18];omega):p:=h
theorem Y25 {p:Prop} (h:p:=by
 refine rk (k:=rB (k:=rg [0,1,12,13] (k:=?_)))
 have hxy:x=y:=by simpa using hc2
 refine Run.lp ⟨⟨rfl,i+1,rfl,Y18,?_⟩,?_⟩
 ·rw [xn hil,xn hjl,hbe,hxe,hye,hxy]
 ·simp only [xB,go_sem,↓reduceIte,Nat.reduceEqDiff]
  omega):p:=h
theorem Y78 {p:Prop} (h:p:=by simp at hc0;omega):p:=h
theorem Y79 {p:Prop} (h:p:=by have:=of_decide_eq_true hc1;omega):p:=h
theorem Y80 {p:Prop} (h:p:=by rw [yP hil,hxe]):p:=h
theorem zgc {p:Prop} (h:p:=by exact ⟨rfl,0,rfl,Y18,rfl⟩):p:=h
theorem zj2 {p:Prop} (h:p:=by rw [yP hjl,hye]):p:=h
theorem XW {xs ys:List Int} (nx:xs.length<140737488355328) {s:St}:za Tryz.prog 85 [.sl .unk (xs.map (PV.int .u8)),.sl .unk (ys.map (PV.int .u8))] s (fun r s'=>r=.bool (decide (xs=ys))∧s'=s):=by
 refine go Tryz.func85 (k:=fun hwf H=>?_)
 refine rs (k:=rg [0,1] (k:=rs (k:=rs (k:=rg [0,1,10] (k:=rc (ht:=fun hc0=>?_) (hf:=fun hc0=>?_))))))
 refine jO 1 ?_;rotate_left
 refine rk (k:=rs (k:=rs (k:=?_)))
 have hlen:xs.length=ys.length:=Y78
 refine rg [0,1,12,13] (k:=rb (k:=?_))
 refine Run.loop (fun e s'=>s'=s∧∃ i:Nat,e=[(0,.sl .unk (xs.map (PV.int .u8))),(1,.sl .unk (ys.map (PV.int .u8))),(12,.int .i64 xs.length),(13,.int .i64 i)]∧i≤xs.length∧xs.take i=ys.take i) (fun e s'=>xs.length-xB e 13) ?_ ?_
 ·exact zgc
 rintro e s' ⟨hs,i,rfl,hi,hbe⟩
 subst s'
 refine rs (k:=rg [0,1,12,13,14] (k:=rs (k:=rc (ht:=fun hc1=>?_) (hf:=fun hc1=>?_))))
 refine rk (k:=rs (k:=rb (k:=rs (k:=?_))))
 have hil:i<xs.length:=Y79
 have hjl:i<ys.length:=Y18
 obtain ⟨x,hxe⟩:∃ z_,xs[i]'hil=z_:=⟨_,rfl⟩
 have hxx:(xs.map (PV.int .u8))[i]? =some (.int .u8 x):=Y80
 obtain ⟨y,hye⟩:∃ z_,ys[i]'hjl=z_:=⟨_,rfl⟩
 have hxy:(ys.map (PV.int .u8))[i]? =some (.int .u8 y):=zj2
 have hw:IntKind.i64.wrap ((i:Int)+1)=((i+1:Nat):Int):=Y24
 have H:=aj hxx (aj hxy (aj hw H))
 refine rg [0,1,5,12,13] (k:=rs (k:=?_))
 refine Run.drawC [] [0,1,12,13,24] Tryz.mixed Y22 ?_
 refine zj.all au ?_
 refine re (k:=rc (ht:=fun hc2=>?_) (hf:=fun hc2=>?_))
 refine jO 1 ?_;rotate_left
 ·exact Y25
 refine rX (k:=rs (k:=rg [4] (k:=rR (k:=rP (by simp only [Tryz.f85,go_sem];rfl) hwf ⟨?_,rfl⟩))))
 refine jO 2 ?_;rotate_left
 any_goals
  refine jI 1 ?_
  refine rs (k:=rg [4] (k:=rR (k:=rP (by simp only [Tryz.f85,go_sem];rfl) hwf ⟨?_,rfl⟩)))
  refine jO 2 ?_;rotate_left
 any_goals
  refine jI 2 ?_
  first
   |(have hne:xs≠ys:=by rintro rfl;simp at hc0
     rw [decide_eq_false hne];rfl)
   |(have hne:xs≠ys:=by
      rintro rfl
      rw [hxe] at hye
      subst hye
      simp at hc2
     rw [decide_eq_false hne];rfl)
   |(have hlen:xs.length=ys.length:=by simp at hc0;omega
     have:i=xs.length:=by have:=of_decide_eq_false hc1;omega
     rw [this,List.take_length,hlen,List.take_length] at hbe
     rw [decide_eq_true hbe];rfl)
theorem zeh {s:St}:za Tryz.prog 49 [.sl .nil []] s (fun r s'=>r=.sl .unk []∧s'=s):=by
 refine go Tryz.func49 (k:=fun hwf H=>?_)
 refine rs (k:=rg [0] (k:=rs (k:=rs (k:=rg [0,4] (k:=rc (ht:=fun hc0=>?_) (hf:=fun hc0=>?_))))))
 ·refine rs (k:=rg [2] (k:=rR (k:=rP (by simp only [Tryz.f49,go_sem];rfl) hwf ⟨?_,rfl⟩)))
  rfl
 ·cases hc0
theorem Y26 {p:Prop} (h:p:=by rw [Tryz.zp5];rfl):p:=h
theorem Y27 {p:Prop} (h:p:=by rw [Tryz.cz5];rfl):p:=h
theorem Y28 {p:Prop} (h:p:=by rw [Tryz.by5];decide):p:=h
theorem Y81 {p:Prop} (h:p:=by rw [Tryz.by5];simp;omega):p:=h
theorem Y82 {p:Prop} (h:p:=by first | exact ((Fr.refl hwf).tm htm (fun t z e=>Y17)).blk):p:=h
theorem zfz {p:Prop} (h:p:=by intro el hel;cases hel):p:=h
theorem zdD {xs:List Int} (hb:xs.length*1≤140737488355328) {s:St}:za Tryz.prog 49 [.sl .any (xs.map (PV.int .u8))] s (fun r s'=>r=.sl .unk (xs.map (PV.int .u8))∧s'=s):=by
 refine go Tryz.func49 (k:=fun hwf H=>?_)
 refine rs (k:=rg [0] (k:=rs (k:=rs (k:=rg [0,4] (k:=rc (ht:=fun hc0=>?_) (hf:=fun hc0=>?_))))))
 ·cases hc0
 ·refine rk (k:=rs (k:=rr (k:=rO (k:=ro (pre:=[_]) (k:=?_)))))
  refine zm.grow' au au au Tryz.td41 Y26 zfz (zp (P:=Tryz.prog) (e:=5) (f:=PV.int .u8) (fun a=>⟨rfl,Y27⟩) _) Y28 Y81 (.inr (.inl (.inl rfl))) ?_
  intro k1 s1 hgr htm
  refine rh [2] (k:=rR (k:=?_))
  refine Ret.pure (by simp only [Tryz.f49,go_sem]<;>rfl) (r':=.sl .unk (xs.map (PV.int .u8))) (by rw [PV.weak,zB]) Y23 hwf Y82 ⟨?_,rfl⟩
  ·rfl
theorem XN {xs:List Int} (hb:xs.length*1≤140737488355328) {s:St}:za Tryz.prog 49 [.sl .unk (xs.map (PV.int .u8))] s (fun r s'=>r=.sl .unk (xs.map (PV.int .u8))∧s'=s) :=
 za.unk1 (fun h=>by rw [h];exact zeh) (zdD hb)
theorem zmY {p:Prop} (h:p:=by simp only [Tryz.f49,go_sem,↓reduceIte]<;>rfl):p:=h
theorem zce {s:St}:za Tryz.prog 49 [.sl .nil []] s (fun r s'=>Vz s s' r [] (Tryz.prog.cellsOf 5)):=by
 refine go Tryz.func49 (k:=fun hwf H=>?_)
 refine rs (k:=rg [0] (k:=rs (k:=rs (k:=rg [0,4] (k:=rc (ht:=fun hc0=>?_) (hf:=fun hc0=>?_))))))
 ·refine rs (k:=rg [2] (k:=rR (k:=?_)))
  exact Vz.ret0 zmY (Fr.refl hwf)
 ·cases hc0
theorem zjP {p:Prop} (h:p:=by simpa using hgr):p:=h
theorem zcn {xs:List Int} (hb:xs.length*1≤140737488355328) {s:St}:za Tryz.prog 49 [.sl .any (xs.map (PV.int .u8))] s (fun r s'=>Vz s s' r (xs.map (PV.int .u8)) (Tryz.prog.cellsOf 5)):=by
 refine go Tryz.func49 (k:=fun hwf H=>?_)
 refine rs (k:=rg [0] (k:=rs (k:=rs (k:=rg [0,4] (k:=rc (ht:=fun hc0=>?_) (hf:=fun hc0=>?_))))))
 ·cases hc0
 ·refine rk (k:=rs (k:=rr (k:=rO (k:=ro (pre:=[_]) (k:=?_)))))
  refine zm.grow' au au au Tryz.td41 Y26 zfz (zp (P:=Tryz.prog) (e:=5) (f:=PV.int .u8) (fun a=>⟨rfl,Y27⟩) _) Y28 Y81 (.inr (.inl (.inl rfl))) ?_
  intro k1 s1 hgr htm
  refine rh [2] (k:=rR (k:=?_))
  exact Vz.ret zmY ((Fr.refl hwf).tm htm (fun t z e=>Y17)) zjP (fun t z e=>(htm.fresh t z e).elim (fun ⟨z',h⟩=>by cases h) id)
theorem zju {xs:List Int} (hb:xs.length*1≤140737488355328) {s:St}:za Tryz.prog 49 [.sl .unk (xs.map (PV.int .u8))] s (fun r s'=>Vz s s' r (xs.map (PV.int .u8)) (Tryz.prog.cellsOf 5)) :=
 za.unk1 (fun h=>by rw [h];exact zce) (zcn hb)
theorem znB {p:Prop} (h:p:=by simp only [PV.blw];exact ⟨fun t z e=>Y17,VN _ _⟩):p:=h
theorem zby {xs:List Int} {s:St}:za Tryz.prog 91 [.sl .unk (xs.map (PV.int .u16))] s (fun r s'=>r=.sl .unc (xs.map (PV.int .u16))∧s'=s):=by
 refine go Tryz.func91 (k:=fun hwf H=>?_)
 have hfull:(xs.map (PV.int .u16)).take xs.length=xs.map (PV.int .u16):=by rw [← List.length_map (f:=(PV.int .u16)),List.take_length]
 have H:=aj hfull H
 refine rs (k:=rg [0] (k:=rs (k:=rg [2] (k:=rR (k:=?_)))))
 refine Ret.pureK (r:=.sl .unc (xs.map (PV.int .u16))) au znB hwf (fun _ _=>rfl) ⟨rfl,rfl⟩
theorem ziV {xs ys:List Int} (nx:xs.length<140737488355328) {s:St}:za Tryz.prog 120 [.sl .unk (xs.map (PV.int .u16)),.sl .unk (ys.map (PV.int .u16))] s (fun r s'=>r=.bool (decide (xs=ys))∧s'=s):=by
 refine go Tryz.func120 (k:=fun hwf H=>?_)
 refine rs (k:=rg [0,1] (k:=rs (k:=rs (k:=rg [0,1,10] (k:=rc (ht:=fun hc0=>?_) (hf:=fun hc0=>?_))))))
 refine jO 1 ?_;rotate_left
 refine rk (k:=rs (k:=rs (k:=?_)))
 have hlen:xs.length=ys.length:=Y78
 refine rg [0,1,12,13] (k:=rb (k:=?_))
 refine Run.loop (fun e s'=>s'=s∧∃ i:Nat,e=[(0,.sl .unk (xs.map (PV.int .u16))),(1,.sl .unk (ys.map (PV.int .u16))),(12,.int .i64 xs.length),(13,.int .i64 i)]∧i≤xs.length∧xs.take i=ys.take i) (fun e s'=>xs.length-xB e 13) ?_ ?_
 ·exact zgc
 rintro e s' ⟨hs,i,rfl,hi,hbe⟩
 subst s'
 refine rs (k:=rg [0,1,12,13,14] (k:=rs (k:=rc (ht:=fun hc1=>?_) (hf:=fun hc1=>?_))))
 refine rk (k:=rs (k:=rb (k:=rs (k:=?_))))
 have hil:i<xs.length:=Y79
 have hjl:i<ys.length:=Y18
 obtain ⟨x,hxe⟩:∃ z_,xs[i]'hil=z_:=⟨_,rfl⟩
 have hxx:(xs.map (PV.int .u16))[i]? =some (.int .u16 x):=Y80
 obtain ⟨y,hye⟩:∃ z_,ys[i]'hjl=z_:=⟨_,rfl⟩
 have hxy:(ys.map (PV.int .u16))[i]? =some (.int .u16 y):=zj2
 have hw:IntKind.i64.wrap ((i:Int)+1)=((i+1:Nat):Int):=Y24
 have H:=aj hxx (aj hxy (aj hw H))
 refine rg [0,1,5,12,13] (k:=rs (k:=?_))
 refine Run.drawC [] [0,1,12,13,24] Tryz.mixed Y22 ?_
 refine zj.all au ?_
 refine re (k:=rc (ht:=fun hc2=>?_) (hf:=fun hc2=>?_))
 refine jO 1 ?_;rotate_left
 ·exact Y25
 refine rX (k:=rs (k:=rg [4] (k:=rR (k:=rP (by simp only [Tryz.f120,go_sem];rfl) hwf ⟨?_,rfl⟩))))
 refine jO 2 ?_;rotate_left
 any_goals
  refine jI 1 ?_
  refine rs (k:=rg [4] (k:=rR (k:=rP (by simp only [Tryz.f120,go_sem];rfl) hwf ⟨?_,rfl⟩)))
  refine jO 2 ?_;rotate_left
 any_goals
  refine jI 2 ?_
  first
   |(have hne:xs≠ys:=by rintro rfl;simp at hc0
     rw [decide_eq_false hne];rfl)
   |(have hne:xs≠ys:=by
      rintro rfl
      rw [hxe] at hye
      subst hye
      simp at hc2
     rw [decide_eq_false hne];rfl)
   |(have hlen:xs.length=ys.length:=by simp at hc0;omega
     have:i=xs.length:=by have:=of_decide_eq_false hc1;omega
     rw [this,List.take_length,hlen,List.take_length] at hbe
     rw [decide_eq_true hbe];rfl)
theorem zcd {s:St}:za Tryz.prog 44 [.sl .nil []] s (fun r s'=>r=.sl .unk []∧s'=s):=by
 refine go Tryz.func44 (k:=fun hwf H=>?_)
 refine rs (k:=rg [0] (k:=rs (k:=rs (k:=rg [0,4] (k:=rc (ht:=fun hc0=>?_) (hf:=fun hc0=>?_))))))
 ·refine rs (k:=rg [2] (k:=rR (k:=rP (by simp only [Tryz.f44,go_sem];rfl) hwf ⟨?_,rfl⟩)))
  rfl
 ·cases hc0
theorem zdS {p:Prop} (h:p:=by rw [Tryz.cz39];rfl):p:=h
theorem zeY {p:Prop} (h:p:=by rw [Tryz.zp39];rfl):p:=h
theorem zhy {p:Prop} (h:p:=by rw [Tryz.by39];decide):p:=h
theorem zme {p:Prop} (h:p:=by rw [Tryz.by39];simp;omega):p:=h
theorem zco {xs:List Int} (hb:xs.length*2≤140737488355328) {s:St}:za Tryz.prog 44 [.sl .any (xs.map (PV.int .u16))] s (fun r s'=>r=.sl .unk (xs.map (PV.int .u16))∧s'=s):=by
 refine go Tryz.func44 (k:=fun hwf H=>?_)
 refine rs (k:=rg [0] (k:=rs (k:=rs (k:=rg [0,4] (k:=rc (ht:=fun hc0=>?_) (hf:=fun hc0=>?_))))))
 ·cases hc0
 ·refine rk (k:=rs (k:=rr (k:=rO (k:=ro (pre:=[_]) (k:=?_)))))
  refine zm.grow' au au au Tryz.td23 zeY zfz (zp (P:=Tryz.prog) (e:=39) (f:=PV.int .u16) (fun a=>⟨rfl,zdS⟩) _) zhy zme (.inr (.inl (.inl rfl))) ?_
  intro k1 s1 hgr htm
  refine rh [2] (k:=rR (k:=?_))
  refine Ret.pure (by simp only [Tryz.f44,go_sem]<;>rfl) (r':=.sl .unk (xs.map (PV.int .u16))) (by rw [PV.weak,zA]) znB hwf Y82 ⟨?_,rfl⟩
  ·rfl
theorem Wn {xs:List Int} (hb:xs.length*2≤140737488355328) {s:St}:za Tryz.prog 44 [.sl .unk (xs.map (PV.int .u16))] s (fun r s'=>r=.sl .unk (xs.map (PV.int .u16))∧s'=s) :=
 za.unk1 (fun h=>by rw [h];exact zcd) (zco hb)
theorem Y29 {p:Prop} (h:p:=by
 simp only [xB,go_sem,↓reduceIte,Nat.reduceEqDiff]
 omega):p:=h
theorem Y30 {p:Prop} (h:p:=by have:=of_decide_eq_false hc0;omega):p:=h
theorem Y83 {p:Prop} (h:p:=by have:=of_decide_eq_true hc0;omega):p:=h
theorem Y84 {p:Prop} (h:p:=by rw [← hxe];exact List.getElem_mem _):p:=h
theorem zgP {p:Prop} (h:p:=by have:=of_decide_eq_false hc1;omega):p:=h
theorem znH {p:Prop} (h:p:=by rw [wM];unfold U8 at hx8;omega):p:=h
theorem zlA {l:List Int} (hb:OkB l) (hl:l.length<140737488355328) {s:St}:za Tryz.prog 155 [.sl .unk (l.map (PV.int .u8))] s (fun r s'=>r=.int .u16 (uU l)∧s'=s):=by
 refine go Tryz.func155 (k:=fun hwf H=>?_)
 refine rs (k:=rg [0] (k:=rs (k:=rg [0,3] (k:=rs (k:=rs (k:=rg [3,7,8,9] (k:=rb (k:=?_))))))))
 refine Run.loop (fun e s'=>s'=s∧∃ (i:Nat) (n:Int),e=[(3,.int .u16 n),(7,.sl .unk (l.map (PV.int .u8))),(8,.int .i64 l.length),(9,.int .i64 (i:Int))]∧i≤l.length∧U16 n∧uU l=(l.drop i).foldl zar n) (fun e s'=>l.length-xB e 9) ?_ ?_
 ·exact ⟨rfl,0,65535,rfl,Y18,Y20,rfl⟩
 rintro e s' ⟨hs,i,n,rfl,hi,hn,hcr⟩
 subst s'
 refine rs (k:=rg [3,7,8,9,10] (k:=rs (k:=rc (ht:=fun hc0=>?_) (hf:=fun hc0=>?_))))
 refine rk (k:=rs (k:=rb (k:=rs (k:=?_))))
 have hil:i<l.length:=Y83
 obtain ⟨x,hxe⟩:∃ z_,l[i]'hil=z_:=⟨_,rfl⟩
 have hxx:(l.map (PV.int .u8))[i]? =some (.int .u8 x):=Y80
 have hw:IntKind.i64.wrap ((i:Int)+1)=((i+1:Nat):Int):=Y24
 have hx8:=hb x Y84
 have hx16:IntKind.u16.wrap x=x:=znH
 have H:=aj hxx (aj hw (aj hx16 H))
 refine rg [3,5,7,8,9] (k:=rs (k:=rg [3,7,8,9] (k:=rs (k:=rg [3,7,8,9,17] (k:=rb (k:=?_))))))
 refine Run.loop (fun e s'=>s'=s∧∃ (j:Nat) (m:Int),e=[(3,.int .u16 m),(7,.sl .unk (l.map (PV.int .u8))),(8,.int .i64 l.length),(9,.int .i64 (i:Int)),(17,.int .i64 (j:Int))]∧j≤8∧U16 m∧zec (8-j) m=zec 8 (zR .xor .u16 n x)) (fun e s'=>8-xB e 17) ?_ ?_
 ·exact ⟨rfl,0,_,rfl,Y18,wW _ _ _,rfl⟩
 rintro e s' ⟨hs,j,m,rfl,hj,hm,hbn⟩
 subst s'
 refine rs (k:=rg [3,7,8,9,17,18] (k:=rs (k:=rc (ht:=fun hc1=>?_) (hf:=fun hc1=>?_))))
 refine rk (k:=rs (k:=rb (k:=rs (k:=rg [3,6,7,8,9,17] (k:=rs (k:=rg [3,6,7,8,9,17] (k:=rs (k:=rg [3,7,8,9,17,24] (k:=rc (ht:=fun hc2=>?_) (hf:=fun hc2=>?_))))))))))
 refine rg [3,7,8,9,17] (k:=rB (k:=rg [3,7,8,9,17] (k:=?_)))
 refine jO 1 ?_;rotate_left
 refine rk (k:=rB (k:=rg [3,7,8,9,17] (k:=?_)))
 refine jO 1 ?_;rotate_left
 ·refine rX (k:=rB (k:=rg [3,7,8,9] (k:=?_)))
  have hj8:8-j=0:=zgP
  rw [hj8] at hbn
  refine Run.lp ⟨⟨rfl,i+1,m,rfl,Y18,hm,?_⟩,?_⟩
  ·rw [hcr,XM hil,hxe,List.foldl_cons,zar,← hbn];rfl
  ·exact Y29
 ·refine rX (k:=rs (k:=rg [2] (k:=rR (k:=rP (by simp only [Tryz.f155,go_sem];rfl) hwf ⟨?_,rfl⟩))))
  have:i=l.length:=Y30
  rw [hcr,this,List.drop_length];rfl
 any_goals
  refine jI 1 ?_
  have hj8:(j:Int)<8:=of_decide_eq_true hc1
  refine jO 2 ?_;rotate_left
 any_goals
  refine jI 2 ?_
  have hbn2:zec (8-(j+1)) (zcr m)=zec 8 (zR .xor .u16 n x):=by rw [← hbn,show 8-j=(8-(j+1))+1 from Y18];rfl
  refine jO 3 ?_;rotate_left
 any_goals
  refine jI 3 ?_
  have hd:m.fdiv 2=m/2:=Int.fdiv_eq_ediv_of_nonneg _ Y19
  refine jO 4 ?_;rotate_left
 any_goals
  refine jI 4 ?_
  have hwj:IntKind.i64.wrap ((j:Int)+1)=((j+1:Nat):Int):=Y24
  refine jO 5 ?_;rotate_left
 any_goals
  refine jI 5 ?_
  refine Run.lp ⟨⟨rfl,j+1,zcr m,?_,Y18,zat hm,hbn2⟩,?_⟩
  refine jO 6 ?_;rotate_left
  ·simp only [xB,go_sem,↓reduceIte,Nat.reduceEqDiff,hwj]
   omega
 any_goals
  refine jI 6 ?_
  have hc2':=hc2
  simp only [decide_eq_true_eq,decide_eq_false_iff_not] at hc2'
  simp [zcr,hc2',hd,hwj]
end Go.Proofs
namespace Go.Proofs
open Go.PM
set_option maxHeartbeats 2000000
theorem VZ {l:List Int} {n:Int} (hl:l.length+2≤140737488355328) {s:St}:za Tryz.prog 72 [.sl .unk (l.map (PV.int .u8)),.int .i64 n] s (fun r s'=>r=.sl .unk ((l++zx n).map (PV.int .u8))∧s'=s):=by
 refine go Tryz.func72 (k:=fun hwf H=>?_)
 refine rs (k:=rg [0,1] (k:=rs (k:=rr (k:=ro (pre:=[_]) (k:=?_)))))
 refine zm.call au au Y22 ((zju (xs:=l) Y18).mono ?_)
 rintro r s1 ⟨F1,kk,rfl,hg,htk⟩
 refine ro (pre:=[_,_,_,_,_]) (k:=rO (k:=?_))
 refine zm.grow' au au au Tryz.td41 Y26 (zp (P:=Tryz.prog) (e:=5) (f:=PV.int .u8) (fun a=>⟨rfl,Y27⟩) _) (zp (P:=Tryz.prog) (e:=5) (f:=PV.int .u8) (fun a=>⟨rfl,Y27⟩) [_,_]) Y28 Y81 (by simpa using hg) ?_
 intro k2 s2 hgr htm
 refine rh [4] (k:=rR (k:=?_))
 refine Ret.pure (by simp only [Tryz.f72,go_sem]<;>rfl) (r':=.sl .unk ((l++zx n).map (PV.int .u8))) (by simp [PV.weak,uj,zx,yU,wg,za0,Function.comp_def]<;>rfl) Y23 hwf (by first | exact (F1.tm htm (fun t z e=>(htk t z e).1)).blk) ⟨?_,rfl⟩
 ·rfl
theorem zkb {l:List Int} {n:Int} (hn:I64 n) (hl:l.length+2≤140737488355328) {s:St}:za Tryz.prog 56 [.sl .unk (l.map (PV.int .u8)),.int .i64 n] s (fun r s'=>r=.sl .unk ((l++zx n).map (PV.int .u8))∧s'=s):=by
 refine go Tryz.func56 (k:=fun hwf H=>?_)
 refine rs (k:=rg [0,1] (k:=rs (k:=rr (k:=rO (k:=ro (pre:=[_]) (k:=?_))))))
 refine zm.grow' au au au Tryz.td41 Y26 zfz (zp (P:=Tryz.prog) (e:=5) (f:=PV.int .u8) (fun a=>⟨rfl,Y27⟩) _) Y28 Y81 (.inr (.inl (.inl rfl))) ?_
 intro k1 s1 hgr1 htm1
 have hgr1':yA s1 k1 l.length (Tryz.prog.cellsOf 5):=by simpa using hgr1
 refine ro (pre:=[_,_,_,_,_,_]) (k:=rO (k:=?_))
 refine zm.grow' au au au Tryz.td41 Y26 (zp (P:=Tryz.prog) (e:=5) (f:=PV.int .u8) (fun a=>⟨rfl,Y27⟩) _) (zp (P:=Tryz.prog) (e:=5) (f:=PV.int .u8) (fun a=>⟨rfl,Y27⟩) [_,_]) Y28 Y81 (by simpa using hgr1') ?_
 intro k2 s2 hgr2 htm2
 refine rh [4] (k:=rR (k:=?_))
 refine Ret.pure (by simp only [Tryz.f56,go_sem]<;>rfl) (r':=.sl .unk ((l++zx n).map (PV.int .u8))) (by simp [PV.weak,uj,zx,yU,wg,za0,Function.comp_def,YB,zih]<;>rfl) Y23 hwf (by first | exact (((Fr.refl hwf).tm htm1 (fun t z e=>Y17)).tm htm2 (fun t z e=>(htm1.fresh t z e).elim (fun ⟨z',h⟩=>by cases h) (fun h=>h.1))).blk) ⟨?_,rfl⟩
 ·rfl
theorem zmQ {p:Prop} (h:p:=by rw [← hxe];exact hb _ (List.getElem_mem _)):p:=h
theorem zmh {p:Prop} (h:p:=by rw [← hye];exact hb _ (List.getElem_mem _)):p:=h
theorem Uz {l:List Int} (hb:OkB l) {a:Int} (ha:I64 a) (hl:l.length≤140737488355328) {s:St}:za Tryz.prog 121 [.sl .unk (l.map (PV.int .u8)),.int .i64 a] s (fun r s'=>r=.tuple [.int .i64 ((vt l a).getD 0),.bool (vt l a).isSome]∧s'=s):=by
 refine go Tryz.func121 (k:=fun hwf H=>?_)
 refine rs (k:=rg [0,1] (k:=rs (k:=rs (k:=?_))))
 have hw1:IntKind.i64.wrap ((l.length:Int)-2)=(l.length:Int)-2:=zi Y18
 have H:=aj hw1 H
 refine rg [0,1,14] (k:=rc (ht:=fun hc0=>?_) (hf:=fun hc0=>?_))
 refine rs (k:=rg [4,5] (k:=rR (k:=rP (by simp only [Tryz.f121,go_sem];rfl) hwf ⟨?_,rfl⟩)))
 refine jO 1 ?_;rotate_left
 refine rk (k:=rs (k:=?_))
 have hcc:0≤a∧a+2≤l.length:=Y78
 obtain ⟨i,rfl⟩:∃ i:Nat,a=i:=⟨a.toNat,(Int.toNat_of_nonneg hcc.1).symm⟩
 have hi1:i<l.length:=Y18
 have hi2:i+1<l.length:=Y18
 obtain ⟨x,hxe⟩:∃ z_,l[i]'hi1=z_:=⟨_,rfl⟩
 obtain ⟨y,hye⟩:∃ z_,l[i+1]'hi2=z_:=⟨_,rfl⟩
 have hxx:(l.map (PV.int .u8))[i]? =some (.int .u8 x):=by rw [yP hi1,hxe]
 have hyy:(l.map (PV.int .u8))[i+1]? =some (.int .u8 y):=by rw [yP hi2,hye]
 have hx8:U8 x:=zmQ
 have hy8:U8 y:=zmh
 have hw:IntKind.i64.wrap ((i:Int)+1)=((i+1:Nat):Int):=Y24
 have hwx:IntKind.i64.wrap x=x:=zi Y18
 have hwy:IntKind.i64.wrap y=y:=zi Y18
 have hsh:IntKind.i64.wrap (x*256)=x*256:=zi Y18
 have hor:zR .or .i64 (x*256) y=256*x+y:=zdt hx8 hy8
 have hlt1:((i:Int)<(l.length:Int))=True:=eq_true Y18
 have hlt2:(((i+1:Nat):Int)<(l.length:Int))=True:=eq_true Y18
 have H:=aj hxx (aj hyy (aj hw (aj hwx (aj hwy (aj hsh (aj hor (aj hlt1 (aj hlt2 H))))))))
 refine Run.drawC [] [4,5] Tryz.mixed Y22 ?_
 refine zj.all au ?_
 refine re (k:=rR (k:=rP (by simp only [Tryz.f121,go_sem];rfl) hwf ⟨?_,rfl⟩))
 refine jO 1 ?_;rotate_left
 any_goals
  refine jI 1 ?_
  first
   |(have:vt l a=none:=by unfold vt;rw [if_neg Y78]
     rw [this];rfl)
   |(have:vt l i=some (256*x+y):=by
      unfold vt
      rw [if_pos Y18,Int.toNat_natCast,List.getElem?_eq_getElem hi1,List.getElem?_eq_getElem hi2,hxe,hye];rfl
     rw [this];rfl)
theorem zkd {l:List Int} (hb:OkB l) {a:Int} (ha:I64 a) (hl:l.length≤140737488355328) {s:St}:za Tryz.prog 73 [.sl .unk (l.map (PV.int .u8)),.int .i64 a] s (fun r s'=>r=.tuple [.int .i64 ((vt l a).getD 0),.bool (vt l a).isSome]∧s'=s):=by
 refine go Tryz.func73 (k:=fun hwf H=>?_)
 refine rs (k:=rg [0,1] (k:=rs (k:=rs (k:=?_))))
 have hw1:IntKind.i64.wrap ((l.length:Int)-2)=(l.length:Int)-2:=zi Y18
 have H:=aj hw1 H
 refine rg [0,1,14] (k:=rc (ht:=fun hc0=>?_) (hf:=fun hc0=>?_))
 refine rs (k:=rg [4,5] (k:=rR (k:=rP (by simp only [Tryz.f73,go_sem];rfl) hwf ⟨?_,rfl⟩)))
 refine jO 1 ?_;rotate_left
 refine rk (k:=rs (k:=?_))
 have hcc:0≤a∧a+2≤l.length:=Y78
 obtain ⟨i,rfl⟩:∃ i:Nat,a=i:=⟨a.toNat,(Int.toNat_of_nonneg hcc.1).symm⟩
 have hi1:i<l.length:=Y18
 have hi2:i+1<l.length:=Y18
 obtain ⟨x,hxe⟩:∃ z_,l[i]'hi1=z_:=⟨_,rfl⟩
 obtain ⟨y,hye⟩:∃ z_,l[i+1]'hi2=z_:=⟨_,rfl⟩
 have hxx:(l.map (PV.int .u8))[i]? =some (.int .u8 x):=by rw [yP hi1,hxe]
 have hyy:(l.map (PV.int .u8))[i+1]? =some (.int .u8 y):=by rw [yP hi2,hye]
 have hx8:U8 x:=zmQ
 have hy8:U8 y:=zmh
 have hw:IntKind.i64.wrap ((i:Int)+1)=((i+1:Nat):Int):=Y24
 have hwx:IntKind.i64.wrap x=x:=zi Y18
 have hwy:IntKind.i64.wrap y=y:=zi Y18
 have hsh:IntKind.i64.wrap (x*256)=x*256:=zi Y18
 have hor:zR .or .i64 (x*256) y=256*x+y:=zdt hx8 hy8
 have hlt1:((i:Int)<(l.length:Int))=True:=eq_true Y18
 have hlt2:(((i+1:Nat):Int)<(l.length:Int))=True:=eq_true Y18
 have H:=aj hxx (aj hyy (aj hw (aj hwx (aj hwy (aj hsh (aj hor (aj hlt1 (aj hlt2 H))))))))
 refine Run.drawC [] [4,5] Tryz.mixed Y22 ?_
 refine zj.all au ?_
 refine re (k:=rR (k:=rP (by simp only [Tryz.f73,go_sem];rfl) hwf ⟨?_,rfl⟩))
 refine jO 1 ?_;rotate_left
 any_goals
  refine jI 1 ?_
  first
   |(have:vt l a=none:=by unfold vt;rw [if_neg Y78]
     rw [this];rfl)
   |(have:vt l i=some (256*x+y):=by
      unfold vt
      rw [if_pos Y18,Int.toNat_natCast,List.getElem?_eq_getElem hi1,List.getElem?_eq_getElem hi2,hxe,hye];rfl
     rw [this];rfl)
theorem ze9 {l:List Int} (hb:OkB l) (hl:l.length+2≤140737488355328) {s:St}:za Tryz.prog 144 [.sl .unk (l.map (PV.int .u8))] s (fun r s'=>r=.sl .unk ((yU l).map (PV.int .u8))∧s'=s):=by
 refine go Tryz.func144 (k:=fun hwf H=>?_)
 refine rs (k:=rg [0] (k:=rs (k:=rr (k:=ro (pre:=[_]) (k:=?_)))))
 refine zm.call au au Y22 ((zlA hb Y18).mono ?_)
 rintro r s1 ⟨rfl,hs⟩
 subst s1
 refine rh [0,3] (k:=rs (k:=rr (k:=ro (pre:=[_]) (k:=?_))))
 refine zm.call au au Y22 ((vX (xs:=l)).mono ?_)
 rintro r s1 ⟨rfl,hs⟩
 subst s1
 refine ro (pre:=[_,_,_,_,_]) (k:=rO (k:=?_))
 refine zm.grow' au au au Tryz.td41 Y26 (zp (P:=Tryz.prog) (e:=5) (f:=PV.int .u8) (fun a=>⟨rfl,Y27⟩) _) (zp (P:=Tryz.prog) (e:=5) (f:=PV.int .u8) (fun a=>⟨rfl,Y27⟩) [_,_]) Y28 Y81 (.inr (.inl (.inr rfl))) ?_
 intro k2 s2 hgr htm
 refine rh [2] (k:=rR (k:=?_))
 refine Ret.pure (by simp only [Tryz.f144,go_sem]<;>rfl) (r':=.sl .unk ((yU l).map (PV.int .u8))) (by simp [PV.weak,uj,zx,yU,wg,za0,Function.comp_def,zix]<;>rfl) Y23 hwf Y82 ⟨?_,rfl⟩
 ·rfl
theorem Y85 {p:Prop} (h:p:=by simpa using hc0):p:=h
theorem zkp {l:List Int} (hb:OkB l) (hl:l.length≤140737488350000) {s:St}:za Tryz.prog 145 [.sl .unk (l.map (PV.int .u8))] s (fun r s'=>r=.tuple [.sl .unk (((wJ l).getD []).map (PV.int .u8)),.bool (wJ l).isSome]∧s'=s):=by
 refine go Tryz.func145 (k:=fun hwf H=>?_)
 refine rs (k:=rg [0] (k:=rs (k:=?_)))
 have hw1:IntKind.i64.wrap ((l.length:Int)-2)=(l.length:Int)-2:=zi Y18
 have H:=aj hw1 H
 refine rg [0,4] (k:=rs (k:=rs (k:=rr (k:=ro (pre:=[_,_,_]) (k:=rQ 10 (ht:=fun hg2=>?_) (hf:=fun hg2=>?_))))))
 refine rg0 (k:=rg0 (k:=rg0 (k:=rg0 (k:=rg0 (k:=rg0 (k:=rg0 (k:=rh [0,4,18] (k:=rc (ht:=fun hc0=>?_) (hf:=fun hc0=>?_)))))))))
 refine jO 1 ?_;rotate_left
 ·cases hc0
 have hn2:2≤l.length:=by simp at hg2;omega
 have hn3:((l.length:Int)-2).toNat=l.length-2:=Y18
 have hn0:(0≤(l.length:Int)-2)=True:=eq_true Y18
 have hn4:((l.length:Int)-2≤l.length)=True:=eq_true Y18
 have htk:(l.map (PV.int .u8)).take (l.length-2)=(l.take (l.length-2)).map (PV.int .u8):=List.map_take.symm
 have H:=aj hn3 (aj hn0 (aj hn4 (aj htk H)))
 refine rg1 (k:=rg1 (k:=rg1 (k:=rC (h:=ze9 (hb.take (l.length-2)) Yk) (k:=rg1 (k:=rC (h:=XW (xs:=yU (l.take (l.length-2))) (ys:=l) (by rw [wr];simp;omega)) (k:=rg1 (k:=rh [0,4,18] (k:=rc (ht:=fun hc0=>?_) (hf:=fun hc0=>?_)))))))))
 refine jO 1 ?_;rotate_left
 refine rk (k:=rs (k:=rr (k:=ro (pre:=[_,_,_]) (k:=rC (h:=XN (xs:=l.take (l.length-2)) Yk) (k:=rh [2,3] (k:=rR (k:=rP (by simp only [Tryz.f145,go_sem];rfl) hwf ⟨?_,rfl⟩)))))))
 refine jO 2 ?_;rotate_left
 any_goals
  refine jI 1 ?_
  refine rs (k:=rg [2,3] (k:=rR (k:=rP (by simp only [Tryz.f145,go_sem];rfl) hwf ⟨?_,rfl⟩)))
  refine jO 2 ?_;rotate_left
 any_goals
  refine jI 2 ?_
  first
   |(have:wJ l=none:=by unfold wJ;rw [if_neg (by simp at hg2;omega)]
     rw [this];simp only [PV.weak,PV.weaks,zB,Option.getD_some,Option.isSome_some,Option.getD_none,Option.isSome_none,List.map_nil])
   |(have:wJ l=none:=by unfold wJ;rw [if_neg (by simp at hc0;exact fun h=>hc0 h.2)]
     rw [this];simp only [PV.weak,PV.weaks,zB,Option.getD_some,Option.isSome_some,Option.getD_none,Option.isSome_none,List.map_nil])
   |(have:wJ l=some (l.take (l.length-2)):=by unfold wJ;rw [if_pos ⟨hn2,Y85⟩]
     rw [this];simp only [PV.weak,PV.weaks,zB,Option.getD_some,Option.isSome_some,Option.getD_none,Option.isSome_none,List.map_nil])
end Go.Proofs
namespace Go.Proofs
open Go.PM
set_option maxHeartbeats 2000000
end Go.Proofs
namespace Go.Proofs
open Go.PM
set_option maxHeartbeats 2000000
theorem Y31 {p:Prop} (h:p:=by
 have h9:=htm.nxt
 have h8:=F1.nxt
 rcases htm.fresh t z e with ⟨z',h⟩ | ⟨h1,h2⟩
 ·have:=htk t z' h;omega
 ·omega):p:=h
theorem zeL {l:List Int} (hl:l.length≤100000000) {s:St}:za Tryz.prog 71 [.sl .unk (l.map (PV.int .u16))] s (fun r s'=>r=.sl .unk ((l.flatMap zx).map (PV.int .u8))∧s'=s):=by
 refine go Tryz.func71 (k:=fun hwf H=>?_)
 have hw2:IntKind.i64.wrap (2*(l.length:Int))=((2*l.length:Nat):Int):=Y24
 have H:=aj hw2 H
 refine rs (k:=rg [0] (k:=rs (k:=rr (k:=ro (pre:=[_,_,_]) (k:=?_)))))
 refine zm.makeCap (n:=2*l.length) au au au Tryz.td41 (by rw [Tryz.zp5]) Y18 (by rw [Tryz.by5];omega) ?_
 refine rh [0,3] (k:=rs (k:=rs (k:=rg [3,10,11,12] (k:=rb (k:=?_)))))
 refine Run.loop (fun e s'=>Fr s s'∧∃ (i:Nat) (B:List Int) (kk:SK),e=[(3,.sl kk (B.map (PV.int .u8))),(10,.sl .unk (l.map (PV.int .u16))),(11,.int .i64 l.length),(12,.int .i64 (i:Int))]∧i≤l.length∧B=(l.take i).flatMap zx∧yA s' kk B.length (Tryz.prog.cellsOf 5)∧(∀ t z,kk=.tok t z→s.nxt≤t∧t<s'.nxt)) (fun e s'=>l.length-xB e 12) ?_ ?_
 ·simp only [Tryz.cz5]
  exact ⟨(Fr.refl hwf).new _,0,[],.tok s.nxt 1,rfl,Nat.zero_le _,rfl,.inr (.inr ⟨s.nxt,rfl,if_pos rfl⟩),fun t z e=>by cases e;simp only [zq];omega⟩
 rintro e s1 ⟨F1,i,B,kk,rfl,hi,hB,hgr,htk⟩
 refine rs (k:=rg [3,10,11,12,13] (k:=rs (k:=rc (ht:=fun hc0=>?_) (hf:=fun hc0=>?_))))
 ·refine rk (k:=rs (k:=rb (k:=rs (k:=?_))))
  have hil:i<l.length:=Y83
  obtain ⟨x,hxe⟩:∃ z_,l[i]'hil=z_:=⟨_,rfl⟩
  have hxx:(l.map (PV.int .u16))[i]? =some (.int .u16 x):=Y80
  have hw:IntKind.i64.wrap ((i:Int)+1)=((i+1:Nat):Int):=Y24
  have hBl:B.length=2*i:=by rw [hB,Uu,List.length_take];omega
  have H:=aj hxx (aj hw H)
  refine rg [3,5,10,11,12] (k:=rr (k:=ro (pre:=[_,_,_,_,_,_]) (k:=rO (k:=?_))))
  refine zm.grow' au au au Tryz.td41 Y26 (zp (P:=Tryz.prog) (e:=5) (f:=PV.int .u8) (fun a=>⟨rfl,Y27⟩) B) (zp (P:=Tryz.prog) (e:=5) (f:=PV.int .u8) (fun a=>⟨rfl,Y27⟩) [_,_]) Y28 Y81 zjP ?_
  intro k2 s2 hgr2 htm
  refine rh [3,10,11,12] (k:=rB (k:=rg [3,10,11,12] (k:=?_)))
  simp only [List.length_map,List.length_cons,List.length_nil] at hgr2
  refine Run.lp ⟨⟨F1.tm htm (fun t z e=>(htk t z e).1),i+1,B++zx x,k2,?_,Y18,?_,by simpa [zx] using hgr2,fun t z e=>?_⟩,?_⟩
  ·simp [zx,wg,za0]
  ·rw [hB,xn hil,hxe,List.flatMap_append];simp
  ·exact Y31
  ·exact Y29
 ·refine rX (k:=rs (k:=rg [2] (k:=rR (k:=?_))))
  have hie:i=l.length:=Y30
  refine Ret.pure (r':=.sl .unk (B.map (PV.int .u8))) (by simp only [Tryz.f71,go_sem,↓reduceIte]<;>rfl) (by rw [PV.weak,zB]) Y23 hwf F1.blk ⟨by rw [hB,hie,List.take_length],rfl⟩
theorem zpM {p:Prop} (h:p:=by exact ⟨Fr.refl hwf,0,[],.nil,rfl,Nat.zero_le _,rfl,.inl ⟨rfl,rfl⟩,fun t z e=>Y17⟩):p:=h
theorem zhr {l:List Int} (hl:l.length≤100000000) {s:St}:za Tryz.prog 59 [.sl .unk (l.map (PV.int .u16))] s (fun r s'=>r=.sl .unk ((l.flatMap zx).map (PV.int .u8))∧s'=s):=by
 refine go Tryz.func59 (k:=fun hwf H=>?_)
 refine rs (k:=rg [0] (k:=rs (k:=rg [0,3] (k:=rs (k:=rs (k:=rg [3,6,7,8] (k:=rb (k:=?_))))))))
 refine Run.loop (fun e s'=>Fr s s'∧∃ (i:Nat) (B:List Int) (kk:SK),e=[(3,.sl kk (B.map (PV.int .u8))),(6,.sl .unk (l.map (PV.int .u16))),(7,.int .i64 l.length),(8,.int .i64 (i:Int))]∧i≤l.length∧B=(l.take i).flatMap zx∧yA s' kk B.length (Tryz.prog.cellsOf 5)∧(∀ t z,kk=.tok t z→s.nxt≤t∧t<s'.nxt)) (fun e s'=>l.length-xB e 8) ?_ ?_
 ·exact zpM
 rintro e s1 ⟨F1,i,B,kk,rfl,hi,hB,hgr,htk⟩
 refine rs (k:=rg [3,6,7,8,9] (k:=rs (k:=rc (ht:=fun hc0=>?_) (hf:=fun hc0=>?_))))
 ·refine rk (k:=rs (k:=rb (k:=rs (k:=?_))))
  have hil:i<l.length:=Y83
  obtain ⟨x,hxe⟩:∃ z_,l[i]'hil=z_:=⟨_,rfl⟩
  have hxx:(l.map (PV.int .u16))[i]? =some (.int .u16 x):=Y80
  have hw:IntKind.i64.wrap ((i:Int)+1)=((i+1:Nat):Int):=Y24
  have hBl:B.length=2*i:=by rw [hB,Uu,List.length_take];omega
  have H:=aj hxx (aj hw H)
  refine rg [3,5,6,7,8] (k:=rr (k:=ro (pre:=[_,_,_,_,_,_]) (k:=rO (k:=?_))))
  refine zm.grow' au au au Tryz.td41 Y26 (zp (P:=Tryz.prog) (e:=5) (f:=PV.int .u8) (fun a=>⟨rfl,Y27⟩) B) (zp (P:=Tryz.prog) (e:=5) (f:=PV.int .u8) (fun a=>⟨rfl,Y27⟩) [_,_]) Y28 Y81 zjP ?_
  intro k2 s2 hgr2 htm
  refine rh [3,6,7,8] (k:=rB (k:=rg [3,6,7,8] (k:=?_)))
  simp only [List.length_map,List.length_cons,List.length_nil] at hgr2
  refine Run.lp ⟨⟨F1.tm htm (fun t z e=>(htk t z e).1),i+1,B++zx x,k2,?_,Y18,?_,by simpa [zx] using hgr2,fun t z e=>?_⟩,?_⟩
  ·simp [zx,wg,za0]
  ·rw [hB,xn hil,hxe,List.flatMap_append];simp
  ·exact Y31
  ·exact Y29
 ·refine rX (k:=rs (k:=rg [2] (k:=rR (k:=?_))))
  have hie:i=l.length:=Y30
  refine Ret.pure (r':=.sl .unk (B.map (PV.int .u8))) (by simp only [Tryz.f59,go_sem,↓reduceIte]<;>rfl) (by rw [PV.weak,zB]) Y23 hwf F1.blk ⟨by rw [hB,hie,List.take_length],rfl⟩
theorem Y32 {p:Prop} (h:p:=by simp only [PV.blw,PV.blws,and_true];exact fun t z e=>Y17):p:=h
theorem zeT {p:Prop} (h:p:=by rw [XJ Y18];omega):p:=h
theorem zpW {p:Prop} (h:p:=by
 rw [hW,show 2*(i+1)=2*i+1+1 from Y18,xn hil1,xn hil,hxe,hye,List.append_assoc]
 exact (UJ (by rw [List.length_take];omega)).symm):p:=h
theorem zhS {p:Prop} (h:p:=by rw [zkQ Y18];omega):p:=h
theorem zj1 {p:Prop} (h:p:=by simp only [PV.weak,PV.weaks]):p:=h
theorem zpO {p:Prop} (h:p:=by simp only [PV.blw,PV.blws,uo,and_true];exact fun t z e=>Y17):p:=h
theorem zlQ {p:Prop} (h:p:=by rw [Tryz.by39];omega):p:=h
theorem UY {b:List Int} (hb:OkB b) (hl:b.length≤140737488351232) {s:St}:za Tryz.prog 122 [.sl .unk (b.map (PV.int .u8))] s (fun r s'=>r=.tuple [.sl .unk (((ve b).getD []).map (PV.int .u16)),.bool (ve b).isSome]∧s'=s):=by
 refine go Tryz.func122 (k:=fun hwf H=>?_)
 have h20:((2:Int)=0)=False:=Y19
 have hm2:((b.length:Int)).tmod 2=((b.length%2:Nat):Int):=zhS
 have hwm:IntKind.i64.wrap ((b.length%2:Nat):Int)=((b.length%2:Nat):Int):=zi Y18
 have H:=aj h20 (aj hm2 (aj hwm H))
 refine rs (k:=rg [0] (k:=rs (k:=rs (k:=rg [0,11] (k:=rc (ht:=fun hc0=>?_) (hf:=fun hc0=>?_))))))
 refine rs (k:=rg [2,3] (k:=rR (k:=?_)))
 refine jO 1 ?_;rotate_left
 refine rk (k:=rs (k:=?_))
 have hev:b.length%2=0:=Y78
 have hq2:((b.length:Int)).tdiv 2=((b.length/2:Nat):Int):=zeT
 have hwq:IntKind.i64.wrap ((b.length/2:Nat):Int)=((b.length/2:Nat):Int):=zi Y18
 have H:=aj hq2 (aj hwq H)
 refine rr (k:=ro (pre:=[_,_,_]) (k:=?_))
 refine zm.makeCap (n:=b.length/2) au au au Tryz.td23 (by rw [Tryz.zp39]) Y18 zlQ ?_
 refine rh [0,4] (k:=rs (k:=rs (k:=rg [0,4,5] (k:=rb (k:=?_)))))
 refine Run.loop (fun e s'=>Fr s s'∧∃ (i:Nat) (W:List Int) (kk:SK),e=[(0,.sl .unk (b.map (PV.int .u8))),(4,.sl kk (W.map (PV.int .u16))),(5,.int .i64 ((2*i:Nat):Int))]∧2*i≤b.length∧W=wI (b.take (2*i))∧yA s' kk W.length (Tryz.prog.cellsOf 39)∧(∀ t z,kk=.tok t z→s.nxt≤t∧t<s'.nxt)) (fun e s'=>b.length-xB e 5) ?_ ?_
 ·simp only [Tryz.cz39]
  exact ⟨(Fr.refl hwf).new _,0,[],.tok s.nxt 1,rfl,Nat.zero_le _,rfl,.inr (.inr ⟨s.nxt,rfl,if_pos rfl⟩),fun t z e=>by cases e;simp only [zq];omega⟩
 rintro e s1 ⟨F1,i,W,kk,rfl,hi,hW,hgr,htk⟩
 refine rs (k:=rs (k:=rg [0,4,5,19] (k:=rc (ht:=fun hc1=>?_) (hf:=fun hc1=>?_))))
 ·refine rk (k:=rs (k:=rb (k:=rs (k:=?_))))
  have hil:2*i<b.length:=Y79
  have hil1:2*i+1<b.length:=Y18
  obtain ⟨x,hxe⟩:∃ z_,b[2*i]'hil=z_:=⟨_,rfl⟩
  have hxx:(b.map (PV.int .u8))[2*i]? =some (.int .u8 x):=Y80
  obtain ⟨y,hye⟩:∃ z_,b[2*i+1]'hil1=z_:=⟨_,rfl⟩
  have hxy:(b.map (PV.int .u8))[2*i+1]? =some (.int .u8 y):=by rw [yP hil1,hye]
  have hx8:U8 x:=zmQ
  have hy8:U8 y:=zmh
  have hw:IntKind.i64.wrap (((2*i:Nat):Int)+2)=((2*(i+1):Nat):Int):=Y24
  have hw1:IntKind.i64.wrap (((2*i:Nat):Int)+1)=((2*i+1:Nat):Int):=Y24
  have hg:vt b ((2*i:Nat):Int)=some (256*x+y):=by
   unfold vt
   rw [if_pos Y18,Int.toNat_natCast,List.getElem?_eq_getElem hil,List.getElem?_eq_getElem hil1,hxe,hye];rfl
  have hwW:W.length=i:=by rw [hW,YI,List.length_take];omega
  have hu:IntKind.u16.wrap (256*x+y)=256*x+y:=by rw [wM];unfold U8 at hx8 hy8;omega
  have H:=aj hxx (aj hxy (aj hw (aj hw1 (aj hu H))))
  refine rr (k:=ro (pre:=[_,_]) (k:=?_))
  refine zm.callw au au au Y22 ((Uz hb (a:=((2*i:Nat):Int)) (by unfold I64;omega) Y18).mono ?_)
  rintro r s9 ⟨rfl,hs⟩
  subst s9
  rw [hg]
  refine rh [0,4,5,6] (k:=rr (k:=ro (pre:=[_,_,_]) (k:=rO (k:=?_))))
  refine zm.grow' au au au Tryz.td23 zeY (zp (P:=Tryz.prog) (e:=39) (f:=PV.int .u16) (fun a=>⟨rfl,zdS⟩) W) (zp (P:=Tryz.prog) (e:=39) (f:=PV.int .u16) (fun a=>⟨rfl,zdS⟩) [_]) zhy zme zjP ?_
  intro k2 s2 hgr2 htm
  refine rh [0,4,5] (k:=rB (k:=rg [0,4,5] (k:=?_)))
  simp only [List.length_map,List.length_cons,List.length_nil] at hgr2
  refine Run.lp ⟨⟨F1.tm htm (fun t z e=>(htk t z e).1),i+1,W++[256*x+y],k2,?_,Y18,?_,by simpa using hgr2,fun t z e=>?_⟩,?_⟩
  ·simp
  ·exact zpW
  ·exact Y31
  ·exact Y29
 refine rX (k:=rs (k:=rg [2,3] (k:=rR (k:=?_))))
 refine jO 1 ?_;rotate_left
 any_goals
  refine jI 1 ?_
  first
   |(have hie:2*i=b.length:=by have:=of_decide_eq_false hc1;omega
     have hev2:ve b=some (wI b):=if_pos hev
     refine Ret.pure (r':=.tuple [.sl .unk (W.map (PV.int .u16)),.bool true]) (by simp only [Tryz.f122,go_sem,↓reduceIte]<;>rfl) (by simp only [PV.weak,PV.weaks,zA]) zpO hwf F1.blk ⟨by rw [hW,hie,List.take_length,hev2];rfl,rfl⟩)
   |(have hno:ve b=none:=if_neg Y78
     refine Ret.pure (r':=.tuple [.sl .unk [],.bool false]) (by simp only [Tryz.f122,go_sem,↓reduceIte]<;>rfl) zj1 Y32 hwf (fun _ _=>rfl) ⟨by rw [hno];rfl,rfl⟩)
theorem zhE {x y:Int} (hx:U8 x) (hy:U8 y):zR .or .u16 (x*256) y=256*x+y:=by
 obtain ⟨a,rfl⟩:∃ a:Nat,x=a:=⟨x.toNat,(Int.toNat_of_nonneg hx.1).symm⟩
 obtain ⟨b,rfl⟩:∃ b:Nat,y=b:=⟨y.toNat,(Int.toNat_of_nonneg hy.1).symm⟩
 have ha:a<256:=by unfold U8 at hx;omega
 have hb:b<256:=by unfold U8 at hy;omega
 have e:(BitVec.ofInt 16 ((a:Int)*256) ||| BitVec.ofInt 16 (b:Int)).toNat=256*a+b:=by
  rw [BitVec.toNat_or,show ((a:Int)*256)=((a*256:Nat):Int) from Y18,BitVec.ofInt_natCast,BitVec.ofInt_natCast,BitVec.toNat_ofNat,BitVec.toNat_ofNat,Nat.mod_eq_of_lt Y18,Nat.mod_eq_of_lt Y18]
  have:=Nat.two_pow_add_eq_or_of_lt (i:=8) (b:=b) Y18 a
  rw [show a*256=2 ^ 8*a from Y18,← this]
 unfold zR
 show IntKind.u16.wrap (((BitVec.ofInt 16 ((a:Int)*256) ||| BitVec.ofInt 16 (b:Int)).toNat:Int))=_
 rw [e,wM]
 omega
theorem zgW {b:List Int} (hb:OkB b) (hl:b.length≤140737488351232) {s:St}:za Tryz.prog 74 [.sl .unk (b.map (PV.int .u8))] s (fun r s'=>r=.tuple [.sl .unk (((ve b).getD []).map (PV.int .u16)),.bool (ve b).isSome]∧s'=s):=by
 refine go Tryz.func74 (k:=fun hwf H=>?_)
 have h20:((2:Int)=0)=False:=Y19
 have hm2:((b.length:Int)).tmod 2=((b.length%2:Nat):Int):=zhS
 have hwm:IntKind.i64.wrap ((b.length%2:Nat):Int)=((b.length%2:Nat):Int):=zi Y18
 have H:=aj h20 (aj hm2 (aj hwm H))
 refine rs (k:=rg [0] (k:=rs (k:=rs (k:=rg [0,9] (k:=rc (ht:=fun hc0=>?_) (hf:=fun hc0=>?_))))))
 refine rs (k:=rg [2,3] (k:=rR (k:=?_)))
 refine jO 1 ?_;rotate_left
 refine rk (k:=rs (k:=?_))
 have hev:b.length%2=0:=Y78
 have hq2:((b.length:Int)).tdiv 2=((b.length/2:Nat):Int):=zeT
 have hwq:IntKind.i64.wrap ((b.length/2:Nat):Int)=((b.length/2:Nat):Int):=zi Y18
 have H:=aj hq2 (aj hwq H)
 refine rg [0,4] (k:=rs (k:=rs (k:=rg [0,4,5] (k:=rb (k:=?_)))))
 refine Run.loop (fun e s'=>Fr s s'∧∃ (i:Nat) (W:List Int) (kk:SK),e=[(0,.sl .unk (b.map (PV.int .u8))),(4,.sl kk (W.map (PV.int .u16))),(5,.int .i64 ((2*i:Nat):Int))]∧2*i≤b.length∧W=wI (b.take (2*i))∧yA s' kk W.length (Tryz.prog.cellsOf 39)∧(∀ t z,kk=.tok t z→s.nxt≤t∧t<s'.nxt)) (fun e s'=>b.length-xB e 5) ?_ ?_
 ·exact zpM
 rintro e s1 ⟨F1,i,W,kk,rfl,hi,hW,hgr,htk⟩
 refine rs (k:=rs (k:=rg [0,4,5,13] (k:=rc (ht:=fun hc1=>?_) (hf:=fun hc1=>?_))))
 ·refine rk (k:=rs (k:=rb (k:=?_)))
  have hil:2*i<b.length:=Y79
  have hil1:2*i+1<b.length:=Y18
  obtain ⟨x,hxe⟩:∃ z_,b[2*i]'hil=z_:=⟨_,rfl⟩
  have hxx:(b.map (PV.int .u8))[2*i]? =some (.int .u8 x):=Y80
  obtain ⟨y,hye⟩:∃ z_,b[2*i+1]'hil1=z_:=⟨_,rfl⟩
  have hxy:(b.map (PV.int .u8))[2*i+1]? =some (.int .u8 y):=by rw [yP hil1,hye]
  have hx8:U8 x:=zmQ
  have hy8:U8 y:=zmh
  have hw:IntKind.i64.wrap (((2*i:Nat):Int)+2)=((2*(i+1):Nat):Int):=Y24
  have hw1:IntKind.i64.wrap (((2*i:Nat):Int)+1)=((2*i+1:Nat):Int):=Y24
  have hg:vt b ((2*i:Nat):Int)=some (256*x+y):=by
   unfold vt
   rw [if_pos Y18,Int.toNat_natCast,List.getElem?_eq_getElem hil,List.getElem?_eq_getElem hil1,hxe,hye];rfl
  have hwW:W.length=i:=by rw [hW,YI,List.length_take];omega
  have hu:IntKind.u16.wrap (256*x+y)=256*x+y:=by rw [wM];unfold U8 at hx8 hy8;omega
  have hx16:IntKind.u16.wrap x=x:=znH
  have hy16:IntKind.u16.wrap y=y:=by rw [wM];unfold U8 at hy8;omega
  have hsh:IntKind.u16.wrap (x*256)=x*256:=znH
  have hor:=zhE hx8 hy8
  have hlt1:(2*i<b.length)=True:=eq_true hil
  have hlt2:(2*i+1<b.length)=True:=eq_true hil1
  have H:=aj hxx (aj hxy (aj hw (aj hw1 (aj hu (aj hx16 (aj hy16 (aj hsh (aj hor (aj hlt1 (aj hlt2 H))))))))))
  refine Run.drawC [15] [0,4,5] Tryz.mixed Y22 ?_
  refine zj.pre (pre:=[_,_,_,_,_,_,_,_,_,_,_,_,_,_,_]) au ?_
  refine zj.grow Y19 au au au Tryz.td23 zeY (zp (P:=Tryz.prog) (e:=39) (f:=PV.int .u16) (fun a=>⟨rfl,zdS⟩) W) (zp (P:=Tryz.prog) (e:=39) (f:=PV.int .u16) (fun a=>⟨rfl,zdS⟩) [_]) zhy zme zjP Y71 ?_
  intro k2 s2 hgr2 htm
  refine zj.all au ?_
  refine re (k:=rB (k:=rg [0,4,5] (k:=?_)))
  simp only [List.length_map,List.length_cons,List.length_nil] at hgr2
  refine Run.lp ⟨⟨F1.tm htm (fun t z e=>(htk t z e).1),i+1,W++[256*x+y],k2,?_,Y18,?_,by simpa using hgr2,fun t z e=>?_⟩,?_⟩
  ·simp
  ·exact zpW
  ·exact Y31
  ·exact Y29
 refine rX (k:=rs (k:=rg [2,3] (k:=rR (k:=?_))))
 refine jO 1 ?_;rotate_left
 any_goals
  refine jI 1 ?_
  first
   |(have hie:2*i=b.length:=by have:=of_decide_eq_false hc1;omega
     have hev2:ve b=some (wI b):=if_pos hev
     refine Ret.pure (r':=.tuple [.sl .unk (W.map (PV.int .u16)),.bool true]) (by simp only [Tryz.f74,go_sem,↓reduceIte]<;>rfl) (by simp only [PV.weak,PV.weaks,zA]) zpO hwf F1.blk ⟨by rw [hW,hie,List.take_length,hev2];rfl,rfl⟩)
   |(have hno:ve b=none:=if_neg Y78
     refine Ret.pure (r':=.tuple [.sl .unk [],.bool false]) (by simp only [Tryz.f74,go_sem,↓reduceIte]<;>rfl) zj1 Y32 hwf (fun _ _=>rfl) ⟨by rw [hno];rfl,rfl⟩)
end Go.Proofs
namespace Go.Proofs
open Go.PM
set_option maxHeartbeats 2000000
theorem zoH {p:Prop} (h:p:=by rw [xw,List.getElem?_eq_getElem hil,hxe,hx];simp only [Option.getD_some,if_true,Uc,hd8,he8,List.map_set];rw [List.getElem?_eq_getElem hdl,hv];rfl):p:=h
theorem zov {p:Prop} (h:p:=by exact ⟨0,rfl,Nat.zero_le _,by rw [xw,hN,List.map_replicate]⟩):p:=h
theorem WN {l:List Bool} (hl:l.length≤140737488351232) {s:St}:za Tryz.prog 70 [.sl .unk (l.map PV.bool)] s (fun r s'=>r=.sl .unk ((xk l).map (PV.int .u8))∧s'=s):=by
 refine go Tryz.func70 (k:=fun hwf H=>?_)
 obtain ⟨N,hN⟩:∃ N,(l.length+7)/8=N:=⟨_,rfl⟩
 have h80:((8:Int)=0)=False:=Y19
 have hwa:IntKind.i64.wrap ((l.length:Int)+8)=((l.length+8:Nat):Int):=Y24
 have hwb:IntKind.i64.wrap (((l.length+8:Nat):Int)-1)=((l.length+7:Nat):Int):=Y24
 have hq8:((l.length+7:Nat):Int).tdiv 8=(N:Int):=zeT
 have hwN:IntKind.i64.wrap (N:Int)=N:=zi Y18
 have H:=aj h80 (aj hwa (aj hwb (aj hq8 (aj hwN H))))
 refine rs (k:=rg [0] (k:=rs (k:=rr (k:=ro (pre:=[_,_,_,_,_]) (k:=?_)))))
 refine zm.makeOwn (n:=N) au au au Tryz.td41 (by rw [Tryz.zp5]) Y18 (by rw [Tryz.by5];omega) ?_
 refine rh [0,3] (k:=rs (k:=rs (k:=rg [3,12,13,14] (k:=rb (k:=?_)))))
 refine Run.loop (fun e s'=>∃ i:Nat,e=[(3,.own s.nxt 0 N),(12,.sl .unk (l.map PV.bool)),(13,.int .i64 l.length),(14,.int .i64 (i:Int))]∧i≤l.length∧s'=(s.new (.row 5 ((xw l i).map (PV.int .u8))))) (fun e s'=>l.length-xB e 14) ?_ ?_
 ·exact zov
 rintro e s1 ⟨i,rfl,hi,rfl⟩
 refine rs (k:=rg [3,12,13,14,15] (k:=rs (k:=rc (ht:=fun hc0=>?_) (hf:=fun hc0=>?_))))
 refine rk (k:=rs (k:=rb (k:=rs (k:=?_))))
 have hil:i<l.length:=Y83
 obtain ⟨x,hxe⟩:∃ z_,l[i]'hil=z_:=⟨_,rfl⟩
 have hxx:(l.map PV.bool)[i]? =some (.bool x):=Y80
 have hw:IntKind.i64.wrap ((i:Int)+1)=((i+1:Nat):Int):=Y24
 have H:=aj hxx (aj hw H)
 refine rg [3,4,5,12,13,14] (k:=rs (k:=rg [3,4,12,13,14,19] (k:=rc (ht:=fun hc1=>?_) (hf:=fun hc1=>?_))))
 obtain ⟨d8,hd8⟩:∃ d,i/8=d:=⟨_,rfl⟩
 obtain ⟨e8,he8⟩:∃ d,i%8=d:=⟨_,rfl⟩
 have hpl:(xw l i).length=N:=by rw [Zc,hN]
 have hdl:d8<(xw l i).length:=Y18
 obtain ⟨v,hv⟩:∃ v,(xw l i)[d8]=v:=⟨_,rfl⟩
 have hvv:((xw l i).map (PV.int .u8))[d8]? =some (.int .u8 v):=by rw [yP hdl,hv]
 have hq:(i:Int).tdiv 8=(d8:Int):=zeT
 have hm:(i:Int).tmod 8=(e8:Int):=zhS
 have hwd:IntKind.i64.wrap (d8:Int)=d8:=zi Y18
 have hwe:IntKind.i64.wrap (e8:Int)=e8:=zi Y18
 have hwu:IntKind.u64.wrap (e8:Int)=e8:=by rw [YB];omega
 have hdN:(d8<N)=True:=eq_true Y18
 have he0:(0≤(e8:Int))=True:=eq_true Y18
 have hbv:(1*2 ^ min e8 8%256:Int)=zlN e8:=rfl
 have H:=aj hvv (aj hq (aj hm (aj hwd (aj hwe (aj hwu (aj hdN (aj he0 (aj hbv H))))))))
 refine Run.drawC [10] [3,12,13,14] Tryz.mixed Y22 ?_
 refine zj.pre (pre:=[_,_,_,_,_,_,_,_,_,_]) au ?_
 refine zj.eff Y19 au au ?_
 refine zj.nil ?_
 refine re (k:=rB (k:=rg [3,12,13,14] (k:=?_)))
 refine jO 1 ?_;rotate_left
 refine rk (k:=rB (k:=rg [3,12,13,14] (k:=?_)))
 refine jO 1 ?_;rotate_left
 ·refine rX (k:=rs (k:=rg [2] (k:=rR (k:=?_))))
  have hie:i=l.length:=Y30
  refine Ret.pureF 2 (r':=.sl .unk ((xk l).map (PV.int .u8))) (by simp only [Tryz.f70,go_sem]<;>rfl) (zc9 (by rw [xe,hN]) Y71 (by rw [zN,hie];rfl)) Y23 hwf (fun j hj=>by rw [zg Y18]) ⟨rfl,rfl⟩
 any_goals
  refine jI 1 ?_
  first
   |(have hx:x=true:=hc1
     refine Run.lp ⟨⟨i+1,rfl,Y18,zoH⟩,?_⟩
     simp only [xB,go_sem,↓reduceIte,Nat.reduceEqDiff]
     omega)
   |(have hx:x=false:=hc1
     refine Run.lp ⟨⟨i+1,rfl,Y18,by rw [xw,List.getElem?_eq_getElem hil,hxe,hx];rfl⟩,?_⟩
     simp only [xB,go_sem,↓reduceIte,Nat.reduceEqDiff]
     omega)
theorem zc1 {l:List Bool} (hl:l.length≤140737488351232) {s:St}:za Tryz.prog 58 [.sl .unk (l.map PV.bool)] s (fun r s'=>r=.sl .unk ((xk l).map (PV.int .u8))∧s'=s):=by
 refine go Tryz.func58 (k:=fun hwf H=>?_)
 obtain ⟨N,hN⟩:∃ N,(l.length+7)/8=N:=⟨_,rfl⟩
 have h80:((8:Int)=0)=False:=Y19
 have hwa:IntKind.i64.wrap ((l.length:Int)+7)=((l.length+7:Nat):Int):=Y24
 have hwb:IntKind.i64.wrap (((l.length+8:Nat):Int)-1)=((l.length+7:Nat):Int):=Y24
 have hq8:((l.length+7:Nat):Int).tdiv 8=(N:Int):=zeT
 have hwN:IntKind.i64.wrap (N:Int)=N:=zi Y18
 have H:=aj h80 (aj hwa (aj hwb (aj hq8 (aj hwN H))))
 refine rs (k:=rg [0] (k:=rs (k:=rr (k:=ro (pre:=[_,_,_,_]) (k:=?_)))))
 refine zm.makeOwn (n:=N) au au au Tryz.td41 (by rw [Tryz.zp5]) Y18 (by rw [Tryz.by5];omega) ?_
 refine rh [0,3] (k:=rs (k:=rs (k:=rg [3,11,12,13] (k:=rb (k:=?_)))))
 refine Run.loop (fun e s'=>∃ i:Nat,e=[(3,.own s.nxt 0 N),(11,.sl .unk (l.map PV.bool)),(12,.int .i64 l.length),(13,.int .i64 (i:Int))]∧i≤l.length∧s'=(s.new (.row 5 ((xw l i).map (PV.int .u8))))) (fun e s'=>l.length-xB e 13) ?_ ?_
 ·exact zov
 rintro e s1 ⟨i,rfl,hi,rfl⟩
 refine rs (k:=rg [3,11,12,13,14] (k:=rs (k:=rc (ht:=fun hc0=>?_) (hf:=fun hc0=>?_))))
 refine rk (k:=rs (k:=rb (k:=rs (k:=?_))))
 have hil:i<l.length:=Y83
 obtain ⟨x,hxe⟩:∃ z_,l[i]'hil=z_:=⟨_,rfl⟩
 have hxx:(l.map PV.bool)[i]? =some (.bool x):=Y80
 have hw:IntKind.i64.wrap ((i:Int)+1)=((i+1:Nat):Int):=Y24
 have H:=aj hxx (aj hw H)
 refine rg [3,4,5,11,12,13] (k:=rs (k:=rg [3,4,11,12,13,18] (k:=rc (ht:=fun hc1=>?_) (hf:=fun hc1=>?_))))
 obtain ⟨d8,hd8⟩:∃ d,i/8=d:=⟨_,rfl⟩
 obtain ⟨e8,he8⟩:∃ d,i%8=d:=⟨_,rfl⟩
 have hpl:(xw l i).length=N:=by rw [Zc,hN]
 have hdl:d8<(xw l i).length:=Y18
 obtain ⟨v,hv⟩:∃ v,(xw l i)[d8]=v:=⟨_,rfl⟩
 have hvv:((xw l i).map (PV.int .u8))[d8]? =some (.int .u8 v):=by rw [yP hdl,hv]
 have hq:(i:Int).tdiv 8=(d8:Int):=zeT
 have hm:(i:Int).tmod 8=(e8:Int):=zhS
 have hwd:IntKind.i64.wrap (d8:Int)=d8:=zi Y18
 have hwe:IntKind.i64.wrap (e8:Int)=e8:=zi Y18
 have hwu:IntKind.u64.wrap (e8:Int)=e8:=by rw [YB];omega
 have hdN:(d8<N)=True:=eq_true Y18
 have he0:(0≤(e8:Int))=True:=eq_true Y18
 have hbv:(1*2 ^ min e8 8%256:Int)=zlN e8:=rfl
 have H:=aj hvv (aj hq (aj hm (aj hwd (aj hwe (aj hwu (aj hdN (aj he0 (aj hbv H))))))))
 refine rg [3,11,12,13] (k:=rB (k:=rg [3,11,12,13] (k:=?_)))
 refine jO 1 ?_;rotate_left
 refine rk (k:=rB (k:=rg [3,11,12,13] (k:=?_)))
 refine jO 1 ?_;rotate_left
 ·refine rX (k:=rs (k:=rg [2] (k:=rR (k:=?_))))
  have hie:i=l.length:=Y30
  refine Ret.pureF 2 (r':=.sl .unk ((xk l).map (PV.int .u8))) (by simp only [Tryz.f58,go_sem]<;>rfl) (zc9 (by rw [xe,hN]) Y71 (by rw [zN,hie];rfl)) Y23 hwf (fun j hj=>by rw [zg Y18]) ⟨rfl,rfl⟩
 any_goals
  refine jI 1 ?_
  first
   |(have hx:x=true:=hc1
     refine Run.lp ⟨⟨i+1,rfl,Y18,zoH⟩,?_⟩
     simp only [xB,go_sem,↓reduceIte,Nat.reduceEqDiff]
     omega)
   |(have hx:x=false:=hc1
     refine Run.lp ⟨⟨i+1,rfl,Y18,by rw [xw,List.getElem?_eq_getElem hil,hxe,hx];rfl⟩,?_⟩
     simp only [xB,go_sem,↓reduceIte,Nat.reduceEqDiff]
     omega)
end Go.Proofs
namespace Go.Proofs
open Go.PM
set_option maxHeartbeats 2000000
attribute [local go_sem] zf xm
theorem zn8 {p:Prop} (h:p:=by simp only [Tryz.f107,go_sem,↓reduceIte]<;>rfl):p:=h
theorem zo8 {p:Prop} (h:p:=by simp only [PV.blw,PV.blws,xm,and_true];exact fun t z e=>Y17):p:=h
theorem zbz {b:List Int} (hb:OkB b) (hl:b.length≤140737488351232) {n:Int} (hn:I64 n) (hnb:n≤140737488351232∨b.length≤10000000) {s:St}:za Tryz.prog 107 [.sl .unk (b.map (PV.int .u8)),.int .i64 n] s (fun r s'=>r=.tuple [.sl .unk (((xy b n).getD []).map PV.bool),.bool (xy b n).isSome]∧s'=s):=by
 refine go Tryz.func107 (k:=fun hwf H=>?_)
 have h80:((8:Int)=0)=False:=Y19
 have hw8:IntKind.i64.wrap ((b.length:Int)*8)=b.length*8:=zi Y18
 have H:=aj h80 H
 refine rs (k:=rg [0,1] (k:=rs (k:=rs (k:=rg [0,1,25] (k:=rc (ht:=fun hc0=>?_) (hf:=fun hc0=>?_))))))
 refine jO 1 ?_;rotate_left
 refine rk (k:=rs (k:=?_))
 have hc0':=hc0
 simp only [Bool.or_eq_false_iff,decide_eq_false_iff_not,Bool.not_eq_false',decide_eq_true_eq] at hc0'
 obtain ⟨⟨q1,q2⟩,q3⟩:=hc0'
 obtain ⟨m,rfl⟩:∃ m:Nat,n=m:=⟨n.toNat,(Int.toNat_of_nonneg Y18).symm⟩
 rw [hw8] at q2
 have hml:m≤8*b.length:=Y18
 have hN:(m+7)/8=b.length:=by
  rw [zi (n:=(m:Int)+8) Y18,zi (n:=(m:Int)+8-1) Y18] at q3
  rw [XJ Y18] at q3
  rw [zi Y18] at q3
  omega
 refine rr (k:=ro (pre:=[_]) (k:=?_))
 refine zm.makeOwn (n:=m) au au au Tryz.td45 (by rw [Tryz.zp4]) Y18 (by rw [Tryz.by4];omega) ?_
 refine rh [0,6] (k:=rs (k:=rs (k:=rg [0,6,29,30] (k:=rb (k:=?_)))))
 refine Run.loop (fun e s'=>∃ i:Nat,e=[(0,.sl .unk (b.map (PV.int .u8))),(6,.own s.nxt 0 m),(29,.int .i64 m),(30,.int .i64 (i:Int))]∧i≤m∧s'=(s.new (.row 4 ((xP b m i).map PV.bool)))) (fun e s'=>m-xB e 30) ?_ ?_
 ·exact ⟨0,rfl,Nat.zero_le _,by rw [zeg,List.map_replicate]⟩
 rintro e s1 ⟨i,rfl,hi,rfl⟩
 refine rs (k:=rg [0,6,29,30,31] (k:=rs (k:=rc (ht:=fun hc1=>?_) (hf:=fun hc1=>?_))))
 ·refine rk (k:=rs (k:=rb (k:=rs (k:=?_))))
  have him:i<m:=Y79
  have hw:IntKind.i64.wrap ((i:Int)+1)=((i+1:Nat):Int):=Y24
  have H:=aj hw H
  refine rg [0,6,7,29,30] (k:=?_)
  obtain ⟨d8,hd8⟩:∃ d,i/8=d:=⟨_,rfl⟩
  obtain ⟨e8,he8⟩:∃ d,i%8=d:=⟨_,rfl⟩
  have hdl:d8<b.length:=Y18
  obtain ⟨v,hv⟩:∃ v,b[d8]=v:=⟨_,rfl⟩
  have hvv:(b.map (PV.int .u8))[d8]? =some (.int .u8 v):=by rw [yP hdl,hv]
  have hq:(i:Int).tdiv 8=(d8:Int):=zeT
  have hm:(i:Int).tmod 8=(e8:Int):=zhS
  have hwd:IntKind.i64.wrap (d8:Int)=d8:=zi Y18
  have hwe:IntKind.i64.wrap (e8:Int)=e8:=zi Y18
  have hwu:IntKind.u64.wrap (e8:Int)=e8:=by rw [YB];omega
  have he0:(0≤(e8:Int))=True:=eq_true Y18
  have hbit:decide (zR .and .u8 (v.fdiv (2 ^ min e8 8)) 1=1)=ZR b i:=by
   unfold ZR
   rw [hd8,he8,List.getElem?_eq_getElem hdl,hv];rfl
  have hrl:(xP b m i).length=m:=by simp [xP]
  have hro:((xP b m i).map PV.bool)[i]? =some (.bool ((xP b m i)[i]'Y18)):=yP Y18
  have himT:(i<m)=True:=eq_true him
  have H:=aj hvv (aj hq (aj hm (aj hwd (aj hwe (aj hwu (aj he0 (aj hbit (aj hro (aj himT H)))))))))
  refine rg [0,6,29,30] (k:=rB (k:=rg [0,6,29,30] (k:=?_)))
  refine Run.lp ⟨⟨i+1,rfl,Y18,by rw [← ze2 b him,List.map_set]⟩,?_⟩
  simp only [xB,go_sem,↓reduceIte,Nat.reduceEqDiff]
  omega
 refine rX (k:=rs (k:=rs (k:=?_)))
 have hie:i=m:=zgP
 subst hie
 rw [zfk]
 have hbl:(zZ b i).length=i:=by simp [zZ]
 refine rr (k:=?_)
 refine zm.thaw 6 s.nxt 2 (v:=.sl .unk ((zZ b i).map PV.bool)) (by simp (disch:=omega) only [go_sem,↓reduceIte];exact zb8 (t:=4) hbl.symm Y71 zN) (by simp only [PV.blw,xm];exact ⟨fun t z e=>Y17,trivial⟩) ?_
 refine ro (pre:=[_]) (k:=rC (h:=WN (l:=zZ b i) Y18) (k:=ro (pre:=[_]) (k:=rC (h:=XW (xs:=xk (zZ b i)) (ys:=b) (by rw [xe];omega)) (k:=rh [6,51] (k:=rc (ht:=fun hc2=>?_) (hf:=fun hc2=>?_))))))
 refine jO 1 ?_;rotate_left
 refine rk (k:=rs (k:=rg [4,5] (k:=rR (k:=?_))))
 refine jO 2 ?_;rotate_left
 any_goals
  refine jI 1 ?_
  refine rs (k:=rg [4,5] (k:=rR (k:=?_)))
  refine jO 2 ?_;rotate_left
 any_goals
  refine jI 2 ?_
  first
   |(have hyes:xy b (i:Int)=some (zZ b i):=by
      unfold xy
      rw [Int.toNat_natCast,if_pos ⟨Y18,Y18,Y18,by simpa using hc2⟩]
     refine Ret.pure (r':=.tuple [.sl .unk ((zZ b i).map PV.bool),.bool true]) zn8 (by simp only [PV.weak,PV.weaks,zf]) zo8 hwf (fun j hj=>by simp (disch:=omega) only [go_sem]) ⟨by rw [hyes];rfl,rfl⟩)
   |(have hno:xy b (i:Int)=none:=by
      unfold xy
      rw [Int.toNat_natCast,if_neg]
      rintro ⟨_,_,_,h⟩
      simp [h] at hc2
     refine Ret.pure (r':=.tuple [.sl .unk [],.bool false]) zn8 zj1 Y32 hwf (fun j hj=>by simp (disch:=omega) only [go_sem]) ⟨by rw [hno];rfl,rfl⟩)
   |(have hno:xy b n=none:=by
      unfold xy
      rw [if_neg]
      rintro ⟨r1,r2,r3,_⟩
      have hc0':=hc0
      simp only [Bool.or_eq_true,decide_eq_true_eq,Bool.not_eq_true',decide_eq_false_iff_not] at hc0'
      rw [hw8,zi (n:=n+8) Y18,zi (n:=n+8-1) Y18,XJ Y18,zi Y18] at hc0'
      omega
     refine Ret.pure (r':=.tuple [.sl .unk [],.bool false]) zn8 zj1 Y32 hwf (fun _ _=>rfl) ⟨by rw [hno];rfl,rfl⟩)
attribute [local go_sem] zf xm
theorem znI {p:Prop} (h:p:=by simp only [Tryz.f37,go_sem,↓reduceIte]<;>rfl):p:=h
theorem zkC {p:Prop} (h:p:=by rw [Tryz.zp4];rfl):p:=h
theorem zkA {p:Prop} (h:p:=by rw [Tryz.cz4];rfl):p:=h
theorem zmN {p:Prop} (h:p:=by rw [Tryz.by4];decide):p:=h
theorem Ua {b:List Int} (hb:OkB b) (hl:b.length≤140737488351232) {n:Int} (hn:I64 n) (hnb:n≤140737488351232∨b.length≤10000000) {s:St}:za Tryz.prog 37 [.sl .unk (b.map (PV.int .u8)),.int .i64 n] s (fun r s'=>r=.tuple [.sl .unk (((xy b n).getD []).map PV.bool),.bool (xy b n).isSome]∧s'=s):=by
 refine go Tryz.func37 (k:=fun hwf H=>?_)
 have h80:((8:Int)=0)=False:=Y19
 have hw8:IntKind.i64.wrap (8*(b.length:Int))=8*b.length:=zi Y18
 have H:=aj h80 H
 refine rs (k:=rg [0,1] (k:=rs (k:=rs (k:=rg [0,1,25] (k:=rc (ht:=fun hc0=>?_) (hf:=fun hc0=>?_))))))
 refine jO 1 ?_;rotate_left
 refine rk (k:=rs (k:=?_))
 have hc0':=hc0
 simp only [Bool.or_eq_false_iff,decide_eq_false_iff_not,Bool.not_eq_false',decide_eq_true_eq] at hc0'
 obtain ⟨⟨q1,q2⟩,q3⟩:=hc0'
 obtain ⟨m,rfl⟩:∃ m:Nat,n=m:=⟨n.toNat,(Int.toNat_of_nonneg Y18).symm⟩
 rw [hw8] at q2
 have hml:m≤8*b.length:=Y18
 have hN:(m+7)/8=b.length:=by
  have q3:=q3.symm
  rw [zi (n:=(m:Int)+7) Y18] at q3
  rw [XJ Y18] at q3
  rw [zi Y18] at q3
  omega
 refine rg [0,1,6] (k:=rs (k:=rs (k:=rg [0,1,6,7] (k:=rb (k:=?_)))))
 refine Run.loop (fun e s'=>Fr s s'∧∃ (i:Nat) (L:List Bool) (kk:SK),e=[(0,.sl .unk (b.map (PV.int .u8))),(1,.int .i64 m),(6,.sl kk (L.map PV.bool)),(7,.int .i64 (i:Int))]∧i≤8*b.length∧L=zZ b (min i m)∧(∀ q,m≤q→q<i→ZR b q=false)∧yA s' kk L.length (Tryz.prog.cellsOf 4)∧(∀ t z,kk=.tok t z→s.nxt≤t∧t<s'.nxt)) (fun e s'=>8*b.length-xB e 7) ?_ ?_
 ·exact ⟨Fr.refl hwf,0,[],.nil,rfl,Nat.zero_le _,by rw [Nat.zero_min];rfl,fun q _ h=>Y18,.inl ⟨rfl,rfl⟩,fun t z e=>Y17⟩
 rintro e s1 ⟨F1,i,L,kk,rfl,hi,hL,hno,hgr,htk⟩
 have hLl:L.length=min i m:=by rw [hL];simp [zZ]
 refine rs (k:=rs (k:=?_))
 have H:=aj hw8 H
 refine rg [0,1,6,7,30] (k:=rc (ht:=fun hc1=>?_) (hf:=fun hc1=>?_))
 refine rk (k:=rs (k:=rb (k:=rs (k:=?_))))
 have hi8:i<8*b.length:=Y79
 have hw:IntKind.i64.wrap ((i:Int)+1)=((i+1:Nat):Int):=Y24
 have hdlt:(i/8<b.length)=True:=eq_true Y18
 obtain ⟨d8,hd8⟩:∃ d,i/8=d:=⟨_,rfl⟩
 obtain ⟨e8,he8⟩:∃ d,i%8=d:=⟨_,rfl⟩
 have hdl:d8<b.length:=Y18
 obtain ⟨v,hv⟩:∃ v,b[d8]=v:=⟨_,rfl⟩
 have hvv:(b.map (PV.int .u8))[d8]? =some (.int .u8 v):=by rw [yP hdl,hv]
 have hq:(i:Int).tdiv 8=(d8:Int):=zeT
 have hm:(i:Int).tmod 8=(e8:Int):=zhS
 have hwd:IntKind.i64.wrap (d8:Int)=d8:=zi Y18
 have hwe:IntKind.i64.wrap (e8:Int)=e8:=zi Y18
 have hwu:IntKind.u64.wrap (e8:Int)=e8:=by rw [YB];omega
 have he0:(0≤(e8:Int))=True:=eq_true Y18
 have hbit:decide (zR .and .u8 (v.fdiv (2 ^ min e8 8)) 1=1)=ZR b i:=by
  unfold ZR
  rw [hd8,he8,List.getElem?_eq_getElem hdl,hv];rfl
 have H:=aj hw (aj hvv (aj hq (aj hm (aj hwd (aj hwe (aj hwu (aj he0 (aj hbit H))))))))
 refine rg [0,1,6,7,8] (k:=rs (k:=rg [0,1,6,7,8,46] (k:=rc (ht:=fun hc2=>?_) (hf:=fun hc2=>?_))))
 refine rr (k:=ro (pre:=[_,_]) (k:=rO (k:=?_)))
 refine zm.grow au au au Tryz.td45 zkC (zp (P:=Tryz.prog) (e:=4) (f:=PV.bool) (fun a=>⟨rfl,zkA⟩) L) (zp (P:=Tryz.prog) (e:=4) (f:=PV.bool) (fun a=>⟨rfl,zkA⟩) [_]) zmN (by rw [Tryz.by4];simp [hLl];omega) zjP Y71 ?_
 intro k2 s2 hgr2 htm
 refine rh [0,1,6,7] (k:=rB (k:=rg [0,1,6,7] (k:=?_)))
 refine jO 2 ?_;rotate_left
 refine rs (k:=rg [0,1,6,7,51] (k:=rc (ht:=fun hc3=>?_) (hf:=fun hc3=>?_)))
 refine jO 1 ?_;rotate_left
 refine rk (k:=rB (k:=rg [0,1,6,7] (k:=?_)))
 refine jO 2 ?_;rotate_left
 refine rX (k:=rs (k:=rg [4,5] (k:=rR (k:=?_))))
 refine jO 3 ?_;rotate_left
 any_goals
  refine jI 1 ?_
  refine rs (k:=rg [4,5] (k:=rR (k:=?_)))
  refine jO 3 ?_;rotate_left
 any_goals
  refine jI 3 ?_
  first
   |(have hie:i=8*b.length:=by have:=of_decide_eq_false hc1;omega
     have hyes:xy b (m:Int)=some (zZ b m):=by
      unfold xy
      rw [Int.toNat_natCast,if_pos ⟨Y18,Y18,Y18,(zdp hb hN).2 (fun q h1 h2=>hno q h1 Y18)⟩]
     refine Ret.pure (r':=.tuple [.sl .unk (L.map PV.bool),.bool true]) znI (by simp only [PV.weak,PV.weaks,zf]) zo8 hwf F1.blk ⟨by rw [hyes,hL,hie,Nat.min_eq_right hml];rfl,rfl⟩)
   |(have him:m≤i:=by have:=of_decide_eq_false hc2;omega
     have hno2:xy b (m:Int)=none:=by
      unfold xy
      rw [Int.toNat_natCast,if_neg]
      rintro ⟨_,_,_,h⟩
      have:=(zdp hb hN).1 h i him hi8
      rw [this] at hc3;cases hc3
     refine Ret.pure (r':=.tuple [.sl .unk [],.bool false]) znI zj1 Y32 hwf F1.blk ⟨by rw [hno2];rfl,rfl⟩)
   |(have hno:xy b n=none:=by
      unfold xy
      rw [if_neg]
      rintro ⟨r1,r2,r3,_⟩
      have hc0':=hc0
      simp only [Bool.or_eq_true,decide_eq_true_eq,Bool.not_eq_true',decide_eq_false_iff_not] at hc0'
      rw [hw8,zi (n:=n+7) Y18,XJ Y18,zi Y18] at hc0'
      omega
     refine Ret.pure (r':=.tuple [.sl .unk [],.bool false]) znI zj1 Y32 hwf (fun _ _=>rfl) ⟨by rw [hno];rfl,rfl⟩)
 any_goals
  refine jI 2 ?_
  first
   |(have him:i<m:=by have:=of_decide_eq_true hc2;omega
     simp only [List.length_map,List.length_cons,List.length_nil] at hgr2
     refine Run.lp ⟨⟨F1.tm htm (fun t z e=>(htk t z e).1),i+1,L++[ZR b i],k2,Y71,Y18,by rw [hL,Nat.min_eq_left Y18,Nat.min_eq_left Y18,zca],fun q h1 h2=>Y18,by simpa using hgr2,fun t z e=>?_⟩,?_⟩
     ·exact Y31
     ·simp only [xB,go_sem,↓reduceIte,Nat.reduceEqDiff]
      omega)
   |(have him:m≤i:=by have:=of_decide_eq_false hc2;omega
     refine Run.lp ⟨⟨F1,i+1,L,kk,rfl,Y18,by rw [hL,Nat.min_eq_right him,Nat.min_eq_right Y18],fun q h1 h2=>?_,hgr,htk⟩,?_⟩
     ·by_cases h:q=i
      ·rw [h];exact hc3
      ·exact hno q h1 Y18
     ·simp only [xB,go_sem,↓reduceIte,Nat.reduceEqDiff]
      omega)
end Go.Proofs
namespace Go.Proofs
open Go.PM
set_option maxHeartbeats 2000000
theorem VV {fn:Int} {s:St}:za Tryz.prog 82 [.int .i64 fn] s (fun r s'=>r=.bool (xO fn)∧s'=s):=by
 refine go Tryz.func82 (k:=fun hwf H=>?_)
 refine rs (k:=rg [0] (k:=rs (k:=rs (k:=rg [3] (k:=rb (k:=rs (k:=rs (k:=rg [3,4] (k:=rc (ht:=fun hc0=>?_) (hf:=fun hc0=>?_))))))))))
 refine rk (k:=rc (ht:=fun hc11=>?_) (hf:=fun hc11=>?_))
 refine jO 1 ?_;rotate_left
 ·exact Bool.noConfusion (hc0.symm.trans hc11)
 refine rs (k:=rg [3,4] (k:=rc (ht:=fun hc1=>?_) (hf:=fun hc1=>?_)))
 refine rk (k:=rc (ht:=fun hc11=>?_) (hf:=fun hc11=>?_))
 refine jO 1 ?_;rotate_left
 ·exact Bool.noConfusion (hc1.symm.trans hc11)
 refine rs (k:=rg [3,4] (k:=rc (ht:=fun hc2=>?_) (hf:=fun hc2=>?_)))
 refine rk (k:=rc (ht:=fun hc11=>?_) (hf:=fun hc11=>?_))
 refine jO 1 ?_;rotate_left
 ·exact Bool.noConfusion (hc2.symm.trans hc11)
 refine rs (k:=rg [3,4] (k:=rc (ht:=fun hc3=>?_) (hf:=fun hc3=>?_)))
 refine rk (k:=rc (ht:=fun hc11=>?_) (hf:=fun hc11=>?_))
 refine jO 1 ?_;rotate_left
 ·exact Bool.noConfusion (hc3.symm.trans hc11)
 refine rs (k:=rg [3,4] (k:=rc (ht:=fun hc4=>?_) (hf:=fun hc4=>?_)))
 refine rk (k:=rc (ht:=fun hc11=>?_) (hf:=fun hc11=>?_))
 refine jO 1 ?_;rotate_left
 ·exact Bool.noConfusion (hc4.symm.trans hc11)
 refine rs (k:=rg [3,4] (k:=rc (ht:=fun hc5=>?_) (hf:=fun hc5=>?_)))
 refine rk (k:=rc (ht:=fun hc11=>?_) (hf:=fun hc11=>?_))
 refine jO 1 ?_;rotate_left
 ·exact Bool.noConfusion (hc5.symm.trans hc11)
 refine rs (k:=rg [3,4] (k:=rc (ht:=fun hc6=>?_) (hf:=fun hc6=>?_)))
 refine rk (k:=rc (ht:=fun hc11=>?_) (hf:=fun hc11=>?_))
 refine jO 1 ?_;rotate_left
 ·exact Bool.noConfusion (hc6.symm.trans hc11)
 refine rs (k:=rg [3,4] (k:=rc (ht:=fun hc7=>?_) (hf:=fun hc7=>?_)))
 refine rk (k:=rc (ht:=fun hc11=>?_) (hf:=fun hc11=>?_))
 refine jO 1 ?_;rotate_left
 ·exact Bool.noConfusion (hc7.symm.trans hc11)
 refine rs (k:=rg [3,4] (k:=rc (ht:=fun hc8=>?_) (hf:=fun hc8=>?_)))
 refine rk (k:=rc (ht:=fun hc11=>?_) (hf:=fun hc11=>?_))
 refine jO 1 ?_;rotate_left
 ·exact Bool.noConfusion (hc8.symm.trans hc11)
 refine rs (k:=rg [3,4] (k:=rc (ht:=fun hc9=>?_) (hf:=fun hc9=>?_)))
 refine rk (k:=rc (ht:=fun hc11=>?_) (hf:=fun hc11=>?_))
 refine jO 1 ?_;rotate_left
 ·exact Bool.noConfusion (hc9.symm.trans hc11)
 refine rs (k:=rg [3,4] (k:=rc (ht:=fun hc10=>?_) (hf:=fun hc10=>?_)))
 refine rk (k:=rc (ht:=fun hc11=>?_) (hf:=fun hc11=>?_))
 refine jO 1 ?_;rotate_left
 ·exact Bool.noConfusion (hc10.symm.trans hc11)
 refine rg [4] (k:=rc (ht:=fun hc11=>?_) (hf:=fun hc11=>?_))
 refine jO 1 ?_;rotate_left
 refine rk (k:=rB (k:=rs (k:=rg [2] (k:=rR (k:=rP (by simp only [Tryz.f82,go_sem];rfl) hwf ⟨?_,rfl⟩)))))
 refine jO 2 ?_;rotate_left
 any_goals
  refine jI 1 ?_
  refine rs (k:=rg [2] (k:=rR (k:=rP (by simp only [Tryz.f82,go_sem];rfl) hwf ⟨?_,rfl⟩)))
  refine jO 2 ?_;rotate_left
 any_goals
  refine jI 2 ?_
  first
   |(have:xO fn=true:=by
      unfold xO
      refine decide_eq_true ?_
      simp only [decide_eq_true_eq,decide_eq_false_iff_not] at *
      omega
     rw [this];rfl)
   |(have:xO fn=false:=by
      unfold xO
      refine decide_eq_false ?_
      simp only [decide_eq_true_eq,decide_eq_false_iff_not] at *
      omega
     rw [this];rfl)
theorem zjc {fn:Int} {s:St}:za Tryz.prog 130 [.int .i64 fn] s (fun r s'=>r=.bool (zhJ fn)∧s'=s):=by
 refine go Tryz.func130 (k:=fun hwf H=>?_)
 refine rs (k:=rg [0] (k:=rs (k:=rg [2] (k:=rR (k:=rP (by simp only [Tryz.f130,go_sem];rfl) hwf ⟨?_,rfl⟩)))))
 unfold zhJ;by_cases h1:1≤fn<;>by_cases h2:fn≤4<;>simp [h1,h2,PV.weak]
theorem Xe {n:Int} {s:St}:za Tryz.prog 113 [.int .i64 n] s (fun r s'=>r=.bool (xD n)∧s'=s):=by
 refine go Tryz.func113 (k:=fun hwf H=>?_)
 refine rs (k:=rg [0] (k:=rs (k:=rg [2] (k:=rR (k:=rP (by simp only [Tryz.f113,go_sem];rfl) hwf ⟨?_,rfl⟩)))))
 unfold xD;by_cases h1:0≤n<;>by_cases h2:n≤65535<;>simp [h1,h2,PV.weak]
attribute [local go_sem] Req.pv
theorem zkU {q:Req} {s:St}:za Tryz.prog 114 [q.pv] s (fun r s'=>r=.int .i64 (Zl q)∧s'=s):=by
 refine go Tryz.func114 (k:=fun hwf H=>?_)
 refine rs (k:=rg [1] (k:=rs (k:=rs (k:=rg [1,4] (k:=rb (k:=rs (k:=rg [1,4,5] (k:=rc (ht:=fun hc0=>?_) (hf:=fun hc0=>?_)))))))))
 refine jO 1 ?_;rotate_left
 refine rs (k:=rg [1,7] (k:=rc (ht:=fun hc1=>?_) (hf:=fun hc1=>?_)))
 refine jO 1 ?_;rotate_left
 refine rk (k:=rB (k:=rs (k:=rg [2] (k:=rR (k:=rP (by simp only [Tryz.f114,go_sem];rfl) hwf ⟨?_,rfl⟩)))))
 refine jO 2 ?_;rotate_left
 any_goals
  refine jI 1 ?_
  refine rs (k:=rg [2] (k:=rR (k:=rP (by simp only [Tryz.f114,go_sem];rfl) hwf ⟨?_,rfl⟩)))
  refine jO 2 ?_;rotate_left
 any_goals
  refine jI 2 ?_
  unfold Zl;simp only [decide_eq_true_eq,decide_eq_false_iff_not] at *;simp_all [PV.weak]
attribute [local go_sem] Req.pv
theorem zlW {p:Prop} (h:p:=by exact Bool.noConfusion (hc0.symm.trans hc1)):p:=h
theorem zkJ {q:Req} {s:St}:za Tryz.prog 115 [q.pv] s (fun r s'=>r=.int .i64 (uN q)∧s'=s):=by
 refine go Tryz.func115 (k:=fun hwf H=>?_)
 refine rs (k:=rg [1] (k:=rs (k:=rs (k:=rg [1,4] (k:=rb (k:=rs (k:=rs (k:=rg [1,4,5] (k:=rc (ht:=fun hc0=>?_) (hf:=fun hc0=>?_))))))))))
 refine rk (k:=rc (ht:=fun hc1=>?_) (hf:=fun hc1=>?_))
 refine jO 1 ?_;rotate_left
 ·exact zlW
 refine rg [1,4,5] (k:=rc (ht:=fun hc1=>?_) (hf:=fun hc1=>?_))
 refine jO 1 ?_;rotate_left
 refine rs (k:=rg [1,4,8] (k:=rc (ht:=fun hc2=>?_) (hf:=fun hc2=>?_)))
 refine jO 1 ?_;rotate_left
 refine rs (k:=rg [1,12] (k:=rc (ht:=fun hc3=>?_) (hf:=fun hc3=>?_)))
 refine jO 1 ?_;rotate_left
 refine rk (k:=rB (k:=rs (k:=rg [2] (k:=rR (k:=rP (by simp only [Tryz.f115,go_sem];rfl) hwf ⟨?_,rfl⟩)))))
 refine jO 2 ?_;rotate_left
 any_goals
  refine jI 1 ?_
  refine rs (k:=rg [2] (k:=rR (k:=rP (by simp only [Tryz.f115,go_sem];rfl) hwf ⟨?_,rfl⟩)))
  refine jO 2 ?_;rotate_left
 any_goals
  refine jI 2 ?_
  unfold uN;simp only [decide_eq_true_eq,decide_eq_false_iff_not] at *;simp_all [PV.weak]
end Go.Proofs
namespace Go.Proofs
open Go.PM
set_option maxHeartbeats 2000000
attribute [local go_sem] Req.pv
theorem zmV {p:Prop} (h:p:=by simp only [Tryz.f112,go_sem];rfl):p:=h
set_option maxRecDepth 100000 in
theorem zh1 {q:Req} {s:St}:za Tryz.prog 112 [q.pv] s (fun r s'=>r=.bool (vL q)∧s'=s):=by
 refine go Tryz.func112 (k:=fun hwf H=>?_)
 refine rs (k:=rg [1] (k:=rs (k:=rg [1,3] (k:=rs (k:=rr (k:=ro (pre:=[_,_]) (k:=rC (h:=zjc) (k:=rh [1,3,4] (k:=rs (k:=rg [1,3,4,5] (k:=rs (k:=?_))))))))))))
 obtain ⟨P1,hP1⟩:∃ b,(decide (¬ q.fn=8∧¬ q.fn=17))=b:=⟨_,rfl⟩
 refine rrA [some 35,some 36,some 37,some 38,some 39,some 40,some 41,some 42,some 43,some 44,some 45,some 46,some 47,some 48,some 49,some 50,some 51,some 52,some 53,some 54,some 55,some 56,some 57,some 58,some 59,some 60,some 61,some 62,some 63,some 64,some 65,some 66,some 67,some 68,some 69,some 70,some 71,some 72,some 73,some 74,some 75,some 76,some 77,some 78,some 79,some 80,some 81,some 2] (k:=fun ops hops=>?_)
 have H:=aj hops H
 refine ro (pre:=[_,_]) (k:=rQ 36 (ht:=fun hg1=>?_) (hf:=fun hg1=>?_))
 refine rg0 (k:=rg0 (k:=rg0 (k:=ro (pre:=[_,_]) (k:=rQ 41 (ht:=fun hg6=>?_) (hf:=fun hg6=>?_)))))
 refine jO 1 ?_;rotate_left
 ·cases hg6
 refine rg1 (k:=rg1 (k:=rg1 (k:=ro (pre:=[_,_]) (k:=rQ 41 (ht:=fun hg6=>?_) (hf:=fun hg6=>?_)))))
 refine jO 1 ?_;rotate_left
 refine rg0 (k:=rg0 (k:=rgU (k:=rgU (k:=rgU (k:=rg0 (k:=ro (pre:=[_,_]) (k:=rQ 49 (ht:=fun hg14=>?_) (hf:=fun hg14=>?_))))))))
 ·cases hg14
 refine jO 2 ?_;rotate_left
 any_goals
  refine jI 1 ?_
  refine rg1 (k:=rg1 (k:=rQ 43 (ht:=fun hg8=>?_) (hf:=fun hg8=>?_)))
  refine jO 3 ?_;rotate_left
  refine jO 4 ?_;rotate_left
 any_goals
  refine jI 4 ?_
  refine rg1 (k:=rg1 (k:=rg1 (k:=rg1 (k:=ro (pre:=[_,_]) (k:=rQ 49 (ht:=fun hg14=>?_) (hf:=fun hg14=>?_))))))
  refine jO 5 ?_;rotate_left
  refine jO 2 ?_;rotate_left
 any_goals
  refine jI 3 ?_
  refine rg0 (k:=rg0 (k:=rg0 (k:=rg1 (k:=ro (pre:=[_,_]) (k:=rQ 49 (ht:=fun hg14=>?_) (hf:=fun hg14=>?_))))))
  refine jO 5 ?_;rotate_left
  ·cases hg14
 any_goals
  refine jI 5 ?_
  refine rg1 (k:=rg1 (k:=rg1 (k:=rg1 (k:=rQ 53 (ht:=fun hg18=>?_) (hf:=fun hg18=>?_)))))
  refine jO 6 ?_;rotate_left
  refine jO 7 ?_;rotate_left
 any_goals
  refine jI 7 ?_
  refine rg1 (k:=rg1 (k:=rg1 (k:=rg1 (k:=ro (pre:=[_,_]) (k:=rQ 59 (ht:=fun hg24=>?_) (hf:=fun hg24=>?_))))))
  refine jO 8 ?_;rotate_left
  refine jO 9 ?_;rotate_left
 any_goals
  refine jI 6 ?_
  refine rg0 (k:=rg0 (k:=rg0 (k:=rg1 (k:=ro (pre:=[_,_]) (k:=rQ 59 (ht:=fun hg24=>?_) (hf:=fun hg24=>?_))))))
  refine jO 8 ?_;rotate_left
  ·cases hg24
 any_goals
  refine jI 8 ?_
  refine rg1 (k:=rg1 (k:=rg1 (k:=rg1 (k:=rQ 63 (ht:=fun hg28=>?_) (hf:=fun hg28=>?_)))))
  refine jO 10 ?_;rotate_left
  refine jO 11 ?_;rotate_left
 any_goals
  refine jI 11 ?_
  refine rg1 (k:=rg1 (k:=rg1 (k:=rg1 (k:=ro (pre:=[_,_]) (k:=rQ 69 (ht:=fun hg34=>?_) (hf:=fun hg34=>?_))))))
  refine jO 12 ?_;rotate_left
  refine jO 13 ?_;rotate_left
 any_goals
  refine jI 10 ?_
  refine rg0 (k:=rg0 (k:=rg0 (k:=rg1 (k:=ro (pre:=[_,_]) (k:=rQ 69 (ht:=fun hg34=>?_) (hf:=fun hg34=>?_))))))
  refine jO 12 ?_;rotate_left
  ·cases hg34
 any_goals
  refine jI 12 ?_
  refine rg1 (k:=rg1 (k:=rQ 71 (ht:=fun hg36=>?_) (hf:=fun hg36=>?_)))
  refine jO 14 ?_;rotate_left
  refine jO 15 ?_;rotate_left
 any_goals
  refine jI 15 ?_
  refine rg1 (k:=rg1 (k:=rg1 (k:=rg1 (k:=rQ 75 (ht:=fun hg40=>?_) (hf:=fun hg40=>?_)))))
  refine jO 16 ?_;rotate_left
  refine jO 17 ?_;rotate_left
 any_goals
  refine jI 2 ?_
  refine rg0 (k:=rg0 (k:=rg0 (k:=rg0 (k:=rgU (k:=rgU (k:=rgU (k:=rg0 (k:=ro (pre:=[_,_]) (k:=rQ 59 (ht:=fun hg24=>?_) (hf:=fun hg24=>?_))))))))))
  ·cases hg24
  refine jO 9 ?_;rotate_left
 any_goals
  refine jI 9 ?_
  refine rg0 (k:=rg0 (k:=rg0 (k:=rg0 (k:=rgU (k:=rgU (k:=rgU (k:=rg0 (k:=ro (pre:=[_,_]) (k:=rQ 69 (ht:=fun hg34=>?_) (hf:=fun hg34=>?_))))))))))
  ·cases hg34
  refine jO 13 ?_;rotate_left
 any_goals
  refine jI 13 ?_
  refine rg0 (k:=rg0 (k:=rgU (k:=rgU (k:=rgU (k:=rgU (k:=rgU (k:=rgU (k:=rgU (k:=rgU (k:=rg0 (k:=rh [2] (k:=rR (k:=rP zmV hwf ⟨?_,rfl⟩)))))))))))))
  refine jO 18 ?_;rotate_left
 any_goals
  refine jI 14 ?_
  refine rg0 (k:=rg0 (k:=rg0 (k:=rg0 (k:=rgU (k:=rgU (k:=rgU (k:=rg0 (k:=rg1 (k:=rh [2] (k:=rR (k:=rP zmV hwf ⟨?_,rfl⟩)))))))))))
  refine jO 18 ?_;rotate_left
 any_goals
  refine jI 16 ?_
  refine rg1 (k:=rg1 (k:=rg1 (k:=rg1 (k:=rg1 (k:=rh [2] (k:=rR (k:=rP zmV hwf ⟨?_,rfl⟩)))))))
  refine jO 18 ?_;rotate_left
 any_goals
  refine jI 17 ?_
  refine rg0 (k:=rg0 (k:=rg0 (k:=rg1 (k:=rg1 (k:=rh [2] (k:=rR (k:=rP zmV hwf ⟨?_,rfl⟩)))))))
  refine jO 18 ?_;rotate_left
 any_goals
  refine jI 18 ?_
  simp only [vL,zhJ,decide_eq_true_eq,decide_eq_false_iff_not,Bool.and_eq_true,Bool.or_eq_true,Bool.not_eq_true',Bool.and_eq_false_iff,Bool.or_eq_false_iff,Bool.not_eq_false'] at *
  refine jO 19 ?_;rotate_left
 any_goals
  refine jI 19 ?_
  first
   |(rw [decide_eq_true Y18];rfl)
   |(rw [decide_eq_false Y18];rfl)
   |(simp only [PV.weak];congr 1;simp only [decide_eq_decide];omega)
end Go.Proofs
namespace Go.Proofs
open Go.PM
set_option maxHeartbeats 2000000
attribute [local go_sem] zf Req.pv
set_option maxRecDepth 100000 in
theorem Ym {q:Req} {s:St}:za Tryz.prog 93 [q.pv] s (fun r s'=>r=.int .i64 (zD q)∧s'=s):=by
 refine go Tryz.func93 (k:=fun hwf H=>?_)
 refine rs (k:=rg [1] (k:=rs (k:=rb (k:=rs (k:=rr (k:=ro (pre:=[_,_]) (k:=rC (h:=VV) (k:=rh [1,3] (k:=rc (ht:=fun hc0=>?_) (hf:=fun hc0=>?_))))))))))
 refine jO 1 ?_;rotate_left
 refine rs (k:=rr (k:=ro (pre:=[_]) (k:=rC (h:=zh1 (q:=q)) (k:=ro (pre:=[_,_]) (k:=rQ 12 (ht:=fun hg3=>?_) (hf:=fun hg3=>?_))))))
 refine rg0 (k:=rg0 (k:=rg0 (k:=rg0 (k:=ro (pre:=[_,_]) (k:=rQ 18 (ht:=fun hg9=>?_) (hf:=fun hg9=>?_))))))
 refine jO 2 ?_;rotate_left
 ·cases hg9
 refine rg1 (k:=rg1 (k:=rC (h:=Xe) (k:=rg1 (k:=ro (pre:=[_,_]) (k:=rQ 18 (ht:=fun hg9=>?_) (hf:=fun hg9=>?_))))))
 refine jO 2 ?_;rotate_left
 refine rg1 (k:=rg1 (k:=rC (h:=Xe) (k:=rg1 (k:=ro (pre:=[_,_]) (k:=rQ 24 (ht:=fun hg15=>?_) (hf:=fun hg15=>?_))))))
 refine jO 3 ?_;rotate_left
 refine rg1 (k:=rg1 (k:=rC (h:=Xe) (k:=rg1 (k:=ro (pre:=[_,_]) (k:=rQ 30 (ht:=fun hg21=>?_) (hf:=fun hg21=>?_))))))
 refine jO 4 ?_;rotate_left
 refine rg1 (k:=rg1 (k:=rC (h:=Xe) (k:=rg1 (k:=rh [1,8] (k:=rc (ht:=fun hc1=>?_) (hf:=fun hc1=>?_))))))
 refine jO 1 ?_;rotate_left
 refine rs (k:=?_)
 refine Run.drawC [] [36] Tryz.mixed Y22 ?_
 refine zj.pre (pre:=[_,_,_,_]) au ?_
 refine zj.call au au au Y22 (zkU (q:=q)) ?_
 refine zj.pre (pre:=[_,_]) au ?_
 rcases hd6:(!decide ((q.bits.length:Int)=Zl q)) with _ | _
 have H:=aj hd6 H
 refine zj.gdo au au ?_
 refine zj.gdo au au ?_
 refine zj.gdo au au ?_
 refine zj.gdo au au ?_
 refine zj.call au au au Y22 (zkJ (q:=q)) ?_
 refine zj.gdo au au ?_
 refine zj.all au ?_
 refine re (k:=rc (ht:=fun hc2=>?_) (hf:=fun hc2=>?_))
 refine jO 1 ?_;rotate_left
 refine rk (k:=rB (k:=rs (k:=rg [2] (k:=rR (k:=rP (by simp only [Tryz.f93,go_sem];rfl) hwf ⟨?_,rfl⟩)))))
 refine jO 5 ?_;rotate_left
 have H:=aj hd6 H
 refine zj.gskip' au ?_
 refine zj.gskip' au ?_
 refine zj.gskip' au ?_
 refine zj.gskip' au ?_
 refine zj.gskip' au ?_
 refine zj.gskip' au ?_
 refine zj.all au ?_
 refine re (k:=rc (ht:=fun hc2=>?_) (hf:=fun hc2=>?_))
 refine jO 1 ?_;rotate_left
 ·cases hc2
 any_goals
  refine jI 2 ?_
  refine rg0 (k:=rg0 (k:=rg0 (k:=rg0 (k:=ro (pre:=[_,_]) (k:=rQ 24 (ht:=fun hg15=>?_) (hf:=fun hg15=>?_))))))
  refine jO 3 ?_;rotate_left
  ·cases hg15
 any_goals
  refine jI 3 ?_
  refine rg0 (k:=rg0 (k:=rg0 (k:=rg0 (k:=ro (pre:=[_,_]) (k:=rQ 30 (ht:=fun hg21=>?_) (hf:=fun hg21=>?_))))))
  refine jO 4 ?_;rotate_left
  ·cases hg21
 any_goals
  refine jI 4 ?_
  refine rg0 (k:=rg0 (k:=rg0 (k:=rg0 (k:=rh [1,8] (k:=rc (ht:=fun hc1=>?_) (hf:=fun hc1=>?_))))))
  refine jO 1 ?_;rotate_left
  ·cases hc1
 any_goals
  refine jI 1 ?_
  refine rs (k:=rg [2] (k:=rR (k:=rP (by simp only [Tryz.f93,go_sem];rfl) hwf ⟨?_,rfl⟩)))
  refine jO 5 ?_;rotate_left
 any_goals
  refine jI 5 ?_
  unfold zD
  refine jO 6 ?_;rotate_left
 any_goals
  refine jI 6 ?_
  simp only [decide_eq_true_eq,decide_eq_false_iff_not,Bool.not_eq_true',Bool.not_eq_false',Bool.or_eq_true,Bool.or_eq_false_iff] at *
  simp_all [PV.weak]<;>intros<;>omega
end Go.Proofs
namespace Go.Proofs
open Go.PM
set_option maxHeartbeats 2000000
theorem ze4 {fn:Int} {s:St}:za Tryz.prog 52 [.int .i64 fn] s (fun r s'=>r=.bool (xO fn)∧s'=s):=by
 refine go Tryz.func52 (k:=fun hwf H=>?_)
 refine rs (k:=rg [0] (k:=rs (k:=rg [2] (k:=rR (k:=rP (by simp only [Tryz.f52,go_sem];rfl) hwf ⟨?_,rfl⟩)))))
 unfold xO
 simp only [PV.weak]
 congr 1
 rw [Bool.eq_iff_iff]
 simp only [Bool.or_eq_true,Bool.and_eq_true,decide_eq_true_eq]
 omega
theorem uw {n:Int} {s:St}:za Tryz.prog 54 [.int .i64 n] s (fun r s'=>r=.bool (xD n)∧s'=s):=by
 refine go Tryz.func54 (k:=fun hwf H=>?_)
 refine rs (k:=rg [0] (k:=rs (k:=rg [2] (k:=rR (k:=rP (by simp only [Tryz.f54,go_sem];rfl) hwf ⟨?_,rfl⟩)))))
 unfold xD;by_cases h1:0≤n<;>by_cases h2:n≤65535<;>simp [h1,h2,PV.weak]
def uT (fn:Int):List Int:=if 1≤fn∧fn≤4 then [97,99] else if fn=5 then [97,98] else if fn=6 then [97,118] else if fn=8 then [115,118] else if fn=15 then [97,99,98] else if fn=16 then [97,99,118] else if fn=22 then [97,109] else if fn=23 then [97,99,119,118] else []
theorem zkN {p:Prop} (h:p:=by exact Bool.noConfusion (hc2.symm.trans hc3)):p:=h
theorem zcT {fn:Int} {s:St}:za Tryz.prog 53 [.int .i64 fn] s (fun r s'=>r=.str (vf (uT fn))∧s'=s):=by
 refine go Tryz.func53 (k:=fun hwf H=>?_)
 refine rs (k:=rg [0] (k:=rs (k:=rs (k:=rg [3] (k:=rb (k:=rs (k:=rs (k:=rg [3,4] (k:=rc (ht:=fun hc0=>?_) (hf:=fun hc0=>?_))))))))))
 refine rk (k:=rc (ht:=fun hc3=>?_) (hf:=fun hc3=>?_))
 refine jO 1 ?_;rotate_left
 ·exact Bool.noConfusion (hc0.symm.trans hc3)
 refine rs (k:=rg [3,4] (k:=rc (ht:=fun hc1=>?_) (hf:=fun hc1=>?_)))
 refine rk (k:=rc (ht:=fun hc3=>?_) (hf:=fun hc3=>?_))
 refine jO 1 ?_;rotate_left
 ·exact Bool.noConfusion (hc1.symm.trans hc3)
 refine rs (k:=rg [3,4] (k:=rc (ht:=fun hc2=>?_) (hf:=fun hc2=>?_)))
 refine rk (k:=rc (ht:=fun hc3=>?_) (hf:=fun hc3=>?_))
 refine jO 1 ?_;rotate_left
 ·exact zkN
 refine rg [3,4] (k:=rc (ht:=fun hc3=>?_) (hf:=fun hc3=>?_))
 refine jO 1 ?_;rotate_left
 refine rs (k:=rg [3,9] (k:=rc (ht:=fun hc4=>?_) (hf:=fun hc4=>?_)))
 refine jO 1 ?_;rotate_left
 refine rs (k:=rg [3,11] (k:=rc (ht:=fun hc5=>?_) (hf:=fun hc5=>?_)))
 refine jO 1 ?_;rotate_left
 refine rs (k:=rg [3,13] (k:=rc (ht:=fun hc6=>?_) (hf:=fun hc6=>?_)))
 refine jO 1 ?_;rotate_left
 refine rs (k:=rg [3,15] (k:=rc (ht:=fun hc7=>?_) (hf:=fun hc7=>?_)))
 refine jO 1 ?_;rotate_left
 refine rs (k:=rg [3,17] (k:=rc (ht:=fun hc8=>?_) (hf:=fun hc8=>?_)))
 refine jO 1 ?_;rotate_left
 refine rs (k:=rg [3,19] (k:=rc (ht:=fun hc9=>?_) (hf:=fun hc9=>?_)))
 refine jO 1 ?_;rotate_left
 refine rs (k:=rg [21] (k:=rc (ht:=fun hc10=>?_) (hf:=fun hc10=>?_)))
 refine jO 1 ?_;rotate_left
 refine rk (k:=rB (k:=rs (k:=rg [2] (k:=rR (k:=rP (by simp only [Tryz.f53,go_sem];rfl) hwf ⟨?_,rfl⟩)))))
 refine jO 2 ?_;rotate_left
 any_goals
  refine jI 1 ?_
  refine rs (k:=rg [2] (k:=rR (k:=rP (by simp only [Tryz.f53,go_sem];rfl) hwf ⟨?_,rfl⟩)))
  refine jO 2 ?_;rotate_left
 any_goals
  refine jI 2 ?_
  simp only [decide_eq_true_eq,decide_eq_false_iff_not] at *
  refine jO 3 ?_;rotate_left
 any_goals
  refine jI 3 ?_
  unfold uT
  refine jO 4 ?_;rotate_left
 any_goals
  refine jI 4 ?_
  first
   |(rw [if_pos Y18];rfl)
   |(rw [if_neg Y18,if_pos Y18];rfl)
   |(rw [if_neg Y18,if_neg Y18,if_pos Y18];rfl)
   |(rw [if_neg Y18,if_neg Y18,if_neg Y18,if_pos Y18];rfl)
   |(rw [if_neg Y18,if_neg Y18,if_neg Y18,if_neg Y18,if_pos Y18];rfl)
   |(rw [if_neg Y18,if_neg Y18,if_neg Y18,if_neg Y18,if_neg Y18,if_pos Y18];rfl)
   |(rw [if_neg Y18,if_neg Y18,if_neg Y18,if_neg Y18,if_neg Y18,if_neg Y18,if_pos Y18];rfl)
   |(rw [if_neg Y18,if_neg Y18,if_neg Y18,if_neg Y18,if_neg Y18,if_neg Y18,if_neg Y18,if_pos Y18];rfl)
   |(rw [if_neg Y18,if_neg Y18,if_neg Y18,if_neg Y18,if_neg Y18,if_neg Y18,if_neg Y18,if_neg Y18];rfl)
theorem zdo (l:List Int):(vf l).size=l.length:=by
 unfold vf
 show ((l.map toB).toArray).size=_
 simp
theorem zkh {l:List Int} {i:Nat} (h:i<l.length):(vf l)[i]? =some (toB l[i]):=by
 have hs:i<(vf l).size:=by rw [zdo];exact h
 rw [getElem?_pos (vf l) i hs]
 congr 1
 have e:(vf l).data[i]'hs=toB l[i]:=by
  simp only [vf,List.getElem_toArray,List.getElem_map]
 exact e
theorem zlF {x:Int} (h:U8 x):((toB x).toNat:Int)=x:=by
 unfold toB U8 at *
 rw [UInt8.toNat_ofNat']
 omega
theorem xJ {l:List Int} (hl:OkB l) (hn:l.length≤1000) {c:Int} {s:St}:za Tryz.prog 35 [.str (vf l),.int .u8 c] s (fun r s'=>r=.bool (decide (c∈l))∧s'=s):=by
 refine go Tryz.func35 (k:=fun hwf H=>?_)
 have hsz:(vf l).size=l.length:=zdo l
 have H:=aj hsz H
 refine rs (k:=rg [0,1] (k:=rs (k:=rs (k:=rg [0,1,5] (k:=rb (k:=?_))))))
 refine Run.loop (fun e s'=>s'=s∧∃ i:Nat,e=[(0,.str (vf l)),(1,.int .u8 c),(5,.int .i64 (i:Int))]∧i≤l.length∧c∉l.take i) (fun e s'=>l.length-xB e 5) ?_ ?_
 ·exact ⟨rfl,0,rfl,Nat.zero_le _,Y71⟩
 rintro e s1 ⟨hs,i,rfl,hi,hno⟩
 subst s1
 refine rs (k:=rs (k:=rg [0,1,5,9] (k:=rc (ht:=fun hc0=>?_) (hf:=fun hc0=>?_))))
 refine rk (k:=rs (k:=rb (k:=rs (k:=?_))))
 have hil:i<l.length:=Y83
 obtain ⟨x,hxe⟩:∃ x,l[i]'hil=x:=⟨_,rfl⟩
 have hix:(vf l)[i]? =some (toB x):=by rw [zkh hil,hxe]
 have hto:((toB x).toNat:Int)=x:=zlF (by rw [← hxe];exact hl _ (List.getElem_mem _))
 have hw:IntKind.i64.wrap ((i:Int)+1)=((i+1:Nat):Int):=Y24
 have H:=aj hix (aj hto (aj hw H))
 refine rg [0,1,5,16] (k:=rc (ht:=fun hc1=>?_) (hf:=fun hc1=>?_))
 refine rs (k:=rg [4] (k:=rR (k:=rP (by simp only [Tryz.f35,go_sem];rfl) hwf ⟨?_,rfl⟩)))
 refine jO 1 ?_;rotate_left
 ·refine rk (k:=rB (k:=rg [0,1,5] (k:=?_)))
  refine Run.lp ⟨⟨rfl,i+1,rfl,Y18,?_⟩,?_⟩
  ·rw [xn hil,hxe]
   have:=of_decide_eq_false hc1
   simp only [List.mem_append,List.mem_singleton,not_or]
   exact ⟨hno,fun h=>this h.symm⟩
  ·exact Y29
 refine rX (k:=rs (k:=rg [4] (k:=rR (k:=rP (by simp only [Tryz.f35,go_sem];rfl) hwf ⟨?_,rfl⟩))))
 refine jO 1 ?_;rotate_left
 any_goals
  refine jI 1 ?_
  first
   |(have:c∈l:=by have h:=of_decide_eq_true hc1;rw [← h,← hxe];exact List.getElem_mem _
     rw [decide_eq_true this];rfl)
   |(have hie:i=l.length:=by have:=of_decide_eq_false hc0;omega
     rw [hie,List.take_length] at hno
     rw [decide_eq_false hno];rfl)
end Go.Proofs
namespace Go.Proofs
open Go.PM
set_option maxHeartbeats 2000000
def zdN (q:Req):Bool:=if q.fn=5 then decide (q.bits.length=1) else if q.fn=6∨q.fn=8 then decide (q.vals.length=1) else if q.fn=15 then decide ((q.bits.length:Int)=q.count∧q.bits.length≤2040) else if q.fn=16 then decide ((q.vals.length:Int)=q.count∧q.vals.length≤127) else if q.fn=23 then decide (q.vals.length≤127) else true
attribute [local go_sem] zf Req.pv
theorem zjm {p:Prop} (h:p:=by exact Bool.noConfusion (hc1.symm.trans hc2)):p:=h
theorem zhQ {q:Req} {s:St}:za Tryz.prog 55 [q.pv] s (fun r s'=>r=.bool (zdN q)∧s'=s):=by
 refine go Tryz.func55 (k:=fun hwf H=>?_)
 refine rs (k:=rg [1] (k:=rs (k:=?_)))
 refine Run.drawC [] [1,3,4] Tryz.mixed Y22 ?_
 refine zj.all au ?_
 refine re (k:=rs (k:=rs (k:=rg [1,3,4,12] (k:=rb (k:=rs (k:=rg [1,3,4,12,13] (k:=rc (ht:=fun hc0=>?_) (hf:=fun hc0=>?_))))))))
 refine jO 1 ?_;rotate_left
 refine rs (k:=rs (k:=rg [1,3,4,12,17] (k:=rc (ht:=fun hc1=>?_) (hf:=fun hc1=>?_))))
 refine rk (k:=rc (ht:=fun hc2=>?_) (hf:=fun hc2=>?_))
 refine jO 1 ?_;rotate_left
 ·exact zjm
 refine rg [1,3,4,12,17] (k:=rc (ht:=fun hc2=>?_) (hf:=fun hc2=>?_))
 refine jO 1 ?_;rotate_left
 refine rs (k:=rg [1,3,4,12,22] (k:=rc (ht:=fun hc3=>?_) (hf:=fun hc3=>?_)))
 refine jO 1 ?_;rotate_left
 refine rs (k:=rg [1,4,12,32] (k:=rc (ht:=fun hc4=>?_) (hf:=fun hc4=>?_)))
 refine jO 1 ?_;rotate_left
 refine rs (k:=rg [4,42] (k:=rc (ht:=fun hc5=>?_) (hf:=fun hc5=>?_)))
 refine jO 1 ?_;rotate_left
 refine rk (k:=rB (k:=rs (k:=rg [2] (k:=rR (k:=rP (by simp only [Tryz.f55,go_sem];rfl) hwf ⟨?_,rfl⟩)))))
 refine jO 2 ?_;rotate_left
 any_goals
  refine jI 1 ?_
  refine rs (k:=rg [2] (k:=rR (k:=rP (by simp only [Tryz.f55,go_sem];rfl) hwf ⟨?_,rfl⟩)))
  refine jO 2 ?_;rotate_left
 any_goals
  refine jI 2 ?_
  simp only [decide_eq_true_eq,decide_eq_false_iff_not] at *
  refine jO 3 ?_;rotate_left
 any_goals
  refine jI 3 ?_
  unfold zdN
  refine jO 4 ?_;rotate_left
 any_goals
  refine jI 4 ?_
  simp only [PV.weak]
  refine jO 5 ?_;rotate_left
 any_goals
  refine jI 5 ?_
  congr 1
  refine jO 6 ?_;rotate_left
 any_goals
  refine jI 6 ?_
  first
   |(rw [if_pos Y18];rw [Bool.eq_iff_iff];simp only [Bool.and_eq_true,decide_eq_true_eq];omega)
   |(rw [if_neg Y18,if_pos Y18];rw [Bool.eq_iff_iff];simp only [Bool.and_eq_true,decide_eq_true_eq];omega)
   |(rw [if_neg Y18,if_neg Y18,if_pos Y18];rw [Bool.eq_iff_iff];simp only [Bool.and_eq_true,decide_eq_true_eq];omega)
   |(rw [if_neg Y18,if_neg Y18,if_neg Y18,if_pos Y18];rw [Bool.eq_iff_iff];simp only [Bool.and_eq_true,decide_eq_true_eq];omega)
   |(rw [if_neg Y18,if_neg Y18,if_neg Y18,if_neg Y18,if_pos Y18];rw [Bool.eq_iff_iff];simp only [Bool.and_eq_true,decide_eq_true_eq];omega)
   |(rw [if_neg Y18,if_neg Y18,if_neg Y18,if_neg Y18,if_neg Y18])
end Go.Proofs
namespace Go.Proofs
open Go.PM
set_option maxHeartbeats 2000000
theorem vo (fn:Int):OkB (uT fn):=by
 unfold uT
 repeat' split
 all_goals (intro x hx;first |(exact absurd hx List.not_mem_nil) |(simp only [List.mem_cons,List.not_mem_nil,or_false] at hx;unfold U8;omega))
theorem vu (fn:Int):(uT fn).length≤1000:=by
 unfold uT
 repeat' split
 all_goals simp
attribute [local go_sem] zf Req.pv
theorem Y33 {p:Prop} (h:p:=by
 refine rs (k:=rg [2] (k:=rR (k:=rP (by simp only [Tryz.f28,go_sem];rfl) hwf ⟨?_,rfl⟩)))
 first
  |(have h0:xO q.fn=false:=by simpa using hc0
    unfold zD
    rw [if_pos h0];rfl)
  |(have h0:xO q.fn=true:=by simpa using hc0
    refine congrArg (PV.int .i64) ?_
    unfold zD
    rw [if_neg (by rw [h0];decide)]
    obtain ⟨nb,hnb⟩:∃ n,q.bits.length=n:=⟨_,rfl⟩
    obtain ⟨nv,hnv⟩:∃ n,q.vals.length=n:=⟨_,rfl⟩
    simp only [zdN,hnb,hnv,Zl,uN] at *
    clear H hnb hnv hwf hc0
    rcases yM h0 with e | e | e | e | e | e | e | e | e | e | e | e <;>
    ·try simp only [uT,vL,xD,e,decide_eq_true_eq,decide_eq_false_iff_not,Bool.not_eq_true',Bool.not_eq_false',Bool.or_eq_true,Bool.or_eq_false_iff,Bool.and_eq_true,Bool.and_eq_false_iff,List.mem_cons,List.not_mem_nil,Int.reduceEq,Int.reduceLE,Int.reduceNeg,or_false,or_true,true_or,false_or,if_true,if_false,true_and,and_true,false_and,and_false,not_true_eq_false,not_false_eq_true,ite_true,ite_false,or_self,and_self,reduceCtorEq] at hc1
     try simp only [uT,vL,xD,e,decide_eq_true_eq,decide_eq_false_iff_not,Bool.not_eq_true',Bool.not_eq_false',Bool.or_eq_true,Bool.or_eq_false_iff,Bool.and_eq_true,Bool.and_eq_false_iff,List.mem_cons,List.not_mem_nil,Int.reduceEq,Int.reduceLE,Int.reduceNeg,or_false,or_true,true_or,false_or,if_true,if_false,true_and,and_true,false_and,and_false,not_true_eq_false,not_false_eq_true,ite_true,ite_false,or_self,and_self,reduceCtorEq] at hc2
     simp only [uT,vL,xD,e,decide_eq_true_eq,decide_eq_false_iff_not,Bool.not_eq_true',Bool.not_eq_false',Bool.or_eq_true,Bool.or_eq_false_iff,Bool.and_eq_true,Bool.and_eq_false_iff,List.mem_cons,List.not_mem_nil,Int.reduceEq,Int.reduceLE,Int.reduceNeg,or_false,or_true,true_or,false_or,if_true,if_false,true_and,and_true,false_and,and_false,not_true_eq_false,not_false_eq_true,ite_true,ite_false,or_self,and_self,reduceCtorEq]
     repeat' split
     all_goals first | rfl | omega)):p:=h
set_option maxRecDepth 100000 in
theorem zgS {q:Req} {s:St}:za Tryz.prog 28 [q.pv] s (fun r s'=>r=.int .i64 (zD q)∧s'=s):=by
 refine go Tryz.func28 (k:=fun hwf H=>?_)
 refine rs (k:=rg [1] (k:=rs (k:=rs (k:=rr (k:=ro (pre:=[_,_]) (k:=rC (h:=ze4) (k:=rh [1,7] (k:=rc (ht:=fun hc0=>?_) (hf:=fun hc0=>?_)))))))))
 ·exact Y33
 ·refine rk (k:=rs (k:=rr (k:=ro (pre:=[_,_]) (k:=rC (h:=zcT) (k:=rh [1,3] (k:=rs (k:=rs (k:=rrA [some 11,some 12,some 13,some 14,some 15,some 16,some 17,some 18,some 19,some 20,some 21,some 22,some 23,some 24,some 25,some 26,some 27,some 28,some 29,some 30,some 31,some 32,some 33,some 34,some 35,some 36,some 37,some 38,some 39,some 40,some 41,some 42,some 43,some 44,some 45,some 46,some 47,some 48,some 49,some 50,some 51,some 52,some 53,some 54,some 55,some 56,some 57,some 58,some 59,some 60,some 61,some 62,some 63,some 64,some 65,some 66,some 67,some 68,some 69,some 70,some 71,some 72,some 73,some 74,some 75,some 76,some 77,some 78,some 79,some 80,some 81,some 82,some 83,some 84,some 85] (k:=fun ops hops=>?_)))))))))
  have H:=aj hops H
  refine ro (pre:=[_]) (k:=rC (h:=xJ (vo q.fn) (vu q.fn)) (k:=ro (pre:=[_,_,_,_,_,_,_,_]) (k:=rG (h:=fun hb=>xJ (vo q.fn) (vu q.fn)) (k:=ro (pre:=[_,_,_,_,_,_,_,_,_]) (k:=rG (h:=fun hb=>xJ (vo q.fn) (vu q.fn)) (k:=ro (pre:=[_,_,_,_,_,_,_,_,_]) (k:=rG (h:=fun hb=>xJ (vo q.fn) (vu q.fn)) (k:=?_))))))))
  refine ro (pre:=[_,_,_,_,_,_,_,_,_]) (k:=rG (h:=fun hb=>xJ (vo q.fn) (vu q.fn)) (k:=ro (pre:=[_,_,_,_,_,_,_,_,_,_]) (k:=rG (h:=fun hb=>xJ (vo q.fn) (vu q.fn)) (k:=ro (pre:=[_,_,_,_,_,_,_,_,_,_]) (k:=rG (h:=fun hb=>xJ (vo q.fn) (vu q.fn)) (k:=rh [1,85] (k:=rc (ht:=fun hc1=>?_) (hf:=fun hc1=>?_))))))))
  ·exact Y33
  ·refine rk (k:=rs (k:=rs (k:=rr (k:=ro (pre:=[_,_]) (k:=rC (h:=uw) (k:=ro (pre:=[_,_,_,_]) (k:=rG (h:=fun hb=>uw) (k:=ro (pre:=[_,_,_,_,_]) (k:=rG (h:=fun hb=>uw) (k:=ro (pre:=[_,_,_,_,_]) (k:=rG (h:=fun hb=>uw) (k:=ro (pre:=[_,_,_,_]) (k:=rG (h:=fun hb=>zhQ (q:=q)) (k:=ra (k:=?_)))))))))))))))
   refine rl [112] (k:=rc (ht:=fun hc2=>?_) (hf:=fun hc2=>?_))
   ·exact Y33
   ·refine rk (k:=rs (k:=rg [2] (k:=rR (k:=rP (by simp only [Tryz.f28,go_sem];rfl) hwf ⟨?_,rfl⟩))))
    first
     |(have h0:xO q.fn=false:=by simpa using hc0
       unfold zD
       rw [if_pos h0];rfl)
     |(have h0:xO q.fn=true:=by simpa using hc0
       refine congrArg (PV.int .i64) ?_
       unfold zD
       rw [if_neg (by rw [h0];decide)]
       obtain ⟨nb,hnb⟩:∃ n,q.bits.length=n:=⟨_,rfl⟩
       obtain ⟨nv,hnv⟩:∃ n,q.vals.length=n:=⟨_,rfl⟩
       simp only [zdN,hnb,hnv,Zl,uN] at *
       clear H hnb hnv hwf hc0
       rcases yM h0 with e | e | e | e | e | e | e | e | e | e | e | e <;>
       ·try simp only [uT,vL,xD,e,decide_eq_true_eq,decide_eq_false_iff_not,Bool.not_eq_true',Bool.not_eq_false',Bool.or_eq_true,Bool.or_eq_false_iff,Bool.and_eq_true,Bool.and_eq_false_iff,List.mem_cons,List.not_mem_nil,Int.reduceEq,Int.reduceLE,Int.reduceNeg,or_false,or_true,true_or,false_or,if_true,if_false,true_and,and_true,false_and,and_false,not_true_eq_false,not_false_eq_true,ite_true,ite_false,or_self,and_self,reduceCtorEq] at hc1
        try simp only [uT,vL,xD,e,decide_eq_true_eq,decide_eq_false_iff_not,Bool.not_eq_true',Bool.not_eq_false',Bool.or_eq_true,Bool.or_eq_false_iff,Bool.and_eq_true,Bool.and_eq_false_iff,List.mem_cons,List.not_mem_nil,Int.reduceEq,Int.reduceLE,Int.reduceNeg,or_false,or_true,true_or,false_or,if_true,if_false,true_and,and_true,false_and,and_false,not_true_eq_false,not_false_eq_true,ite_true,ite_false,or_self,and_self,reduceCtorEq] at hc2
        simp only [uT,vL,xD,e,decide_eq_true_eq,decide_eq_false_iff_not,Bool.not_eq_true',Bool.not_eq_false',Bool.or_eq_true,Bool.or_eq_false_iff,Bool.and_eq_true,Bool.and_eq_false_iff,List.mem_cons,List.not_mem_nil,Int.reduceEq,Int.reduceLE,Int.reduceNeg,or_false,or_true,true_or,false_or,if_true,if_false,true_and,and_true,false_and,and_false,not_true_eq_false,not_false_eq_true,ite_true,ite_false,or_self,and_self,reduceCtorEq]
        repeat' split
        all_goals first | rfl | omega)
end Go.Proofs
namespace Go.Proofs
open Go.PM
set_option maxHeartbeats 2000000
theorem zcg {xs:List Int} (hx:xs=[]) {s:St}:za Tryz.prog 49 [.sl .nil []] s (fun r s'=>∃ kk,r=.sl kk []∧Made s s' kk xs.length (Tryz.prog.cellsOf 5)):=by
 refine go Tryz.func49 (k:=fun hwf H=>?_)
 refine rs (k:=rg [0] (k:=rs (k:=rs (k:=rg [0,4] (k:=rc (ht:=fun hc0=>?_) (hf:=fun hc0=>?_))))))
 ·refine rs (k:=rg [2] (k:=rR (k:=?_)))
  subst hx
  exact Ret.all zmY ⟨.nil,rfl,.inl ⟨.inl rfl,rfl,rfl⟩⟩
 ·cases hc0
theorem Y86 {p:Prop} (h:p:=by rw [Tryz.by5];simp;try omega):p:=h
theorem zci {xs:List Int} (hb:xs.length*1≤140737488355328) {s:St}:za Tryz.prog 49 [.sl .any (xs.map (PV.int .u8))] s (fun r s'=>∃ kk,r=.sl kk (xs.map (PV.int .u8))∧Made s s' kk xs.length (Tryz.prog.cellsOf 5)):=by
 refine go Tryz.func49 (k:=fun hwf H=>?_)
 refine rs (k:=rg [0] (k:=rs (k:=rs (k:=rg [0,4] (k:=rc (ht:=fun hc0=>?_) (hf:=fun hc0=>?_))))))
 ·cases hc0
 ·refine rk (k:=rs (k:=rr (k:=rO (k:=ro (pre:=[_]) (k:=?_)))))
  refine zm.made au au au Tryz.td41 Y26 (zp (P:=Tryz.prog) (e:=5) (f:=PV.int .u8) (fun a=>⟨rfl,Y27⟩) _) Y28 Y86 (.inr rfl) ?_
  intro k1 s1 hm1
  refine rh [2] (k:=rR (k:=?_))
  exact Ret.all zmY ⟨k1,rfl,by simpa using hm1⟩
theorem zjs {xs:List Int} (hb:xs.length*1≤140737488355328) {s:St}:za Tryz.prog 49 [.sl .unk (xs.map (PV.int .u8))] s (fun r s'=>∃ kk,r=.sl kk (xs.map (PV.int .u8))∧Made s s' kk xs.length (Tryz.prog.cellsOf 5)) :=
 za.unk1 (fun h=>by have h':=List.map_eq_nil_iff.1 h;rw [h];exact zcg h') (zci hb)
theorem zgQ {l:List Int} {n:Int} (hl:l.length+2≤140737488355328) {s:St}:za Tryz.prog 72 [.sl .unk (l.map (PV.int .u8)),.int .i64 n] s (fun r s'=>r=.sl (.tok s.nxt 1) ((l++zx n).map (PV.int .u8))∧s'=s.new (.tok (l.length+2))):=by
 refine go Tryz.func72 (k:=fun hwf H=>?_)
 refine rs (k:=rg [0,1] (k:=rs (k:=rr (k:=ro (pre:=[_]) (k:=?_)))))
 refine zm.call au au Y22 ((zjs (xs:=l) Y18).mono ?_)
 rintro r s1 ⟨kk,rfl,hm⟩
 refine ro (pre:=[_,_,_,_,_]) (k:=rO (k:=?_))
 refine zm.append au au au Tryz.td41 Y26 (zp (P:=Tryz.prog) (e:=5) (f:=PV.int .u8) (fun a=>⟨rfl,Y27⟩) _) (zp (P:=Tryz.prog) (e:=5) (f:=PV.int .u8) (fun a=>⟨rfl,Y27⟩) [_,_]) Y28 Y86 (Made.append (by simpa using hm) Y71) ?_
 refine rh [4] (k:=rR (k:=?_))
 exact Ret.all (by simp only [Tryz.f72,go_sem,↓reduceIte]<;>rfl) ⟨by simp [zx,wg,za0,Tryz.cz5],Y71⟩
theorem ziU {l:List Int} {n:Int} (hn:I64 n) (hl:l.length+2≤140737488355328) {s:St}:za Tryz.prog 56 [.sl .unk (l.map (PV.int .u8)),.int .i64 n] s (fun r s'=>r=.sl (.tok s.nxt 1) ((l++zx n).map (PV.int .u8))∧s'=s.new (.tok (l.length+2))):=by
 refine go Tryz.func56 (k:=fun hwf H=>?_)
 refine rs (k:=rg [0,1] (k:=rs (k:=rr (k:=rO (k:=ro (pre:=[_]) (k:=?_))))))
 refine zm.made au au au Tryz.td41 Y26 (zp (P:=Tryz.prog) (e:=5) (f:=PV.int .u8) (fun a=>⟨rfl,Y27⟩) _) Y28 Y86 (.inr rfl) ?_
 intro k1 s1 hm1
 refine ro (pre:=[_,_,_,_,_,_]) (k:=rO (k:=?_))
 refine zm.append au au au Tryz.td41 Y26 (zp (P:=Tryz.prog) (e:=5) (f:=PV.int .u8) (fun a=>⟨rfl,Y27⟩) _) (zp (P:=Tryz.prog) (e:=5) (f:=PV.int .u8) (fun a=>⟨rfl,Y27⟩) [_,_]) Y28 Y86 (Made.append (by simpa using hm1) Y71) ?_
 refine rh [4] (k:=rR (k:=?_))
 exact Ret.all (by simp only [Tryz.f56,go_sem,↓reduceIte]<;>rfl) ⟨by simp [zx,wg,za0,Tryz.cz5,YB,zih],Y71⟩
theorem zan {p:Prop} (h:p:=by rw [wg];omega):p:=h
theorem zpj {p:Prop} (h:p:=by simp [PV.weak,uj,wg,Function.comp_def]<;>rfl):p:=h
theorem zew {l:List Int} (hl:l.length≤255) {s:St}:za Tryz.prog 108 [.sl .unk (l.map (PV.int .u8))] s (fun r s'=>r=.sl .unk (((l.length:Int)::l).map (PV.int .u8))∧s'=s):=by
 refine go Tryz.func108 (k:=fun hwf H=>?_)
 have hw1:IntKind.u8.wrap (l.length:Int)=l.length:=zan
 have H:=aj hw1 H
 refine rs (k:=rg [0] (k:=rs (k:=rr (k:=ro (pre:=[_,_,_]) (k:=rO (k:=ro (pre:=[_]) (k:=?_)))))))
 refine zm.grow' au au au Tryz.td41 Y26 (zp (P:=Tryz.prog) (e:=5) (f:=PV.int .u8) (fun a=>⟨rfl,Y27⟩) [_]) (zp (P:=Tryz.prog) (e:=5) (f:=PV.int .u8) (fun a=>⟨rfl,Y27⟩) _) Y28 Y81 (.inr (.inl (.inl rfl))) ?_
 intro k2 s2 hgr htm
 refine rh [2] (k:=rR (k:=?_))
 refine Ret.pure (by simp only [Tryz.f108,go_sem]<;>rfl) (r':=.sl .unk (((l.length:Int)::l).map (PV.int .u8))) zpj Y23 hwf Y82 ⟨?_,rfl⟩
 ·rfl
theorem zcw {fn:Int} {l:List Int} (hf:0≤fn∧fn≤255) (hl:l.length≤255) {s:St}:za Tryz.prog 69 [.int .i64 fn,.sl .unk (l.map (PV.int .u8))] s (fun r s'=>r=.sl .unk ((fn::(l.length:Int)::l).map (PV.int .u8))∧s'=s):=by
 refine go Tryz.func69 (k:=fun hwf H=>?_)
 have hw1:IntKind.u8.wrap (l.length:Int)=l.length:=zan
 have hw2:IntKind.u8.wrap fn=fn:=zan
 have H:=aj hw1 (aj hw2 H)
 refine rs (k:=rg [0,1] (k:=rs (k:=rr (k:=ro (pre:=[_,_,_,_,_]) (k:=rO (k:=ro (pre:=[_]) (k:=?_)))))))
 refine zm.grow' au au au Tryz.td41 Y26 (zp (P:=Tryz.prog) (e:=5) (f:=PV.int .u8) (fun a=>⟨rfl,Y27⟩) [_,_]) (zp (P:=Tryz.prog) (e:=5) (f:=PV.int .u8) (fun a=>⟨rfl,Y27⟩) _) Y28 Y81 (.inr (.inl (.inl rfl))) ?_
 intro k2 s2 hgr htm
 refine rh [4] (k:=rR (k:=?_))
 refine Ret.pure (by simp only [Tryz.f69,go_sem]<;>rfl) (r':=.sl .unk ((fn::(l.length:Int)::l).map (PV.int .u8))) zpj Y23 hwf Y82 ⟨?_,rfl⟩
 ·rfl
theorem xV {l L:List Int} {n:Int} (hL:L=l++zx n) (hl:l.length+2≤140737488355328) {s:St}:za Tryz.prog 72 [.sl .unk (l.map (PV.int .u8)),.int .i64 n] s (fun r s'=>r=.sl .unk (L.map (PV.int .u8))∧s'=s):=by
 subst hL;exact VZ hl
theorem vG {l L:List Int} {n:Int} (hL:L=l++zx n) (hl:l.length+2≤140737488355328) {s:St}:za Tryz.prog 72 [.sl .unk (l.map (PV.int .u8)),.int .i64 n] s (fun r s'=>r=.sl (.tok s.nxt 1) (L.map (PV.int .u8))∧s'=s.new (.tok L.length)):=by
 have hll:L.length=l.length+2:=by rw [hL];simp [zx]
 rw [hll];subst hL;exact zgQ hl
theorem xF {l L:List Int} {n:Int} (hL:L=l++zx n) (hn:I64 n) (hl:l.length+2≤140737488355328) {s:St}:za Tryz.prog 56 [.sl .unk (l.map (PV.int .u8)),.int .i64 n] s (fun r s'=>r=.sl .unk (L.map (PV.int .u8))∧s'=s):=by
 subst hL;exact zkb hn hl
theorem WK {l L:List Int} {n:Int} (hL:L=l++zx n) (hn:I64 n) (hl:l.length+2≤140737488355328) {s:St}:za Tryz.prog 56 [.sl .unk (l.map (PV.int .u8)),.int .i64 n] s (fun r s'=>r=.sl (.tok s.nxt 1) (L.map (PV.int .u8))∧s'=s.new (.tok L.length)):=by
 have hll:L.length=l.length+2:=by rw [hL];simp [zx]
 rw [hll];subst hL;exact ziU hn hl
theorem YS {l L:List Int} (hL:L=(l.length:Int)::l) (hl:l.length≤255) {s:St}:za Tryz.prog 108 [.sl .unk (l.map (PV.int .u8))] s (fun r s'=>r=.sl .unk (L.map (PV.int .u8))∧s'=s):=by
 subst hL;exact zew hl
theorem Zy {fn:Int} {l L:List Int} (hL:L=fn::(l.length:Int)::l) (hf:0≤fn∧fn≤255) (hl:l.length≤255) {s:St}:za Tryz.prog 69 [.int .i64 fn,.sl .unk (l.map (PV.int .u8))] s (fun r s'=>r=.sl .unk (L.map (PV.int .u8))∧s'=s):=by
 subst hL;exact zcw hf hl
theorem wF {l:List Int} {L:List Int} (hL:L=l.flatMap zx) (hl:l.length≤100000000) {s:St}:za Tryz.prog 71 [.sl .unk (l.map (PV.int .u16))] s (fun r s'=>r=.sl .unk (L.map (PV.int .u8))∧s'=s):=by
 subst hL;exact zeL hl
theorem Wa {l:List Int} {L:List Int} (hL:L=l.flatMap zx) (hl:l.length≤100000000) {s:St}:za Tryz.prog 59 [.sl .unk (l.map (PV.int .u16))] s (fun r s'=>r=.sl .unk (L.map (PV.int .u8))∧s'=s):=by
 subst hL;exact zhr hl
end Go.Proofs
namespace Go.Proofs
open Go.PM
set_option maxHeartbeats 2000000
attribute [local go_sem] zf Req.pv
theorem Y34 {p:Prop} (h:p:=by exact (fun i hi=>by first | rfl |(have h0:=ltn hi;have h1:=lte hi;simp only [go_sem,Nat.add_assoc,Nat.reduceAdd,↓reduceIte,h0,h1]))):p:=h
theorem Y87 {p:Prop} (h:p:=by simp (disch:=omega) only [go_sem]<;>rfl):p:=h
theorem zoE {p:Prop} (h:p:=by have:=hR.nv;simp only [uN,decide_eq_true_eq,decide_eq_false_iff_not] at *;simp [*] at this;omega):p:=h
theorem zoA {p:Prop} (h:p:=by simp only [PV.blw,PV.blws,and_true];exact ⟨fun t z e=>Y17,Vh _ _⟩):p:=h
theorem zlM {p:Prop} (h:p:=by rw [hV];exact Uu _):p:=h
theorem zlY {p:Prop} (h:p:=by rw [hL1];simp [zx]):p:=h
set_option maxRecDepth 100000 in
theorem zde {q:Req} (hq:q.ok) {s:St}:za Tryz.prog 84 [q.pv] s (fun r s'=>r=.tuple [.sl .unk ((zL q).map (PV.int .u8)),.int .i64 (zD q)]∧s'=s):=by
 refine go Tryz.func84 (k:=fun hwf H=>?_)
 refine rs (k:=rg [1] (k:=rs (k:=rs (k:=rr (k:=ro (pre:=[_]) (k:=rC (h:=Ym (q:=q)) (k:=rh [1,4] (k:=rs (k:=rg [1,4,10] (k:=rc (ht:=fun hc0=>?_) (hf:=fun hc0=>?_)))))))))))
 refine jO 1 ?_;rotate_left
 refine rk (k:=rs (k:=?_))
 have hr0:zD q=0:=Y85
 have hR:=vF hr0
 have hfn:=yM hR.has
 have hu8:IntKind.u8.wrap q.fn=q.fn:=zan
 have hmv:=hR.mv
 have hmb:=hR.mb
 have hpl:=xe q.bits
 obtain ⟨V,hV⟩:∃ V,V=q.vals.flatMap zx:=⟨_,rfl⟩
 have hvl:V.length=2*q.vals.length:=zlM
 obtain ⟨L1,hL1⟩:∃ L,L=[q.fn]++zx q.at_:=⟨_,rfl⟩
 obtain ⟨L2,hL2⟩:∃ L,L=L1++zx q.count:=⟨_,rfl⟩
 obtain ⟨L3,hL3⟩:∃ L,L=L2++zx q.wat:=⟨_,rfl⟩
 obtain ⟨L4,hL4⟩:∃ L,L=L3++zx q.vals.length:=⟨_,rfl⟩
 obtain ⟨L5,hL5⟩:∃ L,L=[q.fn]++zx q.sub:=⟨_,rfl⟩
 obtain ⟨L6,hL6⟩:∃ L,L=L1++zx q.and_:=⟨_,rfl⟩
 obtain ⟨L7,hL7⟩:∃ L,L=L6++zx q.or_:=⟨_,rfl⟩
 obtain ⟨C,hC⟩:∃ C,C=(V.length:Int)::V:=⟨_,rfl⟩
 obtain ⟨B,hB⟩:∃ B,B=((xk q.bits).length:Int)::xk q.bits:=⟨_,rfl⟩
 obtain ⟨X9,hX9⟩:∃ X,X=L5++V:=⟨_,rfl⟩
 obtain ⟨X18,hX18⟩:∃ X,X=L1++V:=⟨_,rfl⟩
 obtain ⟨X24,hX24⟩:∃ X,X=L2++B:=⟨_,rfl⟩
 obtain ⟨X26,hX26⟩:∃ X,X=L2++C:=⟨_,rfl⟩
 obtain ⟨X28,hX28⟩:∃ X,X=L4++C:=⟨_,rfl⟩
 have hll1:L1.length=3:=zlY
 have hll2:L2.length=5:=by rw [hL2];simp [zx,hll1]
 have hll3:L3.length=7:=by rw [hL3];simp [zx,hll2]
 have hll4:L4.length=9:=by rw [hL4];simp [zx,hll3]
 have hll5:L5.length=3:=by rw [hL5];simp [zx]
 have hll6:L6.length=5:=by rw [hL6];simp [zx,hll1]
 have hcl:C.length=V.length+1:=by rw [hC];rfl
 have hbl:B.length=(xk q.bits).length+1:=by rw [hB];rfl
 have hCn:C≠[]:=by rw [hC];simp
 have hBn:B≠[]:=by rw [hB];simp
 have h16a:IntKind.i64.wrap q.and_=q.and_:=zi (by have:=hq.and_;unfold U16 at this;omega)
 have h16o:IntKind.i64.wrap q.or_=q.or_:=zi (by have:=hq.or_;unfold U16 at this;omega)
 have H:=aj hu8 (aj h16a (aj h16o H))
 refine rr (k:=ro (pre:=[_,_,_]) (k:=rO (k:=rh [1,5] (k:=rs (k:=rs (k:=rg [1,5,17] (k:=rb (k:=rs (k:=rg [1,5,17,18] (k:=rc (ht:=fun hc1=>?_) (hf:=fun hc1=>?_)))))))))))
 refine jO 1 ?_;rotate_left
 refine rs (k:=rg [1,5,21] (k:=rc (ht:=fun hc2=>?_) (hf:=fun hc2=>?_)))
 refine rs (k:=?_)
 have hv1:q.vals.length=1:=zoE
 have hvn:V≠[]:=by intro h;rw [h] at hvl;simp at hvl;omega
 refine Run.drawM 7 [3] [(s.new (.row 47 [.agg [.int .i64 q.fn,.int .i64 q.at_,.int .i64 q.count,.int .i64 q.wat,.int .i64 q.sub,.sl .unk (q.bits.map PV.bool),.sl .unk (q.vals.map (PV.int .u16)),.int .u16 q.and_,.int .u16 q.or_]])),((s.new (.row 47 [.agg [.int .i64 q.fn,.int .i64 q.at_,.int .i64 q.count,.int .i64 q.wat,.int .i64 q.sub,.sl .unk (q.bits.map PV.bool),.sl .unk (q.vals.map (PV.int .u16)),.int .u16 q.and_,.int .u16 q.or_]])).new (.tok L5.length))] Tryz.mixed Y22 Y22 ?_
 refine zG.pre (pre:=[_,_,_]) Y19 List.mem_cons_self au ?_
 refine zG.callE Y19 List.mem_cons_self au au au Y22 (vG (l:=[q.fn]) hL5 Y71) ?_
 refine zG.pre (pre:=[_,_]) Y19 (List.mem_cons_of_mem _ List.mem_cons_self) au ?_
 refine zG.call Y19 au au au Y22 (List.mem_cons_of_mem _ List.mem_cons_self) (fun s _=>wF hV Y18) ?_
 refine zG.nil (List.mem_cons_of_mem _ List.mem_cons_self) ?_
 refine zm.append au au au Tryz.td41 Y26 (zp (P:=Tryz.prog) (e:=5) (f:=PV.int .u8) (fun a=>⟨rfl,Y27⟩) _) (zp (P:=Tryz.prog) (e:=5) (f:=PV.int .u8) (fun a=>⟨rfl,Y27⟩) _) Y28 Y86 (xi hX9 hvn Y87 rfl Tryz.cz5) ?_
 refine jO 2 ?_;rotate_left
 refine rk (k:=rB (k:=rs (k:=rr (k:=ro (pre:=[_,_,_]) (k:=?_)))))
 refine zm.callw au au au Y22 ((vG (l:=[q.fn]) hL1 Y71).mono ?_)
 rintro r s1 ⟨rfl,rfl⟩
 refine rh [1,5] (k:=rs (k:=rs (k:=rg [1,5,36] (k:=rb (k:=rs (k:=rg [1,5,36,37] (k:=rc (ht:=fun hc3=>?_) (hf:=fun hc3=>?_))))))))
 refine rs (k:=rg [1,5,6] (k:=rs (k:=rs (k:=?_))))
 obtain ⟨b,hb⟩:∃ b,q.bits=[b]:=by
  have:=hR.nb
  simp only [Zl,decide_eq_true_eq] at *
  simp [*] at this
  exact List.length_eq_one_iff.1 Y18
 have hb2:(q.bits.map PV.bool)[0]? =some (.bool b):=by rw [hb];rfl
 have hb3:(0<q.bits.length)=True:=by rw [hb];simp
 have H:=aj hb2 (aj hb3 H)
 refine rg [5,6,42] (k:=rc (ht:=fun hc4=>?_) (hf:=fun hc4=>?_))
 refine rg [5,6] (k:=rs (k:=rr (k:=ro (pre:=[_,_]) (k:=?_))))
 refine jO 3 ?_;rotate_left
 refine rk (k:=rs (k:=rr (k:=ro (pre:=[_,_]) (k:=?_))))
 refine jO 3 ?_;rotate_left
 refine rs (k:=rg [1,5,36,46] (k:=rc (ht:=fun hc5=>?_) (hf:=fun hc5=>?_)))
 refine rs (k:=?_)
 have hv1:q.vals.length=1:=zoE
 have hvn:V≠[]:=by intro h;rw [h] at hvl;simp at hvl;omega
 refine rr (k:=ro (pre:=[_,_,_]) (k:=rC (h:=wF hV Y18) (k:=?_)))
 refine zm.append au au au Tryz.td41 Y26 (zp (P:=Tryz.prog) (e:=5) (f:=PV.int .u8) (fun a=>⟨rfl,Y27⟩) _) (zp (P:=Tryz.prog) (e:=5) (f:=PV.int .u8) (fun a=>⟨rfl,Y27⟩) _) Y28 Y86 (xi hX18 hvn Y87 rfl Tryz.cz5) ?_
 refine jO 2 ?_;rotate_left
 refine rs (k:=rg [1,5,53] (k:=rc (ht:=fun hc6=>?_) (hf:=fun hc6=>?_)))
 refine rs (k:=?_)
 refine Run.drawC [] [2,3] Tryz.mixed Y22 ?_
 refine zj.pre (pre:=[_,_,_,_]) au ?_
 refine zj.call au au au Y22 (xV hL6 Y18) ?_
 refine zj.pre (pre:=[_,_,_]) au ?_
 refine zj.call au au au Y22 (xV hL7 Y18) ?_
 refine zj.all au ?_
 refine re (k:=rR (k:=?_))
 refine jO 4 ?_;rotate_left
 refine rk (k:=rB (k:=rs (k:=rr (k:=ro (pre:=[_,_,_]) (k:=?_)))))
 refine zm.callw au au au Y22 ((vG hL2 Y18).mono ?_)
 rintro r s1 ⟨rfl,rfl⟩
 refine rh [1,5] (k:=rs (k:=rs (k:=rg [1,5,69] (k:=rb (k:=rs (k:=rg [1,5,69,70] (k:=rc (ht:=fun hc7=>?_) (hf:=fun hc7=>?_))))))))
 refine rr (k:=ro (pre:=[_,_,_]) (k:=rC (h:=WN (l:=q.bits) Y18) (k:=rC (h:=YS hB Y18) (k:=?_))))
 refine zm.append au au au Tryz.td41 Y26 (zp (P:=Tryz.prog) (e:=5) (f:=PV.int .u8) (fun a=>⟨rfl,Y27⟩) _) (zp (P:=Tryz.prog) (e:=5) (f:=PV.int .u8) (fun a=>⟨rfl,Y27⟩) _) Y28 Y86 (xi hX24 hBn Y87 rfl Tryz.cz5) ?_
 refine jO 5 ?_;rotate_left
 refine rs (k:=rg [1,5,69,78] (k:=rc (ht:=fun hc8=>?_) (hf:=fun hc8=>?_)))
 refine rr (k:=ro (pre:=[_,_,_]) (k:=rC (h:=wF hV Y18) (k:=rC (h:=YS hC Y18) (k:=?_))))
 refine zm.append au au au Tryz.td41 Y26 (zp (P:=Tryz.prog) (e:=5) (f:=PV.int .u8) (fun a=>⟨rfl,Y27⟩) _) (zp (P:=Tryz.prog) (e:=5) (f:=PV.int .u8) (fun a=>⟨rfl,Y27⟩) _) Y28 Y86 (xi hX26 hCn Y87 rfl Tryz.cz5) ?_
 refine jO 5 ?_;rotate_left
 refine rs (k:=rg [1,5,86] (k:=rc (ht:=fun hc9=>?_) (hf:=fun hc9=>?_)))
 refine Run.drawM 12 [7] [(((s.new (.row 47 [.agg [.int .i64 q.fn,.int .i64 q.at_,.int .i64 q.count,.int .i64 q.wat,.int .i64 q.sub,.sl .unk (q.bits.map PV.bool),.sl .unk (q.vals.map (PV.int .u16)),.int .u16 q.and_,.int .u16 q.or_]])).new (.tok L1.length)).new (.tok L2.length)),((((s.new (.row 47 [.agg [.int .i64 q.fn,.int .i64 q.at_,.int .i64 q.count,.int .i64 q.wat,.int .i64 q.sub,.sl .unk (q.bits.map PV.bool),.sl .unk (q.vals.map (PV.int .u16)),.int .u16 q.and_,.int .u16 q.or_]])).new (.tok L1.length)).new (.tok L2.length)).new (.tok L4.length))] Tryz.mixed Y22 Y22 ?_
 refine zG.pre (pre:=[_,_,_]) Y19 List.mem_cons_self au ?_
 refine zG.call Y19 au au au Y22 List.mem_cons_self (fun s _=>xV hL3 Y18) ?_
 refine zG.pre (pre:=[_,_,_]) Y19 List.mem_cons_self au ?_
 refine zG.callE Y19 List.mem_cons_self au au au Y22 (vG hL4 Y18) ?_
 refine zG.pre (pre:=[_,_]) Y19 (List.mem_cons_of_mem _ List.mem_cons_self) au ?_
 refine zG.call Y19 au au au Y22 (List.mem_cons_of_mem _ List.mem_cons_self) (fun s _=>wF hV Y18) ?_
 refine zG.call Y19 au au au Y22 (List.mem_cons_of_mem _ List.mem_cons_self) (fun s _=>YS hC Y18) ?_
 refine zG.nil (List.mem_cons_of_mem _ List.mem_cons_self) ?_
 refine zm.append au au au Tryz.td41 Y26 (zp (P:=Tryz.prog) (e:=5) (f:=PV.int .u8) (fun a=>⟨rfl,Y27⟩) _) (zp (P:=Tryz.prog) (e:=5) (f:=PV.int .u8) (fun a=>⟨rfl,Y27⟩) _) Y28 Y86 (xi hX28 hCn Y87 rfl Tryz.cz5) ?_
 refine jO 5 ?_;rotate_left
 refine rk (k:=rB (k:=rs (k:=rr (k:=ro (pre:=[_]) (k:=rC (h:=vX) (k:=rh [2,3] (k:=rR (k:=?_))))))))
 refine jO 4 ?_;rotate_left
 any_goals
  refine jI 3 ?_
  refine zm.callw au au au Y22 ((VZ (l:=L1) Y18).mono ?_)
  refine jO 6 ?_;rotate_left
 any_goals
  refine jI 5 ?_
  refine rh [5] (k:=rB (k:=rs (k:=rr (k:=ro (pre:=[_]) (k:=rC (h:=vX) (k:=rh [2,3] (k:=rR (k:=?_))))))))
  refine jO 4 ?_;rotate_left
 any_goals
  refine jI 6 ?_
  rintro r s1 ⟨rfl,hs⟩
  refine jO 7 ?_;rotate_left
 any_goals
  refine jI 1 ?_
  refine rs (k:=rg [2,3] (k:=rR (k:=?_)))
  refine jO 4 ?_;rotate_left
 any_goals
  refine jI 7 ?_
  subst s1
  refine jO 2 ?_;rotate_left
 any_goals
  refine jI 2 ?_
  refine rh [2,3] (k:=rR (k:=?_))
  refine jO 4 ?_;rotate_left
 any_goals
  refine jI 4 ?_
  refine Ret.pure (r':=.tuple [.sl .unk ((zL q).map (PV.int .u8)),.int .i64 (zD q)]) (by simp only [Tryz.f84,go_sem,↓reduceIte]<;>rfl) ?_ zoA hwf Y34 ⟨rfl,rfl⟩
  refine jO 8 ?_;rotate_left
 any_goals
  refine jI 8 ?_
  simp only [PV.weak,PV.weaks,zB]
  refine jO 9 ?_;rotate_left
 any_goals
  refine jI 9 ?_
  first
   |(have hr0':¬ zD q=0:=by simpa using hc0
     unfold zL
     rw [if_neg hr0']
     rfl)
   |(rw [hr0]
     refine congrArg (fun x=>PV.tuple [PV.sl .unk x,.int .i64 0]) ?_
     first | refine congrArg (List.map (PV.int .u8)) ?_ | refine congrArg (List.map (PV.int .u8)) (a₂:=[q.fn]) ?_
     clear hll1 hll2 hll3 hll4 hll5 hll6 hcl hbl hCn hBn hvl hpl hu8 hwf h16a h16o H
     simp only [decide_eq_true_eq,decide_eq_false_iff_not] at *
     simp [zL,yF, *])
end Go.Proofs

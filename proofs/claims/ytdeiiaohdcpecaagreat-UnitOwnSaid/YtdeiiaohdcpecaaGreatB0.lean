import Derived.Calls
import Derived.Below
import Derived.Laws.StructEq
import Derived.Laws.BytesString
import Derived.Laws.Tables
import Derived.Laws.Append
import Derived.Laws.AppendOwn
import Derived.Laws.MakeOwn
import Derived.Orders
set_option linter.unusedVariables false
set_option linter.unusedSimpArgs false
namespace Go.PM
open Go
inductive SK where
 | nil | clip | any | tok (t z:Nat)
 | unk
 | unc
 deriving DecidableEq
inductive PV where
 | int (k:IntKind) (n:Int)
 | bool (b:Bool)
 | str (s:ByteArray)
 | nilp
 | ptr (id i j:Nat)
 | rptr (cs:List PV)
 | sl (k:SK) (els:List PV)
 | own (id off len:Nat)
 | agg (cs:List PV)
 | tuple (vs:List PV)
 | fn (f:Fn) (first cap:List PV)
 | nilf
 | iface (t:TypeId) (v:PV)
 | nili
 | map (id:Nat)
 | nilm
 | gd (n:Nat) (b:Bool) (v:PV)
 | junk
 deriving Inhabited
def PV.cells:PV→List PV
 | .agg cs=>cs
 | v=>[v]
def PV.ok:PV→Bool
 | .tuple _ | .junk | .gd _ _ _=>false
 | _=>true
def _root_.Go.Value.flat:Value→Bool
 | .agg _ | .tuple _=>false
 | _=>true
structure G where
 nxt:Nat
 rows:Nat→Option (Nat × Nat)
 live:Nat→Bool
 toks:Nat→Option (Nat × Nat)
 lim:Nat→Option Nat
def G.isRow (g:G) (b:Nat):Prop:=∃ id sz,g.rows id=some (b,sz)∧g.live id=true
def G.free (g:G) (b n:Nat):Prop:=¬ g.isRow b∧∀ m,g.lim b=some m→n≤m
def at_ (b o:Nat):Addr:=⟨b,o,none⟩
def zT (w:World) (b o:Nat) (vs:List Value):Prop:=∀ j (h:j<vs.length),w.cell? ⟨b,o+j,none⟩=some vs[j]
def flat (vs:List Value):List Value:=vs.flatMap fun v=>v.cells.toList
def yJ (w:World) (b:Nat):Nat:=((w.shape? b).map (·.2)).getD 0
abbrev zep (g:G) (k:SK):Prop:=k=.any∨k=.clip∨∃ t z,k=.tok t z∧t<g.nxt
def yV (g:G) (w:World) (k:SK) (n:Nat) (vs:List Value) (v:Value):Prop :=
 match k with
 | .nil=>v=.slice none 0 0∧n=0
 | k=>(∃ b o cap sz,v=.slice (some ⟨b,o,none⟩) n cap∧n≤cap∧0<sz∧(k=.clip→cap=n)∧(0<n→g.free b (o+n*sz))∧zT w b o (flat vs) ∧
    (∀ v∈vs,v.cells.size=sz) ∧
    ∀ t z,k=.tok t z→sz=z∧t<g.nxt∧∀ b' L,g.toks t=some (b',L)→n≤L∧(n=L→b'=b∧g.lim b=some (o+L*sz)∧o+cap*sz≤yJ w b))∨zep g k∧n=0∧∃ a,v=.slice (some a) 0 0
def vg (g:G) (w:World) (k:SK) (n:Nat) (vs:List Value) (v:Value):Prop :=
 match k with
 | .unk=>yV g w .nil n vs v∨yV g w .any n vs v
 | .unc=>yV g w .nil n vs v∨yV g w .clip n vs v
 | k=>yV g w k n vs v
mutual
def R (g:G) (w:World):PV→Value→Prop
 | .int k n,v=>v=.int k n
 | .bool b,v=>v=.bool b
 | .str s,v=>v=.string s
 | .nilp,v=>v=.pointer none
 | .ptr id i j,v=>id<g.nxt∧∃ b sz,g.rows id=some (b,sz)∧v=.pointer (some ⟨b,i*sz+j,none⟩)
 | .rptr cs,v=>∃ b o vs,v=.pointer (some ⟨b,o,none⟩)∧(0<cs.length→g.free b (o+cs.length))∧zT w b o vs∧(∀ v∈vs,v.flat=true)∧RA g w cs vs
 | .sl k els,v=>∃ vs,RA g w els vs∧vg g w k els.length vs v
 | .own id off len,v=>id<g.nxt∧∃ b sz cap,g.rows id=some (b,sz)∧len≤cap∧v=.slice (some ⟨b,off*sz,none⟩) len cap∧(off+cap)*sz≤yJ w b
 | .agg cs,v=>∃ a:Array Value,v=.agg a∧(∀ v∈a.toList,v.flat=true)∧RA g w cs a.toList
 | .tuple cs,v=>∃ a:Array Value,v=.tuple a∧RA g w cs a.toList
 | .fn f first cap,v=>∃ x y:Array Value,v=.func f x y∧RA g w first x.toList∧RA g w cap y.toList
 | .nilf,v=>v=.nilFunc
 | .iface t p,v=>∃ x,v=.iface t x∧R g w p x
 | .nili,v=>v=.nilIface
 | .map id,v=>id<g.nxt∧∃ b sz,g.rows id=some (b,sz)∧v=.map (some b)
 | .nilm,v=>v=.map none
 | .gd _ b p,v=>(b=true→R g w p v)∧(b=false→v=.tuple #[])
 | .junk,_=>True
def RA (g:G) (w:World):List PV→List Value→Prop
 | [],vs=>vs=[]
 | p::ps,vs=>∃ v r,vs=v::r∧R g w p v∧RA g w ps r
end
theorem zV {g w}:∀ {ps vs},RA g w ps vs→ps.length=vs.length
 | [],vs,h=>by simp [RA] at h;simp [h]
 | p::ps,vs,h=>by
   simp only [RA] at h
   obtain ⟨v,r,rfl,_,h⟩:=h
   simp [zV h]
theorem Y1 {p:Prop} (h:p:=by simp):p:=h
theorem Vd {g w}:∀ {ps vs},RA g w ps vs→∀ (i:Nat) (p:PV),ps[i]? =some p→∃ v,vs[i]? =some v∧R g w p v
 | [],vs,h,i,p,hp=>by simp at hp
 | q::ps,vs,h,i,p,hp=>by
   simp only [RA] at h
   obtain ⟨v,r,rfl,hv,h⟩:=h
   cases i with
   | zero=>simp at hp;subst hp;exact ⟨v,Y1,hv⟩
   | succ i=>simp at hp;obtain ⟨u,hu,hr⟩:=Vd h i p hp;exact ⟨u,by simpa using hu,hr⟩
theorem yN {g w}:∀ {ps qs vs us},RA g w ps vs→RA g w qs us→RA g w (ps++qs) (vs++us)
 | [],qs,vs,us,h,k=>by simp [RA] at h;subst h;simpa using k
 | p::ps,qs,vs,us,h,k=>by
   simp only [RA] at h
   obtain ⟨v,r,rfl,hv,h⟩:=h
   simp only [List.cons_append,RA]
   exact ⟨v,_,rfl,hv,yN h k⟩
theorem zaZ {p:Prop} (h:p:=by simp [RA]):p:=h
theorem zoj {p:Prop} (h:p:=by simp [RA] at h;subst h;simp [RA]):p:=h
theorem Zb {g w}:∀ {ps vs} (n:Nat),RA g w ps vs→RA g w (ps.take n) (vs.take n)
 | ps,vs,0,_=>zaZ
 | [],vs,n+1,h=>zoj
 | p::ps,vs,n+1,h=>by
   simp only [RA] at h
   obtain ⟨v,r,rfl,hv,h⟩:=h
   simp only [List.take_succ_cons,RA]
   exact ⟨v,_,rfl,hv,Zb n h⟩
theorem ziG {p:Prop} (h:p:=by simpa using h):p:=h
theorem vz {g w}:∀ {ps vs} (n:Nat),RA g w ps vs→RA g w (ps.drop n) (vs.drop n)
 | ps,vs,0,h=>ziG
 | [],vs,n+1,h=>zoj
 | p::ps,vs,n+1,h=>by
   simp only [RA] at h
   obtain ⟨v,r,rfl,hv,h⟩:=h
   simpa using vz n h
theorem zdB {g w}:∀ {ps vs} (i:Nat) {p v},RA g w ps vs→R g w p v→RA g w (ps.set i p) (vs.set i v)
 | [],vs,i,p,v,h,_=>zoj
 | q::ps,vs,0,p,v,h,k=>by
   simp only [RA] at h
   obtain ⟨u,r,rfl,hu,h⟩:=h
   simp only [List.set_cons_zero,RA]
   exact ⟨v,_,rfl,k,h⟩
 | q::ps,vs,i+1,p,v,h,k=>by
   simp only [RA] at h
   obtain ⟨u,r,rfl,hu,h⟩:=h
   simp only [List.set_cons_succ,RA]
   exact ⟨u,_,rfl,hu,zdB i h k⟩
structure Ext (g:G) (w:World) (g':G) (w':World):Prop where
 os:w'.os=w.os
 tape:w'.tape=w.tape
 output:w'.output=w.output
 size:w.heap.size≤w'.heap.size
 nxt:g.nxt≤g'.nxt
 rd:∀ b o v,g.free b (o+1)→w.cell? ⟨b,o,none⟩=some v→w'.cell? ⟨b,o,none⟩=some v
 free:∀ b n,b<w.heap.size→g.free b n→g'.free b n
 same:∀ b,b<w.heap.size→¬ g.isRow b→g.lim b=none→w'.heap[b]? =w.heap[b]?
 rows:∀ id,id<g.nxt→∀ x,g.rows id=some x→g'.rows id=some x
 csz:∀ b,b<w.heap.size→yJ w' b=yJ w b
 toks:∀ t,t<g.nxt→∀ b' L',g'.toks t=some (b',L')→∃ b L,g.toks t=some (b,L)∧(L<L'∨(L=L'∧b=b'∧g'.lim b=g.lim b))
theorem Ext.refl (g:G) (w:World):Ext g w g w :=
 ⟨rfl,rfl,rfl,Nat.le_refl _,Nat.le_refl _,fun _ _ _ _ h=>h,fun _ _ _ h=>h,fun _ _ _ _=>rfl,fun _ _ _ h=>h,fun _ _=>rfl,
  fun _ _ b' L' h=>⟨b',L',h,.inr ⟨rfl,rfl,rfl⟩⟩⟩
theorem VJ {w:World} {b o v} (h:w.cell? ⟨b,o,none⟩=some v):b<w.heap.size:=by
 unfold World.cell? at h
 simp only at h
 split at h
 ·rename_i hh
  exact (Array.getElem?_eq_some_iff.1 hh).1
 ·cases h
theorem zhk {w:World} {b o v} (h:w.cell? ⟨b,o,none⟩=some v):o<yJ w b:=by
 unfold World.cell? at h
 unfold yJ World.shape?
 simp only at h
 split at h
 ·rename_i c _ _ hh
  simp only [Option.map_some,Option.getD_some]
  exact (Array.getElem?_eq_some_iff.1 ziG).1
 ·cases h
theorem Y2 {p:Prop} (h:p:=by omega):p:=h
theorem Ext.trans {g w g' w' g'' w''} (h:Ext g w g' w') (k:Ext g' w' g'' w''):Ext g w g'' w'' where
 os:=k.os.trans h.os
 tape:=k.tape.trans h.tape
 output:=k.output.trans h.output
 size:=Nat.le_trans h.size k.size
 nxt:=Nat.le_trans h.nxt k.nxt
 rd:=fun b o v hf hc=>k.rd b o v (h.free b _ (VJ hc) hf) (h.rd b o v hf hc)
 free:=fun b n hb hf=>k.free b n (Nat.lt_of_lt_of_le hb h.size) (h.free b n hb hf)
 same:=fun b hb hr hl=>by
  have hf:∀ n,g.free b n:=fun n=>⟨hr,fun m hm=>by rw [hl] at hm;cases hm⟩
  have hr':¬ g'.isRow b:=(h.free b 0 hb (hf 0)).1
  have hl':g'.lim b=none:=by
   cases hm:g'.lim b with
   | none=>rfl
   | some m=>exact absurd ((h.free b (m+1) hb (hf _)).2 m hm) Y2
  rw [k.same b (Nat.lt_of_lt_of_le hb h.size) hr' hl',h.same b hb hr hl]
 rows:=fun id hid x e=>k.rows id (Nat.lt_of_lt_of_le hid h.nxt) x (h.rows id hid x e)
 csz:=fun b hb=>by rw [k.csz b (Nat.lt_of_lt_of_le hb h.size),h.csz b hb]
 toks:=fun t ht b'' L'' e=>by
  obtain ⟨b',L',e',r'⟩:=k.toks t (Nat.lt_of_lt_of_le ht h.nxt) b'' L'' e
  obtain ⟨b,L,e0,r⟩:=h.toks t ht b' L' e'
  refine ⟨b,L,e0,?_⟩
  rcases r with r | ⟨rfl,rfl,r⟩
  ·rcases r' with r' | ⟨rfl,rfl,r'⟩
   ·exact .inl (Nat.lt_trans r r')
   ·exact .inl r
  ·rcases r' with r' | ⟨rfl,rfl,r'⟩
   ·exact .inl r'
   ·exact .inr ⟨rfl,rfl,r'.trans r⟩
theorem Ys {g:G} {b n m:Nat} (h:g.free b n) (k:m≤n):g.free b m:=⟨h.1,fun x hx=>Nat.le_trans k (h.2 x hx)⟩
theorem UM {g w g' w'} (h:Ext g w g' w') {b o:Nat} {vs:List Value} (hf:0<vs.length→g.free b (o+vs.length)) (hc:zT w b o vs):zT w' b o vs :=
 fun j hj=>h.rd b (o+j) _ (Ys (hf Y2) Y2) (hc j hj)
theorem yp {sz:Nat}:∀ {vs:List Value},(∀ v∈vs,v.cells.size=sz)→(flat vs).length=vs.length*sz
 | [],_=>by simp [flat]
 | v::vs,h=>by
   have:=yp (vs:=vs) (sz:=sz) fun u hu=>h u (by simp [hu])
   have hv:=h v Y1
   simp only [flat,List.flatMap_cons,List.length_append,List.length_cons] at *
   rw [this,Array.length_toList,hv,Nat.add_mul]
   omega
theorem zpH {p:Prop} (h:p:=by unfold yJ World.shape?;rw [Array.getElem?_eq_none Y2];rfl):p:=h
theorem wt {g w g' w'} (h:Ext g w g' w') {k n vs v} (hn:n=vs.length) (hs:yV g w k n vs v):yV g' w' k n vs v:=by
 have main:∀ k:SK,(∃ b o cap sz,v=.slice (some ⟨b,o,none⟩) n cap∧n≤cap∧0<sz∧(k=.clip→cap=n)∧(0<n→g.free b (o+n*sz))∧zT w b o (flat vs) ∧
   (∀ v∈vs,v.cells.size=sz) ∧
   ∀ t z,k=.tok t z→sz=z∧t<g.nxt∧∀ b' L,g.toks t=some (b',L)→n≤L∧(n=L→b'=b∧g.lim b=some (o+L*sz)∧o+cap*sz≤yJ w b)) →
   (∃ b o cap sz,v=.slice (some ⟨b,o,none⟩) n cap∧n≤cap∧0<sz∧(k=.clip→cap=n)∧(0<n→g'.free b (o+n*sz))∧zT w' b o (flat vs) ∧
   (∀ v∈vs,v.cells.size=sz) ∧
   ∀ t z,k=.tok t z→sz=z∧t<g'.nxt∧∀ b' L,g'.toks t=some (b',L)→n≤L∧(n=L→b'=b∧g'.lim b=some (o+L*sz)∧o+cap*sz≤yJ w' b)):=by
  rintro k ⟨b,o,cap,sz,hv,hcap,hsz,hcl,hfr,hce,hvs,ht⟩
  have hlen:(flat vs).length=n*sz:=by rw [yp hvs,hn]
  have hfree:0<(flat vs).length→g.free b (o+(flat vs).length):=by
   intro hp
   rw [hlen] at hp ⊢
   exact hfr (Nat.pos_of_mul_pos_right hp)
  refine ⟨b,o,cap,sz,hv,hcap,hsz,hcl,?_,UM h hfree hce,hvs,?_⟩
  ·intro hp
   have hp':0<(flat vs).length:=by rw [hlen];exact Nat.mul_pos hp hsz
   exact h.free b _ (VJ (hce 0 hp')) (hfr hp)
  ·intro t z e
   obtain ⟨h0,h1,h2⟩:=ht t z e
   refine ⟨h0,Nat.lt_of_lt_of_le h1 h.nxt,fun b' L' e'=>?_⟩
   obtain ⟨b0,L0,e0,r⟩:=h.toks t h1 b' L' e'
   obtain ⟨hle,hlive⟩:=h2 b0 L0 e0
   rcases r with r | ⟨rfl,rfl,r⟩
   ·exact ⟨Y2,fun e=>Y2⟩
   ·refine ⟨hle,fun e=>?_⟩
    obtain ⟨rfl,hl,hc⟩:=hlive e
    refine ⟨rfl,by rw [r];exact hl,?_⟩
    by_cases hb:b0<w.heap.size
    ·rw [h.csz b0 hb];exact hc
    ·have:yJ w b0=0:=zpH
     rw [this] at hc
     omega
 have odd:∀ k:SK,zep g k→zep g' k:=fun k q=>q.imp id (.imp id fun ⟨t,z,e,l⟩=>⟨t,z,e,Nat.lt_of_lt_of_le l h.nxt⟩)
 cases k with
 | nil=>exact hs
 | clip=>exact hs.imp (main .clip) (fun q=>⟨odd _ q.1,q.2⟩)
 | any=>exact hs.imp (main .any) (fun q=>⟨odd _ q.1,q.2⟩)
 | tok t z=>exact hs.imp (main (.tok t z)) (fun q=>⟨odd _ q.1,q.2⟩)
 | unk=>exact hs.imp (main .unk) (fun q=>⟨odd _ q.1,q.2⟩)
 | unc=>exact hs.imp (main .unc) (fun q=>⟨odd _ q.1,q.2⟩)
theorem zgA {g w g' w'} (h:Ext g w g' w') {k n vs v} (hn:n=vs.length) (hs:vg g w k n vs v):vg g' w' k n vs v:=by
 cases k with
 | unk=>exact hs.imp (wt (k:=.nil) h hn) (wt (k:=.any) h hn)
 | unc=>exact hs.imp (wt (k:=.nil) h hn) (wt (k:=.clip) h hn)
 | nil=>exact wt (k:=.nil) h hn hs
 | clip=>exact wt (k:=.clip) h hn hs
 | any=>exact wt (k:=.any) h hn hs
 | tok t z=>exact wt (k:=.tok t z) h hn hs
theorem Y56 {p:Prop} (h:p:=by simpa only [R] using r):p:=h
theorem WW {p:Prop} (h:p:=by simp only [R]):p:=h
mutual
theorem Xi {g w g' w'} (h:Ext g w g' w'):∀ (p:PV) (v:Value),R g w p v→R g' w' p v
 | .int k n,v,r=>Y56
 | .bool b,v,r=>Y56
 | .str s,v,r=>Y56
 | .nilp,v,r=>Y56
 | .ptr id i j,v,r=>by
   simp only [R] at r ⊢
   obtain ⟨h1,b,sz,h2,h3⟩:=r
   exact ⟨Nat.lt_of_lt_of_le h1 h.nxt,b,sz,h.rows id h1 _ h2,h3⟩
 | .rptr cs,v,r=>by
   simp only [R] at r ⊢
   obtain ⟨b,o,vs,hv,hf,hc,hfl,hr⟩:=r
   have hl:=zV hr
   exact ⟨b,o,vs,hv,fun hp=>h.free b _ (VJ (hc 0 Y2)) (hf hp),UM h (fun hp=>by rw [← hl];exact hf Y2) hc,hfl,yX h cs vs hr⟩
 | .sl k els,v,r=>by
   simp only [R] at r ⊢
   obtain ⟨vs,hr,hs⟩:=r
   exact ⟨vs,yX h els vs hr,zgA h (zV hr) hs⟩
 | .own id off len,v,r=>by
   simp only [R] at r ⊢
   obtain ⟨h0,b,sz,cap,h1,h2,h3,h4⟩:=r
   refine ⟨Nat.lt_of_lt_of_le h0 h.nxt,b,sz,cap,h.rows id h0 _ h1,h2,h3,?_⟩
   by_cases hb:b<w.heap.size
   ·rw [h.csz b hb];exact h4
   ·have:yJ w b=0:=zpH
    omega
 | .agg cs,v,r=>by
   simp only [R] at r ⊢
   obtain ⟨a,h1,h2,h3⟩:=r
   exact ⟨a,h1,h2,yX h cs _ h3⟩
 | .tuple cs,v,r=>by
   simp only [R] at r ⊢
   obtain ⟨a,h1,h3⟩:=r
   exact ⟨a,h1,yX h cs _ h3⟩
 | .fn f first cap,v,r=>by
   simp only [R] at r ⊢
   obtain ⟨x,y,h1,h2,h3⟩:=r
   exact ⟨x,y,h1,yX h first _ h2,yX h cap _ h3⟩
 | .nilf,v,r=>Y56
 | .iface t p,v,r=>by
   simp only [R] at r ⊢
   obtain ⟨x,h1,h2⟩:=r
   exact ⟨x,h1,Xi h p x h2⟩
 | .nili,v,r=>Y56
 | .map id,v,r=>by
   simp only [R] at r ⊢
   obtain ⟨h1,b,sz,h2,h3⟩:=r
   exact ⟨Nat.lt_of_lt_of_le h1 h.nxt,b,sz,h.rows id h1 _ h2,h3⟩
 | .nilm,v,r=>Y56
 | .gd _ b p,v,r=>by
   simp only [R] at r ⊢
   exact ⟨fun hb=>Xi h p v (r.1 hb),r.2⟩
 | .junk,v,r=>WW
theorem yX {g w g' w'} (h:Ext g w g' w'):∀ (ps:List PV) (vs:List Value),RA g w ps vs→RA g' w' ps vs
 | [],vs,r=>by simpa only [RA] using r
 | p::ps,vs,r=>by
   simp only [RA] at r ⊢
   obtain ⟨v,r',h1,h2,h3⟩:=r
   exact ⟨v,r',h1,Xi h p v h2,yX h ps r' h3⟩
end
end Go.PM
namespace Go.PM
open Go
theorem ze {α β:Type} (P:Program) (x:Sem α) (f:α→Sem β) (w:World) :
  (x>>=f).run P w=match x.run P w with | .ok a w'=>(f a).run P w' | .halt h w'=>.halt h w':=by
 show (x.bind f).run P w=_
 induction x generalizing w with
 | pure a=>rfl
 | load m a k ih =>
   simp only [Sem.bind,Sem.run]
   split
   ·exact ih _ _
   ·split
    ·exact ih _ _
    ·rfl
 | store m a v k ih =>
   simp only [Sem.bind]
   cases v<;>simp only [Sem.run]<;>(try rfl)
   all_goals
    split
    ·split
     ·rfl
     ·exact ih _
    ·split
     ·exact ih _
     ·rfl
 | new o k ih=>simp only [Sem.bind,Sem.run];exact ih _ _
 | shape r k ih=>simp only [Sem.bind,Sem.run];exact ih _ _
 | freeze a n k ih=>simp only [Sem.bind,Sem.run];exact ih _
 | frozen a k ih=>simp only [Sem.bind,Sem.run];exact ih _ _
 | getObj r k ih =>
   simp only [Sem.bind,Sem.run]
   split
   ·rfl
   ·exact ih _ _
   ·rfl
 | setObj r o k ih =>
   simp only [Sem.bind,Sem.run]
   split
   ·rfl
   ·exact ih _
   ·rfl
 | choose q k ih =>
   simp only [Sem.bind,Sem.run]
   split
   ·exact ih _ _
   ·exact ih _ _
 | sys c k ih=>simp only [Sem.bind,Sem.run];exact ih _ _
 | program k ih=>simp only [Sem.bind,Sem.run];exact ih _ _
 | mark m k ih=>simp only [Sem.bind,Sem.run];exact ih _
 | halt h=>rfl
theorem zo {α:Type} (P:Program) (a:α) (w:World):(pure a:Sem α).run P w=.ok a w:=rfl
def yd (w:World) (b o:Nat):List Value→World
 | []=>w
 | v::vs=>yd (w.setCell ⟨b,o,none⟩ v) b (o+1) vs
def xf (w:World) (b:Nat):Prop:=∃ c ty lo hi,w.heap[b]? =some (.cells c ty (lo,hi))∧(lo=hi∨c.size≤lo)
theorem xf.lt {w:World} {b} (h:xf w b):b<w.heap.size:=by
 obtain ⟨c,ty,lo,hi,h,_⟩:=h
 exact (Array.getElem?_eq_some_iff.1 h).1
theorem vK (w:World) (b o:Nat) (v:Value) (k:Nat) :
  (w.setCell ⟨b,o,none⟩ v).heap[k]? =if k=b then (w.heap[b]?).map (fun x=>match x with | .cells c e f=>.cells (c.setIfInBounds o v) e f | y=>y) else w.heap[k]? :=by
 simp only [World.setCell,Array.getElem?_modify,Option.isSome_none,Bool.false_eq_true,if_false]
 by_cases h:k=b
 ·subst h;simp only [if_true];rfl
 ·rw [if_neg (fun e=>h e.symm),if_neg h]
theorem zeb (w:World) (b o:Nat) (v:Value):(w.setCell ⟨b,o,none⟩ v).heap.size=w.heap.size:=by simp [World.setCell]
theorem VP (w:World) (b o:Nat) (v:Value) (b' o':Nat) :
  (w.setCell ⟨b,o,none⟩ v).cell? ⟨b',o',none⟩=if b'=b∧o'=o then (w.cell? ⟨b,o,none⟩).map (fun _=>v) else w.cell? ⟨b',o',none⟩:=by
 unfold World.cell?
 simp only [vK,Option.isSome_none,Bool.false_eq_true,if_false]
 by_cases h:b'=b
 ·subst h
  simp only [if_true,true_and]
  cases hw:w.heap[b']? with
  | none=>simp
  | some x =>
    cases x<;>simp
    rename_i c e f
    rw [Array.getElem?_setIfInBounds]
    by_cases ho:o'=o
    ·subst ho
     simp only [if_true]
     by_cases hlt:o'<c.size
     ·simp [hlt]
     ·simp [hlt]
    ·rw [if_neg (fun e=>ho e.symm),if_neg ho]
 ·simp [h]
theorem Yf (w:World) (b o:Nat) (v:Value) (b':Nat):yJ (w.setCell ⟨b,o,none⟩ v) b'=yJ w b':=by
 unfold yJ World.shape?
 rw [vK]
 by_cases h:b'=b
 ·subst h
  simp only [if_true]
  cases w.heap[b']? with
  | none=>rfl
  | some x=>cases x<;>simp
 ·rw [if_neg h]
theorem Yx {w:World} {b o:Nat} {v:Value} {b':Nat} (h:xf w b'):xf (w.setCell ⟨b,o,none⟩ v) b':=by
 obtain ⟨c,ty,lo,hi,h,hf⟩:=h
 by_cases e:b'=b
 ·subst e
  exact ⟨c.setIfInBounds o v,ty,lo,hi,by rw [vK,if_pos rfl,h];rfl,by simpa using hf⟩
 ·exact ⟨c,ty,lo,hi,by rw [vK,if_neg e];exact h,hf⟩
theorem vk:∀ (vs:List Value) (w:World) (b o:Nat),(yd w b o vs).heap.size=w.heap.size
 | [],w,b,o=>rfl
 | v::vs,w,b,o=>by rw [yd,vk vs,zeb]
theorem wm:∀ (vs:List Value) (w:World) (b o k:Nat),k≠b→(yd w b o vs).heap[k]? =w.heap[k]?
 | [],w,b,o,k,_=>rfl
 | v::vs,w,b,o,k,h=>by rw [yd,wm vs _ _ _ _ h,vK,if_neg h]
theorem vU:∀ (vs:List Value) (w:World) (b o k:Nat),yJ (yd w b o vs) k=yJ w k
 | [],w,b,o,k=>rfl
 | v::vs,w,b,o,k=>by rw [yd,vU vs,Yf]
theorem xR:∀ (vs:List Value) (w:World) (b o:Nat) {k:Nat},xf w k→xf (yd w b o vs) k
 | [],w,b,o,k,h=>h
 | v::vs,w,b,o,k,h=>xR vs _ _ _ (Yx h)
theorem xX:∀ (vs:List Value) (w:World) (b o:Nat),(yd w b o vs).os=w.os∧(yd w b o vs).tape=w.tape∧(yd w b o vs).output=w.output
 | [],w,b,o=>⟨rfl,rfl,rfl⟩
 | v::vs,w,b,o=>xX vs _ _ _
theorem yn:∀ (vs:List Value) (w:World) (b o b' o':Nat),(b'≠b∨o'<o∨o+vs.length≤o')→(yd w b o vs).cell? ⟨b',o',none⟩=w.cell? ⟨b',o',none⟩
 | [],w,b,o,b',o',_=>rfl
 | v::vs,w,b,o,b',o',h=>by
   simp only [List.length_cons] at h
   rw [yd,yn vs _ _ _ _ _ Y2,VP,if_neg Y2]
theorem wj:∀ (vs:List Value) (w:World) (b o:Nat),o+vs.length≤yJ w b→zT (yd w b o vs) b o vs
 | [],w,b,o,_=>fun j h=>absurd h Y1
 | v::vs,w,b,o,h=>by
   intro j hj
   simp only [List.length_cons] at h hj
   cases j with
   | zero =>
     rw [yd,yn _ _ _ _ _ _ Y2,VP,if_pos ⟨rfl,rfl⟩]
     have:∃ u,w.cell? ⟨b,o,none⟩=some u:=by
      unfold yJ World.shape? at h
      unfold World.cell?
      simp only
      split at h
      ·rename_i c e f hh
       simp only [Option.map_some,Option.getD_some] at h
       simp only [Option.isSome_none,Bool.false_eq_true,if_false]
       exact ⟨c[o]'Y2,Y1⟩
      ·simp at h
     obtain ⟨u,hu⟩:=this
     rw [hu];rfl
   | succ j =>
     have:=wj vs (w.setCell ⟨b,o,none⟩ v) b (o+1) (by rw [Yf];omega) j Y2
     rw [yd]
     simpa [Nat.add_assoc,Nat.add_comm 1 j] using this
theorem vh (b o i:Nat):(Addr.add ⟨b,o,none⟩ i)=⟨b,o+i,none⟩:=by
 unfold Addr.add
 by_cases h:i=0
 ·subst h;rfl
 ·rw [if_neg h]
theorem wR (P:Program) (b:Nat):∀ (vs:List Value) (w:World) (o i:Nat),(∀ v∈vs,v.flat=true)→xf w b→o+i+vs.length≤yJ w b →
  (storeCells ⟨b,o,none⟩ vs i).run P w=.ok () (yd w b (o+i) vs)
 | [],w,o,i,_,_,_=>rfl
 | v::vs,w,o,i,hf,hw,hc=>by
   simp only [List.length_cons] at hc
   have hv:=hf v Y1
   have h1:(store ((⟨b,o,none⟩:Addr).add i) v).run P w=.ok () (w.setCell ⟨b,o+i,none⟩ v):=by
    rw [vh]
    have hcell:∃ u,w.cell? ⟨b,o+i,none⟩=some u:=by
     obtain ⟨c,ty,lo,hi,hh,_⟩:=hw
     unfold yJ World.shape? at hc
     rw [hh] at hc
     simp at hc
     unfold World.cell?
     rw [hh]
     simp only [Option.isSome_none,Bool.false_eq_true,if_false]
     exact ⟨c[o+i]'Y2,Y1⟩
    obtain ⟨u,hu⟩:=hcell
    have hfr:w.frozen? ⟨b,o+i,none⟩=false:=by
     obtain ⟨c,ty,lo,hi,hh,hno⟩:=hw
     unfold World.frozen?
     rw [hh]
     have:=(show ¬ (lo≤o+i∧o+i<hi) by have h9:o+i<c.size:=(by unfold yJ World.shape? at hc;rw [hh] at hc;simp at hc;omega);omega)
     simp only [decide_eq_false_iff_not,Bool.and_eq_false_iff]
     by_cases hlo:lo≤o+i
     ·right;simp;omega
     ·left;simpa using hlo
    cases v<;>simp_all [store,Sem.run,Value.flat]
   rw [storeCells,ze,h1]
   simp only
   rw [wR P b vs _ o (i+1) (fun x hx=>hf x (by simp [hx])) (Yx hw) (by rw [Yf];omega)]
   rw [yd,Nat.add_assoc]
theorem Vb {p:Prop} (h:p:=by simp;omega):p:=h
theorem ZP (P:Program) (w:World) (b:Nat):∀ (vs:List Value) (o i:Nat) (acc:Array Value),zT w b (o+i) vs →
  (loadCellsFrom ⟨b,o,none⟩ i vs.length acc).run P w=.ok (acc++vs.toArray) w
 | [],o,i,acc,_=>by simp [loadCellsFrom,zo]
 | v::vs,o,i,acc,h=>by
   have h0:=h 0 Y1
   have h1:(load ((⟨b,o,none⟩:Addr).add i)).run P w=.ok v w:=by
    rw [vh]
    simp only [load,Sem.run]
    simp only [Nat.add_zero,List.getElem_cons_zero] at h0
    rw [h0]
   simp only [List.length_cons,loadCellsFrom]
   rw [ze,h1]
   simp only
   rw [ZP P w b vs o (i+1) (acc.push v)]
   ·simp
   ·intro j hj
    have:=h (j+1) Vb
    simp only [List.getElem_cons_succ] at this
    rw [← this]
    congr 2
    omega
theorem Yg (P:Program) (w:World) (b o:Nat) (vs:List Value) (n:Nat) (hn:n=vs.length) (h:zT w b o vs) :
  (loadCells ⟨b,o,none⟩ n).run P w=.ok vs.toArray w:=by
 subst hn
 rw [loadCells,ZP P w b vs o 0 #[] ziG]
 simp
def World.newB (w:World) (o:Obj):World:={ w with heap:=w.heap.push o }
theorem wH (w:World) (o:Obj) {k:Nat} (h:k<w.heap.size):(World.newB w o).heap[k]? =w.heap[k]? :=by
 show (w.heap.push o)[k]? =_
 rw [Array.getElem?_push,if_neg Y2]
theorem XP (w:World) (o:Obj):(World.newB w o).heap[w.heap.size]? =some o:=by
 show (w.heap.push o)[w.heap.size]? =_
 rw [Array.getElem?_push,if_pos rfl]
theorem Zg (w:World) (o:Obj):(World.newB w o).heap.size=w.heap.size+1:=by simp [World.newB]
theorem uc {w w':World} {b:Nat} (h:w'.heap[b]? =w.heap[b]?) (o:Nat):w'.cell? ⟨b,o,none⟩=w.cell? ⟨b,o,none⟩:=by
 unfold World.cell?;simp only [h]
theorem ZX {w w':World} {b:Nat} (h:w'.heap[b]? =w.heap[b]?):yJ w' b=yJ w b:=by
 unfold yJ World.shape?;rw [h]
theorem um {w w':World} {b:Nat} (h:w'.heap[b]? =w.heap[b]?) (k:xf w b):xf w' b:=by
 unfold xf;rw [h];exact k
theorem zao {w w':World} {b:Nat} (h:w'.heap[b]? =w.heap[b]?) {o vs} (k:zT w b o vs):zT w' b o vs :=
 fun j hj=>by rw [uc h];exact k j hj
theorem ZD (w:World) (c:Array Value) (t:TypeId) (fr:Nat × Nat) (vs:List Value) (h:vs <+: c.toList):zT (World.newB w (.cells c t fr)) w.heap.size 0 vs:=by
 intro j hj
 unfold World.cell?
 rw [XP]
 simp only [Option.isSome_none,Bool.false_eq_true,if_false,Nat.zero_add]
 obtain ⟨r,hr⟩:=h
 rw [← Array.getElem?_toList,← hr,List.getElem?_append_left hj]
 simp
theorem Vc (w:World) (c:Array Value) (t:TypeId) (fr:Nat × Nat):yJ (World.newB w (.cells c t fr)) w.heap.size=c.size:=by
 unfold yJ World.shape?
 rw [XP];rfl
theorem uF (w:World) (c:Array Value) (t:TypeId):xf (World.newB w (.cells c t (0,0))) w.heap.size :=
 ⟨c,t,0,0,XP _ _,.inl rfl⟩
inductive Blk where
 | row (t:TypeId) (els:List PV)
 | tok (L:Nat)
 | map (es:List (PV × PV))
 | res
structure St where
 nxt:Nat
 blk:Nat→Option Blk
def St.set (s:St) (id:Nat) (b:Option Blk):St:={ nxt:=s.nxt,blk:=fun i=>if i=id then b else s.blk i }
def St.new (s:St) (b:Blk):St:={ nxt:=s.nxt+1,blk:=fun i=>if i=s.nxt then some b else s.blk i }
def St.wf (s:St):Prop:=∀ i,s.nxt≤i→s.blk i=none
def zkn (g:G) (w:World) (b sz:Nat) (els:List PV) (vs:List Value):Prop :=
 xf w b∧zT w b 0 (flat vs)∧(∀ v∈vs,v.cells.size=sz∧∀ x∈v.cells.toList,x.flat=true)∧RA g w els vs
def zni (g:G) (w:World) (b:Nat) (es:List (PV × PV)):Prop :=
 ∃ me:List MapEntry,∃ clock,w.heap[b]? =some (.map me.toArray clock)∧RA g w (es.map (·.1)) (me.map (·.key))∧RA g w (es.map (·.2)) (me.map (·.val))
def At (P:Program) (g:G) (w:World) (id:Nat):Option Blk→Prop
 | none=>g.live id=false∧g.toks id=none
 | some (.row t els)=>g.toks id=none∧g.live id=true∧∃ b vs,g.rows id=some (b,P.cellsOf t)∧0<P.cellsOf t∧zkn g w b (P.cellsOf t) els vs
 | some (.tok L)=>g.live id=false∧∃ b e,g.toks id=some (b,L)∧g.lim b=some e∧¬ g.isRow b∧xf w b
 | some (.map es)=>g.toks id=none∧g.live id=true∧∃ b,g.rows id=some (b,0)∧zni g w b es
 | some .res=>g.live id=false∧g.toks id=none∧g.rows id=none
structure Inv (P:Program) (g:G) (s:St) (w:World):Prop where
 nxt:g.nxt=s.nxt
 wf:s.wf
 at':∀ id,At P g w id (s.blk id)
 inj:∀ i j b m n,g.live i=true→g.live j=true→g.rows i=some (b,m)→g.rows j=some (b,n)→i=j
 tinj:∀ i j b m n,g.toks i=some (b,m)→g.toks j=some (b,n)→i=j
 lim:∀ b e,g.lim b=some e→b<w.heap.size
 rlim:∀ id b n,g.live id=true→g.rows id=some (b,n)→g.lim b=none
theorem Inv.rowlt {P g s w} (h:Inv P g s w) {id b n} (hl:g.live id=true) (e:g.rows id=some (b,n)):b<w.heap.size:=by
 have:=h.at' id
 cases hb:s.blk id with
 | none=>rw [hb] at this;simp [At,hl] at this
 | some x =>
   rw [hb] at this
   cases x with
   | row t els =>
     obtain ⟨_,_,b',vs,e',_,hw,_⟩:=this
     rw [e] at e';cases e'
     exact hw.lt
   | tok L=>simp [At,hl] at this
   | map es =>
     obtain ⟨_,_,b',e',me,cl,hh,_⟩:=this
     rw [e] at e';cases e'
     exact (Array.getElem?_eq_some_iff.1 hh).1
   | res=>simp [At,hl] at this
theorem Inv.toklt {P g s w} (h:Inv P g s w) {id b n} (e:g.toks id=some (b,n)):b<w.heap.size∧¬ g.isRow b∧xf w b∧∃ e,g.lim b=some e:=by
 have:=h.at' id
 cases hb:s.blk id with
 | none=>rw [hb] at this;simp [At,e] at this
 | some x =>
   rw [hb] at this
   cases x with
   | row t els=>simp [At,e] at this
   | tok L =>
     obtain ⟨_,b',x,e',hl,hr,hw⟩:=this
     rw [e] at e';cases e'
     exact ⟨hw.lt,hr,hw,x,hl⟩
   | map es=>simp [At,e] at this
   | res=>simp [At,e] at this
theorem Inv.newfree {P g s w} (h:Inv P g s w) {b:Nat} (hb:w.heap.size≤b):¬ g.isRow b∧g.lim b=none:=by
 constructor
 ·rintro ⟨id,n,e,hl⟩
  have:=h.rowlt hl e
  omega
 ·cases hl:g.lim b with
  | none=>rfl
  | some e=>have:=h.lim b e hl;omega
theorem Inv.step {P g s w g' s' w'} (x:Nat) (h:Inv P g s w) (e:Ext g w g' w')
  (hn:g'.nxt=s'.nxt) (hwf:s'.wf)
  (hs:∀ id,id≠x→s'.blk id=s.blk id∧g'.rows id=g.rows id∧g'.live id=g.live id∧g'.toks id=g.toks id)
  (hw:∀ id b n,id≠x→g.live id=true→g.rows id=some (b,n)→w'.heap[b]? =w.heap[b]?)
  (ht:∀ id b n,id≠x→g.toks id=some (b,n)→g'.lim b=g.lim b∧¬ g'.isRow b)
  (hwr:∀ b,xf w b→xf w' b)
  (hx:At P g' w' x (s'.blk x))
  (hi:∀ b m j n,g'.live x=true→g'.rows x=some (b,m)→j≠x→g.live j=true→g.rows j=some (b,n)→False)
  (hti:∀ b m j n,g'.toks x=some (b,m)→j≠x→g.toks j=some (b,n)→False)
  (hl:∀ b e,g'.lim b=some e→b<w'.heap.size) (hlm:∀ id b n,id≠x→g.live id=true→g.rows id=some (b,n)→g'.lim b=g.lim b)
  (hxl:∀ b m,g'.live x=true→g'.rows x=some (b,m)→g'.lim b=none):Inv P g' s' w' where
 nxt:=hn
 wf:=hwf
 at':=fun id=>by
  by_cases hid:id=x
  ·subst hid;exact hx
  ·obtain ⟨h1,h2,hlv,h3⟩:=hs id hid
   rw [h1]
   have:=h.at' id
   cases hb:s.blk id with
   | none=>rw [hb] at this;simp only [At] at this ⊢;rw [hlv,h3];exact this
   | some y =>
     rw [hb] at this
     cases y with
     | row t els =>
       obtain ⟨a,al,b,vs,a1,a2,a3,a4,a5,a6⟩:=this
       have:=hw id b _ hid al a1
       exact ⟨by rw [h3];exact a,by rw [hlv];exact al,b,vs,by rw [h2];exact a1,a2,hwr b a3,zao this a4,a5,yX e _ _ a6⟩
     | tok L =>
       obtain ⟨a,b,l,a1,a2,a3,a4⟩:=this
       obtain ⟨t1,t2⟩:=ht id b L hid a1
       exact ⟨by rw [hlv];exact a,b,l,by rw [h3];exact a1,by rw [t1];exact a2,t2,hwr b a4⟩
     | map es =>
       obtain ⟨a,al,b,a1,me,cl,a2,a3,a4⟩:=this
       have:=hw id b _ hid al a1
       exact ⟨by rw [h3];exact a,by rw [hlv];exact al,b,by rw [h2];exact a1,me,cl,by rw [this];exact a2,yX e _ _ a3,yX e _ _ a4⟩
     | res=>exact ⟨by rw [hlv];exact this.1,by rw [h3];exact this.2.1,by rw [h2];exact this.2.2⟩
 inj:=fun i j b m n li lj hi' hj'=>by
  by_cases ix:i=x
  ·by_cases jx:j=x
   ·rw [ix,jx]
   ·subst ix
    rw [(hs j jx).2.1] at hj'
    rw [(hs j jx).2.2.1] at lj
    exact (hi b m j n li hi' jx lj hj').elim
  ·rw [(hs i ix).2.1] at hi'
   rw [(hs i ix).2.2.1] at li
   by_cases jx:j=x
   ·subst jx
    exact (hi b n i m lj hj' ix li hi').elim
   ·rw [(hs j jx).2.1] at hj'
    rw [(hs j jx).2.2.1] at lj
    exact h.inj i j b m n li lj hi' hj'
 tinj:=fun i j b m n hi' hj'=>by
  by_cases ix:i=x
  ·by_cases jx:j=x
   ·rw [ix,jx]
   ·subst ix
    rw [(hs j jx).2.2.2] at hj'
    exact (hti b m j n hi' jx hj').elim
  ·rw [(hs i ix).2.2.2] at hi'
   by_cases jx:j=x
   ·subst jx
    exact (hti b n i m hj' ix hi').elim
   ·rw [(hs j jx).2.2.2] at hj'
    exact h.tinj i j b m n hi' hj'
 lim:=hl
 rlim:=fun i b n li hi'=>by
  by_cases ix:i=x
  ·subst ix;exact hxl b n li hi'
  ·rw [(hs i ix).2.1] at hi'
   rw [(hs i ix).2.2.1] at li
   rw [hlm i b n ix li hi']
   exact h.rlim i b n li hi'
end Go.PM
namespace Go.PM
open Go
def upd {α:Type} (f:Nat→Option α) (i:Nat) (v:Option α):Nat→Option α:=fun j=>if j=i then v else f j
theorem yh {α:Type} (f:Nat→Option α) (i:Nat) (v:Option α):upd f i v i=v:=if_pos rfl
theorem yD {α:Type} (f:Nat→Option α) {i j:Nat} (v:Option α) (h:j≠i):upd f i v j=f j:=if_neg h
theorem Xx {P g s w} (h:Inv P g s w) (o:Obj) (g':G) (hnx:g.nxt≤g'.nxt) (hrows:∀ id,id<g.nxt→g'.rows id=g.rows id)
  (htoks:∀ t,t<g.nxt→∀ b' L',g'.toks t=some (b',L')→∃ b L,g.toks t=some (b,L)∧(L<L'∨(L=L'∧b=b'∧g'.lim b=g.lim b)))
  (hr:∀ b,b<w.heap.size→g'.isRow b→g.isRow b) (hl:∀ b,b<w.heap.size→g'.lim b=g.lim b):Ext g w g' (World.newB w o) where
 os:=rfl
 tape:=rfl
 output:=rfl
 size:=by rw [Zg];omega
 nxt:=hnx
 rd:=fun b o v _ hc=>by rw [uc (wH w _ (VJ hc))];exact hc
 free:=fun b n hb hf=>⟨fun k=>hf.1 (hr b hb k),fun m hm=>hf.2 m (by rw [← hl b hb];exact hm)⟩
 same:=fun b hb _ _=>wH w _ hb
 rows:=fun id hid x e=>by rw [hrows id hid];exact e
 csz:=fun b hb=>ZX (wH w _ hb)
 toks:=htoks
theorem wi {g g':G} {n:Nat} (ht:∀ t,t<n→g'.toks t=g.toks t) (hl:∀ t b L,g.toks t=some (b,L)→g'.lim b=g.lim b) :
  ∀ t,t<n→∀ b' L',g'.toks t=some (b',L')→∃ b L,g.toks t=some (b,L)∧(L<L'∨(L=L'∧b=b'∧g'.lim b=g.lim b)) :=
 fun t hlt b' L' e=>by
  rw [ht t hlt] at e
  exact ⟨b',L',e,.inr ⟨rfl,rfl,hl t b' L' e⟩⟩
theorem Inv.id_lt {P g s w} (h:Inv P g s w) {id} (e:s.blk id≠none):id<s.nxt:=by
 by_cases k:id<s.nxt
 ·exact k
 ·exact absurd (h.wf id Y2) e
theorem Inv.rows_none {P g s w} (h:Inv P g s w) {id} (e:s.nxt≤id):g.live id=false∧g.toks id=none:=by
 have:=h.at' id
 rw [h.wf id e] at this
 exact this
theorem Inv.toks_lt {P g s w} (h:Inv P g s w) {id x} (e:g.toks id=some x):id<g.nxt:=by
 by_cases k:id<g.nxt
 ·exact k
 ·rw [(h.rows_none (by rw [← h.nxt];omega)).2] at e;cases e
theorem Ur {g g':G} {id b sz:Nat} {b':Nat} (hf:g'.rows=upd g.rows id (some (b,sz))) (hl:∀ i,i≠id→g'.live i=g.live i) (h:g'.isRow b'):b'=b∨g.isRow b':=by
 obtain ⟨i,n,e,l⟩:=h
 rw [hf] at e
 by_cases hi:i=id
 ·subst hi
  rw [yh] at e
  cases e
  exact .inl rfl
 ·rw [yD _ _ hi] at e
  rw [hl i hi] at l
  exact .inr ⟨i,n,e,l⟩
def zls (f:Nat→Bool) (i:Nat) (v:Bool):Nat→Bool:=fun j=>if j=i then v else f j
theorem zdY (f:Nat→Bool) (i:Nat) (v:Bool):zls f i v i=v:=if_pos rfl
theorem VO (f:Nat→Bool) {i j:Nat} (v:Bool) (h:j≠i):zls f i v j=f j:=if_neg h
theorem Y57 {p:Prop} (h:p:=by
 intro i hi
 simp only [St.new] at hi ⊢
 rw [if_neg Y2]
 exact h.wf i Y2):p:=h
theorem zkI {p:Prop} (h:p:=by show g.nxt+1=s.nxt+1;rw [h.nxt]):p:=h
theorem zoV {p:Prop} (h:p:=by
 intro id b n hid et
 refine ⟨rfl,fun hk=>?_⟩
 have ⟨h1,h2,_⟩:=h.toklt et
 rcases Ur rfl (fun i hi=>VO _ _ hi) hk with r | r
 ·omega
 ·exact h2 r):p:=h
theorem zke {p:Prop} (h:p:=by exact fun b hb=>um (wH w _ hb.lt) hb):p:=h
theorem zoe {p:Prop} (h:p:=by
 intro b m j n hx
 rw [show g'.toks s.nxt=none from hn.2] at hx
 cases hx):p:=h
theorem zod {p:Prop} (h:p:=by exact fun id b n hid l e=>wH w _ (h.rowlt l e)):p:=h
theorem zn1 {p:Prop} (h:p:=by
 intro b e' hl
 have:=h.lim b e' hl
 rw [Zg]
 omega):p:=h
theorem zpf {p:Prop} (h:p:=by
 rcases Ur rfl (fun i hi=>VO _ _ hi) hk with r | r
 ·omega
 ·exact r):p:=h
theorem zpe {p:Prop} (h:p:=by exact fun id hid=>⟨if_neg hid,yD _ _ hid,VO _ _ hid,rfl⟩):p:=h
theorem XG {P g s w} (h:Inv P g s w) {t ty:TypeId} {els vs} {c:Array Value} (hsz:0<P.cellsOf t) (hr:RA g w els vs) (hc:flat vs <+: c.toList)
  (hv:∀ v∈vs,v.cells.size=P.cellsOf t∧∀ x∈v.cells.toList,x.flat=true) :
  ∃ g',Inv P g' (s.new (.row t els)) (World.newB w (.cells c ty (0,0)))∧Ext g w g' (World.newB w (.cells c ty (0,0))) ∧
   g'.rows s.nxt=some (w.heap.size,P.cellsOf t)∧g'.nxt=s.nxt+1:=by
 let g':G:={ nxt:=g.nxt+1,rows:=upd g.rows s.nxt (some (w.heap.size,P.cellsOf t)),live:=zls g.live s.nxt true,toks:=g.toks,lim:=g.lim }
 have e:Ext g w g' (World.newB w (.cells c ty (0,0))):=by
  refine Xx h _ g' (Nat.le_succ _) (fun id hid=>yD _ _ ?_) (wi (fun _ _=>rfl) (fun _ _ _ _=>rfl)) (fun b hb hk=>?_) (fun _ _=>rfl)
  ·have:=h.nxt;omega
  ·exact zpf
 have hn:=h.rows_none (Nat.le_refl s.nxt)
 refine ⟨g',?_,e,yh _ _ _,by show g.nxt+1=_;rw [h.nxt]⟩
 refine Inv.step s.nxt h e zkI ?_ ?_ ?_ ?_ ?_ ?_ ?_ ?_ ?_ (fun _ _ _ _ _ _=>rfl) (fun b m _ e=>by rw [show g'.rows s.nxt=some (w.heap.size,P.cellsOf t) from yh _ _ _] at e;cases e;exact (h.newfree (Nat.le_refl _)).2)
 ·exact Y57
 ·exact zpe
 ·exact zod
 ·exact zoV
 ·exact zke
 ·simp only [St.new,if_true,At]
  exact ⟨hn.2,zdY _ _ _,w.heap.size,vs,yh _ _ _,hsz,uF _ _ _,ZD _ _ _ _ _ hc,hv,yX e _ _ hr⟩
 ·intro b m j n _ hx hj lj hjr
  have:g'.rows s.nxt=some (w.heap.size,P.cellsOf t):=yh _ _ _
  rw [this] at hx
  cases hx
  have:=h.rowlt lj hjr
  omega
 ·exact zoe
 ·exact zn1
theorem zoo {p:Prop} (h:p:=by exact (fun b m l=>by rw [show g'.live s.nxt=false from hn.1] at l;cases l)):p:=h
theorem znA {p:Prop} (h:p:=by
 intro b m j n hx
 rw [show g'.live s.nxt=false from hn.1] at hx
 cases hx):p:=h
theorem zfy {P g s w} (h:Inv P g s w) {ty:TypeId} {L E:Nat} {c:Array Value} :
  ∃ g',Inv P g' (s.new (.tok L)) (World.newB w (.cells c ty (0,0)))∧Ext g w g' (World.newB w (.cells c ty (0,0))) ∧
   g'.toks s.nxt=some (w.heap.size,L)∧g'.lim w.heap.size=some E∧g'.nxt=s.nxt+1∧¬ g'.isRow w.heap.size:=by
 let g':G:={ nxt:=g.nxt+1,rows:=g.rows,live:=g.live,toks:=upd g.toks s.nxt (some (w.heap.size,L)),lim:=upd g.lim w.heap.size (some E) }
 have hnew:=h.newfree (Nat.le_refl w.heap.size)
 have e:Ext g w g' (World.newB w (.cells c ty (0,0))):=by
  refine Xx h _ g' (Nat.le_succ _) (fun id hid=>rfl) (wi (fun t ht=>yD _ _ ?_) (fun t b L e=>yD _ _ ?_)) (fun b hb hk=>hk) (fun b hb=>yD _ _ Y2)
  ·have:=h.nxt;omega
  ·have:=(h.toklt e).1;omega
 have hn:=h.rows_none (Nat.le_refl s.nxt)
 refine ⟨g',?_,e,yh _ _ _,yh _ _ _,by show g.nxt+1=_;rw [h.nxt],hnew.1⟩
 refine Inv.step s.nxt h e zkI ?_ ?_ ?_ ?_ ?_ ?_ ?_ ?_ ?_ (fun id b n _ l e=>yD _ _ (by have:=h.rowlt l e;omega)) zoo
 ·exact Y57
 ·exact fun id hid=>⟨if_neg hid,rfl,rfl,yD _ _ hid⟩
 ·exact zod
 ·intro id b n hid et
  have ⟨h1,h2,_⟩:=h.toklt et
  exact ⟨yD _ _ Y2,h2⟩
 ·exact zke
 ·simp only [St.new,if_true,At]
  exact ⟨hn.1,w.heap.size,E,yh _ _ _,yh _ _ _,hnew.1,uF _ _ _⟩
 ·exact znA
 ·intro b m j n hx hj hjr
  have:g'.toks s.nxt=some (w.heap.size,L):=yh _ _ _
  rw [this] at hx
  cases hx
  have:=(h.toklt hjr).1
  omega
 ·intro b e' hl
  rw [Zg]
  by_cases hb:b=w.heap.size
  ·omega
  ·have:g'.lim b=g.lim b:=yD _ _ hb
   rw [this] at hl
   have:=h.lim b e' hl
   omega
theorem zcm {P g s w} (h:Inv P g s w) (o:Obj):Inv P g s (World.newB w o)∧Ext g w g (World.newB w o):=by
 have e:Ext g w g (World.newB w o):=Xx h _ g (Nat.le_refl _) (fun _ _=>rfl) (wi (fun _ _=>rfl) (fun _ _ _ _=>rfl)) (fun _ _ k=>k) (fun _ _=>rfl)
 refine ⟨?_,e⟩
 refine Inv.step s.nxt h e h.nxt h.wf (fun _ _=>⟨rfl,rfl,rfl,rfl⟩) (fun id b n _ l e=>wH w _ (h.rowlt l e)) (fun id b n _ et=>⟨rfl,(h.toklt et).2.1⟩)
  (fun b hb=>um (wH w _ hb.lt) hb) ?_ ?_ ?_ ?_ (fun _ _ _ _ _ _=>rfl) (fun b m l=>by rw [(h.rows_none (Nat.le_refl s.nxt)).1] at l;cases l)
 ·have:=h.rows_none (Nat.le_refl s.nxt)
  rw [h.wf _ (Nat.le_refl _)]
  exact this
 ·intro b m j n hx
  rw [(h.rows_none (Nat.le_refl s.nxt)).1] at hx;cases hx
 ·intro b m j n hx
  rw [(h.rows_none (Nat.le_refl s.nxt)).2] at hx;cases hx
 ·intro b e' hl
  have:=h.lim b e' hl
  rw [Zg];omega
theorem zo4 {p:Prop} (h:p:=by
 intro i hi
 have:i≠id:=fun e=>by
  subst e
  have:=h.id_lt (id:=i) (by rw [hb];simp)
  simp only [St.set] at hi
  omega
 simp only [St.set]
 rw [if_neg this]
 exact h.wf i hi):p:=h
theorem zqf {p:Prop} (h:p:=by
 intro b' m j n _ hx hj lj hjr
 rw [hr] at hx;cases hx
 exact hj (h.inj j id b n _ lj hlv hjr hr)):p:=h
theorem Ya {P g s w} (h:Inv P g s w) {id b t els els' vs' o xs} (hb:s.blk id=some (.row t els)) (hr:g.rows id=some (b,P.cellsOf t))
  (hc:zT (yd w b o xs) b 0 (flat vs')) (hv:∀ v∈vs',v.cells.size=P.cellsOf t∧∀ x∈v.cells.toList,x.flat=true) (ha:RA g w els' vs') :
  Inv P g (s.set id (some (.row t els'))) (yd w b o xs)∧Ext g w g (yd w b o xs):=by
 have hat:=h.at' id
 rw [hb] at hat
 obtain ⟨h1,hlv,b',vs,h2,hpos,hw,_⟩:=hat
 have hrow:g.isRow b:=⟨id,_,hr,hlv⟩
 rw [hr] at h2;cases h2
 have e:Ext g w g (yd w b o xs) :=
  { os:=(xX xs w b o).1,tape:=(xX xs w b o).2.1,output:=(xX xs w b o).2.2
    size:=by rw [vk];exact Nat.le_refl _
    nxt:=Nat.le_refl _
    rd:=fun b' o' v hf hcell=>by
     have:b'≠b:=fun e=>hf.1 (e ▸ hrow)
     rw [uc (wm xs w b o b' this)];exact hcell
    free:=fun _ _ _ hf=>hf
    same:=fun b' hb' hnr _=>wm xs w b o b' (fun e=>hnr (e ▸ hrow))
    rows:=fun _ _ _ h=>h
    csz:=fun b' _=>vU xs w b o b'
    toks:=wi (fun _ _=>rfl) (fun _ _ _ _=>rfl) }
 refine ⟨?_,e⟩
 refine Inv.step id h e h.nxt ?_ (fun j hj=>⟨if_neg hj,rfl,rfl,rfl⟩) ?_ ?_ (fun b' hb'=>xR xs w b o hb') ?_ ?_ ?_ ?_ (fun _ _ _ _ _ _=>rfl) (fun b' m l e=>h.rlim id b' m l e)
 ·exact zo4
 ·intro j b' n hj lj hjr
  refine wm xs w b o b' (fun e=>hj ?_)
  subst e
  exact h.inj j id b' n _ lj hlv hjr hr
 ·intro j b' n hj hjt
  exact ⟨rfl,(h.toklt hjt).2.1⟩
 ·simp only [St.set,if_true,At]
  exact ⟨h1,hlv,b,vs',hr,hpos,xR xs w b o hw,hc,hv,yX e _ _ ha⟩
 ·exact zqf
 ·intro b' m j n hx
  rw [h1] at hx;cases hx
 ·intro b' e' hl
  rw [vk];exact h.lim b' e' hl
theorem zqe {p:Prop} (h:p:=by
 intro i hi
 have:i≠t:=fun e=>by
  subst e
  have:=h.id_lt (id:=i) (by rw [ht];simp)
  simp only [St.set] at hi
  omega
 simp only [St.set]
 rw [if_neg this]
 exact h.wf i hi):p:=h
theorem zox {p:Prop} (h:p:=by exact (fun b' m l=>by rw [show g'.live t=false from hrn] at l;cases l)):p:=h
theorem zow {p:Prop} (h:p:=by
 intro b' m' j n hx
 rw [show g'.live t=false from hrn] at hx;cases hx):p:=h
theorem zdL {P g s w} (h:Inv P g s w) {t b L m E xs} (ht:s.blk t=some (.tok L)) (hg:g.toks t=some (b,L)) (hl:g.lim b=some E) (hm:0<m) :
  ∃ g',Inv P g' (s.set t (some (.tok (L+m)))) (yd w b E xs)∧Ext g w g' (yd w b E xs)∧g'.toks t=some (b,L+m)∧g'.lim b=some (E+xs.length)∧g'.nxt=g.nxt∧¬ g'.isRow b:=by
 obtain ⟨hbl,hnr,hwr,_⟩:=h.toklt hg
 have hat:=h.at' t
 rw [ht] at hat
 have hrn:g.live t=false:=hat.1
 let g':G:={ nxt:=g.nxt,rows:=g.rows,live:=g.live,toks:=upd g.toks t (some (b,L+m)),lim:=upd g.lim b (some (E+xs.length)) }
 have e:Ext g w g' (yd w b E xs) :=
  { os:=(xX xs w b E).1,tape:=(xX xs w b E).2.1,output:=(xX xs w b E).2.2
    size:=by rw [vk];exact Nat.le_refl _
    nxt:=Nat.le_refl _
    rd:=fun b' o' v hf hcell=>by
     rw [yn]
     ·exact hcell
     ·by_cases hbb:b'=b
      ·subst hbb
       have:=hf.2 E hl
       omega
      ·exact .inl hbb
    free:=fun b' n hb' hf=>⟨hf.1,fun x hx=>by
     by_cases hbb:b'=b
     ·subst hbb
      have h1:g'.lim b'=some (E+xs.length):=yh _ _ _
      rw [h1] at hx;cases hx
      have:=hf.2 E hl
      omega
     ·have h1:g'.lim b'=g.lim b':=yD _ _ hbb
      rw [h1] at hx
      exact hf.2 x hx⟩
    same:=fun b' hb' hnr' hlim=>wm xs w b E b' (fun e=>by subst e;rw [hl] at hlim;cases hlim)
    rows:=fun _ _ _ h=>h
    csz:=fun b' _=>vU xs w b E b'
    toks:=fun t' ht' b' L' e'=>by
     by_cases htt:t'=t
     ·subst htt
      have h1:g'.toks t'=some (b,L+m):=yh _ _ _
      rw [h1] at e';cases e'
      exact ⟨b,L,hg,.inl Y2⟩
     ·have h1:g'.toks t'=g.toks t':=yD _ _ htt
      rw [h1] at e'
      refine ⟨b',L',e',.inr ⟨rfl,rfl,yD _ _ (fun e=>htt ?_)⟩⟩
      subst e
      exact h.tinj t' t b' L' L e' hg }
 refine ⟨g',?_,e,yh _ _ _,yh _ _ _,rfl,hnr⟩
 refine Inv.step t h e h.nxt ?_ (fun j hj=>⟨if_neg hj,rfl,rfl,yD _ _ hj⟩) ?_ ?_ (fun b' hb'=>xR xs w b E hb') ?_ ?_ ?_ ?_ (fun j b' n _ lj hjr=>yD _ _ (fun e=>hnr (e ▸ ⟨j,n,hjr,lj⟩))) zox
 ·exact zqe
 ·intro j b' n hj lj hjr
  exact wm xs w b E b' (fun e=>hnr (e ▸ ⟨j,n,hjr,lj⟩))
 ·intro j b' n hj hjt
  refine ⟨yD _ _ (fun e=>hj ?_),(h.toklt hjt).2.1⟩
  subst e
  exact h.tinj j t b' n L hjt hg
 ·simp only [St.set,if_true,At]
  exact ⟨hrn,b,E+xs.length,yh _ _ _,yh _ _ _,hnr,xR xs w b E hwr⟩
 ·exact zow
 ·intro b' m' j n hx hj hjt
  have h1:g'.toks t=some (b,L+m):=yh _ _ _
  rw [h1] at hx;cases hx
  exact hj (h.tinj j t b n L hjt hg)
 ·intro b' e' hl'
  rw [vk]
  by_cases hbb:b'=b
  ·subst hbb;exact hbl
  ·have h1:g'.lim b'=g.lim b':=yD _ _ hbb
   rw [h1] at hl'
   exact h.lim b' e' hl'
theorem zdV {P g s w} (h:Inv P g s w) {t b L m E} {ty:TypeId} {c:Array Value} (ht:s.blk t=some (.tok L)) (hg:g.toks t=some (b,L)) (hm:0<m) :
  ∃ g',Inv P g' (s.set t (some (.tok (L+m)))) (World.newB w (.cells c ty (0,0)))∧Ext g w g' (World.newB w (.cells c ty (0,0))) ∧
   g'.toks t=some (w.heap.size,L+m)∧g'.lim w.heap.size=some E∧g'.nxt=g.nxt∧¬ g'.isRow w.heap.size:=by
 obtain ⟨hbl,hnr,hwr,_⟩:=h.toklt hg
 have hat:=h.at' t
 rw [ht] at hat
 have hrn:g.live t=false:=hat.1
 have hnew:=h.newfree (Nat.le_refl w.heap.size)
 let g':G:={ nxt:=g.nxt,rows:=g.rows,live:=g.live,toks:=upd g.toks t (some (w.heap.size,L+m)),lim:=upd g.lim w.heap.size (some E) }
 have e:Ext g w g' (World.newB w (.cells c ty (0,0))):=by
  refine Xx h _ g' (Nat.le_refl _) (fun _ _=>rfl) (fun t' ht' b' L' e'=>?_) (fun b hb hk=>hk) (fun b hb=>yD _ _ Y2)
  by_cases htt:t'=t
  ·subst htt
   have h1:g'.toks t'=some (w.heap.size,L+m):=yh _ _ _
   rw [h1] at e';cases e'
   exact ⟨b,L,hg,.inl Y2⟩
  ·have h1:g'.toks t'=g.toks t':=yD _ _ htt
   rw [h1] at e'
   exact ⟨b',L',e',.inr ⟨rfl,rfl,yD _ _ (by have:=(h.toklt e').1;omega)⟩⟩
 refine ⟨g',?_,e,yh _ _ _,yh _ _ _,rfl,hnew.1⟩
 refine Inv.step t h e h.nxt ?_ (fun j hj=>⟨if_neg hj,rfl,rfl,yD _ _ hj⟩) ?_ ?_ ?_ ?_ ?_ ?_ ?_ (fun j b' n _ lj hjr=>yD _ _ (by have:=h.rowlt lj hjr;omega)) zox
 ·exact zqe
 ·exact fun j b' n hj lj hjr=>wH w _ (h.rowlt lj hjr)
 ·intro j b' n hj hjt
  have ⟨h1,h2,_⟩:=h.toklt hjt
  exact ⟨yD _ _ Y2,h2⟩
 ·exact zke
 ·simp only [St.set,if_true,At]
  exact ⟨hrn,w.heap.size,E,yh _ _ _,yh _ _ _,hnew.1,uF _ _ _⟩
 ·exact zow
 ·intro b' m' j n hx hj hjt
  have h1:g'.toks t=some (w.heap.size,L+m):=yh _ _ _
  rw [h1] at hx;cases hx
  have:=(h.toklt hjt).1
  omega
 ·intro b' e' hl'
  rw [Zg]
  by_cases hbb:b'=w.heap.size
  ·omega
  ·have h1:g'.lim b'=g.lim b':=yD _ _ hbb
   rw [h1] at hl'
   have:=h.lim b' e' hl'
   omega
def St.keep (s:St) (n:Nat) (p:Nat→Bool):St:={ nxt:=n,blk:=fun i=>if p i then s.blk i else none }
def G.keep (g:G) (n:Nat) (p:Nat→Bool):G:={ nxt:=n,rows:=g.rows,live:=fun i=>p i&&g.live i,toks:=fun i=>if p i then g.toks i else none,lim:=g.lim }
theorem Ud {g:G} {n p b m} (h:g.free b m):(g.keep n p).free b m:=by
 refine ⟨?_,h.2⟩
 rintro ⟨i,k,e,l⟩
 simp only [G.keep,Bool.and_eq_true] at e l
 exact h.1 ⟨i,k,e,l.2⟩
theorem za2 {g:G} {w:World} {p:Nat→Bool} (n:Nat) (hn:g.nxt≤n):Ext g w (g.keep n p) w :=
 { os:=rfl,tape:=rfl,output:=rfl,size:=Nat.le_refl _,nxt:=hn,rd:=fun _ _ _ _ h=>h,free:=fun _ _ _ h=>Ud h
   same:=fun _ _ _ _=>rfl
   rows:=fun id _ x h=>h
   csz:=fun _ _=>rfl
   toks:=fun t _ b L e=>by
    simp only [G.keep] at e
    split at e
    ·exact ⟨b,L,e,.inr ⟨rfl,rfl,rfl⟩⟩
    ·cases e }
structure Sub (g g':G) (n:Nat):Prop where
 nxt:n≤g'.nxt
 free:∀ b m,g.free b m→g'.free b m
 rows:∀ id,id<n→g'.rows id=g.rows id
 toks:∀ id,id<n→g'.toks id=g.toks id∨g'.toks id=none
 lim:g'.lim=g.lim
mutual
def PV.blw (n:Nat):PV→Prop
 | .ptr id _ _ | .own id _ _ | .map id=>id<n
 | .rptr cs=>PV.blws n cs
 | .sl k els=>(∀ t z,k=.tok t z→t<n)∧PV.blws n els
 | .agg cs | .tuple cs=>PV.blws n cs
 | .fn _ a b=>PV.blws n a∧PV.blws n b
 | .iface _ p=>PV.blw n p
 | .gd _ b p=>b=true→PV.blw n p
 | _=>True
def PV.blws (n:Nat):List PV→Prop
 | []=>True
 | p::ps=>PV.blw n p∧PV.blws n ps
end
theorem wu {g g':G} {w n k m vs v} (h:Sub g g' n) (hb:∀ t z,k=.tok t z→t<n) (r:yV g w k m vs v):yV g' w k m vs v:=by
 have main:∀ k:SK,(∀ t z,k=.tok t z→t<n)→(∃ b o cap sz,v=.slice (some ⟨b,o,none⟩) m cap∧m≤cap∧0<sz∧(k=.clip→cap=m)∧(0<m→g.free b (o+m*sz))∧zT w b o (flat vs) ∧
   (∀ v∈vs,v.cells.size=sz) ∧
   ∀ t z,k=.tok t z→sz=z∧t<g.nxt∧∀ b' L,g.toks t=some (b',L)→m≤L∧(m=L→b'=b∧g.lim b=some (o+L*sz)∧o+cap*sz≤yJ w b)) →
   (∃ b o cap sz,v=.slice (some ⟨b,o,none⟩) m cap∧m≤cap∧0<sz∧(k=.clip→cap=m)∧(0<m→g'.free b (o+m*sz))∧zT w b o (flat vs) ∧
   (∀ v∈vs,v.cells.size=sz) ∧
   ∀ t z,k=.tok t z→sz=z∧t<g'.nxt∧∀ b' L,g'.toks t=some (b',L)→m≤L∧(m=L→b'=b∧g'.lim b=some (o+L*sz)∧o+cap*sz≤yJ w b)):=by
  rintro k hb ⟨b,o,cap,sz,h1,h2,h3,h4,h5,h6,h7,h8⟩
  refine ⟨b,o,cap,sz,h1,h2,h3,h4,fun hp=>h.free _ _ (h5 hp),h6,h7,fun t z e=>⟨(h8 t z e).1,Nat.lt_of_lt_of_le (hb t z e) h.nxt,fun b' L e'=>?_⟩⟩
  rcases h.toks t (hb t z e) with q | q
  ·rw [q] at e'
   obtain ⟨a1,a2⟩:=(h8 t z e).2.2 b' L e'
   exact ⟨a1,fun x=>by rw [h.lim];exact a2 x⟩
  ·rw [q] at e';cases e'
 have odd:∀ k:SK,(∀ t z,k=.tok t z→t<n)→zep g k→zep g' k:=fun k hb q=>q.imp id (.imp id fun ⟨t,z,e,_⟩=>⟨t,z,e,Nat.lt_of_lt_of_le (hb t z e) h.nxt⟩)
 cases k with
 | nil=>exact r
 | clip=>exact r.imp (main .clip hb) (fun q=>⟨odd _ hb q.1,q.2⟩)
 | any=>exact r.imp (main .any hb) (fun q=>⟨odd _ hb q.1,q.2⟩)
 | tok t z=>exact r.imp (main (.tok t z) hb) (fun q=>⟨odd _ hb q.1,q.2⟩)
 | unk=>exact r.imp (main .unk hb) (fun q=>⟨odd _ hb q.1,q.2⟩)
 | unc=>exact r.imp (main .unc hb) (fun q=>⟨odd _ hb q.1,q.2⟩)
theorem zbE {p:Prop} (h:p:=by cases e):p:=h
theorem zfd {p:Prop} (h:p:=by exact (fun t z e=>zbE)):p:=h
theorem WJ {g g':G} {w n k m vs v} (h:Sub g g' n) (hb:∀ t z,k=.tok t z→t<n) (r:vg g w k m vs v):vg g' w k m vs v:=by
 cases k with
 | unk=>exact r.imp (wu (k:=.nil) h zfd) (wu (k:=.any) h zfd)
 | unc=>exact r.imp (wu (k:=.nil) h zfd) (wu (k:=.clip) h zfd)
 | nil=>exact wu (w:=w) (vs:=vs) (k:=.nil) h hb r
 | clip=>exact wu (w:=w) (vs:=vs) (k:=.clip) h hb r
 | any=>exact wu (w:=w) (vs:=vs) (k:=.any) h hb r
 | tok t z=>exact wu (w:=w) (vs:=vs) (k:=.tok t z) h hb r
mutual
theorem zbq {g g' w n} (h:Sub g g' n):∀ (p:PV) (v:Value),p.blw n→R g w p v→R g' w p v
 | .int k m,v,_,r=>Y56
 | .bool b,v,_,r=>Y56
 | .str s,v,_,r=>Y56
 | .nilp,v,_,r=>Y56
 | .ptr id i j,v,hb,r=>by
   simp only [R,PV.blw] at r hb ⊢
   obtain ⟨_,r⟩:=r
   exact ⟨Nat.lt_of_lt_of_le hb h.nxt,by rw [h.rows id hb];exact r⟩
 | .rptr cs,v,hb,r=>by
   simp only [R,PV.blw] at r hb ⊢
   obtain ⟨b,o,vs,hv,hf,hc,hfl,hr⟩:=r
   exact ⟨b,o,vs,hv,fun hp=>h.free _ _ (hf hp),hc,hfl,ZZ h cs vs hb hr⟩
 | .sl k els,v,hb,r=>by
   simp only [R,PV.blw] at r hb ⊢
   obtain ⟨vs,hr,hs⟩:=r
   exact ⟨vs,ZZ h els vs hb.2 hr,WJ h hb.1 hs⟩
 | .own id off len,v,hb,r=>by
   simp only [R,PV.blw] at r hb ⊢
   obtain ⟨_,r⟩:=r
   exact ⟨Nat.lt_of_lt_of_le hb h.nxt,by rw [h.rows id hb];exact r⟩
 | .agg cs,v,hb,r=>by
   simp only [R,PV.blw] at r hb ⊢
   obtain ⟨a,h1,h2,h3⟩:=r
   exact ⟨a,h1,h2,ZZ h cs _ hb h3⟩
 | .tuple cs,v,hb,r=>by
   simp only [R,PV.blw] at r hb ⊢
   obtain ⟨a,h1,h3⟩:=r
   exact ⟨a,h1,ZZ h cs _ hb h3⟩
 | .fn f first cap,v,hb,r=>by
   simp only [R,PV.blw] at r hb ⊢
   obtain ⟨x,y,h1,h2,h3⟩:=r
   exact ⟨x,y,h1,ZZ h first _ hb.1 h2,ZZ h cap _ hb.2 h3⟩
 | .nilf,v,_,r=>Y56
 | .iface t p,v,hb,r=>by
   simp only [R,PV.blw] at r hb ⊢
   obtain ⟨x,h1,h2⟩:=r
   exact ⟨x,h1,zbq h p x hb h2⟩
 | .nili,v,_,r=>Y56
 | .map id,v,hb,r=>by
   simp only [R,PV.blw] at r hb ⊢
   obtain ⟨_,r⟩:=r
   exact ⟨Nat.lt_of_lt_of_le hb h.nxt,by rw [h.rows id hb];exact r⟩
 | .nilm,v,_,r=>Y56
 | .gd _ b p,v,hb,r=>by
   simp only [R,PV.blw] at r hb ⊢
   exact ⟨fun hx=>zbq h p v (hb hx) (r.1 hx),r.2⟩
 | .junk,v,_,r=>WW
theorem ZZ {g g' w n} (h:Sub g g' n):∀ (ps:List PV) (vs:List Value),PV.blws n ps→RA g w ps vs→RA g' w ps vs
 | [],vs,_,r=>by simpa only [RA] using r
 | p::ps,vs,hb,r=>by
   simp only [RA,PV.blws] at r hb ⊢
   obtain ⟨v,r',h1,h2,h3⟩:=r
   exact ⟨v,r',h1,zbq h p v hb.1 h2,ZZ h ps r' hb.2 h3⟩
end
theorem ZA (g:G) (n:Nat) (p:Nat→Bool):Sub g (g.keep n p) n :=
 ⟨Nat.le_refl _,fun _ _ h=>Ud h,fun id _=>rfl,fun id _=>by simp only [G.keep];split<;>simp,rfl⟩
theorem wV {P g s w} (h:Inv P g s w) (k:Nat):Inv P g s { w with drawn:=k }∧Ext g w g { w with drawn:=k }:=by
 have e:Ext g w g { w with drawn:=k } :=
  { os:=rfl,tape:=rfl,output:=rfl,size:=Nat.le_refl _,nxt:=Nat.le_refl _,rd:=fun _ _ _ _ h=>h,free:=fun _ _ _ h=>h,same:=fun _ _ _ _=>rfl
    rows:=fun _ _ _ h=>h,csz:=fun _ _=>rfl,toks:=wi (fun _ _=>rfl) (fun _ _ _ _=>rfl) }
 refine ⟨?_,e⟩
 have hn:=h.rows_none (Nat.le_refl s.nxt)
 refine Inv.step s.nxt h e h.nxt h.wf (fun _ _=>⟨rfl,rfl,rfl,rfl⟩) (fun id b n _ l e=>rfl) (fun id b n _ et=>⟨rfl,(h.toklt et).2.1⟩) (fun b hb=>hb) ?_ ?_ ?_ h.lim (fun _ _ _ _ _ _=>rfl) (fun b m l=>by rw [hn.1] at l;cases l)
 ·rw [h.wf _ (Nat.le_refl _)];exact hn
 ·intro b m j n hx
  rw [hn.1] at hx;cases hx
 ·intro b m j n hx
  rw [hn.2] at hx;cases hx
end Go.PM
namespace Go.PM
open Go
abbrev Env:=List (Nat × PV)
def Env.get:Env→Nat→PV
 | [],_=>.junk
 |(k,v)::e,i=>if i=k then v else Env.get e i
def yY (g:G) (w:World) (e:Env) (tmps:Array Value):Prop:=∀ i,R g w (e.get i) (tmps.getD i undef)
def Env.put (e:Env) (d:Option Nat) (v:PV):Env:=match d with | some d=>(d,v)::e | none=>e
theorem yY.ext {g w g' w' e tmps} (h:yY g w e tmps) (x:Ext g w g' w'):yY g' w' e tmps:=fun i=>Xi x _ _ (h i)
theorem yY.put {g w e} {a:Act} {d:Option Nat} {v:PV} {val:Value} {N:Nat} (h:yY g w e a.tmps) (hN:a.tmps.size=N) (hd:∀ x,d=some x→x<N) (hv:R g w v val) :
  yY g w (e.put d v) (a.put d val).tmps:=by
 cases d with
 | none=>exact h
 | some d =>
   intro i
   have hd':=hd d rfl
   simp only [Env.put,Env.get,Act.put]
   by_cases hi:i=d
   ·subst hi
    rw [if_pos rfl,Array.getD_eq_getD_getElem?,Array.getElem?_setIfInBounds]
    simp [hN,hd',hv]
   ·rw [if_neg hi,Array.getD_eq_getD_getElem?,Array.getElem?_setIfInBounds,if_neg (fun e=>hi e.symm),← Array.getD_eq_getD_getElem?]
    exact h i
theorem zeG (a:Act) (d:Option Nat) (v:Value):(a.put d v).tmps.size=a.tmps.size:=by cases d<;>simp [Act.put]
theorem WR (a:Act) (d:Option Nat) (v:Value):(a.put d v).defers=a.defers:=by cases d<;>rfl
def zbu (N:Nat) (o:Oper):Bool:=match o.dst with | some d=>decide (d<N) | none=>true
def okC (N:Nat):Code→Bool
 | .region _ ops _=>ops.toList.all (zbu N)
 | .seq a b=>okC N a&&okC N b
 | .cond _ a b=>okC N a&&okC N b
 | .block _ c=>okC N c
 | .loop c=>okC N c
 | _=>true
abbrev AQ:=Exit→Env→St→Prop
def Yz (P:Program) (N:Nat) (g:G) (w:World) (Q:AQ):Exit→Act→World→Prop:=fun ex a' w' =>
 ∃ g' e' s',Inv P g' s' w'∧yY g' w' e' a'.tmps∧Ext g w g' w'∧a'.defers=[]∧a'.tmps.size=N∧Q ex e' s'
def AWP (P:Program) (N:Nat) (c:Code) (e:Env) (s:St) (Q:AQ):Prop :=
 okC N c=true→∀ g w (a:Act),Inv P g s w→yY g w e a.tmps→a.defers=[]→a.tmps.size=N→c.wp P (Yz P N g w Q) a w
inductive KI where
 | code (c:Code)
 | blk (id:Nat)
 | lp (I:Env→St→Prop)
def Xo (P:Program) (N:Nat) (ret:Env→St→Prop):List KI→AQ
 | [],.normal,e,s=>ret e s
 | [],.ret,e,s=>ret e s
 | [],_,_,_=>False
 | .code c::k,.normal,e,s=>AWP P N c e s (Xo P N ret k)
 | .code _::k,ex,e,s=>Xo P N ret k ex e s
 | .blk id::k,.exit i,e,s=>if i=id then Xo P N ret k .normal e s else Xo P N ret k (.exit i) e s
 | .blk _::k,ex,e,s=>Xo P N ret k ex e s
 | .lp I::_,.normal,e,s=>I e s
 | .lp _::k,ex,e,s=>Xo P N ret k ex e s
def okK (N:Nat):List KI→Bool
 | []=>true
 | .code c::k=>okC N c&&okK N k
 | _::k=>okK N k
def Run (P:Program) (N:Nat) (k:List KI) (e:Env) (s:St) (ret:Env→St→Prop):Prop:=okK N k=true→Xo P N ret k .normal e s
def Out (P:Program) (N:Nat) (i:Nat):List KI→Env→St→(Env→St→Prop)→Prop
 | .blk id::k,e,s,ret=>if i=id then Run P N k e s ret else Out P N i k e s ret
 | _::k,e,s,ret=>Out P N i k e s ret
 | [],_,_,_=>False
theorem Yz.mono {P N g w Q Q'} (h:∀ ex e s,Q ex e s→Q' ex e s) {ex a' w'}:Yz P N g w Q ex a' w'→Yz P N g w Q' ex a' w' :=
 fun ⟨g',e',s',h1,h2,h3,h4,h5,h6⟩=>⟨g',e',s',h1,h2,h3,h4,h5,h _ _ _ h6⟩
theorem Yz.trans {P N g w g1 w1 Q} (x:Ext g w g1 w1) {ex a' w'}:Yz P N g1 w1 Q ex a' w'→Yz P N g w Q ex a' w' :=
 fun ⟨g',e',s',h1,h2,h3,h4,h5,h6⟩=>⟨g',e',s',h1,h2,x.trans h3,h4,h5,h6⟩
theorem AWP.mono {P N c e s Q Q'} (h:AWP P N c e s Q) (hq:∀ ex e s,Q ex e s→Q' ex e s):AWP P N c e s Q' :=
 fun ok g w a h1 h2 h3 h4=>wp_mono (h ok g w a h1 h2 h3 h4) fun _ _ _=>Yz.mono hq
section
variable {P:Program} {N:Nat} {k:List KI} {e:Env} {s:St} {rt:Env→St→Prop}
theorem Run.seq {a b:Code} (h:Run P N (.code a::.code b::k) e s rt):Run P N (.code (.seq a b)::k) e s rt:=by
 intro ok
 simp only [okK,okC,Bool.and_eq_true] at ok
 obtain ⟨⟨oa,ob⟩,okk⟩:=ok
 have h:=h (by simp only [okK,Bool.and_eq_true];exact ⟨oa,ob,okk⟩)
 intro _ g w c hI hE hd hN
 refine wp_seq (wp_mono (h oa g w c hI hE hd hN) ?_)
 rintro ex a1 w1 ⟨g1,e1,s1,hI1,hE1,hX1,hd1,hN1,hQ⟩
 cases ex with
 | normal =>
   refine wp_mono (hQ ob g1 w1 a1 hI1 hE1 hd1 hN1) fun ex a' w'=>Yz.trans hX1
 | _=>exact ⟨g1,e1,s1,hI1,hE1,hX1,hd1,hN1,hQ⟩
theorem Run.skip (h:Run P N k e s rt):Run P N (.code .skip::k) e s rt:=by
 intro ok _ g w c hI hE hd hN
 simp only [okK,okC,Bool.true_and] at ok
 exact wp_skip ⟨g,e,s,hI,hE,Ext.refl _ _,hd,hN,h ok⟩
theorem Run.ret (h:rt e s):Run P N (.code .ret::k) e s rt:=by
 intro ok _ g w c hI hE hd hN
 refine wp_ret ⟨g,e,s,hI,hE,Ext.refl _ _,hd,hN,?_⟩
 clear ok
 induction k with
 | nil=>exact h
 | cons x k ih=>cases x<;>exact ih
theorem Run.nil (h:rt e s):Run P N [] e s rt:=fun _=>h
theorem Run.blk {id:Nat} (h:Run P N k e s rt):Run P N (.blk id::k) e s rt:=fun ok=>h (by simpa only [okK] using ok)
theorem Run.lp {I:Env→St→Prop} (h:I e s):Run P N (.lp I::k) e s rt:=fun ok=>h
theorem Out.run {i:Nat} (h:Out P N i k e s rt) (ok:okK N k=true):Xo P N rt k (.exit i) e s:=by
 induction k with
 | nil=>exact h.elim
 | cons x k ih =>
   cases x with
   | code c =>
     simp only [okK,Bool.and_eq_true] at ok
     exact ih h ok.2
   | blk id =>
     simp only [okK] at ok
     simp only [Out] at h
     simp only [Xo]
     by_cases hi:i=id
     ·rw [if_pos hi] at h ⊢
      exact h ok
     ·rw [if_neg hi] at h ⊢
      exact ih h ok
   | lp I=>exact ih h (by simpa only [okK] using ok)
theorem Run.exit {i:Nat} (h:Out P N i k e s rt):Run P N (.code (.exit i)::k) e s rt:=by
 intro ok _ g w c hI hE hd hN
 simp only [okK,okC,Bool.true_and] at ok
 exact wp_exit ⟨g,e,s,hI,hE,Ext.refl _ _,hd,hN,Out.run h ok⟩
theorem Run.block {id:Nat} {c:Code} (h:Run P N (.code c::.blk id::k) e s rt):Run P N (.code (.block id c)::k) e s rt:=by
 intro ok
 simp only [okK,okC,Bool.and_eq_true] at ok
 have h:=h (by simp only [okK,Bool.and_eq_true];exact ok)
 intro _ g w a hI hE hd hN
 refine wp_block (wp_mono (h ok.1 g w a hI hE hd hN) ?_)
 rintro ex a1 w1 ⟨g1,e1,s1,hI1,hE1,hX1,hd1,hN1,hQ⟩
 cases ex with
 | exit i =>
   simp only [Exit.inBlock]
   simp only [Xo] at hQ
   by_cases hi:i=id
   ·rw [if_pos hi] at hQ ⊢
    exact ⟨g1,e1,s1,hI1,hE1,hX1,hd1,hN1,hQ⟩
   ·rw [if_neg hi] at hQ ⊢
    exact ⟨g1,e1,s1,hI1,hE1,hX1,hd1,hN1,hQ⟩
 | _=>exact ⟨g1,e1,s1,hI1,hE1,hX1,hd1,hN1,hQ⟩
theorem Run.loop {c:Code} (I:Env→St→Prop) (μ:Env→St→Nat) (h0:I e s)
  (round:∀ e s,I e s→Run P N (.code c::.lp (fun e' s'=>I e' s'∧μ e' s'<μ e s)::k) e s rt):Run P N (.code (.loop c)::k) e s rt:=by
 intro ok
 simp only [okK,okC,Bool.and_eq_true] at ok
 intro _ g w a hI hE hd hN
 intro b kk cs
 have key:∀ n e s g w (a:Act),μ e s=n→I e s→Inv P g s w→yY g w e a.tmps→a.defers=[]→a.tmps.size=N →
   ∃ ex a' w',Yz P N g w (Xo P N rt k) ex a' w'∧Arrives P (lone (b.at a (.code c::.inLoop c::kk)) cs w) b kk cs ex a' w':=by
  intro n
  induction n using Nat.strongRecOn with
  | _ n ih =>
    intro e s g w a hn hi hI hE hd hN
    have h:=round e s hi (by simp only [okK,Bool.and_eq_true];exact ok) ok.1 g w a hI hE hd hN
    obtain ⟨ex,a₁,w₁,hq,harr⟩:=h b (.inLoop c::kk) cs
    obtain ⟨g1,e1,s1,hI1,hE1,hX1,hd1,hN1,hQ⟩:=hq
    cases ex with
    | normal =>
      obtain ⟨hi1,hlt⟩:=hQ
      obtain ⟨e₂,a₂,w₂,hq₂,harr₂⟩:=ih (μ e1 s1) (by rw [← hn];exact hlt) e1 s1 g1 w₁ a₁ rfl hi1 hI1 hE1 hd1 hN1
      exact ⟨e₂,a₂,w₂,Yz.trans hX1 hq₂,.of_steps (Steps.trans harr (.one step_inLoop)) harr₂⟩
    | exit id=>exact ⟨_,a₁,w₁,⟨g1,e1,s1,hI1,hE1,hX1,hd1,hN1,hQ⟩,.pass (x:=.inLoop c) rfl (fun _ _=>.inl Y1) harr⟩
    | goto l=>exact ⟨_,a₁,w₁,⟨g1,e1,s1,hI1,hE1,hX1,hd1,hN1,hQ⟩,.pass (x:=.inLoop c) rfl (fun _ _=>.inl Y1) harr⟩
    | ret=>exact ⟨_,a₁,w₁,⟨g1,e1,s1,hI1,hE1,hX1,hd1,hN1,hQ⟩,.pass (x:=.inLoop c) rfl (fun _ _=>.inl Y1) harr⟩
    | panic ch=>exact ⟨_,a₁,w₁,⟨g1,e1,s1,hI1,hE1,hX1,hd1,hN1,hQ⟩,.pass (x:=.inLoop c) rfl (fun _ _=>.inl Y1) harr⟩
    | outgrown=>exact ⟨_,a₁,w₁,⟨g1,e1,s1,hI1,hE1,hX1,hd1,hN1,hQ⟩,.pass (x:=.inLoop c) rfl (fun _ _=>.inl Y1) harr⟩
 obtain ⟨ex,a',w',hq,harr⟩:=key _ e s g w a rfl h0 hI hE hd hN
 exact ⟨ex,a',w',hq,.of_steps (.one step_loop) harr⟩
end
def vw:Value→PV
 | .int k n=>.int k n
 | .bool b=>.bool b
 | .string s=>.str s
 | .pointer none=>.nilp
 | .slice none 0 0=>.sl .nil []
 | .map none=>.nilm
 | .nilFunc=>.nilf
 | .nilIface=>.nili
 | _=>.junk
def zb6:Value→PV
 | .agg cs=>.agg (cs.toList.map vw)
 | v=>vw v
theorem za3 (g w) (v:Value):R g w (vw v) v:=by
 unfold vw
 split<;>simp [R,RA,vg,yV]
theorem XT (g w):∀ (vs:List Value),RA g w (vs.map vw) vs
 | []=>zaZ
 | v::vs=>by simp only [List.map_cons,RA];exact ⟨v,vs,rfl,za3 g w v,XT g w vs⟩
theorem YY (g w) (v:Value) (h:∀ cs,v=.agg cs→∀ x∈cs.toList,x.flat=true):R g w (zb6 v) v:=by
 unfold zb6
 split
 ·rename_i cs
  simp only [R]
  exact ⟨cs,rfl,h cs rfl,XT g w _⟩
 ·exact za3 g w v
def VA:Value→Bool
 | .agg cs=>cs.toList.all Value.flat
 | _=>true
def ev (e:Env):Operand→PV
 | .tmp t=>e.get t
 | .const v=>if VA v then zb6 v else .junk
 | .func f=>.fn (.func f) [] []
 | .global _=>.junk
theorem xE {g w e} {a:Act} (h:yY g w e a.tmps) (x:Operand):R g w (ev e x) (a.eval x):=by
 cases x with
 | tmp t=>exact h t
 | const v =>
   simp only [ev,Act.eval]
   split
   ·rename_i hf
    refine YY g w v fun cs hc x hx=>?_
    subst hc
    simp only [VA,List.all_eq_true] at hf
    exact hf x hx
   ·simp [R]
 | func f=>simp [ev,Act.eval,R,RA]
 | global _=>simp [ev,R]
theorem zh8 {g w e} {a:Act} (h:yY g w e a.tmps):∀ (xs:List Operand),RA g w (xs.map (ev e)) (xs.map a.eval)
 | []=>zaZ
 | x::xs=>by simp only [List.map_cons,RA];exact ⟨_,_,rfl,xE h x,zh8 h xs⟩
section
variable {P:Program} {N:Nat} {k:List KI} {e:Env} {s:St} {rt:Env→St→Prop}
theorem Run.cond {c:Operand} {x y:Code} {t:Bool} (hc:ev e c=.bool t) (ht:t=true→Run P N (.code x::k) e s rt)
  (hf:t=false→Run P N (.code y::k) e s rt):Run P N (.code (.cond c x y)::k) e s rt:=by
 intro ok
 simp only [okK,okC,Bool.and_eq_true] at ok
 intro _ g w a hI hE hd hN
 have hv:=xE hE c
 rw [hc] at hv
 simp only [R] at hv
 refine wp_cond hv ?_
 cases t with
 | true=>exact ht rfl (by simp only [okK,Bool.and_eq_true];exact ⟨ok.1.1,ok.2⟩) ok.1.1 g w a hI hE hd hN
 | false=>exact hf rfl (by simp only [okK,Bool.and_eq_true];exact ⟨ok.1.2,ok.2⟩) ok.1.2 g w a hI hE hd hN
end
def Env.keep (l:List Nat) (e:Env):Env:=l.map fun i=>(i,e.get i)
theorem VD (e:Env):∀ (l:List Nat) (i:Nat),(Env.keep l e).get i=e.get i∨(Env.keep l e).get i=.junk
 | [],i=>.inr rfl
 | x::l,i=>by
   simp only [Env.keep,List.map_cons,Env.get]
   split
   ·rename_i h;subst h;exact .inl rfl
   ·exact VD e l i
theorem yY.env {g w e e' tmps} (h:yY g w e tmps) (he:∀ i,Env.get e' i=e.get i∨Env.get e' i=.junk):yY g w e' tmps:=fun i=>by
 rcases he i with q | q
 ·rw [q];exact h i
 ·rw [q];simp [R]
def zm (P:Program) (N:Nat) (ops:Array Oper) (l:List Oper) (k:List KI) (e:Env) (s:St) (rt:Env→St→Prop):Prop :=
 l.all (zbu N)=true→okK N k=true→∀ idx:List Nat,idx.map (ops[·]?)=l.map some→∀ g w (a:Act),Inv P g s w→yY g w e a.tmps→a.defers=[]→a.tmps.size=N →
  wpOps P ops (Yz P N g w (Xo P N rt k)) idx a w
section
variable {P:Program} {N:Nat} {k:List KI} {e:Env} {s:St} {rt:Env→St→Prop}
theorem Run.region {id:Nat} {ops:Array Oper} (h:zm P N ops ops.toList k e s rt):Run P N (.code (.region id ops false)::k) e s rt:=by
 intro ok
 simp only [okK,okC,Bool.and_eq_true] at ok
 intro _ g w a hI hE hd hN
 refine wp_region (h ok.1 ok.2 _ ?_ g w a hI hE hd hN)
 apply List.ext_getElem
 ·simp
 ·intro i h1 h2
  simp at h1 h2 ⊢
theorem zm.nil {ops:Array Oper} (h:Run P N k e s rt):zm P N ops [] k e s rt:=by
 intro ok okk idx hidx g w a hI hE hd hN
 have:idx=[]:=by simpa using hidx
 subst this
 exact ⟨g,e,s,hI,hE,Ext.refl _ _,hd,hN,h okk⟩
theorem zm.live {ops:Array Oper} (l:List Nat) (h:Run P N k (Env.keep l e) s rt):zm P N ops [] k e s rt:=by
 intro ok okk idx hidx g w a hI hE hd hN
 have:idx=[]:=by simpa using hidx
 subst this
 exact ⟨g,Env.keep l e,s,hI,hE.env (VD e l),Ext.refl _ _,hd,hN,h okk⟩
def guard? (ops:Array Oper) (o:Oper) (e:Env):Option Bool :=
 match o.guard with
 | none=>some true
 | some (j,want)=>match (ops[j]?).bind (fun o=>o.dst) with
   | none=>none
   | some d=>match Env.get e d with
     | .bool b=>some (b==want)
     | _=>none
theorem yR {g w ops o e} {a:Act} {t:Bool} (h:guard? ops o e=some t) (hE:yY g w e a.tmps) :
  Region.wanted o (yielded ops a.tmps)=t:=by
 unfold guard? at h
 unfold Region.wanted
 cases hg:o.guard with
 | none=>rw [hg] at h;simpa using h
 | some x =>
   obtain ⟨j,want⟩:=x
   rw [hg] at h
   simp only at h ⊢
   cases hd:(ops[j]?).bind (fun o=>o.dst) with
   | none=>rw [hd] at h;simp at h
   | some d =>
     rw [hd] at h
     simp only at h
     cases hb:Env.get e d with
     | bool b =>
       rw [hb] at h
       simp only [Option.some.injEq] at h
       have hv:=hE d
       rw [hb] at hv
       simp only [R] at hv
       unfold yielded
       rw [hd]
       simp only [Option.bind_some]
       rw [Array.getD_eq_getD_getElem?] at hv
       cases hx:a.tmps[d]? with
       | none=>rw [hx] at hv;simp [undef] at hv
       | some v =>
         rw [hx] at hv
         simp only [Option.getD_some] at hv
         subst hv
         simp only
         rw [← h]
         cases b<;>cases want<;>rfl
     | _=>rw [hb] at h;simp at h
end
end Go.PM
namespace Go.PM
open Go
inductive TD where
 | int (k:IntKind) | bool | str | ptr (e:Nat) | sl (e:Nat) | arr (n e:Nat) | map (k e:Nat)
 | struct (fs:List (Nat × Nat × Option Bool)) | fn | iface | other
def yL (P:Program) (t:TypeId):Option Bool:=match P.underlying t with
 | some (.struct _) | some (.array _ _)=>some true
 | some _=>some false
 | none=>none
def td (P:Program) (t:TypeId):TD:=match P.underlying t with
 | some (.int k)=>.int k
 | some .bool=>.bool
 | some .string=>.str
 | some (.pointer e)=>.ptr e
 | some (.slice e)=>.sl e
 | some (.array n e)=>.arr n e
 | some (.map k e)=>.map k e
 | some (.struct fs)=>.struct (fs.toList.map fun f=>(f.offset,P.cellsOf f.type,yL P f.type))
 | some (.func ..)=>.fn
 | some (.interface _)=>.iface
 | _=>.other
def zlz:Value→Bool
 | .tuple _=>false
 | _=>true
def zpv (P:Program) (t:TypeId):Option PV:=match (P.info? t).bind (·.zero) with
 | some v=>if VA v&&v.cells.size==P.cellsOf t&&0<P.cellsOf t&&zlz v&&(zb6 v).ok then some (zb6 v) else none
 | none=>none
section runs
variable {P:Program} {w:World}
theorem zh {t d} (h:P.underlying t=some d):(underlying t).run P w=.ok d w:=by
 unfold underlying
 rw [ze]
 show (match P.underlying t with | some d=>(pure d:Sem TypeDesc) | none=>stuck "no such type").run P w=_
 rw [h];rfl
theorem vA {t} (h:0<P.cellsOf t):∃ i,P.info? t=some i∧i.size=P.cellsOf t:=by
 unfold Program.cellsOf at h ⊢
 cases hi:P.info? t with
 | none=>rw [hi] at h;simp at h
 | some i=>exact ⟨i,rfl,rfl⟩
theorem xU {t i} (h:P.info? t=some i):(typeInfo t).run P w=.ok i w:=by
 unfold typeInfo
 rw [ze]
 show (match P.info? t with | some i=>(pure i:Sem TypeInfo) | none=>stuck "no such type").run P w=_
 rw [h];rfl
theorem yx {t} (h:0<P.cellsOf t):(sizeOf t).run P w=.ok (P.cellsOf t) w:=by
 obtain ⟨i,hi,hs⟩:=vA h
 unfold sizeOf
 rw [ze,xU hi]
 simp only [hs];rfl
theorem Wo {t b} (h:yL P t=some b):(isAgg t).run P w=.ok b w:=by
 unfold yL at h
 unfold isAgg
 rw [ze]
 cases hu:P.underlying t with
 | none=>rw [hu] at h;simp at h
 | some d =>
   rw [zh hu]
   rw [hu] at h
   cases d<;>simp at h<;>subst h<;>rfl
theorem yZ {t v} (h:zpv P t=some v):∃ z,(zeroValue t).run P w=.ok z w∧v=zb6 z∧VA z=true∧z.cells.size=P.cellsOf t∧0<P.cellsOf t∧(∀ vs,z≠.tuple vs)∧v.ok=true:=by
 unfold zpv at h
 cases hi:P.info? t with
 | none=>rw [hi] at h;simp at h
 | some i =>
   rw [hi] at h
   simp only [Option.bind_some] at h
   cases hz:i.zero with
   | none=>rw [hz] at h;simp at h
   | some z =>
     rw [hz] at h
     simp only at h
     split at h
     ·rename_i hc
      simp only [Bool.and_eq_true,beq_iff_eq,decide_eq_true_eq] at hc
      have h:=(Option.some.inj h).symm
      subst h
      refine ⟨z,?_,rfl,hc.1.1.1.1,hc.1.1.1.2,hc.1.1.2,?_,hc.2⟩
      ·unfold zeroValue
       rw [ze,xU hi]
       simp only [hz];rfl
      ·intro vs e
       subst e
       simp [zlz] at hc
     ·cases h
end runs
theorem wz {g w k n vs v} (h:yV g w k n vs v):v=.slice none 0 0∨∃ a cap,v=.slice (some a) n cap:=by
 have main:((∃ b o cap sz,v=.slice (some ⟨b,o,none⟩) n cap∧n≤cap∧0<sz∧(k=.clip→cap=n)∧(0<n→g.free b (o+n*sz))∧zT w b o (flat vs) ∧
   (∀ v∈vs,v.cells.size=sz) ∧
   ∀ t z,k=.tok t z→sz=z∧t<g.nxt∧∀ b' L,g.toks t=some (b',L)→n≤L∧(n=L→b'=b∧g.lim b=some (o+L*sz)∧o+cap*sz≤yJ w b))∨zep g k∧n=0∧∃ a,v=.slice (some a) 0 0)→v=.slice none 0 0∨∃ a cap,v=.slice (some a) n cap :=
  fun h=>by
   rcases h with ⟨b,o,cap,_,e,_⟩ | ⟨_,rfl,a,e⟩
   ·exact .inr ⟨_,cap,e⟩
   ·exact .inr ⟨a,0,e⟩
 cases k with
 | nil=>exact .inl h.1
 | clip=>exact main h
 | any=>exact main h
 | tok t z=>exact main h
 | unk=>exact main h
 | unc=>exact main h
theorem zhO {g w k n vs v} (h:vg g w k n vs v):v=.slice none 0 0∨∃ a cap,v=.slice (some a) n cap:=by
 cases k with
 | unk=>rcases h with h | h
        ·exact wz (g:=g) (w:=w) (vs:=vs) (k:=.nil) h
        ·exact wz (g:=g) (w:=w) (vs:=vs) (k:=.any) h
 | unc=>rcases h with h | h
        ·exact wz (g:=g) (w:=w) (vs:=vs) (k:=.nil) h
        ·exact wz (g:=g) (w:=w) (vs:=vs) (k:=.clip) h
 | nil=>exact wz (g:=g) (w:=w) (vs:=vs) (k:=.nil) h
 | clip=>exact wz (g:=g) (w:=w) (vs:=vs) (k:=.clip) h
 | any=>exact wz (g:=g) (w:=w) (vs:=vs) (k:=.any) h
 | tok t z=>exact wz (g:=g) (w:=w) (vs:=vs) (k:=.tok t z) h
theorem zhV {p:Prop} (h:p:=by rw [h];rfl):p:=h
theorem zlq {g w} {p:PV} {v:Value} (h:R g w p v) (hok:p.ok=true):(∃ cs,p=.agg cs)∨(p.cells=[p]∧v.flat=true):=by
 cases p with
 | agg cs=>exact .inl ⟨cs,rfl⟩
 | tuple vs=>simp [PV.ok] at hok
 | junk=>simp [PV.ok] at hok
 | gd n b p=>simp [PV.ok] at hok
 | int k n=>simp only [R] at h;exact .inr ⟨rfl,zhV⟩
 | bool b=>simp only [R] at h;exact .inr ⟨rfl,zhV⟩
 | str s=>simp only [R] at h;exact .inr ⟨rfl,zhV⟩
 | nilp=>simp only [R] at h;exact .inr ⟨rfl,zhV⟩
 | nilf=>simp only [R] at h;exact .inr ⟨rfl,zhV⟩
 | nili=>simp only [R] at h;exact .inr ⟨rfl,zhV⟩
 | nilm=>simp only [R] at h;exact .inr ⟨rfl,zhV⟩
 | rptr cs=>simp only [R] at h;obtain ⟨b,o,vs,rfl,_⟩:=h;exact .inr ⟨rfl,rfl⟩
 | sl k els =>
   simp only [R] at h
   obtain ⟨vs,_,hs⟩:=h
   refine .inr ⟨rfl,?_⟩
   rcases zhO hs with rfl | ⟨a,cap,rfl⟩<;>rfl
 | fn f a b=>simp only [R] at h;obtain ⟨x,y,rfl,_⟩:=h;exact .inr ⟨rfl,rfl⟩
 | iface t p=>simp only [R] at h;obtain ⟨x,rfl,_⟩:=h;exact .inr ⟨rfl,rfl⟩
 | ptr id i j=>simp only [R] at h;obtain ⟨_,b,sz,_,rfl⟩:=h;exact .inr ⟨rfl,rfl⟩
 | own id off len=>simp only [R] at h;obtain ⟨_,b,sz,cap,_,_,rfl,_⟩:=h;exact .inr ⟨rfl,rfl⟩
 | map id=>simp only [R] at h;obtain ⟨_,b,sz,_,rfl⟩:=h;exact .inr ⟨rfl,rfl⟩
theorem WL {v:Value} (h:v.flat=true):v.cells= #[v]:=by cases v<;>first | rfl |(simp [Value.flat] at h)
theorem xS {g w} {p:PV} {v:Value} (h:R g w p v) (hok:p.ok=true):RA g w p.cells v.cells.toList∧(∀ x∈v.cells.toList,x.flat=true)∧p.cells.length=v.cells.size:=by
 rcases zlq h hok with ⟨cs,rfl⟩ | ⟨hp,hv⟩
 ·simp only [R] at h
  obtain ⟨a,rfl,hf,hr⟩:=h
  exact ⟨hr,hf,by have:=zV hr;simpa [PV.cells,Value.cells] using this⟩
 ·rw [hp,WL hv]
  refine ⟨?_,?_,rfl⟩
  ·simp only [RA];exact ⟨v,[],rfl,h,rfl⟩
  ·intro x hx;simp at hx;subst hx;exact hv
end Go.PM
namespace Go.PM
open Go
theorem xa {w:World} {b:Nat} {xs ys:List Value}:∀ {o:Nat},zT w b o (xs++ys)↔zT w b o xs∧zT w b (o+xs.length) ys:=by
 intro o
 constructor
 ·intro h
  refine ⟨fun j hj=>?_,fun j hj=>?_⟩
  ·have:=h j Vb
   rw [this,List.getElem_append_left hj]
  ·have:=h (xs.length+j) Vb
   rw [Nat.add_assoc,this,List.getElem_append_right Y2]
   simp
 ·rintro ⟨h1,h2⟩ j hj
  by_cases hx:j<xs.length
  ·rw [List.getElem_append_left hx];exact h1 j hx
  ·rw [List.getElem_append_right Y2]
   have:=h2 (j-xs.length) (by simp at hj;omega)
   rw [← this]
   congr 2
   omega
theorem xT {w:World} {b sz:Nat}:∀ {vs:List Value} {o:Nat},(∀ v∈vs,v.cells.size=sz) →
  (zT w b o (flat vs)↔∀ i v,vs[i]? =some v→zT w b (o+i*sz) v.cells.toList)
 | [],o,_=>by
   constructor
   ·intro _ i v h;simp at h
   ·intro _ j hj;simp [flat] at hj
 | v::vs,o,h=>by
   have hv:=h v Y1
   have ih:=xT (w:=w) (b:=b) (sz:=sz) (vs:=vs) (o:=o+sz) fun u hu=>h u (by simp [hu])
   have:flat (v::vs)=v.cells.toList++flat vs:=rfl
   rw [this,xa,Array.length_toList,hv,ih]
   constructor
   ·rintro ⟨h1,h2⟩ i u hu
    cases i with
    | zero=>simp at hu;subst hu;simpa using h1
    | succ i =>
      have:=h2 i u (by simpa using hu)
      rw [Nat.add_mul]
      rw [Nat.add_assoc] at this
      rw [Nat.one_mul,Nat.add_comm (i*sz)]
      exact this
   ·intro k
    refine ⟨by simpa using k 0 v Y1,fun i u hu=>?_⟩
    have:=k (i+1) u (by simpa using hu)
    rw [Nat.add_mul,Nat.one_mul,Nat.add_comm (i*sz)] at this
    rw [Nat.add_assoc]
    exact this
theorem xQ {w:World} {b o:Nat} {vs:List Value} (h:zT w b o vs) (n:Nat):zT w b (o+n) (vs.drop n):=by
 intro j hj
 have:=h (n+j) (by simp at hj;omega)
 rw [Nat.add_assoc,this]
 simp
theorem uX {w:World} {b o:Nat} {vs:List Value} (h:zT w b o vs) (n:Nat):zT w b o (vs.take n):=by
 intro j hj
 have:=h j (by simp at hj;omega)
 rw [this]
 simp
def zgt (P:Program) (t:TypeId) (cs:List PV):Option PV :=
 match yL P t with
 | some true=>if P.cellsOf t≤cs.length∧0<P.cellsOf t then some (.agg (cs.take (P.cellsOf t))) else none
 | some false=>cs.head?
 | none=>none
theorem zcD {P:Program} {g:G} {w:World} {b o:Nat} {vs:List Value} {cs:List PV} {t:TypeId} {v:PV} (hc:zT w b o vs) (hr:RA g w cs vs)
  (hf:∀ x∈vs,x.flat=true) (h:zgt P t cs=some v):∃ val,(loadVar t ⟨b,o,none⟩).run P w=.ok val w∧R g w v val:=by
 unfold zgt at h
 unfold loadVar
 cases ha:yL P t with
 | none=>rw [ha] at h;cases h
 | some x =>
   rw [ha] at h
   cases x with
   | true =>
     simp only at h
     split at h
     ·rename_i hc'
      cases h
      refine ⟨.agg (vs.take (P.cellsOf t)).toArray,?_,?_⟩
      ·rw [ze,Wo ha]
       simp only [if_true]
       rw [ze,yx hc'.2]
       simp only
       rw [ze,Yg P w b o (vs.take (P.cellsOf t)) (P.cellsOf t) (by have:=zV hr;simp;omega) (uX hc _)]
       rfl
      ·simp only [R]
       exact ⟨_,rfl,fun x hx=>hf x (List.mem_of_mem_take (by simpa using hx)),by simpa using Zb _ hr⟩
     ·cases h
   | false =>
     simp only at h
     cases cs with
     | nil=>simp at h
     | cons c cs =>
       simp at h
       subst h
       simp only [RA] at hr
       obtain ⟨x,r,rfl,hx,_⟩:=hr
       refine ⟨x,?_,hx⟩
       rw [ze,Wo ha]
       have:=hc 0 Y1
       simp only [Nat.add_zero,List.getElem_cons_zero] at this
       simp only [load,Sem.run,Bool.false_eq_true,if_false]
       rw [this]
def UO (P:Program) (t:TypeId) (p:PV) (s:St):Option PV :=
 match p with
 | .ptr id i j=>match s.blk id with
   | some (.row _ els)=>match els[i]? with
     | some el=>if el.ok then zgt P t (el.cells.drop j) else none
     | none=>none
   | _=>none
 | .rptr cs=>zgt P t cs
 | _=>none
theorem zeM {P g s w} (h:Inv P g s w) {id ty els i el} (hb:s.blk id=some (.row ty els)) (he:els[i]? =some el) :
  ∃ b vs v,g.rows id=some (b,P.cellsOf ty)∧0<P.cellsOf ty∧zkn g w b (P.cellsOf ty) els vs∧vs[i]? =some v∧R g w el v∧zT w b (i*P.cellsOf ty) v.cells.toList∧v.cells.size=P.cellsOf ty:=by
 have:=h.at' id
 rw [hb] at this
 obtain ⟨_,_,b,vs,h1,h2,h3⟩:=this
 obtain ⟨a1,a2,a3,a4⟩:=h3
 obtain ⟨v,hv,hr⟩:=Vd a4 i el he
 have hsz:∀ v∈vs,v.cells.size=P.cellsOf ty:=fun v hv=>(a3 v hv).1
 have:=(xT hsz).1 a2 i v hv
 rw [Nat.zero_add] at this
 exact ⟨b,vs,v,h1,h2,⟨a1,a2,a3,a4⟩,hv,hr,this,hsz v (List.mem_of_getElem? hv)⟩
theorem Ux {P g s w t p v x} (h:Inv P g s w) (hp:R g w p x) (ha:UO P t p s=some v):∃ val,(Instr.loadAt t x).run P w=.ok val w∧R g w v val:=by
 unfold UO at ha
 cases p with
 | ptr id i j =>
   simp only at ha
   cases hb:s.blk id with
   | none=>rw [hb] at ha;cases ha
   | some bl =>
     rw [hb] at ha
     cases bl with
     | row ty els =>
       simp only at ha
       cases he:els[i]? with
       | none=>rw [he] at ha;cases ha
       | some el =>
         rw [he] at ha
         simp only at ha
         split at ha
         ·rename_i hok
          obtain ⟨b,vs,u,h1,h2,h3,h4,h5,h6,h7⟩:=zeM h hb he
          obtain ⟨c1,c2,c3⟩:=xS h5 hok
          simp only [R] at hp
          obtain ⟨_,b',sz',hb',rfl⟩:=hp
          rw [h1] at hb';cases hb'
          obtain ⟨val,hv,hr⟩:=zcD (P:=P) (xQ h6 j) (vz j c1) (fun y hy=>c2 y (List.mem_of_mem_drop hy)) ha
          exact ⟨val,by rw [Instr.loadAt,ze];exact hv,hr⟩
         ·cases ha
     | tok L=>cases ha
     | map es=>cases ha
     | res=>cases ha
 | rptr cs =>
   simp only at ha
   simp only [R] at hp
   obtain ⟨b,o,vs,rfl,hf,hc,hfl,hr⟩:=hp
   obtain ⟨val,hv,hr⟩:=zcD (P:=P) hc hr hfl ha
   exact ⟨val,by rw [Instr.loadAt,ze];exact hv,hr⟩
 | _=>cases ha
def spl (cs:List PV) (j:Nat) (xs:List PV):List PV:=match xs with
 | [x]=>cs.set j x
 | xs=>cs.take j++(xs++cs.drop (j+xs.length))
def ZF {α:Type} (cs:List α) (j:Nat) (xs:List α):List α:=cs.take j++(xs++cs.drop (j+xs.length))
theorem zlD {cs:List PV} {j xs} (h:j+xs.length≤cs.length):spl cs j xs=ZF cs j xs:=by
 unfold spl ZF
 split
 ·rename_i x
  simp only [List.length_singleton] at h ⊢
  rw [List.set_eq_take_append_cons_drop,if_pos Y2]
  rfl
 ·rfl
theorem UP {α:Type} {cs:List α} {j xs} (h:j+xs.length≤cs.length):(ZF cs j xs).length=cs.length:=by
 simp [ZF];omega
theorem zh2 {g w cs vs j xs us} (h:RA g w cs vs) (k:RA g w xs us):RA g w (ZF cs j xs) (ZF vs j us):=by
 unfold ZF
 rw [zV k]
 exact yN (Zb _ h) (yN k (vz _ h))
theorem zd7 {w:World} {b o:Nat} {vs us:List Value} {j:Nat} (h:zT w b o vs) (hj:j+us.length≤vs.length) (hc:o+vs.length≤yJ w b) :
  zT (yd w b (o+j) us) b o (ZF vs j us):=by
 unfold ZF
 rw [xa,xa]
 refine ⟨?_,?_,?_⟩
 ·intro i hi
  simp at hi
  rw [yn _ _ _ _ _ _ Y2]
  exact uX h j i Vb
 ·rw [List.length_take,Nat.min_eq_left Y2]
  exact wj us w b (o+j) Y2
 ·rw [List.length_take,Nat.min_eq_left Y2]
  intro i hi
  simp at hi
  rw [yn _ _ _ _ _ _ Y2]
  have:=xQ h (j+us.length) i Vb
  rw [← this]
  congr 2
  omega
theorem zb9 {w:World} {b o:Nat} {vs:List Value} (h:zT w b o vs) (hp:0<vs.length):o+vs.length≤yJ w b:=by
 have:=zhk (h (vs.length-1) Y2)
 omega
def zgx (el:PV) (j:Nat) (v:PV):PV:=match el with
 | .agg cs=>.agg (spl cs j v.cells)
 | _=>v
def zdF (P:Program) (t:TypeId) (p v:PV) (s:St):Option St :=
 match p with
 | .ptr id i j=>match s.blk id with
   | some (.row ty els)=>match els[i]? with
     | some el=>if el.ok∧v.ok∧v.cells.length=P.cellsOf t∧0<P.cellsOf t∧j+P.cellsOf t≤el.cells.length then some (s.set id (some (.row ty (els.set i (zgx el j v))))) else none
     | none=>none
   | _=>none
 | _=>none
theorem zof {p:Prop} (h:p:=by rw [Array.length_toList,Array.length_toList];omega):p:=h
theorem zg9 {P g s w} (h:Inv P g s w) {id ty els i j el b vs u v val xs} (hb:s.blk id=some (.row ty els)) (he:els[i]? =some el)
  (h1:g.rows id=some (b,P.cellsOf ty)) (h3:zkn g w b (P.cellsOf ty) els vs) (h4:vs[i]? =some u) (h5:R g w el u) (hok:el.ok=true) (hv:R g w v val) (hvok:v.ok=true)
  (hlen:v.cells.length=xs) (hx:0<xs) (hj:j+xs≤el.cells.length) :
  Inv P g (s.set id (some (.row ty (els.set i (zgx el j v))))) (yd w b (i*P.cellsOf ty+j) val.cells.toList) ∧
  Ext g w g (yd w b (i*P.cellsOf ty+j) val.cells.toList)∧xf w b∧i*P.cellsOf ty+j+val.cells.toList.length≤yJ w b:=by
 obtain ⟨a1,a2,a3,a4⟩:=h3
 have hsz:∀ v∈vs,v.cells.size=P.cellsOf ty:=fun v hv=>(a3 v hv).1
 obtain ⟨c1,c2,c3⟩:=xS h5 hok
 obtain ⟨d1,d2,d3⟩:=xS hv hvok
 have hu:u.cells.size=P.cellsOf ty:=hsz u (List.mem_of_getElem? h4)
 have hcell:=(xT hsz).1 a2 i u h4
 rw [Nat.zero_add] at hcell
 have hcs:i*P.cellsOf ty+u.cells.toList.length≤yJ w b:=zb9 hcell (by rw [Array.length_toList];omega)
 have hi:i<vs.length:=(List.getElem?_eq_some_iff.1 h4).1
 obtain ⟨u',hu',hr',hf',hcells'⟩:∃ u':Value,u'.cells.toList=ZF u.cells.toList j val.cells.toList∧R g w (zgx el j v) u'∧(∀ x∈u'.cells.toList,x.flat=true)∧u'.cells.size=u.cells.size:=by
  rcases zlq h5 hok with ⟨cs,rfl⟩ | ⟨hp,hpv⟩
  ·have hl:(ZF u.cells.toList j val.cells.toList).length=u.cells.toList.length:=UP zof
   have hfl:∀ x∈ZF u.cells.toList j val.cells.toList,x.flat=true:=by
    intro x hx
    simp only [ZF,List.mem_append] at hx
    rcases hx with hx | hx | hx
    ·exact c2 x (List.mem_of_mem_take hx)
    ·exact d2 x hx
    ·exact c2 x (List.mem_of_mem_drop hx)
   refine ⟨.agg (ZF u.cells.toList j val.cells.toList).toArray,by simp [Value.cells],?_,by simpa [Value.cells] using hfl,?_⟩
   ·simp only [zgx,R]
    refine ⟨_,rfl,by simpa using hfl,?_⟩
    rw [zlD (by simp only [PV.cells] at *;omega)]
    simpa [PV.cells] using zh2 c1 d1
   ·have:(ZF u.cells.toList j val.cells.toList).length=u.cells.size:=by rw [hl,Array.length_toList]
    simpa [Value.cells] using this
  ·have hj0:j=0:=by rw [hp] at hj;simp at hj;omega
   have hx1:xs=1:=by rw [hp] at hj;simp at hj;omega
   subst hj0
   have huc:=WL hpv
   have hvc:val.cells.size=1:=Y2
   have hset:zgx el 0 v=v:=by
    cases el with
    | agg cs=>simp only [R] at h5;obtain ⟨a,rfl,_⟩:=h5;simp [Value.flat] at hpv
    | _=>rfl
   refine ⟨val,?_,by rw [hset];exact hv,d2,by rw [huc,hvc];rfl⟩
   rw [huc]
   simp [ZF,hvc]
 have hw':zT (yd w b (i*P.cellsOf ty+j) val.cells.toList) b 0 (flat (vs.set i u')):=by
  have hsz':∀ v∈vs.set i u',v.cells.size=P.cellsOf ty:=by
   intro x hx
   rcases List.mem_or_eq_of_mem_set hx with hx | rfl
   ·exact hsz x hx
   ·omega
  rw [xT hsz']
  intro i' v' hv'
  rw [Nat.zero_add]
  rw [List.getElem?_set] at hv'
  by_cases hii:i=i'
  ·subst hii
   rw [if_pos rfl,if_pos hi] at hv'
   cases hv'
   rw [hu']
   exact zd7 hcell zof hcs
  ·rw [if_neg hii] at hv'
   have hc':=(xT hsz).1 a2 i' v' hv'
   rw [Nat.zero_add] at hc'
   have hs':=hsz v' (List.mem_of_getElem? hv')
   intro q hq
   rw [Array.length_toList,hs'] at hq
   rw [yn]
   ·exact hc' q (by rw [Array.length_toList,hs'];exact hq)
   ·right
    rw [Array.length_toList]
    have hmul:∀ a c:Nat,a<c→a*P.cellsOf ty+P.cellsOf ty≤c*P.cellsOf ty:=fun a c hac=>by
     have:=Nat.mul_le_mul_right (P.cellsOf ty) hac
     rw [Nat.succ_mul] at this
     exact this
    rcases Nat.lt_or_gt_of_ne hii with hlt | hlt
    ·have:=hmul i i' hlt;right;omega
    ·have:=hmul i' i hlt;left;omega
 obtain ⟨r1,r2⟩:=Ya h (els':=els.set i (zgx el j v)) (vs':=vs.set i u') (o:=i*P.cellsOf ty+j) (xs:=val.cells.toList) hb h1 hw' (by
  intro x hx
  rcases List.mem_or_eq_of_mem_set hx with hx | rfl
  ·exact a3 x hx
  ·exact ⟨Y2,hf'⟩) (zdB i a4 hr')
 exact ⟨r1,r2,a1,by rw [Array.length_toList] at hcs ⊢;omega⟩
theorem zhG {P g s w t p v x val s'} (h:Inv P g s w) (hp:R g w p x) (hv:R g w v val) (ha:zdF P t p v s=some s') :
  ∃ w',(Instr.storeAt t x val).run P w=.ok () w'∧Inv P g s' w'∧Ext g w g w':=by
 unfold zdF at ha
 cases p with
 | ptr id i j =>
   simp only at ha
   cases hb:s.blk id with
   | none=>rw [hb] at ha;cases ha
   | some bl =>
     rw [hb] at ha
     cases bl with
     | row ty els =>
       simp only at ha
       cases he:els[i]? with
       | none=>rw [he] at ha;cases ha
       | some el =>
         rw [he] at ha
         simp only at ha
         split at ha
         ·rename_i hc
          obtain ⟨hok,hvok,hlen,hpos,hj⟩:=hc
          cases ha
          obtain ⟨b,vs,u,h1,h2,h3,h4,h5,h6,h7⟩:=zeM h hb he
          simp only [R] at hp
          obtain ⟨_,b',sz',hb',rfl⟩:=hp
          rw [h1] at hb';cases hb'
          obtain ⟨r1,r2,r3,r4⟩:=zg9 (xs:=P.cellsOf t) h hb he h1 h3 h4 h5 hok hv hvok hlen hpos hj
          obtain ⟨d1,d2,d3⟩:=xS hv hvok
          refine ⟨_,?_,r1,r2⟩
          rw [Instr.storeAt,ze]
          show (storeVar t _ val).run P w=_
          unfold storeVar
          rw [ze,yx hpos]
          simp only
          rw [if_neg Y2]
          rw [show (⟨b,i*P.cellsOf ty+j,none⟩:Addr)=⟨b,i*P.cellsOf ty+j,none⟩ from rfl]
          exact wR P b _ w _ 0 d2 r3 (by simpa using r4)
         ·cases ha
     | tok L=>cases ha
     | map es=>cases ha
     | res=>cases ha
 | _=>cases ha
def Xc (P:Program) (t:TypeId) (p:PV) (f:Nat):Option PV :=
 match td P t with
 | .struct fs=>match fs[f]? with
   | some (off,size,_)=>if 0<size then match p with
     | .ptr id i j=>some (.ptr id i (j+off))
     | .rptr cs=>if off≤cs.length then some (.rptr (cs.drop off)) else none
     | _=>none else none
   | none=>none
 | _=>none
theorem Wi {P:Program} {t fs} (h:td P t=.struct fs):∃ fields:Array Field,P.underlying t=some (.struct fields)∧fs=fields.toList.map fun f=>(f.offset,P.cellsOf f.type,yL P f.type):=by
 unfold td at h
 split at h<;>try cases h
 rename_i fields hu
 exact ⟨fields,hu,rfl⟩
theorem zaL {P g w t p f x v} (hp:R g w p x) (ha:Xc P t p f=some v):∃ val,(Instr.fieldAt t x f).run P w=.ok val w∧R g w v val:=by
 unfold Xc at ha
 split at ha
 case h_2=>cases ha
 rename_i fs htd
 obtain ⟨fields,hu,rfl⟩:=Wi htd
 simp only [List.getElem?_map,Array.getElem?_toList] at ha
 cases hf:fields[f]? with
 | none=>rw [hf] at ha;cases ha
 | some fd =>
   rw [hf] at ha
   simp only [Option.map_some] at ha
   split at ha
   ·rename_i hpos
    have place:∀ b o,(Instr.fieldAt t (.pointer (some ⟨b,o,none⟩)) f).run P w=.ok (.pointer (some ⟨b,o+fd.offset,none⟩)) w:=by
     intro b o
     unfold Instr.fieldAt
     rw [ze,zh hu]
     simp only [hf]
     simp only [Instr.sureAddr]
     rw [ze,zo]
     simp only
     rw [ze]
     unfold fieldPlace
     rw [ze,yx hpos]
     simp only
     rw [if_neg Y2,vh]
     rfl
    cases p with
    | ptr id i j =>
      cases ha
      simp only [R] at hp
      obtain ⟨h0,b,sz,hr,rfl⟩:=hp
      refine ⟨_,place b _,?_⟩
      simp only [R]
      exact ⟨h0,b,sz,hr,by rw [Nat.add_assoc]⟩
    | rptr cs =>
      simp only at ha
      split at ha
      ·rename_i hle
       cases ha
       simp only [R] at hp
       obtain ⟨b,o,vs,rfl,h1,h2,h3,h4⟩:=hp
       refine ⟨_,place b o,?_⟩
       simp only [R]
       refine ⟨b,o+fd.offset,vs.drop fd.offset,rfl,fun hpos'=>?_,xQ h2 _,fun v hv=>h3 v (List.mem_of_mem_drop hv),vz _ h4⟩
       simp only [List.length_drop] at hpos' ⊢
       refine Ys (h1 Y2) Y2
      ·cases ha
    | _=>cases ha
   ·cases ha
end Go.PM
namespace Go.PM
open Go
theorem xp {P:Program} {t e} (h:td P t=.sl e):P.underlying t=some (.slice e):=by
 unfold td at h;split at h<;>cases h;assumption
theorem zdC {P:Program} {t n e} (h:td P t=.arr n e):P.underlying t=some (.array n e):=by
 unfold td at h;split at h<;>cases h;assumption
theorem zaO {P:Program} {t k} (h:td P t=.int k):P.underlying t=some (.int k):=by
 unfold td at h;split at h<;>cases h;assumption
theorem XF {P:Program} {t} (h:td P t=.str):P.underlying t=some .string:=by
 unfold td at h;split at h<;>cases h;assumption
theorem zes {P:Program} {t} (h:td P t=.bool):P.underlying t=some .bool:=by
 unfold td at h;split at h<;>cases h;assumption
theorem Xs {P:Program} {t k e} (h:td P t=.map k e):P.underlying t=some (.map k e):=by
 unfold td at h;split at h<;>cases h;assumption
theorem zbr {P:Program} {t e} (h:td P t=.ptr e):P.underlying t=some (.pointer e):=by
 unfold td at h;split at h<;>cases h;assumption
theorem vO {g w k n vs v} (h:yV g w k n vs v) (hk:k≠.nil):(∃ b o cap sz,v=.slice (some ⟨b,o,none⟩) n cap∧n≤cap∧0<sz∧(k=.clip→cap=n)∧(0<n→g.free b (o+n*sz))∧zT w b o (flat vs) ∧
   (∀ v∈vs,v.cells.size=sz) ∧
   ∀ t z,k=.tok t z→sz=z∧t<g.nxt∧∀ b' L,g.toks t=some (b',L)→n≤L∧(n=L→b'=b∧g.lim b=some (o+L*sz)∧o+cap*sz≤yJ w b))∨zep g k∧n=0∧∃ a,v=.slice (some a) 0 0:=by
 cases k with
 | nil=>exact absurd rfl hk
 | clip=>exact h
 | any=>exact h
 | tok t z=>exact h
 | unk=>exact h
 | unc=>exact h
def SK.base:SK→Bool
 | .unk | .unc=>false
 | _=>true
theorem yT {g w k n vs v} (hk:k.base=true):vg g w k n vs v=yV g w k n vs v:=by
 cases k<;>first | rfl |(simp [SK.base] at hk)
theorem zoS {p:Prop} (h:p:=by
 rintro ⟨vs,h,h1 | h1⟩
 ·exact .inl ⟨vs,h,h1⟩
 ·exact .inr ⟨vs,h,h1⟩):p:=h
theorem zpa {p:Prop} (h:p:=by
 rintro (⟨vs,h,h1⟩ | ⟨vs,h,h1⟩)
 ·exact ⟨vs,h,.inl h1⟩
 ·exact ⟨vs,h,.inr h1⟩):p:=h
theorem XE {g w els v}:R g w (.sl .unk els) v↔R g w (.sl .nil els) v∨R g w (.sl .any els) v:=by
 simp only [R,vg]
 constructor
 ·exact zoS
 ·exact zpa
theorem zdw {g w els v}:R g w (.sl .unc els) v↔R g w (.sl .nil els) v∨R g w (.sl .clip els) v:=by
 simp only [R,vg]
 constructor
 ·exact zoS
 ·exact zpa
theorem ZO {g w els v}:R g w (.sl .nil els) v↔v=.slice none 0 0∧els=[]:=by
 simp only [R,vg,yV]
 constructor
 ·rintro ⟨vs,_,h1,h2⟩;exact ⟨h1,List.length_eq_zero_iff.1 h2⟩
 ·rintro ⟨rfl,rfl⟩;exact ⟨[],zaZ,rfl,rfl⟩
theorem VL {g w k els v} (h:R g w (.sl k els) v):∃ k',k'.base=true∧R g w (.sl k' els) v∧(k.base=true→k'=k)∧(k=.unk→k'=.nil∨k'=.any)∧(k=.unc→k'=.nil∨k'=.clip):=by
 cases k with
 | unk =>
   rcases XE.1 h with h | h
   ·exact ⟨.nil,rfl,h,by simp [SK.base],Y1,Y1⟩
   ·exact ⟨.any,rfl,h,by simp [SK.base],Y1,Y1⟩
 | unc =>
   rcases zdw.1 h with h | h
   ·exact ⟨.nil,rfl,h,by simp [SK.base],Y1,Y1⟩
   ·exact ⟨.clip,rfl,h,by simp [SK.base],Y1,Y1⟩
 | nil=>exact ⟨_,rfl,h,fun _=>rfl,Y1,Y1⟩
 | clip=>exact ⟨_,rfl,h,fun _=>rfl,Y1,Y1⟩
 | any=>exact ⟨_,rfl,h,fun _=>rfl,Y1,Y1⟩
 | tok t z=>exact ⟨_,rfl,h,fun _=>rfl,Y1,Y1⟩
theorem zmn {g w k els v} (h:R g w (.sl k els) v) (hk:0<els.length):∃ b o cap sz vs,v=.slice (some ⟨b,o,none⟩) els.length cap∧els.length≤cap∧0<sz ∧
  g.free b (o+els.length*sz)∧zT w b o (flat vs)∧(∀ v∈vs,v.cells.size=sz)∧RA g w els vs:=by
 obtain ⟨k',hb,h',_⟩:=VL h
 have hn:k'≠.nil:=by rintro rfl;obtain ⟨_,rfl⟩:=ZO.1 h';simp at hk
 simp only [R] at h'
 obtain ⟨vs,hr,hs⟩:=h'
 rw [yT hb] at hs
 rcases vO hs hn with ⟨b,o,cap,sz,h1,h2,h3,h4,h5,h6,h7,h8⟩ | ⟨_,h0,_⟩
 ·exact ⟨b,o,cap,sz,vs,h1,h2,h3,h5 hk,h6,h7,hr⟩
 ·omega
theorem zdM {g w k els v} (h:R g w (.sl k els) v):∃ a cap,v=.slice a els.length cap:=by
 obtain ⟨k',hb,h',_⟩:=VL h
 by_cases hn:k'=.nil
 ·subst hn;obtain ⟨rfl,rfl⟩:=ZO.1 h';exact ⟨_,_,rfl⟩
 ·simp only [R] at h'
  obtain ⟨vs,hr,hs⟩:=h'
  rw [yT hb] at hs
  rcases vO hs hn with ⟨b,o,cap,sz,h1,_⟩ | ⟨_,h0,a,h1⟩
  ·exact ⟨_,_,h1⟩
  ·exact ⟨_,_,by rw [h0];exact h1⟩
def YH (P:Program) (t:TypeId) (x ix:PV) (s:St):Option PV :=
 match ix with
 | .int _ i=>match td P t with
   | .sl e=>match x with
     | .sl _ els=>if 0≤i∧0<P.cellsOf e then match els[i.toNat]? with
        | some el=>if el.ok∧el.cells.length=P.cellsOf e then some (.rptr el.cells) else none
        | none=>none
       else none
     | .own id off len=>if 0≤i∧i<len∧0<P.cellsOf e then match s.blk id with
        | some (.row ty _)=>if P.cellsOf e=P.cellsOf ty then some (.ptr id (off+i.toNat) 0) else none
        | _=>none
       else none
     | _=>none
   | .arr n e=>if 0≤i∧i<n∧0<P.cellsOf e then match x with
      | .ptr id k j=>some (.ptr id k (j+i.toNat*P.cellsOf e))
      | .rptr cs=>if (i.toNat+1)*P.cellsOf e≤cs.length then some (.rptr (cs.drop (i.toNat*P.cellsOf e))) else none
      | _=>none
     else none
   | _=>none
 | _=>none
theorem zbQ {P g s w t x ix a b v} (h:Inv P g s w) (hx:R g w x a) (hi:R g w ix b) (ha:YH P t x ix s=some v):∃ val,(Instr.indexAt t a b).run P w=.ok val w∧R g w v val:=by
 unfold YH at ha
 cases ix with
 | int kk i =>
   simp only [R] at hi
   subst hi
   simp only at ha
   cases htd:td P t with
   | sl e =>
     rw [htd] at ha
     simp only at ha
     have hu:=xp htd
     have sliceCase:∀ (b o len cap:Nat),0≤i→i<len→0<P.cellsOf e→(Instr.indexAt t (.slice (some ⟨b,o,none⟩) len cap) (.int kk i)).run P w=.ok (.pointer (some ⟨b,o+i.toNat*P.cellsOf e,none⟩)) w:=by
      intro b o len cap h1 h2 h3
      unfold Instr.indexAt
      simp only [asIntOf,ze,zo,zh hu,yx h3,vh,if_pos (And.intro h1 h2)]
     cases x with
     | sl k els =>
       simp only at ha
       split at ha
       ·rename_i hc
        cases he:els[i.toNat]? with
        | none=>rw [he] at ha;cases ha
        | some el =>
          rw [he] at ha
          simp only at ha
          split at ha
          ·rename_i hok
           cases ha
           have hlt:i.toNat<els.length:=(List.getElem?_eq_some_iff.1 he).1
           obtain ⟨b,o,cap,sz,vs,rfl,h1,h2,h3,h4,h5,h6⟩:=zmn hx Y2
           refine ⟨_,sliceCase b o _ cap hc.1 Y2 hc.2,?_⟩
           obtain ⟨u,hu',hru⟩:=Vd h6 _ _ he
           obtain ⟨c1,c2,c3⟩:=xS hru hok.1
           have hsz:=h5 u (List.mem_of_getElem? hu')
           have hszeq:sz=P.cellsOf e:=Y2
           subst hszeq
           have hcell:=(xT h5).1 h4 _ u hu'
           simp only [R]
           refine ⟨b,_,u.cells.toList,rfl,fun _=>Ys h3 ?_,hcell,c2,c1⟩
           rw [hok.2]
           have:=Nat.mul_le_mul_right (P.cellsOf e) hlt
           rw [Nat.succ_mul] at this
           omega
          ·cases ha
       ·cases ha
     | own id off len =>
       simp only at ha
       split at ha
       ·rename_i hc
        split at ha
        case h_2=>cases ha
        rename_i ty els hb
        split at ha
        ·rename_i heq
         cases ha
         simp only [R] at hx
         obtain ⟨h0,b,sz,cap,hr,hcap,rfl,hcs⟩:=hx
         have hat:=h.at' id
         rw [hb] at hat
         obtain ⟨_,_,b',vs,hr',_⟩:=hat
         rw [hr] at hr';cases hr'
         refine ⟨_,sliceCase b _ _ cap hc.1 hc.2.1 hc.2.2,?_⟩
         simp only [R]
         exact ⟨h0,b,P.cellsOf ty,hr,by rw [heq,Nat.add_mul];rfl⟩
        ·cases ha
       ·cases ha
     | _=>cases ha
   | arr n e =>
     rw [htd] at ha
     simp only at ha
     have hu:=zdC htd
     split at ha
     ·rename_i hc
      have arrCase:∀ (b o:Nat),(Instr.indexAt t (.pointer (some ⟨b,o,none⟩)) (.int kk i)).run P w=.ok (.pointer (some ⟨b,o+i.toNat*P.cellsOf e,none⟩)) w:=by
       intro b o
       unfold Instr.indexAt
       simp only [asIntOf,ze,zo,zh hu,Instr.sureAddr,yx hc.2.2,vh,if_pos (And.intro hc.1 hc.2.1)]
      cases x with
      | ptr id k j =>
        cases ha
        simp only [R] at hx
        obtain ⟨h0,b,sz,hr,rfl⟩:=hx
        refine ⟨_,arrCase b _,?_⟩
        simp only [R]
        exact ⟨h0,b,sz,hr,by rw [Nat.add_assoc]⟩
      | rptr cs =>
        simp only at ha
        split at ha
        ·rename_i hle
         cases ha
         simp only [R] at hx
         obtain ⟨b,o,vs,rfl,h1,h2,h3,h4⟩:=hx
         refine ⟨_,arrCase b o,?_⟩
         simp only [R]
         refine ⟨b,_,vs.drop (i.toNat*P.cellsOf e),rfl,fun hp=>?_,xQ h2 _,fun v hv=>h3 v (List.mem_of_mem_drop hv),vz _ h4⟩
         simp only [List.length_drop] at hp ⊢
         exact Ys (h1 Y2) Y2
        ·cases ha
      | _=>cases ha
     ·cases ha
   | _=>rw [htd] at ha;cases ha
 | _=>cases ha
def zeI (P:Program) (t:TypeId) (cs:List PV) (off:Nat):Option PV :=
 match yL P t with
 | some true=>if 0<P.cellsOf t∧off+P.cellsOf t≤cs.length then some (.agg ((cs.drop off).take (P.cellsOf t))) else none
 | some false=>cs[off]?
 | none=>none
theorem zdj {P g w t off v} {cs:List PV} {a:Array Value} (hr:RA g w cs a.toList) (hf:∀ x∈a.toList,x.flat=true) (h:zeI P t cs off=some v) :
  ∃ val,(part t a off).run P w=.ok val w∧R g w v val:=by
 unfold zeI at h
 unfold part
 cases ha:yL P t with
 | none=>rw [ha] at h;cases h
 | some x =>
   rw [ha] at h
   cases x with
   | true =>
     simp only at h
     split at h
     ·rename_i hc
      cases h
      refine ⟨.agg (a.extract off (off+P.cellsOf t)),?_,?_⟩
      ·rw [ze,Wo ha]
       simp only [if_true]
       rw [ze,yx hc.1]
       rfl
      ·simp only [R]
       have:(a.extract off (off+P.cellsOf t)).toList=(a.toList.drop off).take (P.cellsOf t):=by
        simp [List.extract_eq_take_drop]
       refine ⟨_,rfl,?_,?_⟩
       ·rw [this];exact fun x hx=>hf x (List.mem_of_mem_drop (List.mem_of_mem_take hx))
       ·rw [this];exact Zb _ (vz _ hr)
     ·cases h
   | false =>
     simp only at h
     obtain ⟨u,hu,hru⟩:=Vd hr _ _ h
     refine ⟨u,?_,hru⟩
     rw [ze,Wo ha]
     simp only [Bool.false_eq_true,if_false]
     rw [Array.getElem?_toList] at hu
     rw [hu];rfl
def zdX (P:Program) (t:TypeId) (x:PV) (f:Nat):Option PV :=
 match P.underlying t with
 | some (.struct fs)=>match fs[f]? with
   | some fd=>match x with
     | .agg cs=>zeI P fd.type cs fd.offset
     | _=>none
   | none=>none
 | _=>none
theorem zhp {P g w t f x a v} (hx:R g w x a) (h:zdX P t x f=some v):∃ val,(Instr.field t a f).run P w=.ok val w∧R g w v val:=by
 unfold zdX at h
 split at h
 case h_2=>cases h
 rename_i fs hu
 split at h
 case h_2=>cases h
 rename_i fd hf
 cases x with
 | agg cs =>
   simp only [R] at hx
   obtain ⟨arr,rfl,h1,h2⟩:=hx
   obtain ⟨val,hv,hr⟩:=zdj (P:=P) h2 h1 h
   refine ⟨val,?_,hr⟩
   unfold Instr.field
   rw [ze,zh hu]
   simp only [hf]
   simp only [asAgg,ze,zo]
   exact hv
 | _=>cases h
def zd0 (P:Program) (t:TypeId) (x ix:PV):Option PV :=
 match ix with
 | .int _ i=>match td P t with
   | .arr n e=>if 0≤i∧i<n∧0<P.cellsOf e then match x with
      | .agg cs=>zeI P e cs (i.toNat*P.cellsOf e)
      | _=>none
     else none
   | .str=>match x with
      | .str s=>if 0≤i then match s[i.toNat]? with
         | some b=>some (.int .u8 b.toNat)
         | none=>none
        else none
      | _=>none
   | _=>none
 | _=>none
theorem zhb {P g w t x ix a b v} (hx:R g w x a) (hi:R g w ix b) (h:zd0 P t x ix=some v):∃ val,(Instr.index t a b).run P w=.ok val w∧R g w v val:=by
 unfold zd0 at h
 cases ix with
 | int kk i =>
   simp only [R] at hi
   subst hi
   simp only at h
   cases htd:td P t with
   | arr n e =>
     rw [htd] at h
     simp only at h
     split at h
     ·rename_i hc
      cases x with
      | agg cs =>
        simp only [R] at hx
        obtain ⟨arr,rfl,h1,h2⟩:=hx
        obtain ⟨val,hv,hr⟩:=zdj (P:=P) h2 h1 h
        refine ⟨val,?_,hr⟩
        unfold Instr.index
        simp only [asIntOf,ze,zo,zh (zdC htd),if_pos (And.intro hc.1 hc.2.1),yx hc.2.2]
        exact hv
      | _=>cases h
     ·cases h
   | str =>
     rw [htd] at h
     cases x with
     | str s =>
       simp only [R] at hx
       subst hx
       simp only at h
       split at h
       ·rename_i hc
        split at h
        ·rename_i bb hb
         cases h
         refine ⟨.int .u8 bb.toNat,?_,WW⟩
         unfold Instr.index
         simp only [asIntOf,ze,zo,zh (XF htd),if_pos hc,hb]
        ·cases h
       ·cases h
     | _=>cases h
   | _=>rw [htd] at h;cases h
 | _=>cases h
def VQ (x:PV) (n:Nat):Option PV:=match x with
 | .tuple vs=>vs[n]?
 | _=>none
theorem zen {P g w x n a v} (hx:R g w x a) (h:VQ x n=some v):∃ val,(Instr.extract a n).run P w=.ok val w∧R g w v val:=by
 unfold VQ at h
 cases x with
 | tuple vs =>
   simp only [R] at hx
   obtain ⟨arr,rfl,h2⟩:=hx
   obtain ⟨u,hu,hru⟩:=Vd h2 _ _ h
   refine ⟨u,?_,hru⟩
   unfold Instr.extract
   rw [Array.getElem?_toList] at hu
   simp only [hu,zo]
 | _=>cases h
theorem Zf {P:Program} {w:World} {kk:IntKind} {i:Int} {y:Nat} {c:BoundsCode} (h0:0≤i) (h1:i≤y):(Instr.sliceBound (.int kk i) y c).run P w=.ok i.toNat w:=by
 unfold Instr.sliceBound
 simp only [asIntOf,ze,zo,if_pos (And.intro h0 h1)]
def ug:Option PV→Option (Option Int)
 | none=>some none
 | some (.int _ i)=>some (some i)
 | _=>none
def zgf (g:G) (w:World):Option PV→Option Value→Prop
 | none,v=>v=none
 | some q,v=>∃ x,v=some x∧R g w q x
def zcl:Option Int→Option Value→Prop
 | none,v=>v=none
 | some n,v=>∃ k,v=some (.int k n)
theorem Ug {g w} {p:Option PV} {v:Option Value} {i:Option Int} (h:ug p=some i) (hv:zgf g w p v):zcl i v:=by
 unfold ug at h
 split at h
 ·cases h;exact hv
 ·cases h
  obtain ⟨x,rfl,hx⟩:=hv
  simp only [R] at hx
  exact ⟨_,by rw [hx]⟩
 ·cases h
theorem vE {P:Program} {w:World} {isSlice:Bool} {len cap:Nat} {lo hi mx:Option Value} {l h:Int} {lo' hi' mx':Option Int}
  (h1:zcl lo' lo) (h2:zcl hi' hi) (h3:zcl mx' mx) (hl:l=lo'.getD 0) (hh:h=hi'.getD len) (a1:0≤l) (a2:l≤h) (a3:h≤len) (a4:len≤cap)
  (hm:∀ m,mx'=some m→m=h∧hi'≠none) :
  (Instr.sliceBounds isSlice len cap lo hi mx).run P w=.ok (l.toNat,h.toNat,(mx'.getD cap).toNat) w:=by
 unfold Instr.sliceBounds
 cases mx' with
 | none =>
   simp only [zcl] at h3
   subst h3
   simp only [ze,zo]
   cases hi' with
   | none =>
     simp only [zcl] at h2
     subst h2
     simp only [Option.getD_none] at hh
     subst hh
     simp only [ze,zo]
     cases lo' with
     | none=>simp only [zcl] at h1;subst h1;subst hl;simp [ze,zo]
     | some n=>obtain ⟨k,rfl⟩:=h1;subst hl;simp only [Option.getD_some] at *;simp only [ze,Zf a1 a2,zo];simp
   | some m =>
     obtain ⟨k,rfl⟩:=h2
     simp only [Option.getD_some] at hh
     subst hh
     have b2:(Instr.sliceBound (.int k h) cap (if isSlice=true then .sliceAcap else .sliceAlen)).run P w=.ok h.toNat w:=Zf Y2 Y2
     simp only [ze,b2]
     cases lo' with
     | none=>simp only [zcl] at h1;subst h1;subst hl;simp [ze,zo]
     | some n=>obtain ⟨k,rfl⟩:=h1;simp only [Option.getD_some] at hl;subst hl;simp only [ze,Zf a1 (show l≤(h.toNat:Int) from Y2),zo];simp
 | some m =>
   obtain ⟨k,rfl⟩:=h3
   obtain ⟨rfl,hne⟩:=hm m rfl
   have b3:(Instr.sliceBound (.int k m) cap (if isSlice=true then .slice3Acap else .slice3Alen)).run P w=.ok m.toNat w:=Zf Y2 Y2
   simp only [ze,b3]
   cases hi' with
   | none=>exact absurd rfl hne
   | some n =>
     obtain ⟨k2,rfl⟩:=h2
     simp only [Option.getD_some] at hh
     subst hh
     simp only [ze,Zf (show (0:Int)≤m from Y2) (show m≤(m.toNat:Int) from Y2)]
     cases lo' with
     | none=>simp only [zcl] at h1;subst h1;subst hl;simp [ze,zo]
     | some n=>obtain ⟨k,rfl⟩:=h1;simp only [Option.getD_some] at hl;subst hl;simp only [ze,Zf a1 (show l≤(m.toNat:Int) from Y2),zo];simp
def Wu (n:Nat) (els:List PV):Prop:=∀ el∈els,el.ok=true∧el.cells.length=n
instance (n:Nat) (els:List PV):Decidable (Wu n els):=by unfold Wu;exact inferInstance
def Yb (P:Program) (t:TypeId) (x:PV) (lo hi mx:Option PV) (s:St):Option PV :=
 match ug lo,ug hi,ug mx with
 | some lo',some hi',some mx' =>
   match td P t,x with
   | .str,.str b =>
     if mx'=none∧0≤lo'.getD 0∧lo'.getD 0≤hi'.getD b.size∧hi'.getD b.size≤b.size then some (.str (b.extract (lo'.getD 0).toNat (hi'.getD b.size).toNat)) else none
   | .sl e,.sl k els =>
     if 0<P.cellsOf e∧0≤lo'.getD 0∧lo'.getD 0≤hi'.getD els.length∧hi'.getD els.length≤els.length∧(lo'.getD 0=0∨Wu (P.cellsOf e) els) then match mx' with
      | none=>some (.sl (match k with | .nil=>.nil | .clip=>if hi'.getD els.length=els.length then .clip else .any | .any=>.any | .tok t z=>if lo'.getD 0=0∧hi'.getD els.length=els.length then .tok t z else .any | .unk | .unc=>.unk)
         ((els.drop (lo'.getD 0).toNat).take (hi'.getD els.length-lo'.getD 0).toNat))
      | some m=>if hi'=some m then some (.sl (match k with | .nil=>.nil | .unk | .unc=>.unc | _=>.clip) ((els.drop (lo'.getD 0).toNat).take (m-lo'.getD 0).toNat)) else none
     else none
   | .sl e,.own id off len =>
     if 0<P.cellsOf e∧0≤lo'.getD 0∧lo'.getD 0≤hi'.getD len∧hi'.getD len≤len∧mx'=none then match s.blk id with
      | some (.row ty _)=>if P.cellsOf e=P.cellsOf ty then (if lo'.getD 0=0 then some (.own id off (hi'.getD len).toNat) else if lo'.getD 0=len then some (.sl .any []) else some (.own id (off+(lo'.getD 0).toNat) (hi'.getD len-lo'.getD 0).toNat)) else none
      | _=>none
     else none
   | _,_=>none
 | _,_,_=>none
theorem Wj (vs:List Value) (sz:Nat) (h:∀ v∈vs,v.cells.size=sz) (n:Nat):flat (vs.take n)=(flat vs).take (n*sz):=by
 induction vs generalizing n with
 | nil=>simp [flat]
 | cons v vs ih =>
   cases n with
   | zero=>simp [flat]
   | succ n =>
     have hv:=h v Y1
     have:flat (v::vs)=v.cells.toList++flat vs:=rfl
     rw [List.take_succ_cons,this]
     have h2:flat (v::vs.take n)=v.cells.toList++flat (vs.take n):=rfl
     rw [h2,ih (fun u hu=>h u (by simp [hu]))]
     have hlen:v.cells.toList.length=sz:=by rw [Array.length_toList];exact hv
     rw [Nat.succ_mul,Nat.add_comm,← hlen,List.take_length_add_append]
theorem Yp (vs:List Value) (sz:Nat) (h:∀ v∈vs,v.cells.size=sz) (n:Nat):flat (vs.drop n)=(flat vs).drop (n*sz):=by
 induction vs generalizing n with
 | nil=>simp [flat]
 | cons v vs ih =>
   cases n with
   | zero=>simp [flat]
   | succ n =>
     have hv:=h v Y1
     have:flat (v::vs)=v.cells.toList++flat vs:=rfl
     rw [List.drop_succ_cons,this,ih (fun u hu=>h u (by simp [hu]))]
     have hlen:v.cells.toList.length=sz:=by rw [Array.length_toList];exact hv
     rw [Nat.succ_mul,Nat.add_comm,← hlen,List.drop_length_add_append]
theorem zos {p:Prop} (h:p:=by rw [← Nat.add_mul];congr 1;omega):p:=h
theorem zf7 {g:G} {w:World} {k k':SK} {n:Nat} {vs:List Value} {b o cap sz l h cap':Nat} (hn:n=vs.length) (h3:0<sz) (h5:0<n→g.free b (o+n*sz)) (h6:zT w b o (flat vs))
  (h7:∀ v∈vs,v.cells.size=sz) (hl:l≤h) (hh:h≤n) (hcap:h-l≤cap') (hk:k'≠.nil) (hclip:k'=.clip→cap'=h-l) (htok:∀ t z,k'≠.tok t z) (hbk:k'.base=true) (b' o':Nat) (hb:l<h→b'=b∧o'=o+l*sz) :
  vg g w k' (h-l) ((vs.drop l).take (h-l)) (.slice (some ⟨b',o',none⟩) (h-l) cap'):=by
 have hvs:∀ v∈(vs.drop l).take (h-l),v.cells.size=sz:=fun v hv=>h7 v (List.mem_of_mem_drop (List.mem_of_mem_take hv))
 have main:∃ b o cap sz,(Value.slice (some ⟨b',o',none⟩) (h-l) cap')=.slice (some ⟨b,o,none⟩) (h-l) cap∧(h-l)≤cap∧0<sz∧(k'=.clip→cap=h-l)∧(0<h-l→g.free b (o+(h-l)*sz)) ∧
   zT w b o (flat ((vs.drop l).take (h-l)))∧(∀ v∈(vs.drop l).take (h-l),v.cells.size=sz) ∧
   ∀ t z,k'=.tok t z→sz=z∧t<g.nxt∧∀ b' L,g.toks t=some (b',L)→h-l≤L∧(h-l=L→b'=b∧g.lim b=some (o+L*sz)∧o+cap*sz≤yJ w b):=by
  refine ⟨b',o',cap',sz,rfl,hcap,h3,hclip,fun hp=>?_,?_,hvs,fun t z e=>absurd e (htok t z)⟩
  ·obtain ⟨rfl,rfl⟩:=hb Y2
   refine Ys (h5 Y2) ?_
   have:=Nat.mul_le_mul_right sz hh
   have e:l*sz+(h-l)*sz=h*sz:=zos
   omega
  ·by_cases hlt:l<h
   ·obtain ⟨rfl,rfl⟩:=hb hlt
    rw [Wj _ sz (fun v hv=>h7 v (List.mem_of_mem_drop hv)),Yp _ sz h7]
    exact uX (xQ h6 _) _
   ·have:h-l=0:=Y2
    rw [this]
    intro j hj
    simp [flat] at hj
 rw [yT hbk]
 cases k' with
 | nil=>exact absurd rfl hk
 | clip=>exact .inl main
 | any=>exact .inl main
 | tok t z=>exact absurd rfl (htok t z)
 | unk=>simp [SK.base] at hbk
 | unc=>simp [SK.base] at hbk
end Go.PM
namespace Go.PM
open Go
theorem uZ {g:G} {w:World} {k:SK} {els:List PV} {a:Value} (hx:R g w (.sl k els) a) (hk:k≠.nil) (hb:k.base=true):(∃ b o cap sz vs,a=.slice (some ⟨b,o,none⟩) els.length cap∧els.length≤cap∧0<sz∧(k=.clip→cap=els.length) ∧
  (0<els.length→g.free b (o+els.length*sz))∧zT w b o (flat vs)∧(∀ v∈vs,v.cells.size=sz) ∧
  (∀ t z,k=.tok t z→sz=z∧t<g.nxt∧∀ b' L,g.toks t=some (b',L)→els.length≤L∧(els.length=L→b'=b∧g.lim b=some (o+L*sz)∧o+cap*sz≤yJ w b))∧RA g w els vs)∨zep g k∧els=[]∧∃ x,a=.slice (some x) 0 0:=by
 simp only [R] at hx
 obtain ⟨vs,hr,hs⟩:=hx
 rw [yT hb] at hs
 rcases vO hs hk with ⟨b,o,cap,sz,h1,h2,h3,h4,h5,h6,h7,h8⟩ | ⟨h1,h2,h3⟩
 ·exact .inl ⟨b,o,cap,sz,vs,h1,h2,h3,h4,h5,h6,h7,h8,hr⟩
 ·exact .inr ⟨h1,List.length_eq_zero_iff.1 h2,h3⟩
theorem znM {p:Prop} (h:p:=by rename_i hh;subst hh;exact ⟨rfl,Y1⟩):p:=h
theorem uK {P g s w t x lo hi mx v a} {vlo vhi vmx:Option Value} (hbase:∀ k els,x=.sl k els→k.base=true) (h:Inv P g s w) (hx:R g w x a)
  (hlo:zgf g w lo vlo) (hhi:zgf g w hi vhi) (hmx:zgf g w mx vmx) (ha:Yb P t x lo hi mx s=some v) :
  ∃ val,(Instr.sliceAt t a vlo vhi vmx).run P w=.ok val w∧R g w v val:=by
 unfold Yb at ha
 cases e1:ug lo with
 | none=>rw [e1] at ha;simp at ha
 | some lo' =>
 cases e2:ug hi with
 | none=>rw [e1,e2] at ha;simp at ha
 | some hi' =>
 cases e3:ug mx with
 | none=>rw [e1,e2,e3] at ha;simp at ha
 | some mx' =>
 rw [e1,e2,e3] at ha
 simp only at ha
 have q1:=Ug e1 hlo
 have q2:=Ug e2 hhi
 have q3:=Ug e3 hmx
 split at ha
 ·
  rename_i b htd
  split at ha
  ·rename_i hc
   obtain ⟨rfl,c1,c2,c3⟩:=hc
   cases ha
   simp only [R] at hx
   subst hx
   have hu:=XF htd
   refine ⟨.string (b.extract (lo'.getD 0).toNat (hi'.getD b.size).toNat),?_,WW⟩
   unfold Instr.sliceAt
   simp only [ze,zh hu]
   unfold Instr.slice
   simp only [ze,zh hu]
   simp only [zcl] at q3
   subst q3
   simp only [Option.isSome_none,Bool.false_eq_true,if_false]
   have:=vE (P:=P) (w:=w) (isSlice:=false) (cap:=b.size) q1 q2 (mx':=none) rfl rfl rfl c1 c2 c3 (Nat.le_refl _) (fun m e=>zbE)
   simp only [ze,zo,this]
  ·cases ha
 ·
  rename_i e k els htd
  have hkb:=hbase k els rfl
  have hu:=xp htd
  split at ha
  ·rename_i hc
   obtain ⟨hpos,c1,c2,c3,c4⟩:=hc
   have hat:∀ ad len cap r,(Instr.sliceAt t (.slice ad len cap) vlo vhi vmx).run P w=r↔(Instr.slice t (.slice ad len cap) vlo vhi vmx).run P w=r:=by
    intro ad len cap r
    unfold Instr.sliceAt
    rw [ze,zh hu]
   cases hk:decide (k=.nil) with
   | true =>
     have hk:=of_decide_eq_true hk
     subst hk
     have hels:a=.slice none 0 0∧els=[]:=by
      exact ZO.1 hx
     obtain ⟨rfl,rfl⟩:=hels
     have hres:v=.sl .nil []:=by
      cases mx' with
      | none=>simp only at ha;cases ha;simp
      | some m =>
        simp only at ha
        split at ha
        ·cases ha;simp
        ·cases ha
     subst hres
     refine ⟨.slice none 0 0,?_,ZO.2 ⟨rfl,rfl⟩⟩
     rw [hat]
     unfold Instr.slice
     simp only [ze,zh hu,yx hpos]
     have hm:∀ m,mx'=some m→m=hi'.getD (([]:List PV).length:Nat)∧hi'≠none:=by
      intro m e
      subst e
      simp only at ha
      split at ha
      ·exact znM
      ·cases ha
     have hb:=vE (P:=P) (w:=w) (isSlice:=true) (len:=0) (cap:=0) q1 q2 q3 rfl rfl c1 c2 c3 (Nat.le_refl _) hm
     simp only [hb,zo]
     have z1:(hi'.getD ((0:Nat):Int)).toNat=0:=by simp at c3 ⊢;omega
     have z2:(lo'.getD 0).toNat=0:=by simp at c3 c2 ⊢;omega
     have z3:(mx'.getD ((0:Nat):Int)).toNat=0:=by
      cases mx' with
      | none=>simp
      | some m=>have:=(hm m rfl).1;simp at this z1 ⊢;omega
     simp only [z1,z2,z3]
     rfl
   | false =>
     have hk:=of_decide_eq_false hk
     rcases uZ hx hk hkb with hstrict | ⟨hko,rfl,adr,rfl⟩
     case inr =>
      have hm:∀ m,mx'=some m→m=hi'.getD (([]:List PV).length:Nat)∧hi'≠none:=by
       intro m e
       subst e
       simp only at ha
       split at ha
       ·exact znM
       ·cases ha
      have hb:=vE (P:=P) (w:=w) (isSlice:=true) (len:=0) (cap:=0) q1 q2 q3 rfl rfl c1 c2 c3 (Nat.le_refl _) hm
      have z1:(hi'.getD ((0:Nat):Int)).toNat=0:=by simp at c3 ⊢;omega
      have z2:(lo'.getD 0).toNat=0:=by simp at c3 c2 ⊢;omega
      have z3:(mx'.getD ((0:Nat):Int)).toNat=0:=by
       cases mx' with
       | none=>simp
       | some m=>have:=(hm m rfl).1;simp at this z1 ⊢;omega
      have run:(Instr.sliceAt t (.slice (some adr) 0 0) vlo vhi vmx).run P w=.ok (.slice (some adr) 0 0) w:=by
       rw [hat]
       unfold Instr.slice
       simp only [ze,zh hu,yx hpos,hb,zo,z1,z2,z3]
       rfl
      refine ⟨_,run,?_⟩
      have key:∀ (k':SK) (els:List PV),zep g k'→els=[]→R g w (.sl k' els) (.slice (some adr) 0 0):=by
       rintro k' els hk' rfl
       simp only [R,RA]
       refine ⟨[],rfl,?_⟩
       have hk2:=hk'
       rcases hk2 with rfl | rfl | ⟨t,z,rfl,_⟩<;>rw [yT rfl]<;>exact .inr ⟨hk',rfl,adr,rfl⟩
      cases mx' with
      | none =>
        simp only at ha
        cases ha
        refine key _ _ ?_ Y1
        rcases hko with rfl | rfl | ⟨t,z,rfl,hlt⟩
        ·exact .inl rfl
        ·simp only;split<;>first | exact .inl rfl | exact .inr (.inl rfl)
        ·simp only;split
         ·exact .inr (.inr ⟨t,z,rfl,hlt⟩)
         ·exact .inl rfl
      | some m =>
        simp only at ha
        split at ha
        ·cases ha
         refine key _ _ ?_ Y1
         rcases hko with rfl | rfl | ⟨t,z,rfl,hlt⟩<;>exact .inr (.inl rfl)
        ·cases ha
     obtain ⟨b,o,cap,sz,vs,hav,hcap,hsz,hclip,hfr,hce,hvs,htk,hra⟩:∃ b o cap sz vs,a=.slice (some ⟨b,o,none⟩) els.length cap∧els.length≤cap∧0<sz∧(k=.clip→cap=els.length) ∧
       (0<els.length→g.free b (o+els.length*sz))∧zT w b o (flat vs)∧(∀ v∈vs,v.cells.size=sz) ∧
       (∀ t z,k=.tok t z→sz=z∧t<g.nxt∧∀ b' L,g.toks t=some (b',L)→els.length≤L∧(els.length=L→b'=b∧g.lim b=some (o+L*sz)∧o+cap*sz≤yJ w b))∧RA g w els vs:=by
      exact hstrict
     subst hav
     have hm:∀ m,mx'=some m→m=hi'.getD (els.length:Nat)∧hi'≠none:=by
      intro m e
      subst e
      simp only at ha
      split at ha
      ·exact znM
      ·cases ha
     have hb:=vE (P:=P) (w:=w) (isSlice:=true) (len:=els.length) (cap:=cap) q1 q2 q3 rfl rfl c1 c2 c3 hcap hm
     have hn:=zV hra
     obtain ⟨l,hl⟩:∃ l:Nat,(lo'.getD 0).toNat=l:=⟨_,rfl⟩
     obtain ⟨hh,hhh⟩:∃ l:Nat,(hi'.getD (els.length:Nat)).toNat=l:=⟨_,rfl⟩
     have lh:l≤hh:=Y2
     have hle:hh≤els.length:=Y2
     have hsub:(hi'.getD (els.length:Nat)-lo'.getD 0).toNat=hh-l:=Y2
     have hszl:l≠0→l<hh→sz=P.cellsOf e:=by
      intro h0 h1
      rcases c4 with c4 | c4
      ·omega
      ·obtain ⟨el,hel⟩:∃ el,els[0]? =some el:=⟨els[0]'Y2,Y1⟩
       obtain ⟨u,hu',hru⟩:=Vd hra 0 el hel
       obtain ⟨k1,k2⟩:=c4 el (List.mem_of_getElem? hel)
       obtain ⟨_,_,c3⟩:=xS hru k1
       have:=hvs u (List.mem_of_getElem? hu')
       omega
     have run:(Instr.sliceAt t (.slice (some ⟨b,o,none⟩) els.length cap) vlo vhi vmx).run P w=.ok (.slice (if (mx'.getD (cap:Nat)).toNat=l then some ⟨b,o,none⟩ else some ⟨b,o+l*P.cellsOf e,none⟩) (hh-l) ((mx'.getD (cap:Nat)).toNat-l)) w:=by
      rw [hat]
      unfold Instr.slice
      simp only [ze,zh hu,yx hpos,hb,zo,hl,hhh,Option.map_some,vh]
     refine ⟨_,run,?_⟩
     have hcapm:hh≤(mx'.getD (cap:Nat)).toNat∧(mx'.getD (cap:Nat)).toNat≤cap:=by
      cases mx' with
      | none=>simp;omega
      | some m=>have:=(hm m rfl).1;simp;omega
     obtain ⟨b',o',hadr,hbo⟩:∃ b' o',(if (mx'.getD (cap:Nat)).toNat=l then some ⟨b,o,none⟩ else some ⟨b,o+l*P.cellsOf e,none⟩)=some (⟨b',o',none⟩:Addr)∧(l<hh→b'=b∧o'=o+l*sz):=by
      split
      ·exact ⟨b,o,rfl,fun _=>Y2⟩
      ·refine ⟨b,o+l*P.cellsOf e,rfl,fun hlt=>⟨rfl,?_⟩⟩
       by_cases h0:l=0
       ·rw [h0];simp
       ·rw [hszl h0 hlt]
     rw [hadr]
     have key:∀ k':SK,k'.base=true→k'≠.nil→(k'=.clip→(mx'.getD (cap:Nat)).toNat-l=hh-l)→(∀ t z,k'≠.tok t z)→R g w (.sl k' ((els.drop l).take (hh-l))) (.slice (some ⟨b',o',none⟩) (hh-l) ((mx'.getD (cap:Nat)).toNat-l)):=by
      intro k' n0 n1 n2 n3
      simp only [R]
      refine ⟨(vs.drop l).take (hh-l),Zb _ (vz _ hra),?_⟩
      have:=zf7 (g:=g) (w:=w) (k:=k) (k':=k') (n:=els.length) (vs:=vs) (b:=b) (o:=o) (cap:=cap) (sz:=sz) (l:=l) (h:=hh) (cap':=(mx'.getD (cap:Nat)).toNat-l) hn hsz hfr hce hvs lh hle Y2 n1 n2 n3 n0 b' o' hbo
      have hlen:((els.drop l).take (hh-l)).length=hh-l:=Vb
      rw [hlen]
      exact this
     cases mx' with
     | none =>
       simp only at ha
       cases ha
       rw [hl,hsub]
       cases k with
       | nil=>exact absurd rfl hk
       | clip =>
         simp only
         split
         ·rename_i hfull
          refine key .clip rfl Y1 (fun _=>?_) Y1
          have:=hclip rfl
          simp only [Option.getD_none,Int.toNat_natCast]
          omega
         ·exact key .any rfl Y1 Y1 Y1
       | any=>exact key .any rfl Y1 Y1 Y1
       | tok t z =>
         simp only
         split
         ·rename_i hfull
          obtain ⟨f1,f2⟩:=hfull
          have l0:l=0:=Y2
          have hhe:hh=els.length:=Y2
          subst l0
          subst hhe
          have hadr':(⟨b',o',none⟩:Addr)=⟨b,o,none⟩:=by
           split at hadr
           ·exact (Option.some.inj hadr).symm
           ·have:=(Option.some.inj hadr).symm
            simpa using this
          rw [hadr']
          simp only [List.drop_zero,Nat.sub_zero,List.take_length,Option.getD_none,Int.toNat_natCast]
          exact hx
         ·exact key .any rfl Y1 Y1 Y1
       | unk=>simp [SK.base] at hkb
       | unc=>simp [SK.base] at hkb
     | some m =>
       simp only at ha
       split at ha
       ·rename_i hh'
        subst hh'
        cases ha
        simp only [Option.getD_some] at *
        rw [hl,hsub]
        have:R g w (.sl .clip ((els.drop l).take (hh-l))) (.slice (some ⟨b',o',none⟩) (hh-l) (m.toNat-l)):=by
         refine key .clip rfl Y1 (fun _=>?_) Y1
         omega
        cases k with
        | nil=>exact absurd rfl hk
        | clip=>exact this
        | any=>exact this
        | tok t z=>exact this
        | unk=>simp [SK.base] at hkb
        | unc=>simp [SK.base] at hkb
       ·cases ha
  ·cases ha
 ·
  rename_i e id off len htd
  have hu:=xp htd
  split at ha
  ·rename_i hc
   obtain ⟨hpos,c1,c2,c3,rfl⟩:=hc
   split at ha
   case h_2=>cases ha
   rename_i ty els hb
   split at ha
   case isFalse=>cases ha
   rename_i heq
   simp only [R] at hx
   obtain ⟨h0,b,sz,cap,hr,hcap,rfl,hcs⟩:=hx
   have hat:=h.at' id
   rw [hb] at hat
   obtain ⟨_,_,b',vs,hr',_⟩:=hat
   rw [hr] at hr';cases hr'
   have hbd:=vE (P:=P) (w:=w) (isSlice:=true) (len:=len) (cap:=cap) q1 q2 q3 rfl rfl c1 c2 c3 hcap (fun m e=>zbE)
   obtain ⟨l,hl⟩:∃ l:Nat,(lo'.getD 0).toNat=l:=⟨_,rfl⟩
   obtain ⟨hh,hhh⟩:∃ l:Nat,(hi'.getD (len:Nat)).toNat=l:=⟨_,rfl⟩
   have run:(Instr.sliceAt t (.slice (some ⟨b,off*P.cellsOf ty,none⟩) len cap) vlo vhi vmx).run P w=.ok (.slice (if cap=l then some ⟨b,off*P.cellsOf ty,none⟩ else some ⟨b,off*P.cellsOf ty+l*P.cellsOf e,none⟩) (hh-l) (cap-l)) w:=by
    unfold Instr.sliceAt
    rw [ze,zh hu]
    simp only
    unfold Instr.slice
    simp only [ze,zh hu,yx hpos,hbd,zo,hl,hhh,Option.map_some,vh,Option.getD_none,Int.toNat_natCast]
   refine ⟨_,run,?_⟩
   split at ha
   ·rename_i l0
    cases ha
    have:l=0:=Y2
    subst this
    simp only [R]
    refine ⟨h0,b,P.cellsOf ty,cap,hr,Y2,?_,hcs⟩
    rw [hhh]
    split<;>simp
   ·rename_i l0
    split at ha
    ·rename_i ll
     cases ha
     have:hh-l=0:=Y2
     rw [this]
     simp only [R,RA]
     refine ⟨[],rfl,?_⟩
     rw [yT rfl]
     simp only [yV,List.length_nil]
     by_cases hcl:cap=l
     ·rw [if_pos hcl]
      exact .inl ⟨b,_,_,1,rfl,Nat.zero_le _,Nat.one_pos,Y1,Y1,fun j hj=>by simp [flat] at hj,Y1,Y1⟩
     ·rw [if_neg hcl]
      exact .inl ⟨b,_,_,1,rfl,Nat.zero_le _,Nat.one_pos,Y1,Y1,fun j hj=>by simp [flat] at hj,Y1,Y1⟩
    ·rename_i ll
     cases ha
     rw [if_neg Y2]
     simp only [R]
     refine ⟨h0,b,P.cellsOf ty,cap-l,hr,Y2,?_,?_⟩
     ·rw [heq,Nat.add_mul,hl]
      congr 1
      omega
     ·rw [hl,show off+l+(cap-l)=off+cap from Y2]
      exact hcs
  ·cases ha
 ·cases ha
theorem zl7 {p:Prop} (h:p:=by intro k e h;cases h;rfl):p:=h
theorem zhC {P g s w t x lo hi mx v a} {vlo vhi vmx:Option Value} (h:Inv P g s w) (hx:R g w x a)
  (hlo:zgf g w lo vlo) (hhi:zgf g w hi vhi) (hmx:zgf g w mx vmx) (ha:Yb P t x lo hi mx s=some v) :
  ∃ val,(Instr.sliceAt t a vlo vhi vmx).run P w=.ok val w∧R g w v val:=by
 by_cases hbase:∀ k els,x=.sl k els→k.base=true
 ·exact uK hbase h hx hlo hhi hmx ha
 ·have hx':∃ els,x=.sl .unk els∨x=.sl .unc els:=by
   cases x with
   | sl k els=>cases k<;>first | exact ⟨els,.inl rfl⟩ | exact ⟨els,.inr rfl⟩ |(exact absurd (fun k' e' hh=>by cases hh;rfl) hbase)
   | _=>exact absurd (fun k' e' hh=>by cases hh) hbase
  have split:∀ {k1 k2:SK} {els:List PV},Yb P t (.sl k1 els) lo hi mx s=some v→(k1=.unk∨k1=.unc)→(k2=.nil∨k2=.any∨k2=.clip) →
    ∃ ys kr k',v=.sl kr ys∧Yb P t (.sl k2 els) lo hi mx s=some (.sl k' ys)∧((kr=.unk∧(k'=.nil∨k'=.any∨k'=.clip))∨(kr=.unc∧(k'=.nil∨k'=.clip))):=by
   intro k1 k2 els hs h1 h2
   unfold Yb at hs ⊢
   cases e1:ug lo with
   | none=>rw [e1] at hs;simp at hs
   | some lo' =>
   cases e2:ug hi with
   | none=>rw [e1,e2] at hs;simp at hs
   | some hi' =>
   cases e3:ug mx with
   | none=>rw [e1,e2,e3] at hs;simp at hs
   | some mx' =>
   rw [e1,e2,e3] at hs
   simp only at hs ⊢
   cases htd:td P t with
   | sl e =>
     rw [htd] at hs
     simp only at hs ⊢
     split at hs
     ·rename_i hc
      rw [if_pos hc]
      cases mx' with
      | none =>
        simp only at hs ⊢
        cases hs
        rcases h1 with rfl | rfl<;>rcases h2 with rfl | rfl | rfl<;>refine ⟨_,_,_,rfl,rfl,.inl ⟨rfl,?_⟩⟩<;>simp only [true_or,or_true]<;>(try split)<;>simp
      | some m =>
        simp only at hs ⊢
        split at hs
        ·rename_i hm
         cases hs
         rw [if_pos hm]
         rcases h1 with rfl | rfl<;>rcases h2 with rfl | rfl | rfl<;>refine ⟨_,_,_,rfl,rfl,.inr ⟨rfl,?_⟩⟩<;>simp
        ·cases hs
     ·cases hs
   | _=>rw [htd] at hs;cases hs
  have weak:∀ {kr k':SK} {ys:List PV} {val:Value},((kr=.unk∧(k'=.nil∨k'=.any∨k'=.clip))∨(kr=.unc∧(k'=.nil∨k'=.clip)))→R g w (.sl k' ys) val→R g w (.sl kr ys) val:=by
   intro kr k' ys val hk hr
   rcases hk with ⟨rfl,rfl | rfl | rfl⟩ | ⟨rfl,rfl | rfl⟩
   ·exact XE.2 (.inl hr)
   ·exact XE.2 (.inr hr)
   ·refine XE.2 (.inr ?_)
    simp only [R] at hr ⊢
    obtain ⟨vs,h1,h2⟩:=hr
    refine ⟨vs,h1,?_⟩
    rw [yT rfl] at h2 ⊢
    rcases vO h2 Y1 with ⟨b,o,cap,sz,k1,k2,k3,k4,k5,k6,k7,k8⟩ | ⟨_,k2,k3⟩
    ·exact .inl ⟨b,o,cap,sz,k1,k2,k3,(fun e=>zbE),k5,k6,k7,fun t z e=>zbE⟩
    ·exact .inr ⟨.inl rfl,k2,k3⟩
   ·exact zdw.2 (.inl hr)
   ·exact zdw.2 (.inr hr)
  obtain ⟨els,rfl | rfl⟩:=hx'
  ·rcases XE.1 hx with hx1 | hx1
   ·obtain ⟨ys,kr,k',rfl,e2,e3⟩:=split ha (.inl rfl) (.inl rfl)
    obtain ⟨val,r1,r2⟩:=uK zl7 h hx1 hlo hhi hmx e2
    exact ⟨val,r1,weak e3 r2⟩
   ·obtain ⟨ys,kr,k',rfl,e2,e3⟩:=split ha (.inl rfl) (.inr (.inl rfl))
    obtain ⟨val,r1,r2⟩:=uK zl7 h hx1 hlo hhi hmx e2
    exact ⟨val,r1,weak e3 r2⟩
  ·rcases zdw.1 hx with hx1 | hx1
   ·obtain ⟨ys,kr,k',rfl,e2,e3⟩:=split ha (.inr rfl) (.inl rfl)
    obtain ⟨val,r1,r2⟩:=uK zl7 h hx1 hlo hhi hmx e2
    exact ⟨val,r1,weak e3 r2⟩
   ·obtain ⟨ys,kr,k',rfl,e2,e3⟩:=split ha (.inr rfl) (.inr (.inr rfl))
    obtain ⟨val,r1,r2⟩:=uK zl7 h hx1 hlo hhi hmx e2
    exact ⟨val,r1,weak e3 r2⟩
end Go.PM
namespace Go.PM
open Go
def zR (op:BinOp) (k:IntKind) (a b:Int):Int :=
 let x:=BitVec.ofInt k.bits a
 let y:=BitVec.ofInt k.bits b
 k.wrap ((match op with | .and=>x &&& y | .or=>x ||| y | .xor=>x ^^^ y | _=>x &&& ~~~y).toNat)
def zlL (op:BinOp) (k:IntKind) (a:Int) (k':IntKind) (b:Int):Option PV :=
 match op with
 | .shl=>if 0≤b then some (.int k (k.wrap (a*2 ^ min b.toNat k.bits))) else none
 | .shr=>if 0≤b then some (.int k (a.fdiv (2 ^ min b.toNat k.bits))) else none
 | .add=>if k=k' then some (.int k (k.wrap (a+b))) else none
 | .sub=>if k=k' then some (.int k (k.wrap (a-b))) else none
 | .mul=>if k=k' then some (.int k (k.wrap (a*b))) else none
 | .quo=>if k=k'∧b≠0 then some (.int k (k.wrap (a.tdiv b))) else none
 | .rem=>if k=k'∧b≠0 then some (.int k (a.tmod b)) else none
 | .and | .or | .xor | .andNot=>if k=k' then some (.int k (zR op k a b)) else none
 | .eql=>if k=k' then some (.bool (decide (a=b))) else none
 | .neq=>if k=k' then some (.bool (!decide (a=b))) else none
 | .lss=>if k=k' then some (.bool (decide (a<b))) else none
 | .leq=>if k=k' then some (.bool (decide (a≤b))) else none
 | .gtr=>if k=k' then some (.bool (decide (b<a))) else none
 | .geq=>if k=k' then some (.bool (decide (b≤a))) else none
def pvV:PV→Value
 | .int k n=>.int k n
 | .bool b=>.bool b
 | .str s=>.string s
 | _=>undef
theorem zpI {p:Prop} (h:p:=by simp only [binOp,ne_eq,not_true_eq_false,if_false,Op.intDiv,if_neg hb,zo];rfl):p:=h
theorem zk9 {p:Prop} (h:p:=by simp only [R,pvV]):p:=h
theorem zpo {p:Prop} (h:p:=by simp only [binOp,Op.shift,if_neg (show ¬ b<0 from Y2),zo];rfl):p:=h
theorem zkx {P:Program} {w:World} {op k a k' b v t} (h:zlL op k a k' b=some v):(binOp op t (.int k a) (.int k' b)).run P w=.ok (pvV v) w∧∀ g,R g w v (pvV v):=by
 unfold zlL at h
 cases op<;>simp only at h<;>split at h<;>first |(cases h;done) | skip
 case quo.isTrue hc=>obtain ⟨rfl,hb⟩:=hc;cases h;exact ⟨zpI,fun g=>zk9⟩
 case rem.isTrue hc=>obtain ⟨rfl,hb⟩:=hc;cases h;exact ⟨zpI,fun g=>zk9⟩
 case shl.isTrue hc=>cases h;exact ⟨zpo,fun g=>zk9⟩
 case shr.isTrue hc=>cases h;exact ⟨zpo,fun g=>zk9⟩
 all_goals
  rename_i hc
  subst hc
  cases h
  exact ⟨by simp only [binOp,ne_eq,not_true_eq_false,if_false,Op.intArith,Op.intBits,Op.intCmp,zo];rfl,fun g=>zk9⟩
def zaD (P:Program) (t:TypeId) (x y:PV):Option Bool :=
 match td P t,x,y with
 | .bool,.bool a,.bool b=>some (a==b)
 | .ptr _,.nilp,.nilp=>some true
 | .ptr _,.ptr _ _ _,.nilp | .ptr _,.rptr _,.nilp | .ptr _,.nilp,.ptr _ _ _ | .ptr _,.nilp,.rptr _=>some false
 | .sl _,.sl k _,.sl .nil []=>if k.base then some (decide (k=.nil)) else none
 | .sl _,.own _ _ _,.sl .nil []=>some false
 | .map _ _,.map _,.nilm=>some false
 | .map _ _,.nilm,.nilm=>some true
 | .fn,.nilf,.nilf=>some true
 | .fn,.fn _ _ _,.nilf=>some false
 | _,_,_=>none
theorem YK {g w k els v} (h:R g w (.sl k els) v) (hb:k.base=true):∃ a n cap,v=.slice a n cap∧(a.isNone=decide (k=.nil)):=by
 cases hk:decide (k=.nil) with
 | true =>
   have:=of_decide_eq_true hk
   subst this
   exact ⟨none,0,0,(ZO.1 h).1,rfl⟩
 | false =>
   rcases uZ h (of_decide_eq_false hk) hb with ⟨b,o,cap,sz,vs,h1,_⟩ | ⟨_,_,x,h1⟩
   ·exact ⟨_,_,_,h1,rfl⟩
   ·exact ⟨_,_,_,h1,rfl⟩
theorem zne {P:Program} {t} (h:td P t=.fn):∃ a b c,P.underlying t=some (.func a b c):=by
 unfold td at h;split at h<;>first |(cases h;done) | exact ⟨_,_,_,by assumption⟩
theorem ze6 {P:Program} {g w t x y a b r} (hx:R g w x a) (hy:R g w y b) (h:zaD P t x y=some r):(Op.equal t a b).run P w=.ok r w:=by
 unfold zaD at h
 unfold Op.equal Op.maxDepth
 split at h
 all_goals (first |(cases h;done) | skip)
 ·rename_i htd;simp only [R] at hx hy;subst hx;subst hy;cases h
  unfold Op.equalIn;simp only [ze,zh (zes htd),zo]
 ·rename_i htd;simp only [R] at hx hy;subst hx;subst hy;cases h
  unfold Op.equalIn;simp only [ze,zh (zbr htd),zo];rfl
 ·rename_i htd;simp only [R] at hx hy;obtain ⟨_,_,_,_,rfl⟩:=hx;subst hy;cases h
  unfold Op.equalIn;simp only [ze,zh (zbr htd),zo]
 ·rename_i htd;simp only [R] at hx hy;obtain ⟨_,_,_,rfl,_⟩:=hx;subst hy;cases h
  unfold Op.equalIn;simp only [ze,zh (zbr htd),zo]
 ·rename_i htd;simp only [R] at hx hy;obtain ⟨_,_,_,_,rfl⟩:=hy;subst hx;cases h
  unfold Op.equalIn;simp only [ze,zh (zbr htd),zo];rfl
 ·rename_i htd;simp only [R] at hx hy;obtain ⟨_,_,_,rfl,_⟩:=hy;subst hx;cases h
  unfold Op.equalIn;simp only [ze,zh (zbr htd),zo];rfl
 ·rename_i htd
  split at h
  case isFalse=>cases h
  rename_i hkb
  cases h
  obtain ⟨ad,n,cap,rfl,hn⟩:=YK hx hkb
  obtain ⟨ad',n',cap',rfl,hn'⟩:=YK hy rfl
  have:ad'=none:=by simpa using hn'
  subst this
  rw [← hn]
  unfold Op.equalIn;simp only [ze,zh (xp htd)]
  cases ad<;>simp only [zo]<;>rfl
 ·rename_i htd;cases h
  obtain ⟨ad',n',cap',rfl,hn'⟩:=YK hy rfl
  have:ad'=none:=by simpa using hn'
  subst this
  simp only [R] at hx;obtain ⟨_,_,_,_,_,_,rfl,_⟩:=hx
  unfold Op.equalIn;simp only [ze,zh (xp htd),zo]
 ·rename_i htd;simp only [R] at hx hy;obtain ⟨_,_,_,_,rfl⟩:=hx;subst hy;cases h
  unfold Op.equalIn;simp only [ze,zh (Xs htd),zo]
 ·rename_i htd;simp only [R] at hx hy;subst hx;subst hy;cases h
  unfold Op.equalIn;simp only [ze,zh (Xs htd),zo];rfl
 ·rename_i htd;simp only [R] at hx hy;subst hx;subst hy;cases h
  obtain ⟨_,_,_,hu⟩:=zne htd
  unfold Op.equalIn;simp only [ze,zh hu,zo]
 ·rename_i htd;simp only [R] at hx hy;obtain ⟨_,_,rfl,_⟩:=hx;subst hy;cases h
  obtain ⟨_,_,_,hu⟩:=zne htd
  unfold Op.equalIn;simp only [ze,zh hu,zo]
def yC (P:Program) (t:TypeId):Option (List TD) :=
 match P.underlying t with
 | some (.struct fs)=>if (fs.toList.zipIdx.all fun (f,i)=>f.offset==i&&f.name != "_")&& !P.stoodInHeld t&& !P.eqGuardType P.depth t then some (fs.toList.map fun f=>td P f.type) else none
 | _=>none
def xG:List TD→List PV→List PV→Option Bool
 | [],[],[]=>some true
 | .int _::ts,.int k a::xs,.int k' b::ys=>if k=k' then match xG ts xs ys with
    | some r=>some (decide (a=b)&&r)
    | none=>none
   else none
 | .bool::ts,.bool a::xs,.bool b::ys=>match xG ts xs ys with
    | some r=>some ((a==b)&&r)
    | none=>none
 | .str::ts,.str a::xs,.str b::ys=>match xG ts xs ys with
    | some r=>some ((a.toList==b.toList)&&r)
    | none=>none
 | _,_,_=>none
def Wr (P:Program) (t:TypeId) (xs ys:List PV):Option Bool :=
 match yC P t with
 | some ts=>xG ts xs ys
 | none=>none
theorem VR {P:Program} {g w} {xs ys:Array Value} (d:Nat):∀ (fs:List Field) (i:Nat) (ps qs:List PV) (us vs:List Value) (r:Bool),
  (fs.zipIdx i).all (fun (f,i)=>f.offset==i&&f.name != "_")=true →
  RA g w ps us→RA g w qs vs→(∀ j,us[j]? =xs[i+j]?)→(∀ j,vs[j]? =ys[i+j]?)→xG (fs.map fun f=>td P f.type) ps qs=some r→(Op.eqFields (d+1) xs ys fs).run P w=.ok r w
 | [],i,ps,qs,us,vs,r,_,h1,h2,_,_,he=>by
   cases ps with
   | nil=>cases qs with
     | nil=>simp [xG] at he;subst he;rfl
     | cons q qs=>simp [xG] at he
   | cons p ps=>simp [xG] at he
 | f::fs,i,ps,qs,us,vs,r,hall,h1,h2,hx,hy,he=>by
   simp only [List.map_cons] at he
   simp only [List.zipIdx_cons,List.all_cons,Bool.and_eq_true,beq_iff_eq,bne_iff_ne] at hall
   obtain ⟨⟨ho,hname⟩,hall⟩:=hall
   cases ps with
   | nil=>cases htd:td P f.type<;>rw [htd] at he<;>simp [xG] at he
   | cons p ps =>
   cases qs with
   | nil=>cases htd:td P f.type<;>rw [htd] at he<;>cases p<;>simp [xG] at he
   | cons q qs =>
   simp only [RA] at h1 h2
   obtain ⟨u,us',rfl,hu,h1⟩:=h1
   obtain ⟨v,vs',rfl,hv,h2⟩:=h2
   have hx0:xs[f.offset]? =some u:=by have:=hx 0;rw [ho];simpa using this.symm
   have hy0:ys[f.offset]? =some v:=by have:=hy 0;rw [ho];simpa using this.symm
   have ih:=fun r' he'=>VR (P:=P) (g:=g) (w:=w) (xs:=xs) (ys:=ys) d fs (i+1) ps qs us' vs' r' hall h1 h2
    (fun j=>by have:=hx (j+1);rw [show i+1+j=i+(j+1) from Y2];simpa using this) (fun j=>by have:=hy (j+1);rw [show i+1+j=i+(j+1) from Y2];simpa using this) he'
   have fin:∀ (dd:TypeDesc) (b r':Bool),P.underlying f.type=some dd→(match dd with | .struct _ | .array _ _=>false | _=>true)=true→(Op.equalIn (d+1) f.type u v).run P w=.ok b w →
     xG (fs.map fun f=>td P f.type) ps qs=some r'→r=(b&&r')→(Op.eqFields (d+1) xs ys (f::fs)).run P w=.ok r w:=by
    intro dd b r' hdd hna h3 h4 h5
    have hpart:∀ (a:Array Value) (z:Value),a[f.offset]? =some z→(part f.type a f.offset).run P w=.ok z w:=fun a z hz=>by
     unfold part isAgg
     simp only [ze,zh hdd]
     cases dd<;>first |(cases hna;done) |(simp only [ze,zo,Bool.false_eq_true,if_false,hz])
    unfold Op.eqFields
    rw [if_pos hname]
    simp only [ze,hpart xs u hx0,hpart ys v hy0,h3]
    cases b with
    | false=>subst h5;rfl
    | true=>rw [h5];simp only [Bool.not_true,Bool.false_eq_true,if_false,Bool.true_and];exact ih r' h4
   cases htd:td P f.type<;>rw [htd] at he<;>cases p<;>cases q<;>simp only [xG] at he<;>first |(cases he;done) | skip
   ·split at he
    ·rename_i hk
     subst hk
     split at he
     ·rename_i r' hr'
      cases he
      simp only [R] at hu hv
      subst hu;subst hv
      exact fin _ _ r' (zaO htd) rfl (run_equalIn_int w d f.type _ _ _ _ (zaO htd)) hr' rfl
     ·cases he
    ·cases he
   ·split at he
    ·rename_i r' hr'
     cases he
     simp only [R] at hu hv
     subst hu;subst hv
     exact fin _ _ r' (zes htd) rfl (run_equalIn_bool' w d f.type _ _ (zes htd)) hr' rfl
    ·cases he
   ·split at he
    ·rename_i r' hr'
     cases he
     simp only [R] at hu hv
     subst hu;subst hv
     exact fin _ _ r' (XF htd) rfl (run_equalIn_string w d f.type _ _ (XF htd)) hr' rfl
    ·cases he
theorem zct {P:Program} {g w t xs ys a b r} (hx:R g w (.agg xs) a) (hy:R g w (.agg ys) b) (h:Wr P t xs ys=some r) (xo yo:Operand) (op:BinOp) :
  (Op.equalIn 10000 t a b).run P w=.ok r w∧(eqGuard op t xo yo a b).run P w=.ok () w∧(∃ u v,a=.agg u∧b=.agg v):=by
 unfold Wr at h
 cases hf:yC P t with
 | none=>rw [hf] at h;cases h
 | some ts =>
   rw [hf] at h
   simp only at h
   unfold yC at hf
   split at hf
   case h_2=>cases hf
   rename_i fs hu
   split at hf
   case isFalse=>cases hf
   rename_i hc
   simp only [Bool.and_eq_true,Bool.not_eq_true'] at hc
   cases hf
   simp only [R] at hx hy
   obtain ⟨u,rfl,_,hxr⟩:=hx
   obtain ⟨v,rfl,_,hyr⟩:=hy
   have hfo:P.fieldsOf t=fs:=by unfold Program.fieldsOf;rw [hu]
   refine ⟨?_,run_eqGuard_agg w op t xo yo u v hc.2,u,v,rfl,rfl⟩
   rw [run_equalIn_struct w 9999 t u v (by rw [hfo];exact hu) hc.1.2,hfo]
   exact VR (g:=g) 9998 fs.toList 0 xs ys u.toList v.toList r hc.1.1 hxr hyr (fun j=>Y1) (fun j=>Y1) h
def zmG (P:Program) (op:BinOp) (t:TypeId) (x y:PV):Option PV :=
 match x,y with
 | .int k a,.int k' b=>zlL op k a k' b
 | .str a,.str b=>match op with
   | .eql=>some (.bool (a.toList==b.toList))
   | .neq=>some (.bool (!(a.toList==b.toList)))
   | .add=>if a.size+b.size≤9223372036854775807 then some (.str (a++b)) else none
   | _=>none
 | .agg xs,.agg ys=>match Wr P t xs ys with
   | some r=>match op with
     | .eql=>some (.bool r)
     | .neq=>some (.bool (!r))
     | _=>none
   | none=>none
 | x,y=>match op with
   | .eql=>(zaD P t x y).map .bool
   | .neq=>(zaD P t x y).map fun b=>.bool (!b)
   | _=>none
theorem ZU {P:Program} {w:World} {op t x y a b} (h:op≠.eql∧op≠.neq∨(∀ u v,a=.agg u→b=.agg v→False)∧(a=.nilIface→b=.nilIface→False)):(eqGuard op t x y a b).run P w=.ok () w:=by
 by_cases hop:op=.eql∨op=.neq
 ·have h:(∀ u v,a=.agg u→b=.agg v→False)∧(a=.nilIface→b=.nilIface→False):=by
   rcases h with h | h
   ·rcases hop with e | e
    ·exact absurd e h.1
    ·exact absurd e h.2
   ·exact h
  obtain ⟨h1,h2⟩:=h
  rcases hop with rfl | rfl
  all_goals
   unfold eqGuard
   simp only [Bool.not_true,Bool.false_eq_true,if_false]
   clear h
   cases a<;>cases b<;>first | rfl | exact (h2 rfl rfl).elim | exact (h1 _ _ rfl rfl).elim
 ·unfold eqGuard
  cases op<;>first | rfl |(exact absurd (Or.inl rfl) hop) |(exact absurd (Or.inr rfl) hop)
theorem zcI {P:Program} {g w t x y a b r} (hx:R g w x a) (hy:R g w y b) (h:zaD P t x y=some r):(∀ u v,a=.agg u→b=.agg v→False)∧(a=.nilIface→b=.nilIface→False):=by
 unfold zaD at h
 split at h
 all_goals (first |(cases h;done) | skip)
 all_goals
  refine ⟨?_,?_⟩
  ·rintro u v rfl rfl
   first
   |(simp only [R] at hx;simp at hx;done)
   |(obtain ⟨_,_,e⟩:=zdM hx;cases e)
   |(simp only [R] at hy;simp at hy;done)
  ·rintro rfl rfl
   first
   |(simp only [R] at hx;simp at hx;done)
   |(obtain ⟨_,_,e⟩:=zdM hx;cases e)
   |(simp only [R] at hy;simp at hy;done)
end Go.PM
namespace Go.PM
open Go
theorem zaI {P:Program} {g w t x y a b r} (hx:R g w x a) (hy:R g w y b) (h:zaD P t x y=some r) :
  (∀ k n,a≠.int k n)∧(∀ s,a≠.string s)∧(∀ u v,a≠.float u v)∧(∀ u v z,a≠.complex u v z):=by
 unfold zaD at h
 split at h
 all_goals (first |(cases h;done) | skip)
 all_goals
  first
  |(simp only [R] at hx;subst hx;simp;done)
  |(obtain ⟨_,_,rfl⟩:=zdM hx;simp;done)
  |(simp only [R] at hx;obtain ⟨_,_,_,_,rfl⟩:=hx;simp;done)
  |(simp only [R] at hx;obtain ⟨_,_,_,rfl,_⟩:=hx;simp;done)
  |(simp only [R] at hx;obtain ⟨_,_,rfl,_⟩:=hx;simp;done)
  |(simp only [R] at hx;obtain ⟨_,_,_,_,_,_,rfl,_⟩:=hx;simp;done)
theorem zc8 {P:Program} {w:World} {t a b r} (he:(Op.equal t a b).run P w=.ok r w)
  (ha:(∀ k n,a≠.int k n)∧(∀ s,a≠.string s)∧(∀ u v,a≠.float u v)∧(∀ u v z,a≠.complex u v z)) :
  (binOp .eql t a b).run P w=.ok (.bool r) w∧(binOp .neq t a b).run P w=.ok (.bool (!r)) w:=by
 obtain ⟨h1,h2,h3,h4⟩:=ha
 have e1:binOp .eql t a b=(do pure (.bool (← Op.equal t a b))):=by
  cases a<;>first | exact absurd rfl (h1 _ _) | exact absurd rfl (h2 _) | exact absurd rfl (h3 _ _) | exact absurd rfl (h4 _ _ _) | rfl
 have e2:binOp .neq t a b=(do pure (.bool (!(← Op.equal t a b)))):=by
  cases a<;>first | exact absurd rfl (h1 _ _) | exact absurd rfl (h2 _) | exact absurd rfl (h3 _ _) | exact absurd rfl (h4 _ _ _) | rfl
 rw [e1,e2]
 simp only [ze,he,zo,and_self]
theorem Uh {p:Prop} (h:p:=by simp only [R];rfl):p:=h
theorem zlk {P:Program} {g w op t x y a b v xo yo} (hx:R g w x a) (hy:R g w y b) (h:zmG P op t x y=some v) :
  ∃ val,(do eqGuard op t xo yo a b;binOp op t a b).run P w=.ok val w∧R g w v val:=by
 unfold zmG at h
 split at h
 ·simp only [R] at hx hy
  subst hx;subst hy
  obtain ⟨h1,h2⟩:=zkx (P:=P) (w:=w) (t:=t) h
  refine ⟨_,?_,h2 g⟩
  rw [ze,ZU (.inr ⟨fun _ _ e=>by (cases e),fun e=>by (cases e)⟩)]
  exact h1
 ·rename_i sa sb
  simp only [R] at hx hy
  subst hx;subst hy
  have hg:=ZU (P:=P) (w:=w) (op:=op) (t:=t) (x:=xo) (y:=yo) (a:=.string sa) (b:=.string sb) (.inr ⟨fun _ _ e=>by (cases e),fun e=>by (cases e)⟩)
  split at h
  ·cases h;exact ⟨_,by rw [ze,hg];rfl,WW⟩
  ·cases h;exact ⟨_,by rw [ze,hg];rfl,WW⟩
  ·split at h
   ·rename_i hc
    cases h
    refine ⟨_,?_,Uh⟩
    rw [ze,hg]
    have:¬ (((sa.size+sb.size:Nat):Int)>IntKind.i64.max):=by
     show ¬ (_>(2 ^ (64-1)-1:Int))
     omega
    simp only [binOp,Op.stringOp]
    rw [if_neg this]
    rfl
   ·cases h
  ·cases h
 ·split at h
  case h_2=>cases h
  rename_i r hr
  obtain ⟨h1,h2,u,v,rfl,rfl⟩:=zct hx hy hr xo yo op
  split at h
  ·cases h
   refine ⟨.bool r,?_,WW⟩
   rw [ze,h2]
   simp only [run_eql_struct,h1]
   rfl
  ·cases h
   refine ⟨.bool (!r),?_,WW⟩
   rw [ze,h2]
   simp only [run_neq_struct,h1]
   rfl
  ·cases h
 ·split at h
  ·cases he:zaD P t x y with
   | none=>rw [he] at h;cases h
   | some r =>
     rw [he] at h;cases h
     have h1:=ze6 hx hy he
     have h2:=zcI hx hy he
     refine ⟨.bool r,?_,WW⟩
     rw [ze,ZU (.inr h2)]
     exact (zc8 h1 (zaI hx hy he)).1
  ·cases he:zaD P t x y with
   | none=>rw [he] at h;cases h
   | some r =>
     rw [he] at h;cases h
     have h1:=ze6 hx hy he
     have h2:=zcI hx hy he
     refine ⟨.bool (!r),?_,WW⟩
     rw [ze,ZU (.inr h2)]
     exact (zc8 h1 (zaI hx hy he)).2
  ·cases h
def aUn (op:UnOp) (x:PV):Option PV :=
 match op,x with
 | .not,.bool b=>some (.bool (!b))
 | .neg,.int k n=>some (.int k (k.wrap (0-n)))
 | .xor,.int k n=>some (.int k (zR .xor k (if k.signed then -1 else k.max) n))
 | _,_=>none
theorem zl4 {P:Program} {g w op x a v} (hx:R g w x a) (h:aUn op x=some v):∃ val,(Op.unary op a).run P w=.ok val w∧R g w v val:=by
 unfold aUn at h
 split at h
 ·cases h;simp only [R] at hx;subst hx;exact ⟨_,rfl,WW⟩
 ·cases h;simp only [R] at hx;subst hx;exact ⟨_,rfl,WW⟩
 ·cases h;simp only [R] at hx;subst hx;exact ⟨_,rfl,by simp only [R,zR]⟩
 ·cases h
def byteOf:PV→Option UInt8
 | .int .u8 n=>some (UInt8.ofNat n.toNat)
 | _=>none
def zie (P:Program) (src dst:TypeId) (x:PV):Option PV :=
 match td P src,td P dst,x with
 | .int _,.int k,.int _ n=>some (.int k (k.wrap n))
 | .str,.str,.str s=>some (.str s)
 | .sl e,.str,.sl _ els=>match td P e,els.mapM byteOf with
   | .int .u8,some bs=>some (.str ⟨bs.toArray⟩)
   | _,_=>none
 | _,_,_=>none
theorem zga {g w}:∀ {els:List PV} {vs:List Value} {bs:List UInt8},RA g w els vs→els.mapM byteOf=some bs →
  ∃ ns:List Int,vs=ns.map (Value.int .u8)∧bs=ns.map (fun n=>UInt8.ofNat n.toNat)∧flat vs=vs
 | [],vs,bs,h,hb=>by simp [RA] at h;subst h;simp at hb;subst hb;exact ⟨[],rfl,rfl,rfl⟩
 | p::ps,vs,bs,h,hb=>by
   simp only [RA] at h
   obtain ⟨v,r,rfl,hv,hr⟩:=h
   simp only [List.mapM_cons] at hb
   cases hbo:byteOf p with
   | none=>rw [hbo] at hb;simp at hb
   | some b =>
     rw [hbo] at hb
     cases hm:ps.mapM byteOf with
     | none=>rw [hm] at hb;simp at hb
     | some bs' =>
       rw [hm] at hb
       simp at hb
       subst hb
       obtain ⟨ns,rfl,rfl,e2⟩:=zga hr hm
       unfold byteOf at hbo
       split at hbo
       ·rename_i n
        cases hbo
        simp only [R] at hv
        subst hv
        refine ⟨n::ns,rfl,rfl,?_⟩
        have:flat (Value.int .u8 n::ns.map (Value.int .u8))=[Value.int .u8 n]++flat (ns.map (Value.int .u8)):=rfl
        rw [this,e2];rfl
       ·cases hbo
theorem zdr:∀ (ns:List Int) (s:ByteArray),ns.foldl (fun r n=>r.push (UInt8.ofNat n.toNat)) s=⟨s.data++(ns.map fun n=>UInt8.ofNat n.toNat).toArray⟩
 | [],s=>Y1
 | n::ns,s=>by
   rw [List.foldl_cons,zdr ns]
   simp [ByteArray.push]
theorem zj4 {P:Program} {g w src dst x a v} (hx:R g w x a) (h:zie P src dst x=some v):∃ val,(convert src dst a).run P w=.ok val w∧R g w v val:=by
 unfold zie at h
 split at h
 ·rename_i h1 h2
  cases h
  simp only [R] at hx
  subst hx
  refine ⟨_,?_,Uh⟩
  unfold convert
  simp only [ze,zh (zaO h1),zh (zaO h2)]
  rfl
 ·rename_i h1 h2
  cases h
  simp only [R] at hx
  subst hx
  refine ⟨_,?_,Uh⟩
  unfold convert
  simp only [ze,zh (XF h1),zh (XF h2)]
  rfl
 ·rename_i e k els h1 h2
  split at h
  case h_2=>cases h
  rename_i bs he hb
  cases h
  have conv:∀ ad n cap,(convert src dst (.slice ad n cap)).run P w=(Conv.bytesToString (.slice ad n cap)).run P w:=by
   intro ad n cap
   unfold convert
   simp only [ze,zh (xp h1),zh (XF h2)]
   cases ad<;>simp only [ze,zh (zaO he)]
  obtain ⟨k',hkb,hx,_⟩:=VL hx
  cases hk:decide (k'=.nil) with
  | true =>
    have:=of_decide_eq_true hk
    subst this
    obtain ⟨rfl,rfl⟩:=ZO.1 hx
    simp at hb
    subst hb
    refine ⟨.string .empty,?_,Uh⟩
    rw [conv];rfl
  | false =>
    rcases uZ hx (of_decide_eq_false hk) hkb with ⟨b,o,cap,sz,vs,rfl,a1,a2,a3,a4,a5,a6,a7,a8⟩ | ⟨_,rfl,x,rfl⟩
    case inr =>
     simp at hb
     subst hb
     refine ⟨.string .empty,?_,Uh⟩
     rw [conv];rfl
    obtain ⟨ns,rfl,rfl,e2⟩:=zga a8 hb
    rw [e2] at a5
    have:=run_bytesToString (P:=P) w ⟨b,o,none⟩ els.length cap ns (Yg P w b o _ els.length (zV a8) a5)
    refine ⟨_,by rw [conv];exact this,?_⟩
    simp only [R]
    rw [zdr]
    simp
 ·cases h
end Go.PM
namespace Go.PM
open Go
def xh (P:Program) (t:TypeId):Option (List (Nat × Nat)):=match P.underlying t with
 | some (.struct fs)=>fs.toList.mapM (fun f=>(P.info? f.type).map fun i=>(f.offset,i.size))
 | _=>none
def Vq (place:Nat→Option (Nat × Nat)) (cells:List PV):List (Nat × PV)→Option (List PV)
 | []=>some cells
 |(i,v)::rest=>match place i with
  | none=>none
  | some (off,size)=>if v.ok=true∧v.cells.length=size∧off+size≤cells.length then Vq place (spl cells off v.cells) rest else none
def zdP (P:Program) (t:TypeId) (parts:List (Nat × PV)):Option PV :=
 match zpv P t with
 | some (.agg zs)=>match td P t with
   | .struct _=>match xh P t with
     | some pl=>(Vq (pl[·]?) zs parts).map .agg
     | none=>none
   | .arr _ e=>if 0<P.cellsOf e then (Vq (fun i=>some (i*P.cellsOf e,P.cellsOf e)) zs parts).map .agg else none
   | _=>none
 | _=>none
theorem zbH (off:Nat):∀ (xs:List Value) (cs:Array Value) (i:Nat),off+i+xs.length≤cs.size →
  ((xs.zipIdx i).foldl (fun cs (c,j)=>cs.setIfInBounds (off+j) c) cs).toList=ZF cs.toList (off+i) xs
 | [],cs,i,h=>by simp [ZF]
 | x::xs,cs,i,h=>by
   simp only [List.length_cons] at h
   rw [List.zipIdx_cons,List.foldl_cons,zbH off xs _ (i+1) Vb]
   simp only [ZF,Array.toList_setIfInBounds]
   apply List.ext_getElem?
   intro j
   simp only [List.getElem?_append,List.getElem?_take,List.getElem?_drop,List.getElem?_set,List.length_take,List.length_set,Array.length_toList,List.length_cons]
   by_cases h1:j<off+i
   ·have e1:j<off+(i+1):=Y2
    have e2:j<min (off+(i+1)) cs.size:=Y2
    have e3:j<min (off+i) cs.size:=Y2
    have e4:¬ (off+i=j):=Y2
    simp [h1,e1,e2,e3,e4]
   ·by_cases h2:j=off+i
    ·subst h2
     have e1:off+i<off+(i+1):=Y2
     have e2:off+i<min (off+(i+1)) cs.size:=Y2
     have e3:¬ (off+i<min (off+i) cs.size):=Y2
     have e5:off+i<cs.size:=Y2
     have e6:off+i-min (off+i) cs.size=0:=Y2
     simp [e1,e2,e3,e5]
     rw [e6];simp
    ·have e2:¬ (j<min (off+(i+1)) cs.size):=Y2
     have e3:¬ (j<min (off+i) cs.size):=Y2
     rw [if_neg e2,if_neg e3]
     have m1:min (off+(i+1)) cs.size=off+i+1:=Y2
     have m2:min (off+i) cs.size=off+i:=Y2
     rw [m1,m2]
     by_cases h3:j-(off+i+1)<xs.length
     ·rw [if_pos h3,if_pos Y2]
      rw [show j-(off+i)=(j-(off+i+1))+1 from Y2,List.getElem?_cons_succ]
     ·rw [if_neg h3,if_neg Y2,if_neg Y2]
      congr 1
      omega
theorem zfF (off:Nat) (xs:Array Value) (cs:Array Value) (h:off+xs.size≤cs.size) :
  (xs.zipIdx.foldl (fun cs (c,j)=>cs.setIfInBounds (off+j) c) cs).toList=ZF cs.toList off xs.toList:=by
 have:=zbH off xs.toList cs 0 (by rw [Array.length_toList];omega)
 rw [Nat.add_zero] at this
 rw [← this,← Array.foldl_toList]
 simp
theorem zbI {g w} {place:Nat→Option (Nat × Nat)}:∀ (parts:List (Nat × PV)) (vals:List (Nat × Value)) (zs:List PV) (cells:Array Value) (out:List PV),
  parts.map (·.1)=vals.map (·.1)→RA g w (parts.map (·.2)) (vals.map (·.2))→RA g w zs cells.toList→(∀ x∈cells.toList,x.flat=true)→Vq place zs parts=some out →
  ∃ a:Array Value,Instr.fill place cells vals=some a∧RA g w out a.toList∧(∀ x∈a.toList,x.flat=true)
 | [],vals,zs,cells,out,h1,h2,h3,h4,h5=>by
   cases vals with
   | nil=>simp [Vq] at h5;subst h5;exact ⟨cells,rfl,h3,h4⟩
   | cons x xs=>simp at h1
 |(i,v)::parts,vals,zs,cells,out,h1,h2,h3,h4,h5=>by
  cases vals with
  | nil=>simp at h1
  | cons x vals =>
    obtain ⟨i',u⟩:=x
    simp only [List.map_cons,List.cons.injEq] at h1
    obtain ⟨rfl,h1⟩:=h1
    simp only [List.map_cons,RA] at h2
    obtain ⟨u',r,e,hu,h2⟩:=h2
    cases e
    unfold Vq at h5
    cases hp:place i with
    | none=>rw [hp] at h5;cases h5
    | some os =>
      obtain ⟨off,size⟩:=os
      rw [hp] at h5
      simp only at h5
      split at h5
      ·rename_i hc
       obtain ⟨c1,c2,c3⟩:=hc
       obtain ⟨d1,d2,d3⟩:=xS hu c1
       have hl:=zV h3
       have hl':zs.length=cells.size:=by rw [hl,Array.length_toList]
       unfold Instr.fill
       simp only [hp]
       have hcond:¬ ((u.cells.size≠size||decide (off+u.cells.size>cells.size))=true):=by
        simp;omega
       rw [if_neg hcond]
       have hfold:=zfF off u.cells cells Y2
       refine zbI parts vals _ _ out h1 h2 ?_ ?_ h5
       ·rw [hfold,zlD Y2]
        exact zh2 h3 d1
       ·rw [hfold]
        intro y hy
        simp only [ZF,List.mem_append] at hy
        rcases hy with hy | hy | hy
        ·exact h4 y (List.mem_of_mem_take hy)
        ·exact d2 y hy
        ·exact h4 y (List.mem_of_mem_drop hy)
      ·cases h5
theorem zhs {P:Program} {g w t v} {parts:List (Nat × PV)} {vals:Array (Nat × Value)} (h1:parts.map (·.1)=vals.toList.map (·.1)) (h2:RA g w (parts.map (·.2)) (vals.toList.map (·.2)))
  (h:zdP P t parts=some v):∃ val,(Instr.build t vals).run P w=.ok val w∧R g w v val:=by
 unfold zdP at h
 split at h
 case h_2=>cases h
 rename_i zs hz
 obtain ⟨z,hzr,hzp,hzf,hzs,hpos,hzt,_⟩:=yZ (P:=P) (w:=w) hz
 have hza:∃ cells:Array Value,z=.agg cells∧zs=cells.toList.map vw:=by
  unfold zb6 at hzp
  split at hzp
  ·rename_i cs;cases hzp;exact ⟨cs,rfl,rfl⟩
  ·exfalso
   unfold vw at hzp
   split at hzp<;>cases hzp
 obtain ⟨cells,rfl,rfl⟩:=hza
 have hflat:∀ x∈cells.toList,x.flat=true:=by simpa only [VA,List.all_eq_true] using hzf
 have hzra:RA g w (cells.toList.map vw) cells.toList:=XT g w _
 have hinfo:∃ it,P.info? t=some it∧it.zero=some (.agg cells):=by
  unfold zeroValue at hzr
  cases hi:P.info? t with
  | none=>unfold Program.cellsOf at hpos;rw [hi] at hpos;simp at hpos
  | some it =>
    rw [ze,xU hi] at hzr
    simp only at hzr
    cases hz':it.zero with
    | none=>rw [hz'] at hzr;simp [unsupported,Sem.run] at hzr
    | some z'=>rw [hz'] at hzr;simp [zo] at hzr;subst hzr;exact ⟨it,rfl,hz'⟩
 obtain ⟨it,hi,hiz⟩:=hinfo
 split at h
 ·
  rename_i fs htd
  obtain ⟨fields,hu,_⟩:=Wi htd
  cases hsp:xh P t with
  | none=>rw [hsp] at h;cases h
  | some pl =>
    rw [hsp] at h
    simp only at h
    cases hfl:Vq (fun x=>pl[x]?) (cells.toList.map vw) parts with
    | none=>rw [hfl] at h;cases h
    | some out =>
      rw [hfl] at h
      cases h
      obtain ⟨a,ha,hr,hf⟩:=zbI (g:=g) (w:=w) parts vals.toList _ cells out h1 h2 hzra hflat hfl
      refine ⟨.agg a,run_build w t vals a ?_,by simp only [R];exact ⟨a,rfl,hf,hr⟩⟩
      unfold xh at hsp
      rw [hu] at hsp
      unfold Program.built
      simp only [hi,hu,hiz,hsp]
      simpa [Value.cells] using ha
 ·rename_i n e htd
  have hu:=zdC htd
  split at h
  ·rename_i hpe
   cases hfl:Vq (fun i=>some (i*P.cellsOf e,P.cellsOf e)) (cells.toList.map vw) parts with
   | none=>rw [hfl] at h;cases h
   | some out =>
     rw [hfl] at h
     cases h
     obtain ⟨a,ha,hr,hf⟩:=zbI (g:=g) (w:=w) parts vals.toList _ cells out h1 h2 hzra hflat hfl
     obtain ⟨ie,hie,hsz⟩:=vA hpe
     refine ⟨.agg a,run_build w t vals a ?_,by simp only [R];exact ⟨a,rfl,hf,hr⟩⟩
     unfold Program.built
     simp only [hi,hu,hiz,hie]
     rw [hsz]
     exact ha
  ·cases h
 ·cases h
def zik (c x y:PV):Option PV :=
 match c with
 | .bool c=>match x,y with
   | .bool a,.bool b=>some (.bool (bif c then a else b))
   | .bool a,.gd _ g (.bool b)=>if (c||g)=true then some (.bool (bif c then a else b)) else none
   | .gd _ g (.bool a),.bool b=>if (!c||g)=true then some (.bool (bif c then a else b)) else none
   | x,y=>some (bif c then x else y)
 | _=>none
theorem zlP {g w c x y v} {vc va vb:Value} (hc:R g w c vc) (hx:R g w x va) (hy:R g w y vb) (h:zik c x y=some v) :
  ∃ b,vc=.bool b∧R g w v (if b then va else vb):=by
 unfold zik at h
 cases c with
 | bool c =>
   simp only [R] at hc
   subst hc
   refine ⟨c,rfl,?_⟩
   simp only at h
   split at h
   ·cases h
    cases c
    ·simpa using hy
    ·simpa using hx
   ·split at h
    ·rename_i hg
     cases h
     cases c
     ·simp only [R] at hy
      simp only [Bool.false_or] at hg
      simpa [R] using hy.1 hg
     ·simpa using hx
    ·cases h
   ·split at h
    ·rename_i hg
     cases h
     cases c
     ·simpa using hy
     ·simp only [R] at hx
      simp only [Bool.not_true,Bool.false_or] at hg
      simpa [R] using hx.1 hg
    ·cases h
   ·cases h
    cases c
    ·simpa using hy
    ·simpa using hx
 | _=>cases h
def zhm (P:Program) (t:TypeId) (x:PV) (s:St):Option PV :=
 match td P t,x with
 | .str,.str b=>some (.int .i64 b.size)
 | .sl _,.sl _ els=>some (.int .i64 els.length)
 | .sl _,.own _ _ len=>some (.int .i64 len)
 | .arr n _,_=>some (.int .i64 n)
 | .map _ _,.nilm=>some (.int .i64 0)
 | .map _ _,.map id=>match s.blk id with
   | some (.map es)=>some (.int .i64 es.length)
   | _=>none
 | _,_=>none
theorem zkz {P:Program} {g s w t ty x a v} (h:Inv P g s w) (hx:R g w x a) (ha:zhm P t x s=some v):∃ val,(Builtin.len_ #[t] ty #[a]).run P w=.ok val w∧R g w v val:=by
 unfold zhm at ha
 split at ha
 ·rename_i htd;cases ha;simp only [R] at hx;subst hx
  refine ⟨_,?_,Uh⟩
  simp only [Builtin.len_,List.getElem?_toArray,List.getElem?_cons_zero,ze,zh (XF htd),zo,goInt]
 ·rename_i htd;cases ha
  obtain ⟨ad,cap,rfl⟩:=zdM hx
  refine ⟨_,?_,Uh⟩
  simp only [Builtin.len_,List.getElem?_toArray,List.getElem?_cons_zero,ze,zh (xp htd),zo,goInt]
 ·rename_i htd;cases ha
  simp only [R] at hx;obtain ⟨_,_,_,_,_,_,rfl,_⟩:=hx
  refine ⟨_,?_,Uh⟩
  simp only [Builtin.len_,List.getElem?_toArray,List.getElem?_cons_zero,ze,zh (xp htd),zo,goInt]
 ·rename_i htd;cases ha
  refine ⟨_,?_,Uh⟩
  simp only [Builtin.len_,List.getElem?_toArray,List.getElem?_cons_zero,ze,zh (zdC htd),zo,goInt]
 ·rename_i htd;cases ha;simp only [R] at hx;subst hx
  refine ⟨_,?_,Uh⟩
  simp only [Builtin.len_,List.getElem?_toArray,List.getElem?_cons_zero,ze,zh (Xs htd),zo,goInt]
 ·rename_i id htd
  split at ha
  ·rename_i es hb
   cases ha
   simp only [R] at hx;obtain ⟨_,b,sz,hr,rfl⟩:=hx
   have hat:=h.at' id
   rw [hb] at hat
   obtain ⟨_,_,b',hr',me,cl,hh,hk,hv⟩:=hat
   rw [hr] at hr';cases hr'
   refine ⟨_,?_,Uh⟩
   have hl:=zV hk
   simp only [List.length_map] at hl
   simp only [Builtin.len_,List.getElem?_toArray,List.getElem?_cons_zero,ze,zh (Xs htd),goInt,getObj,Sem.run,hh,zo]
   simp [hl]
  ·cases ha
 ·cases ha
def zmw:List PV→Option PV
 | [.int k a,.int k' b]=>if k=k' then some (.int k (if b<a then b else a)) else none
 | _=>none
def zm0:List PV→Option PV
 | [.int k a,.int k' b]=>if k=k' then some (.int k (if a<b then b else a)) else none
 | _=>none
theorem zk5 {P:Program} {g w ts ty v} {xs:List PV} {as:Array Value} (hx:RA g w xs as.toList) (ha:zmw xs=some v):∃ val,(Builtin.min_ ts ty as).run P w=.ok val w∧R g w v val:=by
 unfold zmw at ha
 split at ha
 ·split at ha
  ·rename_i hk
   subst hk
   cases ha
   simp only [RA,R] at hx
   obtain ⟨_,_,e,rfl,_,_,rfl,rfl,rfl⟩:=hx
   refine ⟨_,?_,Uh⟩
   unfold Builtin.min_
   rw [e]
   rfl
  ·cases ha
 ·cases ha
theorem zkG {P:Program} {g w ts ty v} {xs:List PV} {as:Array Value} (hx:RA g w xs as.toList) (ha:zm0 xs=some v):∃ val,(Builtin.max_ ts ty as).run P w=.ok val w∧R g w v val:=by
 unfold zm0 at ha
 split at ha
 ·split at ha
  ·rename_i hk
   subst hk
   cases ha
   simp only [RA,R] at hx
   obtain ⟨_,_,e,rfl,_,_,rfl,rfl,rfl⟩:=hx
   refine ⟨_,?_,Uh⟩
   unfold Builtin.max_
   rw [e]
   rfl
  ·cases ha
 ·cases ha
def YL (P:Program) (t:TypeId) (x:PV):Option PV :=
 match td P t with
 | .iface | .other=>none
 | _=>if x.ok then some (.iface t x) else none
theorem Vk {P:Program} {t} (h:td P t≠.iface) (h':td P t≠.other):∃ d,P.underlying t=some d∧∀ m,d≠.interface m:=by
 have key:∀ x,td P t=x→x≠.iface→x≠.other→∃ d,P.underlying t=some d∧∀ m,d≠.interface m:=by
  intro x hx h1 h2
  unfold td at hx
  split at hx<;>first | exact absurd hx.symm h1 | exact absurd hx.symm h2 | exact ⟨_,by assumption,fun m e=>zbE⟩
 exact key _ rfl h h'
theorem zbv {P:Program} {g w t x a v} (hx:R g w x a) (ha:YL P t x=some v):∃ val,(Instr.makeInterface t a).run P w=.ok val w∧R g w v val:=by
 unfold YL at ha
 split at ha
 ·cases ha
 ·cases ha
 ·rename_i h1 h2
  split at ha
  ·cases ha
   obtain ⟨d,hd,hn⟩:=Vk h1 h2
   refine ⟨.iface t a,?_,by simp only [R];exact ⟨a,rfl,hx⟩⟩
   unfold Instr.makeInterface
   rw [ze,zh hd]
   cases d<;>first | rfl | exact absurd rfl (hn _)
  ·cases ha
def ZN (P:Program) (x:PV) (asserted:TypeId) (ok:Bool):Option PV :=
 match x,td P asserted with
 | .iface _ _,.iface | .iface _ _,.other=>none
 | .iface t p,_=>if t=asserted then some (if ok then .tuple [p,.bool true] else p) else none
 | _,_=>none
theorem zam {P:Program} {g w x xt asserted ok a v} (hx:R g w x a) (ha:ZN P x asserted ok=some v):∃ val,(Instr.typeAssert a xt asserted ok).run P w=.ok val w∧R g w v val:=by
 unfold ZN at ha
 split at ha
 ·cases ha
 ·cases ha
 ·rename_i t p h1 h2
  split at ha
  ·rename_i ht
   subst ht
   cases ha
   simp only [R] at hx
   obtain ⟨y,rfl,hy⟩:=hx
   obtain ⟨d,hd,hn⟩:=Vk (P:=P) (t:=t) (by simpa using h1) (by simpa using h2)
   refine ⟨if ok then .tuple #[y,.bool true] else y,?_,?_⟩
   ·unfold Instr.typeAssert
    rw [ze,zh hd]
    cases d<;>first | exact absurd rfl (hn _) |(simp only [if_true];cases ok<;>rfl)
   ·cases ok
    ·exact hy
    ·simp only [if_true,R,RA]
     exact ⟨_,rfl,y,_,rfl,hy,_,_,rfl,rfl,rfl⟩
  ·cases ha
 ·cases ha
end Go.PM
namespace Go.PM
open Go
def Xn (k:IntKind) (n:Int):List (PV × PV)→Nat→Option (Option (Nat × PV))
 | [],_=>some none
 |(key,v)::es,i=>match key with
  | .int k' m=>if k=k' then (if n=m then some (some (i,v)) else Xn k n es (i+1)) else none
  | _=>none
theorem Xz {g w k n}:∀ {es:List (PV × PV)} {me:List MapEntry} {i:Nat} {r},RA g w (es.map (·.1)) (me.map (·.key))→RA g w (es.map (·.2)) (me.map (·.val))→Xn k n es i=some r →
  match r with
  | none=>Instr.findNow (.int k) (.int k n) me i=some none
  | some (j,p)=>∃ v,Instr.findNow (.int k) (.int k n) me i=some (some (j,v))∧R g w p v∧i≤j∧j<i+es.length
 | [],me,i,r,h1,h2,h=>by
   simp only [List.map_nil,RA,List.map_eq_nil_iff] at h1
   subst h1
   simp only [Xn,Option.some.injEq] at h
   subst h
   rfl
 |(key,p)::es,me,i,r,h1,h2,h=>by
  cases me with
  | nil=>simp [RA] at h1
  | cons e me =>
    simp only [List.map_cons,RA,List.cons.injEq] at h1 h2
    obtain ⟨kv,kr,⟨rfl,rfl⟩,hk,h1⟩:=h1
    obtain ⟨vv,vr,⟨rfl,rfl⟩,hv,h2⟩:=h2
    unfold Xn at h
    cases key with
    | int k' m =>
      simp only [R] at hk
      simp only at h
      split at h
      case isFalse=>cases h
      rename_i hkk
      subst hkk
      unfold Instr.findNow
      rw [hk]
      simp only [Instr.sameNow,if_true]
      by_cases hnm:n=m
      ·rw [if_pos hnm] at h
       cases h
       subst hnm
       simp only [beq_self_eq_true]
       exact ⟨e.val,rfl,hv,Nat.le_refl _,Y1⟩
      ·rw [if_neg hnm] at h
       have hb:(n==m)=false:=by simpa using hnm
       simp only [hb]
       have:=Xz h1 h2 h
       cases r with
       | none=>exact this
       | some x =>
         obtain ⟨j,q⟩:=x
         obtain ⟨v,a1,a2,a3,a4⟩:=this
         exact ⟨v,a1,a2,Y2,Vb⟩
    | _=>cases h
theorem Vl {P:Program} {w:World} {t k b n} (v:Value) (hv:v=.int k n) (hu:P.underlying t=some (.int k)):(Instr.checkKey b 10000 t v).run P w=.ok () w:=by
 subst hv
 rw [show (10000:Nat)=9999+1 from rfl]
 unfold Instr.checkKey
 rw [ze,zh hu]
 rfl
def Vw (P:Program) (t:TypeId) (m key:PV) (ok:Bool) (s:St):Option PV :=
 match td P t with
 | .map kt et=>match td P kt,key,zpv P et with
   | .int k,.int k' n,some z=>if k=k' then
      match (match m with
       | .nilm=>some []
       | .map id=>match s.blk id with
         | some (.map es)=>some es
         | _=>none
       | _=>none) with
      | some es=>match Xn k n es 0 with
        | some (some (_,v))=>some (if ok then .tuple [v,.bool true] else v)
        | some none=>some (if ok then .tuple [z,.bool false] else z)
        | none=>none
      | none=>none
     else none
   | _,_,_=>none
 | _=>none
theorem zd2 {P g s w id es v} (h:Inv P g s w) (hb:s.blk id=some (.map es)) (hr:R g w (.map id) v):∃ b,v=.map (some b)∧zni g w b es∧g.rows id=some (b,0)∧g.live id=true:=by
 simp only [R] at hr
 obtain ⟨_,b,sz,h1,rfl⟩:=hr
 have hat:=h.at' id
 rw [hb] at hat
 obtain ⟨_,hl,b',h2,h3⟩:=hat
 rw [h1] at h2
 cases h2
 exact ⟨b,rfl,h3,h1,hl⟩
theorem zdA {P:Program} {t k} (h:td P t=.int k):P.underlying t=some (.int k):=by
 unfold td at h;split at h<;>cases h;assumption
theorem zpm {p:Prop} (h:p:=by subst e;simp only [VA,List.all_eq_true] at z3;exact z3 x hx):p:=h
theorem zdI {P:Program} {g s w t m key ok v mv kv} (h:Inv P g s w) (hm:R g w m mv) (hk:R g w key kv) (ha:Vw P t m key ok s=some v) :
  ∃ val,(Instr.lookup t mv kv ok).run P w=.ok val w∧R g w v val:=by
 unfold Vw at ha
 split at ha
 case h_2=>cases ha
 rename_i kt et htd
 split at ha
 case h_2=>cases ha
 rename_i k k' n z hkt hz
 split at ha
 case isFalse=>cases ha
 rename_i hkk
 subst hkk
 simp only [R] at hk
 subst hk
 have hu:=Xs htd
 have hku:=zdA hkt
 obtain ⟨zv,z1,z2,z3,z4,z5,z6,z7⟩:=yZ (P:=P) (w:=w) hz
 have hzR:R g w z zv:=by
  rw [z2]
  exact YY g w zv fun cs e x hx=>zpm
 have main:∀ (es:List (PV × PV)) (me:List MapEntry),RA g w (es.map (·.1)) (me.map (·.key))→RA g w (es.map (·.2)) (me.map (·.val)) →
   (match Xn k n es 0 with
     | some (some (_,v))=>some (if ok then .tuple [v,.bool true] else v)
     | some none=>some (if ok then .tuple [z,.bool false] else z)
     | none=>none)=some v →
   ∃ val,(do
    Instr.checkKey me.toArray.isEmpty 10000 kt (.int k n)
    let (v,okk) ← match ← Instr.findKey kt (.int k n) me.toArray.toList with
     | some (_,v)=>pure (v,true)
     | none=>pure (← zeroValue et,false)
    pure (if ok then .tuple #[v,.bool okk] else v):Sem Value).run P w=.ok val w∧R g w v val:=by
  intro es me h1 h2 hx
  cases hf:Xn k n es 0 with
  | none=>rw [hf] at hx;cases hx
  | some r =>
    rw [hf] at hx
    have hr:=Xz h1 h2 hf
    rw [ze,Vl _ rfl hku]
    simp only
    unfold Instr.findKey
    simp only [ze,zh hku]
    cases r with
    | none =>
      simp only at hr hx
      rw [hr]
      simp only [zo,ze,z1]
      cases ok with
      | true=>simp only [if_true] at hx ⊢;cases hx;exact ⟨_,rfl,by simp only [R];exact ⟨_,rfl,by simp only [RA];exact ⟨_,_,rfl,hzR,_,_,rfl,WW,rfl⟩⟩⟩
      | false=>simp only [Bool.false_eq_true,if_false] at hx ⊢;cases hx;exact ⟨_,rfl,hzR⟩
    | some x =>
      obtain ⟨j,p⟩:=x
      simp only at hr hx
      obtain ⟨v',a1,a2,_⟩:=hr
      rw [a1]
      simp only [zo]
      cases ok with
      | true=>simp only [if_true] at hx ⊢;cases hx;exact ⟨_,rfl,by simp only [R];exact ⟨_,rfl,by simp only [RA];exact ⟨_,_,rfl,a2,_,_,rfl,WW,rfl⟩⟩⟩
      | false=>simp only [Bool.false_eq_true,if_false] at hx ⊢;cases hx;exact ⟨_,rfl,a2⟩
 unfold Instr.lookup
 rw [ze,zh hu]
 simp only
 cases m with
 | nilm =>
   simp only [R] at hm
   subst hm
   simp only at ha
   rw [ze]
   exact main [] [] rfl rfl ha
 | map id =>
   simp only at ha
   cases hb:s.blk id with
   | none=>rw [hb] at ha;cases ha
   | some B =>
     cases B with
     | map es =>
       rw [hb] at ha
       simp only at ha
       obtain ⟨b,rfl,⟨me,clock,hh,h1,h2⟩,_,_⟩:=zd2 h hb hm
       have hg:(getObj b).run P w=.ok (.map me.toArray clock) w:=by
        unfold getObj
        simp only [Sem.run,hh]
       obtain ⟨val,hval,hR⟩:=main es me h1 h2 ha
       refine ⟨val,?_,hR⟩
       rw [ze,hg]
       exact hval
     | _=>rw [hb] at ha;cases ha
 | _=>cases ha
def World.setB (w:World) (b:Nat) (o:Obj):World:={ w with heap:=w.heap.setIfInBounds b o }
theorem zcX (w:World) (b:Nat) (o:Obj) (k:Nat):(World.setB w b o).heap[k]? =if k=b then (if b<w.heap.size then some o else none) else w.heap[k]? :=by
 show (w.heap.setIfInBounds b o)[k]? =_
 rw [Array.getElem?_setIfInBounds]
 by_cases h:b=k
 ·subst h;simp
 ·rw [if_neg h,if_neg (Ne.symm h)]
theorem zeV {P g s w} (h:Inv P g s w) :
  ∃ g',Inv P g' (s.new (.map [])) (World.newB w (.map #[] 0))∧Ext g w g' (World.newB w (.map #[] 0))∧R g' (World.newB w (.map #[] 0)) (.map s.nxt) (.map (some w.heap.size)):=by
 let g':G:={ nxt:=g.nxt+1,rows:=upd g.rows s.nxt (some (w.heap.size,0)),live:=zls g.live s.nxt true,toks:=g.toks,lim:=g.lim }
 have e:Ext g w g' (World.newB w (.map #[] 0)):=by
  refine Xx h _ g' (Nat.le_succ _) (fun id hid=>yD _ _ ?_) (wi (fun _ _=>rfl) (fun _ _ _ _=>rfl)) (fun b hb hk=>?_) (fun _ _=>rfl)
  ·have:=h.nxt;omega
  ·exact zpf
 have hn:=h.rows_none (Nat.le_refl s.nxt)
 refine ⟨g',?_,e,by simp only [R];exact ⟨by show s.nxt<g.nxt+1;rw [h.nxt];omega,w.heap.size,0,yh _ _ _,rfl⟩⟩
 refine Inv.step s.nxt h e zkI ?_ ?_ ?_ ?_ ?_ ?_ ?_ ?_ ?_ (fun _ _ _ _ _ _=>rfl) (fun b m _ e=>by rw [show g'.rows s.nxt=some (w.heap.size,0) from yh _ _ _] at e;cases e;exact (h.newfree (Nat.le_refl _)).2)
 ·exact Y57
 ·exact zpe
 ·exact zod
 ·exact zoV
 ·exact zke
 ·simp only [St.new,if_true,At]
  exact ⟨hn.2,zdY _ _ _,w.heap.size,yh _ _ _,[],0,XP _ _,rfl,rfl⟩
 ·intro b m j n _ hx hj lj hjr
  have:g'.rows s.nxt=some (w.heap.size,0):=yh _ _ _
  rw [this] at hx
  cases hx
  have:=h.rowlt lj hjr
  omega
 ·exact zoe
 ·exact zn1
theorem Xy {P g s w id es es' b me' clock'} (h:Inv P g s w) (hb:s.blk id=some (.map es)) (hr:g.rows id=some (b,0)) (hk:RA g w (es'.map (·.1)) ((me':List MapEntry).map (·.key))) (hv:RA g w (es'.map (·.2)) (me'.map (·.val))) :
  Inv P g (s.set id (some (.map es'))) (World.setB w b (.map me'.toArray clock'))∧Ext g w g (World.setB w b (.map me'.toArray clock')):=by
 have hat:=h.at' id
 rw [hb] at hat
 obtain ⟨h1,hlv,b',h2,me,clock,hh,_,_⟩:=hat
 rw [hr] at h2;cases h2
 have hbl:b<w.heap.size:=(Array.getElem?_eq_some_iff.1 hh).1
 have hrow:g.isRow b:=⟨id,_,hr,hlv⟩
 have ho:∀ k,k≠b→(World.setB w b (.map me'.toArray clock')).heap[k]? =w.heap[k]? :=fun k hk=>by rw [zcX,if_neg hk]
 have hn:(World.setB w b (.map me'.toArray clock')).heap[b]? =some (.map me'.toArray clock'):=by rw [zcX,if_pos rfl,if_pos hbl]
 have e:Ext g w g (World.setB w b (.map me'.toArray clock')) :=
  { os:=rfl,tape:=rfl,output:=rfl
    size:=by show _≤(w.heap.setIfInBounds _ _).size;simp
    nxt:=Nat.le_refl _
    rd:=fun b' o' v hf hcell=>by
     have:b'≠b:=fun e=>hf.1 (e ▸ hrow)
     rw [uc (ho b' this)];exact hcell
    free:=fun _ _ _ hf=>hf
    same:=fun b' hb' hnr _=>ho b' (fun e=>hnr (e ▸ hrow))
    rows:=fun _ _ _ h=>h
    csz:=fun b' _=>by
     by_cases hbb:b'=b
     ·subst hbb
      unfold yJ World.shape?
      rw [hn,hh]
     ·exact ZX (ho b' hbb)
    toks:=wi (fun _ _=>rfl) (fun _ _ _ _=>rfl) }
 refine ⟨?_,e⟩
 refine Inv.step id h e h.nxt ?_ (fun j hj=>⟨if_neg hj,rfl,rfl,rfl⟩) ?_ ?_ ?_ ?_ ?_ ?_ ?_ (fun _ _ _ _ _ _=>rfl) (fun b' m l e=>h.rlim id b' m l e)
 ·exact zo4
 ·intro j b' n hj lj hjr
  refine ho b' (fun e=>hj ?_)
  subst e
  exact h.inj j id b' n _ lj hlv hjr hr
 ·intro j b' n hj hjt
  exact ⟨rfl,(h.toklt hjt).2.1⟩
 ·intro b' hb'
  refine um (ho b' ?_) hb'
  rintro rfl
  obtain ⟨c,ty,lo,hi,hx,_⟩:=hb'
  rw [hh] at hx;cases hx
 ·simp only [St.set,if_true,At]
  exact ⟨h1,hlv,b,hr,me',clock',hn,yX e _ _ hk,yX e _ _ hv⟩
 ·exact zqf
 ·intro b' m j n hx
  rw [h1] at hx;cases hx
 ·intro b' e' hl
  have:=h.lim b' e' hl
  show b'<(w.heap.setIfInBounds _ _).size
  simpa using this
def ZT (P:Program) (t:TypeId) (m key v:PV) (s:St):Option St :=
 match td P t,m with
 | .map kt et,.map id=>match td P kt,key,s.blk id with
   | .int k,.int k' n,some (.map es)=>if k=k'∧v.ok=true then match Xn k n es 0 with
      | some (some (i,_))=>some (s.set id (some (.map (es.set i (.int k n,v)))))
      | some none=>some (s.set id (some (.map (es++[(.int k n,v)]))))
      | none=>none
     else none
   | _,_,_=>none
 | _,_=>none
theorem zej {P:Program} {w:World} {k n} (x:Value) (hx:x=.int k n):(Instr.keyThatStays x (.int k n)).run P w=.ok (.int k n) w:=by
 subst hx
 unfold Instr.keyThatStays
 have:Instr.sameBits 10000 (.int k n) (.int k n)=true:=by
  rw [show (10000:Nat)=9999+1 from rfl]
  unfold Instr.sameBits
  simp
 rw [this]
 rfl
theorem UQ {k n}:∀ {me:List MapEntry} {i j v},Instr.findNow (.int k) (.int k n) me i=some (some (j,v))→∃ e,me[j-i]? =some e∧i≤j∧∃ k',e.key=.int k' n
 | [],i,j,v,h=>by simp [Instr.findNow] at h
 | e::me,i,j,v,h=>by
   unfold Instr.findNow at h
   split at h
   ·rename_i hs
    cases h
    refine ⟨e,Y1,Nat.le_refl _,?_⟩
    unfold Instr.sameNow at hs
    split at hs
    ·rename_i h1 h2
     cases h1
     split at hs
     ·rename_i a b c heq
      cases heq
      simp at hs
      exact ⟨_,by rw [h2,hs]⟩
     ·cases hs
    ·rename_i h1 h2;cases h1
    ·rename_i h1 h2;cases h1
    ·cases hs
   ·obtain ⟨e',h1,h2,h3⟩:=UQ h
    refine ⟨e',?_,Y2,h3⟩
    rw [show j-i=(j-(i+1))+1 from Y2]
    simpa using h1
   ·cases h
theorem zoC {p:Prop} (h:p:=by rw [List.map_append,List.map_append];exact yN h1 (by simp only [List.map_cons,List.map_nil,RA];exact ⟨_,_,rfl,hkR,rfl⟩)):p:=h
theorem zpE {p:Prop} (h:p:=by rw [List.map_append,List.map_append];exact yN h2 (by simp only [List.map_cons,List.map_nil,RA];exact ⟨_,_,rfl,hv,rfl⟩)):p:=h
theorem zab {P:Program} {g s w t m key v mv kv vv s'} (h:Inv P g s w) (hm:R g w m mv) (hk:R g w key kv) (hv:R g w v vv) (ha:ZT P t m key v s=some s') :
  ∃ w',(Instr.mapUpdate t mv kv vv).run P w=.ok () w'∧Inv P g s' w'∧Ext g w g w':=by
 unfold ZT at ha
 split at ha
 case h_2=>cases ha
 rename_i kt et id htd
 split at ha
 case h_2=>cases ha
 rename_i k k' n es hkt hb
 split at ha
 case isFalse=>cases ha
 rename_i hc
 obtain ⟨rfl,hok⟩:=hc
 have hkR:=hk
 simp only [R] at hk
 subst hk
 have hu:=Xs htd
 have hku:=zdA hkt
 obtain ⟨b,rfl,⟨me,clock,hh,h1,h2⟩,hrow,hlv⟩:=zd2 h hb hm
 have hg:(getObj b).run P w=.ok (.map me.toArray clock) w:=by
  unfold getObj
  simp only [Sem.run,hh]
 have hset:∀ o:Obj,(setObj b o).run P w=.ok () (World.setB w b o):=fun o=>by
  unfold setObj
  simp only [Sem.run,hh]
  rfl
 unfold Instr.mapUpdate
 simp only [ze,zh hu,hg,Vl _ rfl hku]
 unfold Instr.findKey
 simp only [ze,zh hku]
 cases hf:Xn k n es 0 with
 | none=>rw [hf] at ha;cases ha
 | some r =>
   rw [hf] at ha
   have hr:=Xz h1 h2 hf
   cases r with
   | none =>
     simp only at hr ha
     cases ha
     rw [hr]
     simp only [zo,hset]
     obtain ⟨k1,k2⟩:=Xy (es':=es++[(.int k n,v)]) (me':=me++[{ key:=.int k n,val:=vv,born:=clock }]) (clock':=clock+1) h hb hrow
      zoC
      zpE
     refine ⟨_,rfl,?_⟩
     have hp:(me.toArray.push ({ key:=.int k n,val:=vv,born:=clock }:MapEntry))=(me++[({ key:=.int k n,val:=vv,born:=clock }:MapEntry)]).toArray:=Y1
     rw [hp]
     exact ⟨k1,k2⟩
   | some x =>
     obtain ⟨j,p⟩:=x
     simp only at hr ha
     cases ha
     obtain ⟨v',a1,a2,_,a4⟩:=hr
     rw [a1]
     obtain ⟨e,e1,_,k',e2⟩:=UQ a1
     simp only [Nat.sub_zero] at e1
     have hkk:e.key=.int k n:=by
      obtain ⟨kv',q1,q2⟩:=Vd h1 j ((es[j]'Y2).1) (by rw [List.getElem?_map,List.getElem?_eq_getElem Y2];rfl)
      rw [List.getElem?_map,e1] at q1
      simp only [Option.map_some,Option.some.injEq] at q1
      have:∀ {es:List (PV × PV)} {i j p},Xn k n es i=some (some (j,p))→∃ q,es[j-i]? =some q∧i≤j∧q.1=.int k n:=by
       intro es
       induction es with
       | nil=>intro i j p h;simp [Xn] at h
       | cons y es ih =>
         intro i j p h
         obtain ⟨key,u⟩:=y
         unfold Xn at h
         cases key with
         | int k2 m =>
           simp only at h
           split at h
           ·rename_i hk2
            subst hk2
            split at h
            ·rename_i hnm
             subst hnm
             simp only [Option.some.injEq,Prod.mk.injEq] at h
             obtain ⟨rfl,rfl⟩:=h
             exact ⟨(.int k n,u),Y1,Nat.le_refl _,rfl⟩
            ·obtain ⟨q,b1,b2,b3⟩:=ih h
             refine ⟨q,?_,Y2,b3⟩
             rw [show j-i=(j-(i+1))+1 from Y2]
             simpa using b1
           ·cases h
         | _=>cases h
      obtain ⟨q,b1,_,b3⟩:=this hf
      simp only [Nat.sub_zero] at b1
      rw [List.getElem?_eq_getElem Y2] at b1
      simp only [Option.some.injEq] at b1
      rw [b1,b3] at q2
      simp only [R] at q2
      rw [q1,q2]
     have hold:((me.toArray[j]?).map (·.key)).getD (.int k n)=.int k n:=by
      rw [show me.toArray[j]? =me[j]? from Y1,e1]
      exact hkk
     simp only [zo,ze,hold,zej _ rfl,hset]
     obtain ⟨k1,k2⟩:=Xy (es':=es.set j (.int k n,v)) (me':=me.set j { e with key:=.int k n,val:=vv }) (clock':=clock) h hb hrow
      (by rw [List.map_set,List.map_set];exact zdB j h1 hkR)
      (by rw [List.map_set,List.map_set];exact zdB j h2 hv)
     refine ⟨_,rfl,?_⟩
     have hm2:(me.toArray.modify j fun e=>{ e with key:=.int k n,val:=vv })=(me.set j { e with key:=.int k n,val:=vv }).toArray:=by
      apply Array.ext'
      simp only [Array.toList_modify,List.toList_toArray]
      apply List.ext_getElem?
      intro i
      rw [List.getElem?_modify,List.getElem?_set]
      by_cases hij:j=i
      ·subst hij
       rw [e1]
       have:=(List.getElem?_eq_some_iff.1 e1).1
       simp [this]
      ·rw [if_neg hij]
       simp [hij]
     rw [hm2]
     exact ⟨k1,k2⟩
end Go.PM
namespace Go.PM
open Go
def Xh (k:IntKind) (a b:Int):Value:=.agg #[.int k a,.int k b]
structure zcS (P:Program) (t:TypeId) (e:TypeId) (k:IntKind):Prop where
 arr:P.underlying t=some (.array 2 e)
 int:P.underlying e=some (.int k)
 one:P.cellsOf e=1
theorem Wp {P:Program} {w:World} {t e k} (h:zcS P t e k) (a b:Int):((part e #[.int k a,.int k b] 0).run P w=.ok (.int k a) w)∧((part e #[.int k a,.int k b] 1).run P w=.ok (.int k b) w):=by
 constructor <;>
 ·unfold part isAgg
  simp only [ze,zh h.int]
  rfl
theorem zgw {P:Program} {w:World} {t e k} (h:zcS P t e k) (a b c d:Int):(Op.equal t (Xh k a b) (Xh k c d)).run P w=.ok (a==c&&b==d) w:=by
 have hs:(sizeOf e).run P w=.ok 1 w:=by rw [yx (by rw [h.one];omega),h.one]
 unfold Op.equal Op.maxDepth Xh
 rw [show (10000:Nat)=9999+1 from rfl]
 unfold Op.equalIn
 simp only [ze,zh h.arr,hs]
 have e1:∀ x y,(Op.equalIn 9999 e (.int k x) (.int k y)).run P w=.ok (x==y) w:=fun x y=>run_equalIn_int w 9998 e k k x y h.int
 have p0:∀ x y,(part e #[.int k x,.int k y] 0).run P w=.ok (.int k x) w:=fun x y=>(Wp h x y).1
 have p1:∀ x y,(part e #[.int k x,.int k y] 1).run P w=.ok (.int k y) w:=fun x y=>(Wp h x y).2
 simp only [Std.Legacy.Range.forIn_eq_forIn_range',Std.Legacy.Range.size,List.range'_succ,List.range'_zero,List.forIn_cons,List.forIn_nil,ze,zo,Nat.zero_mul,Nat.one_mul,Nat.sub_zero,Nat.add_sub_cancel,Nat.div_one,Nat.reduceAdd,p0,p1,e1]
 by_cases h1:a=c<;>by_cases h2:b=d<;>simp [h1,h2,ze,zo,p0,p1,e1,Result.andThen]
theorem Ww {P:Program} {w:World} {t e k} (h:zcS P t e k) (a b:Int) (em:Bool):(Instr.checkKey em 10000 t (Xh k a b)).run P w=.ok () w:=by
 have hs:(sizeOf e).run P w=.ok 1 w:=by rw [yx (by rw [h.one];omega),h.one]
 have p0:∀ x y,(part e #[.int k x,.int k y] 0).run P w=.ok (.int k x) w:=fun x y=>(Wp h x y).1
 have p1:∀ x y,(part e #[.int k x,.int k y] 1).run P w=.ok (.int k y) w:=fun x y=>(Wp h x y).2
 have c1:∀ x,(Instr.checkKey em 9999 e (.int k x)).run P w=.ok () w:=fun x=>by
  rw [show (9999:Nat)=9998+1 from rfl]
  unfold Instr.checkKey
  rw [ze,zh h.int]
  rfl
 unfold Xh
 rw [show (10000:Nat)=9999+1 from rfl]
 unfold Instr.checkKey
 rw [ze,zh h.arr]
 simp only [Std.Legacy.Range.forIn_eq_forIn_range',Std.Legacy.Range.size,List.range'_succ,List.range'_zero,List.forIn_cons,List.forIn_nil,ze,zo,Nat.zero_mul,Nat.mul_one,Nat.one_mul,Nat.sub_zero,Nat.add_sub_cancel,Nat.div_one,Nat.reduceAdd,p0,p1,c1,hs]
def Vg (k:IntKind) (a b:Int):List (PV × PV)→Nat→Option (Option (Nat × PV))
 | [],_=>some none
 |(key,v)::es,i=>match key with
  | .agg [.int k1 c,.int k2 d]=>if k=k1∧k=k2 then (if a=c∧b=d then some (some (i,v)) else Vg k a b es (i+1)) else none
  | _=>none
theorem zh0 {g w k a b v} (h:R g w (.agg [.int k a,.int k b]) v):v=Xh k a b:=by
 simp only [R,RA] at h
 obtain ⟨arr,rfl,_,_,_,e1,rfl,_,_,e2,rfl,rfl⟩:=h
 subst e2
 unfold Xh
 congr 1
 exact Array.ext' e1
theorem XI {P:Program} {g w t e k a b} (hp:zcS P t e k):∀ {es:List (PV × PV)} {me:List MapEntry} {i:Nat} {r},RA g w (es.map (·.1)) (me.map (·.key))→RA g w (es.map (·.2)) (me.map (·.val))→Vg k a b es i=some r →
  match r with
  | none=>(Instr.findAsking t (Xh k a b) me i).run P w=.ok none w
  | some (j,p)=>∃ v,(Instr.findAsking t (Xh k a b) me i).run P w=.ok (some (j,v)) w∧R g w p v
 | [],me,i,r,h1,h2,h=>by
   simp only [List.map_nil,RA,List.map_eq_nil_iff] at h1
   subst h1
   simp only [Vg,Option.some.injEq] at h
   subst h
   rfl
 |(key,p)::es,me,i,r,h1,h2,h=>by
  cases me with
  | nil=>simp [RA] at h1
  | cons en me =>
    simp only [List.map_cons,RA,List.cons.injEq] at h1 h2
    obtain ⟨kv,kr,⟨rfl,rfl⟩,hk,h1⟩:=h1
    obtain ⟨vv,vr,⟨rfl,rfl⟩,hv,h2⟩:=h2
    unfold Vg at h
    split at h
    case h_2=>cases h
    rename_i k1 c k2 d
    split at h
    case isFalse=>cases h
    rename_i hkk
    obtain ⟨rfl,rfl⟩:=hkk
    have hkey:=zh0 hk
    unfold Instr.findAsking
    rw [ze,hkey,zgw hp]
    simp only
    by_cases hab:a=c∧b=d
    ·rw [if_pos hab] at h
     cases h
     obtain ⟨rfl,rfl⟩:=hab
     simp only [beq_self_eq_true,Bool.and_self,if_true]
     exact ⟨en.val,rfl,hv⟩
    ·rw [if_neg hab] at h
     have hb:(a==c&&b==d)=false:=by
      cases h3:(a==c&&b==d) with
      | false=>rfl
      | true=>simp at h3;exact absurd h3 hab
     rw [hb]
     simp only [Bool.false_eq_true,if_false]
     exact XI hp h1 h2 h
theorem UW {P:Program} {g w t e k a b} (hp:zcS P t e k) {es:List (PV × PV)} {me:List MapEntry} {r} (h1:RA g w (es.map (·.1)) (me.map (·.key))) (h2:RA g w (es.map (·.2)) (me.map (·.val))) (h:Vg k a b es 0=some r) :
  match (generalizing:=false) r with
  | none=>(Instr.findKey t (Xh k a b) me).run P w=.ok none w
  | some (j,p)=>∃ v,(Instr.findKey t (Xh k a b) me).run P w=.ok (some (j,v)) w∧R g w p v:=by
 have hf:=XI hp h1 h2 h
 unfold Instr.findKey
 cases me with
 | nil =>
   cases es with
   | nil =>
     simp only [Vg,Option.some.injEq] at h
     subst h
     simp only [ze,zh hp.arr,Instr.findNow]
     rfl
   | cons x es=>simp [RA] at h1
 | cons en me =>
   have:Instr.findNow (.array 2 e) (Xh k a b) (en::me) 0=none:=by
    unfold Instr.findNow
    have:Instr.sameNow (.array 2 e) (Xh k a b) en.key=none:=by unfold Instr.sameNow Xh;rfl
    rw [this]
   simp only [ze,zh hp.arr,this]
   exact hf
def zfT (P:Program) (t:TypeId):Option IntKind:=match td P t with
 | .arr n e=>if n=2∧P.cellsOf e=1 then (match td P e with | .int k=>some k | _=>none) else none
 | _=>none
theorem zma {P:Program} {t n e} (h:td P t=.arr n e):P.underlying t=some (.array n e):=by
 unfold td at h;split at h<;>cases h;assumption
theorem zid {P:Program} {t k} (h:zfT P t=some k):∃ e,zcS P t e k:=by
 unfold zfT at h
 split at h
 case h_2=>cases h
 rename_i n e htd
 split at h
 case isFalse=>cases h
 rename_i hc
 split at h
 case h_2=>cases h
 rename_i k' hk
 cases h
 obtain ⟨rfl,h1⟩:=hc
 exact ⟨e,zma htd,zdA hk,h1⟩
def Vs (P:Program) (t:TypeId) (m key:PV) (ok:Bool) (s:St):Option PV :=
 match td P t,key,m with
 | .map kt et,.agg [.int k a,.int k' b],.map id=>match zfT P kt,zpv P et,s.blk id with
   | some kk,some z,some (.map es)=>if kk=k∧kk=k'∧ok=false then
      match Vg k a b es 0 with
      | some (some (_,v))=>some v
      | some none=>some z
      | none=>none
     else none
   | _,_,_=>none
 | _,_,_=>none
theorem zem {P:Program} {g s w t m key ok v mv kv} (h:Inv P g s w) (hm:R g w m mv) (hk:R g w key kv) (ha:Vs P t m key ok s=some v) :
  ∃ val,(Instr.lookup t mv kv ok).run P w=.ok val w∧R g w v val:=by
 unfold Vs at ha
 split at ha
 case h_2=>cases ha
 rename_i kt et k a k' b id htd
 split at ha
 case h_2=>cases ha
 rename_i kk z es hpd hz hb
 split at ha
 case isFalse=>cases ha
 rename_i hc
 obtain ⟨rfl,rfl,rfl⟩:=hc
 obtain ⟨e,hp⟩:=zid hpd
 have hkv:=zh0 hk
 subst hkv
 obtain ⟨zv,z1,z2,z3,z4,z5,z6,z7⟩:=yZ (P:=P) (w:=w) hz
 have hzR:R g w z zv:=by
  rw [z2]
  exact YY g w zv fun cs e x hx=>zpm
 obtain ⟨b',rfl,⟨me,clock,hh,h1,h2⟩,hrow,hlv⟩:=zd2 h hb hm
 have hg:(getObj b').run P w=.ok (.map me.toArray clock) w:=by
  unfold getObj
  simp only [Sem.run,hh]
 unfold Instr.lookup
 rw [ze,zh (Xs htd)]
 simp only [ze,hg,zo,Ww hp]
 cases hf:Vg kk a b es 0 with
 | none=>rw [hf] at ha;cases ha
 | some r =>
   rw [hf] at ha
   have hr:=UW hp h1 h2 hf
   cases r with
   | none =>
     cases ha
     rw [show (Instr.findKey kt (Xh kk a b) me).run P w=.ok none w from hr]
     simp only [ze,z1,zo]
     exact ⟨_,rfl,hzR⟩
   | some x =>
     obtain ⟨j,p⟩:=x
     cases ha
     obtain ⟨v',a1,a2⟩:=hr
     rw [a1]
     exact ⟨_,rfl,a2⟩
def ZL (P:Program) (t:TypeId) (m key v:PV) (s:St):Option St :=
 match td P t,key,m with
 | .map kt et,.agg [.int k a,.int k' b],.map id=>match zfT P kt,s.blk id with
   | some kk,some (.map es)=>if kk=k∧kk=k'∧v.ok=true then
      match Vg k a b es 0 with
      | some none=>some (s.set id (some (.map (es++[(.agg [.int k a,.int k' b],v)]))))
      | _=>none
     else none
   | _,_=>none
 | _,_,_=>none
theorem zaf {P:Program} {g s w t m key v mv kv vv s'} (h:Inv P g s w) (hm:R g w m mv) (hk:R g w key kv) (hv:R g w v vv) (ha:ZL P t m key v s=some s') :
  ∃ w',(Instr.mapUpdate t mv kv vv).run P w=.ok () w'∧Inv P g s' w'∧Ext g w g w':=by
 unfold ZL at ha
 split at ha
 case h_2=>cases ha
 rename_i kt et k a k' b id htd
 split at ha
 case h_2=>cases ha
 rename_i kk es hpd hb
 split at ha
 case isFalse=>cases ha
 rename_i hc
 obtain ⟨rfl,rfl,hok⟩:=hc
 obtain ⟨e,hp⟩:=zid hpd
 have hkR:=hk
 have hkv:=zh0 hk
 subst hkv
 obtain ⟨b',rfl,⟨me,clock,hh,h1,h2⟩,hrow,hlv⟩:=zd2 h hb hm
 have hg:(getObj b').run P w=.ok (.map me.toArray clock) w:=by
  unfold getObj
  simp only [Sem.run,hh]
 have hset:∀ o:Obj,(setObj b' o).run P w=.ok () (World.setB w b' o):=fun o=>by
  unfold setObj
  simp only [Sem.run,hh]
  rfl
 split at ha
 case h_2=>cases ha
 rename_i hf
 cases ha
 have hr:=UW hp h1 h2 hf
 unfold Instr.mapUpdate
 simp only [ze,zh (Xs htd),hg,Ww hp]
 rw [show (Instr.findKey kt (Xh kk a b) me.toArray.toList).run P w=.ok none w from by rw [show me.toArray.toList=me from Y1];exact hr]
 simp only [hset]
 obtain ⟨k1,k2⟩:=Xy (es':=es++[(.agg [.int kk a,.int kk b],v)]) (me':=me++[{ key:=Xh kk a b,val:=vv,born:=clock }]) (clock':=clock+1) h hb hrow
  zoC
  zpE
 refine ⟨_,rfl,?_⟩
 have hpu:(me.toArray.push ({ key:=Xh kk a b,val:=vv,born:=clock }:MapEntry))=(me++[({ key:=Xh kk a b,val:=vv,born:=clock }:MapEntry)]).toArray:=Y1
 rw [hpu]
 exact ⟨k1,k2⟩
def zau (P:Program) (t:TypeId) (m key:PV) (ok:Bool) (s:St):Option PV:=match key with
 | .agg _=>Vs P t m key ok s
 | _=>Vw P t m key ok s
theorem zfU {P:Program} {g s w t m key ok v mv kv} (h:Inv P g s w) (hm:R g w m mv) (hk:R g w key kv) (ha:zau P t m key ok s=some v) :
  ∃ val,(Instr.lookup t mv kv ok).run P w=.ok val w∧R g w v val:=by
 unfold zau at ha
 split at ha
 ·exact zem h hm hk ha
 ·exact zdI h hm hk ha
def Xf (P:Program) (t:TypeId) (m key v:PV) (s:St):Option St:=match key with
 | .agg _=>ZL P t m key v s
 | _=>ZT P t m key v s
theorem zaJ {P:Program} {g s w t m key v mv kv vv s'} (h:Inv P g s w) (hm:R g w m mv) (hk:R g w key kv) (hv:R g w v vv) (ha:Xf P t m key v s=some s') :
  ∃ w',(Instr.mapUpdate t mv kv vv).run P w=.ok () w'∧Inv P g s' w'∧Ext g w g w':=by
 unfold Xf at ha
 split at ha
 ·exact zaf h hm hk hv ha
 ·exact zab h hm hk hv ha
end Go.PM
namespace Go.PM
open Go
def XQ (P:Program) (op:Op) (rv:Operand→PV) (s:St):Option PV :=
 match op with
 | .move x | .assign x=>some (rv x)
 | .pick c a b=>zik (rv c) (rv a) (rv b)
 | .build t parts=>zdP P t (parts.toList.map fun p=>(p.1,rv p.2))
 | .load t a=>UO P t (rv a) s
 | .nilCheck x=>match rv x with
   | .ptr id i j=>some (.ptr id i j)
   | .rptr cs=>some (.rptr cs)
   | _=>none
 | .binOp op t x y _=>zmG P op t (rv x) (rv y)
 | .unOp op _ x=>aUn op (rv x)
 | .convert src dst x=>zie P src dst (rv x)
 | .makeInterface t x=>YL P t (rv x)
 | .makeFunc f first cap=>some (.fn f (first.toList.map rv) (cap.toList.map rv))
 | .slice t x lo hi mx=>Yb P t (rv x) (lo.map rv) (hi.map rv) (mx.map rv) s
 | .fieldAddr t x f=>Xc P t (rv x) f
 | .field t x f=>zdX P t (rv x) f
 | .indexAddr t x ix=>YH P t (rv x) (rv ix) s
 | .index t x ix=>zd0 P t (rv x) (rv ix)
 | .extract x n=>VQ (rv x) n
 | .typeAssert x _ t ok=>ZN P (rv x) t ok
 | .lookup t x ix ok=>zau P t (rv x) (rv ix) ok s
 | .call c=>match c.callee with
   | .builtin .len=>match c.args.toList,c.argTypes.toList with
     | [x],[t]=>zhm P t (rv x) s
     | _,_=>none
   | .builtin .min=>zmw (c.args.toList.map rv)
   | .builtin .max=>zm0 (c.args.toList.map rv)
   | _=>none
 | _=>none
theorem zbe {g w rv} {a:Act} (hrv:∀ x,R g w (rv x) (a.eval x)) (x:Option Operand):zgf g w (x.map rv) (x.map a.eval):=by
 cases x with
 | none=>rfl
 | some x=>exact ⟨_,rfl,hrv x⟩
theorem WZ {g w rv} {a:Act} (hrv:∀ x,R g w (rv x) (a.eval x)):∀ (xs:List Operand),RA g w (xs.map rv) (xs.map a.eval)
 | []=>zaZ
 | x::xs=>by simp only [List.map_cons,RA];exact ⟨_,_,rfl,hrv x,WZ hrv xs⟩
theorem Ue {P:Program} {g s w v rv} {a:Act} {o:Oper} (h:Inv P g s w) (hrv:∀ x,R g w (rv x) (a.eval x)) (ha:XQ P o.op rv s=some v) :
  ∃ val,(execOp a.eval o).run P w=.ok (.value val) w∧R g w v val:=by
 have fin:∀ {x:Sem Value},(∃ val,x.run P w=.ok val w∧R g w v val)→∃ val,(do pure (Next.value (← x)):Sem Next).run P w=.ok (.value val) w∧R g w v val:=by
  rintro x ⟨val,h1,h2⟩
  exact ⟨val,by rw [ze,h1];rfl,h2⟩
 unfold XQ at ha
 unfold execOp
 cases hop:o.op with
 | move x=>rw [hop] at ha;cases ha;exact ⟨_,rfl,hrv x⟩
 | assign x=>rw [hop] at ha;cases ha;exact ⟨_,rfl,hrv x⟩
 | pick c x y =>
   rw [hop] at ha
   obtain ⟨b,h1,h2⟩:=zlP (hrv c) (hrv x) (hrv y) ha
   refine ⟨_,?_,h2⟩
   simp only [h1,asBool,ze,zo]
 | build t parts =>
   rw [hop] at ha
   refine fin (zhs ?_ ?_ ha)
   ·simp
   ·simpa [Function.comp_def] using WZ hrv (parts.toList.map (·.2))
 | load t x=>rw [hop] at ha;exact fin (Ux h (hrv x) ha)
 | nilCheck x =>
   rw [hop] at ha
   simp only at ha
   have hx:=hrv x
   split at ha
   ·rename_i e
    cases ha
    rw [e] at hx
    have hx':=hx
    simp only [R] at hx
    obtain ⟨_,b,sz,_,e2⟩:=hx
    simp only [e2]
    exact ⟨_,rfl,by rw [← e2];exact hx'⟩
   ·rename_i e
    cases ha
    rw [e] at hx
    have hx':=hx
    simp only [R] at hx
    obtain ⟨b,o',vs,e2,_⟩:=hx
    simp only [e2]
    exact ⟨_,rfl,by rw [← e2];exact hx'⟩
   ·cases ha
 | binOp op t x y yt=>rw [hop] at ha;exact fin (zlk (hrv x) (hrv y) ha)
 | unOp op t x=>rw [hop] at ha;exact fin (zl4 (hrv x) ha)
 | convert src dst x=>rw [hop] at ha;exact fin (zj4 (hrv x) ha)
 | makeInterface t x=>rw [hop] at ha;exact fin (zbv (hrv x) ha)
 | makeFunc f first cap =>
   rw [hop] at ha
   cases ha
   refine fin ⟨_,rfl,?_⟩
   simp only [R]
   exact ⟨_,_,rfl,by simpa using WZ hrv first.toList,by simpa using WZ hrv cap.toList⟩
 | slice t x lo hi mx=>rw [hop] at ha;exact fin (zhC h (hrv x) (zbe hrv lo) (zbe hrv hi) (zbe hrv mx) ha)
 | fieldAddr t x f=>rw [hop] at ha;exact fin (zaL (hrv x) ha)
 | field t x f=>rw [hop] at ha;exact fin (zhp (hrv x) ha)
 | indexAddr t x ix=>rw [hop] at ha;exact fin (zbQ h (hrv x) (hrv ix) ha)
 | index t x ix=>rw [hop] at ha;exact fin (zhb (hrv x) (hrv ix) ha)
 | extract x n=>rw [hop] at ha;exact fin (zen (hrv x) ha)
 | typeAssert x xt t ok=>rw [hop] at ha;exact fin (zam (hrv x) ha)
 | lookup t x ix ok=>rw [hop] at ha;exact fin (zfU h (hrv x) (hrv ix) ha)
 | call c =>
   rw [hop] at ha
   simp only at ha
   obtain ⟨callee,args,ats⟩:=c
   simp only at ha
   cases callee with
   | builtin b =>
     cases b with
     | len =>
       simp only at ha
       split at ha
       ·rename_i x t e1 e2
        have e1':args= #[x]:=by cases args;simp_all
        have e2':ats= #[t]:=by cases ats;simp_all
        subst e1';subst e2'
        obtain ⟨val,h1,h2⟩:=zkz (ty:=o.type) h (hrv x) ha
        refine ⟨val,?_,h2⟩
        simp only [resolve,ze,zo,invoke,builtin]
        rw [show Array.map a.eval #[x]= #[a.eval x] from Y1,h1]
       ·cases ha
     | min =>
       obtain ⟨val,h1,h2⟩:=zk5 (P:=P) (ts:=ats) (ty:=o.type) (as:=args.map a.eval) (by simpa using WZ hrv args.toList) ha
       refine ⟨val,?_,h2⟩
       simp only [resolve,ze,zo,invoke,builtin,h1]
     | max =>
       obtain ⟨val,h1,h2⟩:=zkG (P:=P) (ts:=ats) (ty:=o.type) (as:=args.map a.eval) (by simpa using WZ hrv args.toList) ha
       refine ⟨val,?_,h2⟩
       simp only [resolve,ze,zo,invoke,builtin,h1]
     | _=>cases ha
   | _=>cases ha
 | _=>rw [hop] at ha;cases ha
def zmz (P:Program) (op:Op) (rv:Operand→PV) (s:St):Option (PV × St) :=
 match op with
 | .alloc t=>match zpv P t with
   | some z=>some (.ptr s.nxt 0 0,s.new (.row t [z]))
   | none=>none
 | .box t x=>if (rv x).ok=true∧(rv x).cells.length=P.cellsOf t∧0<P.cellsOf t then some (.ptr s.nxt 0 0,s.new (.row t [rv x])) else none
 | .store t a x=>match zdF P t (rv a) (rv x) s with
   | some s'=>some (.junk,s')
   | none=>none
 | .makeMap _ none=>some (.map s.nxt,s.new (.map []))
 | .mapUpdate t m k x=>match Xf P t (rv m) (rv k) (rv x) s with
   | some s'=>some (.junk,s')
   | none=>none
 | _=>none
def vT (P:Program) (o:Oper) (g:G) (w:World) (a:Act) (v:PV) (s':St):Prop :=
 ∃ val w' g',((execOp a.eval o).run P w=.ok (.value val) w'∨((execOp a.eval o).run P w=.ok .skip w'∧val=undef))∧Inv P g' s' w'∧Ext g w g' w'∧R g' w' v val
theorem WY (P:Program) (w:World) (t:TypeId) (v:Value):(newVar t v).run P w=.ok ⟨w.heap.size,0,none⟩ (World.newB w (.cells v.cells t (0,0))):=by
 unfold newVar newRow
 rw [ze]
 rfl
theorem zio {P g s w t} {p:PV} {v:Value} (h:Inv P g s w) (hr:R g w p v) (hok:p.ok=true) (hl:p.cells.length=P.cellsOf t) (hp:0<P.cellsOf t) :
  ∃ g',Inv P g' (s.new (.row t [p])) (World.newB w (.cells v.cells t (0,0)))∧Ext g w g' (World.newB w (.cells v.cells t (0,0))) ∧
   R g' (World.newB w (.cells v.cells t (0,0))) (.ptr s.nxt 0 0) (.pointer (some ⟨w.heap.size,0,none⟩)):=by
 obtain ⟨c1,c2,c3⟩:=xS hr hok
 obtain ⟨g',h1,h2,h3,h4⟩:=XG (t:=t) (ty:=t) (els:=[p]) (vs:=[v]) (c:=v.cells) h hp (by simp only [RA];exact ⟨v,[],rfl,hr,rfl⟩)
  (by simp [flat]) (fun x hx=>by simp at hx;subst hx;exact ⟨Y2,c2⟩)
 refine ⟨g',h1,h2,?_⟩
 simp only [R]
 exact ⟨Y2,_,_,h3,Y1⟩
theorem zpQ {p:Prop} (h:p:=by subst e;simp only [VA,List.all_eq_true] at h3;exact h3 x hx):p:=h
theorem Wd {P:Program} {g s w v rv s'} {a:Act} {o:Oper} (h:Inv P g s w) (hrv:∀ x,R g w (rv x) (a.eval x)) (ha:zmz P o.op rv s=some (v,s')):vT P o g w a v s':=by
 unfold zmz at ha
 unfold vT execOp
 cases hop:o.op with
 | alloc t =>
   rw [hop] at ha
   simp only at ha
   cases hz:zpv P t with
   | none=>rw [hz] at ha;cases ha
   | some z =>
     rw [hz] at ha
     cases ha
     obtain ⟨zv,h1,h2,h3,h4,h5,h6,h7⟩:=yZ (P:=P) (w:=w) hz
     subst h2
     have hR:=YY g w zv fun cs e x hx=>zpQ
     have hc:=xS hR h7
     obtain ⟨g',k1,k2,k3⟩:=zio h hR h7 Y2 h5
     refine ⟨_,_,g',.inl ?_,k1,k2,k3⟩
     simp only [Instr.alloc,ze,h1,WY,zo]
 | box t x =>
   rw [hop] at ha
   simp only at ha
   split at ha
   ·rename_i hc
    cases ha
    obtain ⟨g',h1,h2,h3⟩:=zio h (hrv x) hc.1 hc.2.1 hc.2.2
    refine ⟨_,_,g',.inl ?_,h1,h2,h3⟩
    simp only [Instr.box,ze,WY,zo]
   ·cases ha
 | store t x y =>
   rw [hop] at ha
   simp only at ha
   split at ha
   ·rename_i s1 hs
    cases ha
    obtain ⟨w',h1,h2,h3⟩:=zhG h (hrv x) (hrv y) hs
    refine ⟨undef,w',g,.inr ⟨?_,rfl⟩,h2,h3,by simp [R]⟩
    simp only [ze,h1,zo]
   ·cases ha
 | makeMap t r =>
   rw [hop] at ha
   cases r with
   | some r=>cases ha
   | none =>
     cases ha
     obtain ⟨g',h1,h2,h3⟩:=zeV h
     refine ⟨_,_,g',.inl ?_,h1,h2,h3⟩
     simp only [Instr.makeMap,Option.map_none,ze,zo]
     rfl
 | mapUpdate t m k x =>
   rw [hop] at ha
   simp only at ha
   split at ha
   ·rename_i s1 hs
    cases ha
    obtain ⟨w',h1,h2,h3⟩:=zaJ h (hrv m) (hrv k) (hrv x) hs
    refine ⟨undef,w',g,.inr ⟨?_,rfl⟩,h2,h3,by simp [R]⟩
    simp only [ze,h1,zo]
   ·cases ha
 | _=>rw [hop] at ha;cases ha
end Go.PM
namespace Go.PM
open Go
def gA (a b:Bool):Bool:=a&&b
def gU (c g:Bool):Bool:= !c||g
theorem ziS (g x:Bool):(!gA g x||g)=true:=by cases g<;>cases x<;>rfl
theorem zhD (g x y:Bool):(!gA (gA g x) y||g)=true:=by cases g<;>cases x<;>cases y<;>rfl
theorem zg0 (g x y z:Bool):(!gA (gA (gA g x) y) z||g)=true:=by cases g<;>cases x<;>cases y<;>cases z<;>rfl
theorem zjM (c m:Bool):(!m||gU c (gA c m))=true:=by cases c<;>cases m<;>rfl
theorem zjQ (c m:Bool):(m||gU c (gA c (!m)))=true:=by cases c<;>cases m<;>rfl
theorem zjU {p:Prop} (h:p:=by cases g<;>rfl):p:=h
theorem zmb (g:Bool):gA g true=g:=zjU
theorem zkf (g:Bool):gA g false=false:=zjU
theorem zkW (g:Bool):gA true g=g:=zjU
theorem ziz (g:Bool):gA false g=false:=zjU
theorem ziB (g:Bool):gU true g=g:=zjU
theorem zlw (g:Bool):gU false g=true:=zjU
theorem zob (c:Bool):gU c true=true:=by cases c<;>rfl
def ung (k:Nat) (g:Bool):PV→PV
 | .gd n g' v=>if n≤k then (if (!g||g')=true then v else .junk) else .gd n (gU g g') v
 | v=>v
theorem zkM {g:G} {w:World} {p:PV} {v:Value} (k:Nat) (b:Bool) (hb:b=true) (h:R g w p v):R g w (ung k b p) v:=by
 subst hb
 unfold ung
 split
 ·split
  ·split
   ·rename_i hc
    simp only [R] at h
    exact h.1 (by simpa using hc)
   ·simp only [R]
  ·rw [ziB];exact h
 ·exact h
def uV (P:Program) (op:Op) (rv:Operand→PV) (s:St):Option (PV × St) :=
 match op with
 | .alloc _ | .box _ _ | .store _ _ _ | .makeMap _ _ | .mapUpdate _ _ _ _=>zmz P op rv s
 | _=>match XQ P op rv s with
   | some v=>some (v,s)
   | none=>none
def zii (ops:Array Oper) (j:Nat):Option Nat:=(ops[j]?).bind (fun o=>o.dst)
def VE (ops:Array Oper) (j:Nat) (want:Bool) (e:Env):Option (Nat × Bool) :=
 match zii ops j with
 | none=>none
 | some d=>match Env.get e d with
   | .bool b=>some (1,b==want)
   | .gd n g (.bool b)=>some (n+1,gA g (b==want))
   | _=>none
def zkc (P:Program) (ops:Array Oper) (o:Oper) (e:Env) (s:St):Option (PV × St) :=
 match o.guard with
 | none=>uV P o.op (ev e) s
 | some (j,want)=>match VE ops j want e with
   | none=>none
   | some (n,c)=>match XQ P o.op (fun x=>ung n c (ev e x)) s with
     | some v=>some (.gd n c v,s)
     | none=>none
theorem uY {g w ops e} {o:Oper} {j n:Nat} {want c:Bool} {a:Act} (ho:o.guard=some (j,want)) (h:VE ops j want e=some (n,c)) (hE:yY g w e a.tmps) :
  Region.wanted o (yielded ops a.tmps)=c:=by
 unfold VE zii at h
 unfold Region.wanted
 rw [ho]
 simp only
 cases hd:(ops[j]?).bind (fun o=>o.dst) with
 | none=>rw [hd] at h;cases h
 | some d =>
   rw [hd] at h
   simp only at h
   have hv:=hE d
   unfold yielded
   rw [hd]
   simp only [Option.bind_some]
   rw [Array.getD_eq_getD_getElem?] at hv
   split at h
   ·rename_i b hb
    cases h
    rw [hb] at hv
    simp only [R] at hv
    cases hq:a.tmps[d]? with
    | none=>rw [hq] at hv;simp [undef] at hv
    | some v=>rw [hq] at hv;simp only [Option.getD_some] at hv;subst hv;rfl
   ·rename_i nn gg b hb
    cases h
    rw [hb] at hv
    simp only [R] at hv
    cases gg with
    | true =>
      have hv:=hv.1 rfl
      rw [zkW]
      cases hq:a.tmps[d]? with
      | none=>rw [hq] at hv;simp [undef] at hv
      | some v=>rw [hq] at hv;simp only [Option.getD_some] at hv;subst hv;rfl
    | false =>
      have hv:=hv.2 rfl
      rw [ziz]
      cases hq:a.tmps[d]? with
      | none=>rfl
      | some v=>rw [hq] at hv;simp only [Option.getD_some] at hv;subst hv;rfl
   ·cases h
def zb1 (P:Program) (ops:Array Oper):List Oper→Env→St→Option (Env × St)
 | [],e,s=>some (e,s)
 | o::l,e,s=>match zkc P ops o e s with
   | some (v,s')=>zb1 P ops l (Env.put e o.dst v) s'
   | none=>none
def zng (P:Program) (ops:Array Oper) (l:List Oper) (d:Option Nat) (e:Env) (r:Option (PV × St)):Option (Env × St) :=
 match r with
 | some (v,s')=>zb1 P ops l (Env.put e d v) s'
 | none=>none
theorem zkS (P:Program) (ops:Array Oper) (e:Env) (s:St):zb1 P ops [] e s=some (e,s):=rfl
theorem zcF (P:Program) (ops:Array Oper) (o:Oper) (l:List Oper) (e:Env) (s:St):zb1 P ops (o::l) e s=zng P ops l o.dst e (zkc P ops o e s):=rfl
theorem zaz (P:Program) (ops:Array Oper) (l:List Oper) (d:Option Nat) (e:Env) (v:PV) (s':St):zng P ops l d e (some (v,s'))=zb1 P ops l (Env.put e d v) s':=rfl
theorem zg3 {p:Prop} (h:p:=by rw [hop];exact ha):p:=h
theorem wY {P:Program} {g s w v rv s'} {a:Act} {o:Oper} (h:Inv P g s w) (hrv:∀ x,R g w (rv x) (a.eval x)) (ha:uV P o.op rv s=some (v,s')):vT P o g w a v s':=by
 have pureCase:(match XQ P o.op rv s with | some v=>some (v,s) | none=>none)=some (v,s')→vT P o g w a v s':=by
  intro hx
  cases hp:XQ P o.op rv s with
  | none=>rw [hp] at hx;cases hx
  | some u =>
    rw [hp] at hx
    cases hx
    obtain ⟨val,h1,h2⟩:=Ue h hrv hp
    exact ⟨val,w,g,.inl h1,h,Ext.refl _ _,h2⟩
 unfold uV at ha
 cases hop:o.op with
 | alloc t=>rw [hop] at ha;exact Wd h hrv zg3
 | box t x=>rw [hop] at ha;exact Wd h hrv zg3
 | store t x y=>rw [hop] at ha;exact Wd h hrv zg3
 | makeMap t x=>rw [hop] at ha;exact Wd h hrv zg3
 | mapUpdate t m k x=>rw [hop] at ha;exact Wd h hrv zg3
 | _=>rw [hop] at ha;exact pureCase zg3
theorem zeF {P:Program} {N:Nat} {ops:Array Oper} {o:Oper} {i:Nat} {rest:List Nat} {K:Exit→Act→World→Prop} {g:G} {w:World} {a:Act} {v:PV} {s':St}
  (ho:ops[i]? =some o) (hw:Region.wanted o (yielded ops a.tmps)=true) (he:vT P o g w a v s')
  (hk:∀ val w' g',Inv P g' s' w'→Ext g w g' w'→R g' w' v val→wpOps P ops K rest (a.put o.dst val) w'):wpOps P ops K (i::rest) a w:=by
 obtain ⟨val,w',g',hr,hI,hE,hR⟩:=he
 simp only [wpOps,ho,hw,if_true]
 left
 unfold Oper.wp
 rcases hr with hr | ⟨hr,rfl⟩
 ·rw [hr,Oper.upon_value];exact hk val w' g' hI hE hR
 ·rw [hr,Oper.upon_skip];exact hk _ w' g' hI hE hR
theorem vV {N:Nat} {o:Oper} (h:zbu N o=true):∀ x,o.dst=some x→x<N:=by
 intro x hx
 unfold zbu at h
 rw [hx] at h
 simpa using h
section
variable {P:Program} {N:Nat} {k:List KI} {e:Env} {s:St} {rt:Env→St→Prop}
theorem Yh {ops:Array Oper} {o:Oper} {l:List Oper} {idx:List Nat} (h:idx.map (ops[·]?)=(o::l).map some):∃ i r,idx=i::r∧ops[i]? =some o∧r.map (ops[·]?)=l.map some:=by
 cases idx with
 | nil=>simp at h
 | cons i r =>
   simp only [List.map_cons,List.cons.injEq] at h
   exact ⟨i,r,rfl,h.1,h.2⟩
theorem Y58 {p:Prop} (h:p:=by rw [WR];exact hd):p:=h
theorem zf1 {p:Prop} (h:p:=by rw [zeG];exact hN):p:=h
theorem zm.eff {ops:Array Oper} {o:Oper} {l:List Oper} {v:PV} {s':St} (hg:guard? ops o e=some true)
  (he:∀ g w (a:Act),Inv P g s w→yY g w e a.tmps→vT P o g w a v s') (h:zm P N ops l k (e.put o.dst v) s' rt):zm P N ops (o::l) k e s rt:=by
 intro ok okk idx hidx g w a hI hE hd hN
 obtain ⟨i,r,rfl,ho,hr⟩:=Yh hidx
 simp only [List.all_cons,Bool.and_eq_true] at ok
 refine zeF (N:=N) ho (yR hg hE) (he g w a hI hE) ?_
 intro val w' g' hI' hX hR
 have:=h ok.2 okk r hr g' w' (a.put o.dst val) hI' ((hE.ext hX).put hN (vV ok.1) hR) Y58 zf1
 exact wpOps_lift hX this
where
 wpOps_lift {g w g1 w1} {Q:AQ} {ops:Array Oper} (x:Ext g w g1 w1):∀ {idx:List Nat} {a:Act} {w2},wpOps P ops (Yz P N g1 w1 Q) idx a w2→wpOps P ops (Yz P N g w Q) idx a w2:=by
  intro idx a w2 h
  exact wpOps_mono' (fun _ _ _=>Yz.trans x) h
 wpOps_mono' {ops:Array Oper} {Q Q':Exit→Act→World→Prop} (hq:∀ e a w,Q e a w→Q' e a w):∀ {idx:List Nat} {a:Act} {w:World},wpOps P ops Q idx a w→wpOps P ops Q' idx a w:=by
  intro idx
  induction idx with
  | nil=>exact fun h=>hq _ _ _ h
  | cons i rest ih =>
    intro a w h
    simp only [wpOps] at h ⊢
    cases ho:ops[i]? with
    | none=>rw [ho] at h;exact ih h
    | some o =>
      rw [ho] at h
      simp only at h ⊢
      split
      ·rename_i hw
       rw [if_pos hw] at h
       rcases h with h | ⟨h1,a0,w0,h2⟩
       ·left
        unfold Oper.wp at h ⊢
        unfold Oper.upon at h ⊢
        split at h
        ·exact ih h
        ·exact ih h
        ·exact ih h
        ·refine h.mono fun e w' hr=>?_
         cases e with
         | returned v=>exact ih hr
         | panicked c=>exact hq _ _ _ hr
         | outgrown=>obtain ⟨a0,w0,h0⟩:=hr;exact ⟨a0,w0,hq _ _ _ h0⟩
        ·exact h.mono fun v w' hr=>ih hr
        ·exact hq _ _ _ h
        ·exact h
       ·exact .inr ⟨h1,a0,w0,hq _ _ _ h2⟩
      ·rename_i hw
       rw [if_neg hw] at h
       exact ih h
theorem zoa {p:Prop} (h:p:=by simp only [R];exact ⟨fun x=>by (cases x),fun _=>rfl⟩):p:=h
theorem zm.ops {ops:Array Oper}:∀ {pre:List Oper} {l:List Oper} {e:Env} {s:St} {e':Env} {s':St},zb1 P ops pre e s=some (e',s')→zm P N ops l k e' s' rt→zm P N ops (pre++l) k e s rt
 | [],l,e,s,e',s',h,hr=>by cases h;exact hr
 | o::pre,l,e,s,e',s',h,hr=>by
   rw [zcF] at h
   cases h1:zkc P ops o e s with
   | none=>rw [h1] at h;cases h
   | some vs =>
     obtain ⟨v,s1⟩:=vs
     rw [h1,zaz] at h
     have ih:=zm.ops h hr
     unfold zkc at h1
     cases hg:o.guard with
     | none =>
       rw [hg] at h1
       refine zm.eff (by unfold guard?;rw [hg]) ?_ ih
       intro g w a hI hE
       exact wY hI (fun x=>xE hE x) h1
     | some jw =>
       obtain ⟨j,want⟩:=jw
       rw [hg] at h1
       simp only at h1
       split at h1
       ·cases h1
       rename_i n c hcd
       split at h1
       ·rename_i u hu
        cases h1
        intro ok okk idx hidx g w a hI hE hdf hN
        obtain ⟨i,r,rfl,ho,hr'⟩:=Yh hidx
        simp only [List.cons_append,List.all_cons,Bool.and_eq_true] at ok
        have hw:=uY hg hcd hE
        cases c with
        | true =>
          obtain ⟨val,h2,h3⟩:=Ue (o:=o) (a:=a) hI (fun x=>zkM n true rfl (xE hE x)) hu
          refine zeF (N:=N) ho hw ⟨val,w,g,.inl h2,hI,Ext.refl _ _,h3⟩ ?_
          intro val' w' g' hI' hX hR
          have:=ih ok.2 okk r hr' g' w' (a.put o.dst val') hI' ((hE.ext hX).put hN (vV ok.1) (v:=.gd n true u) (by simp only [R];exact ⟨fun _=>hR,fun x=>by cases x⟩)) (by rw [WR];exact hdf) zf1
          exact zm.eff.wpOps_lift hX this
        | false =>
          simp only [wpOps,ho,hw,if_false,Bool.false_eq_true]
          exact ih ok.2 okk r hr' g w (a.put o.dst undef) hI (hE.put hN (vV ok.1) (v:=.gd n false u) zoa) (by rw [WR];exact hdf) zf1
       ·cases h1
theorem zm.all {ops:Array Oper} {l:List Oper} {e':Env} {s':St} (h:zb1 P ops l e s=some (e',s')) (hr:zm P N ops [] k e' s' rt):zm P N ops l k e s rt:=by
 have:=zm.ops (l:=[]) h hr
 simpa using this
theorem zm.gdo {ops:Array Oper} {o:Oper} {l:List Oper} {v:PV} {s':St} (hg:guard? ops o e=some true) (he:uV P o.op (ev e) s=some (v,s')) (h:zm P N ops l k (e.put o.dst v) s' rt):zm P N ops (o::l) k e s rt :=
 zm.eff hg (fun g w a hI hE=>wY hI (fun x=>xE hE x) he) h
end
def za (P:Program) (f:FuncId) (args:List PV) (s:St) (Q:PV→St→Prop):Prop :=
 ∀ g w (vs:Array Value),Inv P g s w→RA g w args vs.toList→Calls P f vs w fun e w' =>
  ∃ v g' r s',e=.returned v∧Inv P g' s' w'∧R g' w' r v∧Ext g w g' w'∧Q r s'
theorem za.mono {P f args s} {Q Q':PV→St→Prop} (h:za P f args s Q) (hq:∀ r s',Q r s'→Q' r s'):za P f args s Q' :=
 fun g w vs hI hR=>(h g w vs hI hR).mono fun e w' ⟨v,g',r,s',h1,h2,h3,h4,h5⟩=>⟨v,g',r,s',h1,h2,h3,h4,hq _ _ h5⟩
def zb (P:Program) (f:FuncId):Bool:=match P.funcs[f]? with
 | some fn=>fn.body.isSome&& !(fn.name== "runtime.NumGoroutine")
 | none=>false
theorem Vj {P:Program} {f:FuncId} {args:Array Value} {w:World} (h:zb P f=true):(callFunc f args).run P w=.ok (.enter f args) w:=by
 unfold zb at h
 unfold callFunc
 rw [ze]
 show (match P.funcs[f]? with | none=>_ | some fn=>_:Sem Next).run P w=_
 cases hf:P.funcs[f]? with
 | none=>rw [hf] at h;cases h
 | some fn =>
   rw [hf] at h
   simp only [Bool.and_eq_true,Bool.not_eq_true'] at h
   simp only [h.2,Bool.false_eq_true,if_false]
   have:fn.body.isNone=false:=by cases hb:fn.body<;>simp_all
   simp only [this,Bool.false_eq_true,if_false]
   rfl
def vn (c:Call) (e:Env):Option (FuncId × List PV) :=
 match c.callee with
 | .value f=>match ev e f with
   | .fn (.func i) first cap=>some (i,first++c.args.toList.map (ev e)++cap)
   | _=>none
 | _=>none
theorem zoZ {p:Prop} (h:p:=by
 unfold execOp
 rw [hop]
 simp only [resolve,hx,Deferred.ofValue,ze,zo,invoke]
 exact Vj hc):p:=h
theorem wS {P:Program} {c:Call} {o:Oper} {g w e f args} {a:Act} (hop:o.op=.call c) (hE:yY g w e a.tmps) (h:vn c e=some (f,args)) (hc:zb P f=true) :
  ∃ vs:Array Value,(execOp a.eval o).run P w=.ok (.enter f vs) w∧RA g w args vs.toList:=by
 unfold vn at h
 obtain ⟨callee,cargs,ats⟩:=c
 simp only at h
 cases callee with
 | value x =>
   simp only at h
   split at h
   ·rename_i i first cap hev
    cases h
    have hx:=xE hE x
    rw [hev] at hx
    simp only [R] at hx
    obtain ⟨fv,cv,hx,h1,h2⟩:=hx
    refine ⟨fv++cargs.map a.eval++cv,?_,?_⟩
    ·exact zoZ
    ·simp only [Array.toList_append,Array.toList_map]
     exact yN (yN h1 (zh8 hE _)) h2
   ·cases h
 | _=>cases h
section
variable {P:Program} {N:Nat} {k:List KI} {e:Env} {s:St} {rt:Env→St→Prop}
theorem zm.call_ {ops:Array Oper} {o:Oper} {l:List Oper} {f:FuncId} {args:List PV} (hg:guard? ops o e=some true)
  (hc:∀ g w (a:Act),Inv P g s w→yY g w e a.tmps→∃ vs:Array Value,(execOp a.eval o).run P w=.ok (.enter f vs) w∧RA g w args vs.toList)
  (h:za P f args s fun r s'=>zm P N ops l k (e.put o.dst r) s' rt):zm P N ops (o::l) k e s rt:=by
 intro ok okk idx hidx g w a hI hE hd hN
 obtain ⟨i,r,rfl,ho,hr⟩:=Yh hidx
 simp only [List.all_cons,Bool.and_eq_true] at ok
 have hw:=yR hg hE
 obtain ⟨vs,hrun,hra⟩:=hc g w a hI hE
 simp only [wpOps,ho,hw,if_true]
 left
 unfold Oper.wp
 rw [hrun,Oper.upon_enter]
 refine (h g w vs hI hra).mono ?_
 rintro e' w' ⟨v,g',r',s',rfl,hI',hR',hX',hQ⟩
 have:=hQ ok.2 okk r hr g' w' (a.put o.dst v) hI' ((hE.ext hX').put hN (vV ok.1) hR') Y58 zf1
 exact zm.eff.wpOps_lift hX' this
theorem zm.call {ops:Array Oper} {d:Option Nat} {c:Call} {t:TypeId} {pos:String} {af:Array Edge} {gd:Option (Nat × Bool)} {l:List Oper} {f:FuncId} {args:List PV}
  (hg:guard? ops ⟨d,.call c,t,pos,af,gd⟩ e=some true) (ha:vn c e=some (f,args)) (hc:zb P f=true)
  (h:za P f args s fun r s'=>zm P N ops l k (e.put d r) s' rt):zm P N ops (⟨d,.call c,t,pos,af,gd⟩::l) k e s rt :=
 zm.call_ hg (fun g w a hI hE=>wS rfl hE ha hc) h
def Uf (n:Nat) (b:Bool) (c:Call) (e:Env):Option (FuncId × List PV) :=
 match c.callee with
 | .value f=>match ev e f with
   | .fn (.func i) first cap=>some (i,first++c.args.toList.map (fun x=>ung n b (ev e x))++cap)
   | _=>none
 | _=>none
theorem zgR {n:Nat} {P:Program} {c:Call} {o:Oper} {g w e f args} {a:Act} (hop:o.op=.call c) (hE:yY g w e a.tmps) (h:Uf n true c e=some (f,args)) (hc:zb P f=true) :
  ∃ vs:Array Value,(execOp a.eval o).run P w=.ok (.enter f vs) w∧RA g w args vs.toList:=by
 unfold Uf at h
 obtain ⟨callee,cargs,ats⟩:=c
 simp only at h
 cases callee with
 | value x =>
   simp only at h
   split at h
   ·rename_i i first cap hev
    cases h
    have hx:=xE hE x
    rw [hev] at hx
    simp only [R] at hx
    obtain ⟨fv,cv,hx,h1,h2⟩:=hx
    refine ⟨fv++cargs.map a.eval++cv,?_,?_⟩
    ·exact zoZ
    ·simp only [Array.toList_append,Array.toList_map]
     refine yN (yN h1 ?_) h2
     have:∀ xs:List Operand,RA g w (xs.map fun x=>ung n true (ev e x)) (xs.map a.eval):=by
      intro xs
      induction xs with
      | nil=>simp [RA]
      | cons x xs ih=>simp only [List.map_cons,RA];exact ⟨_,_,rfl,zkM n true rfl (xE hE x),ih⟩
     exact this _
   ·cases h
 | _=>cases h
theorem zm.callG {ops:Array Oper} {d:Option Nat} {c:Call} {t:TypeId} {pos:String} {af:Array Edge} {j n:Nat} {want b:Bool} {l:List Oper} {f:FuncId} {args:List PV} {v:PV}
  (hg:VE ops j want e=some (n,b)) (ha:Uf n b c e=some (f,args)) (hc:zb P f=true)
  (h:b=true→za P f args s fun r s'=>r=v∧s'=s) (hr:zm P N ops l k (e.put d (.gd n b v)) s rt):zm P N ops (⟨d,.call c,t,pos,af,some (j,want)⟩::l) k e s rt:=by
 intro ok okk idx hidx g w a hI hE hd hN
 obtain ⟨i,r,rfl,ho,hr'⟩:=Yh hidx
 simp only [List.all_cons,Bool.and_eq_true] at ok
 have hw:=uY (o:=⟨d,.call c,t,pos,af,some (j,want)⟩) rfl hg hE
 cases b with
 | true =>
   obtain ⟨vs,hrun,hra⟩:=zgR (o:=⟨d,.call c,t,pos,af,some (j,want)⟩) rfl hE ha hc
   simp only [wpOps,ho,hw,if_true]
   left
   unfold Oper.wp
   rw [hrun,Oper.upon_enter]
   refine (h rfl g w vs hI hra).mono ?_
   rintro e' w' ⟨u,g',r',s',rfl,hI',hR',hX',rfl,rfl⟩
   have:=hr ok.2 okk r hr' g' w' (a.put d u) hI' ((hE.ext hX').put hN (vV ok.1) (by simp only [R];exact ⟨fun _=>hR',fun x=>by cases x⟩)) Y58 zf1
   exact zm.eff.wpOps_lift hX' this
 | false =>
   simp only [wpOps,ho,hw,if_false,Bool.false_eq_true]
   exact hr ok.2 okk r hr' g w (a.put d undef) hI (hE.put hN (vV ok.1) zoa) Y58 zf1
end
def uS:Nat→List PV→Env
 | _,[]=>[]
 | i,p::ps=>(i,p)::uS (i+1) ps
theorem zaU {g w}:∀ (ps:List PV) (vs:List Value) (i j:Nat),RA g w ps vs→R g w ((uS i ps).get j) ((vs[j-i]?).getD undef)∨(uS i ps).get j=.junk
 | [],vs,i,j,_=>.inr rfl
 | p::ps,vs,i,j,h=>by
   simp only [RA] at h
   obtain ⟨v,r,rfl,hv,hr⟩:=h
   simp only [uS,Env.get]
   split
   ·rename_i e;subst e;left;simpa using hv
   ·rename_i hne
    rcases zaU ps r (i+1) j hr with q | q
    ·by_cases hlt:i<j
     ·left
      rw [show j-i=(j-(i+1))+1 from Y2,List.getElem?_cons_succ]
      exact q
     ·right
      exact argEnv_small ps (i+1) j Y2
    ·exact .inr q
where
 argEnv_small:∀ (ps:List PV) (i j:Nat),j<i→(uS i ps).get j=.junk
  | [],i,j,_=>rfl
  | p::ps,i,j,h=>by
    simp only [uS,Env.get]
    rw [if_neg Y2]
    exact argEnv_small ps (i+1) j Y2
def zl6 (P:Program) (e:Env) (s:St):ResultVar→Option PV
 | .tmp t=>some (e.get t)
 | .cell a t=>UO P t (e.get a) s
def zhf (P:Program) (e:Env) (s:St):List ResultVar→Option (List PV)
 | []=>some []
 | r::rs=>match zl6 P e s r,zhf P e s rs with
   | some p,some ps=>some (p::ps)
   | _,_=>none
def Xp (P:Program) (rs:List ResultVar) (e:Env) (s:St):Option PV :=
 match rs with
 | [r]=>zl6 P e s r
 | rs=>match zhf P e s rs with
   | some ps=>some (.tuple ps)
   | none=>none
theorem zh4 {α β:Type} (P:Program) (f:α→β) (x:Sem α) (w:World):(f <$> x).run P w=match x.run P w with | .ok a w'=>.ok (f a) w' | .halt h w'=>.halt h w':=by
 show (x>>=fun a=>pure (f a)).run P w=_
 rw [ze]
 cases x.run P w<;>rfl
theorem ze5 {P:Program} {g s w e p r} {a:Act} {fx:ResultVar→Sem Value} (h:Inv P g s w) (hE:yY g w e a.tmps) (ht:∀ t,fx (.tmp t)=pure (a.tmps.getD t undef))
  (hc:∀ x t,fx (.cell x t)=(do loadVar t (← asAddr (a.tmps.getD x undef)))) (hr:zl6 P e s r=some p):∃ v,(fx r).run P w=.ok v w∧R g w p v:=by
 cases r with
 | tmp t =>
   cases hr
   exact ⟨_,by rw [ht];rfl,hE t⟩
 | cell ad t =>
   have hr:UO P t (e.get ad) s=some p:=hr
   have hx:=hE ad
   obtain ⟨val,hv,hrv⟩:=Ux h hx hr
   have:∃ p,a.tmps.getD ad undef=.pointer (some p):=by
    unfold UO at hr
    split at hr
    ·rename_i id i j he
     rw [he] at hx
     simp only [R] at hx
     obtain ⟨_,b,sz,_,e2⟩:=hx
     exact ⟨_,e2⟩
    ·rename_i cs he
     rw [he] at hx
     simp only [R] at hx
     obtain ⟨b,o,vs,e2,_⟩:=hx
     exact ⟨_,e2⟩
    ·cases hr
   obtain ⟨q,hq⟩:=this
   refine ⟨val,?_,hrv⟩
   rw [hc,hq]
   rw [hq] at hv
   unfold Instr.loadAt at hv
   simp only [Instr.sureAddr,ze,zo] at hv
   simp only [asAddr,ze,zo,hv]
theorem zgs {P:Program} {g s w e} {a:Act} {fx:ResultVar→Sem Value} (h:Inv P g s w) (hE:yY g w e a.tmps) (ht:∀ t,fx (.tmp t)=pure (a.tmps.getD t undef))
  (hc:∀ x t,fx (.cell x t)=(do loadVar t (← asAddr (a.tmps.getD x undef)))):∀ (rs:List ResultVar) (ps:List PV),zhf P e s rs=some ps→∃ vs,(rs.mapM fx).run P w=.ok vs w∧RA g w ps vs
 | [],ps,hr=>by cases hr;exact ⟨[],rfl,zaZ⟩
 | r::rs,ps,hr=>by
   unfold zhf at hr
   split at hr
   ·rename_i p ps' h1 h2
    cases hr
    obtain ⟨v,hv,hR⟩:=ze5 h hE ht hc h1
    obtain ⟨vs,hvs,hRs⟩:=zgs h hE ht hc rs ps' h2
    refine ⟨v::vs,?_,by simp only [RA];exact ⟨v,vs,rfl,hR,hRs⟩⟩
    rw [List.mapM_cons,ze,hv]
    simp only
    rw [ze,hvs]
    rfl
   ·cases hr
def zli (tmps:Array Value):ResultVar→Sem Value
 | .tmp t=>pure (tmps.getD t undef)
 | .cell a t=>do loadVar t (← asAddr (tmps.getD a undef))
theorem zhF (fn:Func) (tmps:Array Value):results fn tmps=(do let vs ← fn.results.mapM (zli tmps);pure (if h:vs.size=1 then vs[0] else .tuple vs)):=rfl
theorem zla {P:Program} {fn:Func} {g s w e r} {a:Act} (h:Inv P g s w) (hE:yY g w e a.tmps) (hr:Xp P fn.results.toList e s=some r) :
  ∃ v,(results fn a.tmps).run P w=.ok v w∧R g w r v:=by
 unfold Xp at hr
 rw [zhF]
 have hres:fn.results=fn.results.toList.toArray:=Y1
 split at hr
 ·rename_i r1 hl
  obtain ⟨v,hv,hR⟩:=ze5 (fx:=zli a.tmps) (a:=a) h hE (fun t=>rfl) (fun x t=>rfl) hr
  rw [hres,hl]
  rw [ze,List.mapM_toArray,zh4]
  simp only [List.mapM_cons,List.mapM_nil,ze,zo]
  refine ⟨v,?_,hR⟩
  rw [hv]
  rfl
 ·rename_i rs hne
  cases hps:zhf P e s fn.results.toList with
  | none=>rw [hps] at hr;cases hr
  | some ps =>
    rw [hps] at hr
    cases hr
    obtain ⟨vs,hv,hR⟩:=zgs (fx:=zli a.tmps) (a:=a) h hE (fun t=>rfl) (fun x t=>rfl) fn.results.toList ps hps
    rw [hres]
    rw [ze,List.mapM_toArray,zh4]
    refine ⟨.tuple vs.toArray,?_,by simp only [R];exact ⟨_,rfl,hR⟩⟩
    simp only [hv,zo]
    have hl:=zV hR
    have hl2:fn.results.toList.length=ps.length:=by
     clear hv hR hl hne hres
     generalize fn.results.toList=rs at hps
     induction rs generalizing ps with
     | nil=>cases hps;rfl
     | cons r rs ih =>
       unfold zhf at hps
       split at hps
       ·rename_i p ps' h1 h2
        cases hps
        simp [ih _ h2]
       ·cases hps
    have:vs.toArray.size≠1:=by
     simp only [List.size_toArray]
     intro h1
     rw [← hl,← hl2] at h1
     match hrs:fn.results.toList,h1 with
     | [r],_=>exact hne r hrs
    rw [dif_neg this]
def Ret (P:Program) (fn:Func) (args:List PV) (s0:St) (Q:PV→St→Prop) (e:Env) (s:St):Prop :=
 ∃ r,Xp P fn.results.toList e s=some r∧∃ r' s1,Q r' s1 ∧
  ∀ g0 w0 g w,Inv P g0 s0 w0→Ext g0 w0 g w→Inv P g s w→∀ v,R g w r v→∃ g1,Inv P g1 s1 w∧R g1 w r' v∧Ext g0 w0 g1 w
theorem za.body {P:Program} {f:FuncId} {fn:Func} {c:Code} {args:List PV} {s:St} {Q:PV→St→Prop} (hf:P.funcs[f]? =some fn) (hb:fn.body=some c) (hn:args.length≤fn.ntmps)
  (hok:okC fn.ntmps c=true) (h:s.wf→Run P fn.ntmps [.code c] (uS 0 args) s (Ret P fn args s Q)):za P f args s Q:=by
 intro g w vs hI hR
 refine calls_of_wp hf hb ?_
 have hl:=zV hR
 simp only [Array.length_toList] at hl
 have hE:yY g w (uS 0 args) (vs++Array.replicate (fn.ntmps-vs.size) undef):=by
  intro j
  rcases zaU args vs.toList 0 j hR with q | q
  ·have e:((vs++Array.replicate (fn.ntmps-vs.size) undef).getD j undef)=((vs.toList[j-0]?).getD undef):=by
    rw [Array.getD_eq_getD_getElem?,Nat.sub_zero,Array.getElem?_toList,Array.getElem?_append]
    split
    ·rfl
    ·rename_i hlt
     rw [Array.getElem?_eq_none (xs:=vs) Y2]
     cases hx:(Array.replicate (fn.ntmps-vs.size) undef)[j-vs.size]? with
     | none=>rfl
     | some x =>
       have:=Array.mem_of_getElem? hx
       simp at this
       rw [this.2];rfl
   rw [e];exact q
  ·rw [q];simp [R]
 refine wp_mono (h hI.wf (by simp only [okK,Bool.and_true];exact hok) hok g w _ hI hE rfl Vb) ?_
 rintro ex a' w' ⟨g',e',s',h1,h2,h3,h4,h5,h6⟩
 have fin:Ret P fn args s Q e' s'→a'.defers=[]∧∃ v,(results fn a'.tmps).run P w'=.ok v w'∧∃ v' g' r s',Ending.returned v=.returned v'∧Inv P g' s' w'∧R g' w' r v'∧Ext g w g' w'∧Q r s':=by
  rintro ⟨r,hr,r',s1,hQ,hfin⟩
  obtain ⟨v,hv,hrv⟩:=zla h1 h2 hr
  obtain ⟨g1,k1,k2,k3⟩:=hfin g w g' w' hI h3 h1 v hrv
  exact ⟨h4,v,hv,v,g1,r',s1,rfl,k1,k2,k3,hQ⟩
 cases ex with
 | normal=>exact fin h6
 | ret=>exact fin h6
 | _=>exact h6.elim
end Go.PM
namespace Go.PM
open Go
theorem Y59 {p:Prop} (h:p:=by simp only [PV.blw]):p:=h
theorem zny {p:Prop} (h:p:=by simp only [R,PV.blw] at r ⊢;exact r.1):p:=h
mutual
theorem zkO {g:G} {w:World}:∀ (p:PV) (v:Value),R g w p v→p.blw g.nxt
 | .int _ _,_,_=>Y59
 | .bool _,_,_=>Y59
 | .str _,_,_=>Y59
 | .nilp,_,_=>Y59
 | .ptr id i j,v,r=>zny
 | .rptr cs,v,r=>by
   simp only [R,PV.blw] at r ⊢
   obtain ⟨b,o,vs,_,_,_,_,hr⟩:=r
   exact ZY cs vs hr
 | .sl k els,v,r=>by
   simp only [R,PV.blw] at r ⊢
   obtain ⟨vs,hr,hs⟩:=r
   refine ⟨fun t z e=>?_,ZY els vs hr⟩
   subst e
   rw [yT rfl] at hs
   simp only [yV] at hs
   rcases hs with ⟨b,o,cap,sz,_,_,_,_,_,_,_,ht⟩ | ⟨h,_⟩
   ·exact (ht t z rfl).2.1
   ·rcases h with h | h | ⟨_,_,e,hlt⟩
    ·cases h
    ·cases h
    ·cases e;exact hlt
 | .own id _ _,v,r=>zny
 | .agg cs,v,r=>by simp only [R,PV.blw] at r ⊢;obtain ⟨a,_,_,h⟩:=r;exact ZY cs _ h
 | .tuple cs,v,r=>by simp only [R,PV.blw] at r ⊢;obtain ⟨a,_,h⟩:=r;exact ZY cs _ h
 | .fn _ a b,v,r=>by simp only [R,PV.blw] at r ⊢;obtain ⟨x,y,_,h1,h2⟩:=r;exact ⟨ZY a _ h1,ZY b _ h2⟩
 | .nilf,_,_=>Y59
 | .iface _ p,v,r=>by simp only [R,PV.blw] at r ⊢;obtain ⟨x,_,h⟩:=r;exact zkO p x h
 | .nili,_,_=>Y59
 | .map id,v,r=>zny
 | .nilm,_,_=>Y59
 | .gd _ b p,v,r=>by simp only [R,PV.blw] at r ⊢;exact fun hb=>zkO p v (r.1 hb)
 | .junk,_,_=>Y59
theorem ZY {g:G} {w:World}:∀ (ps:List PV) (vs:List Value),RA g w ps vs→PV.blws g.nxt ps
 | [],_,_=>by simp only [PV.blws]
 | p::ps,vs,r=>by
   simp only [RA,PV.blws] at r ⊢
   obtain ⟨v,r',_,h1,h2⟩:=r
   exact ⟨zkO p v h1,ZY ps r' h2⟩
end
mutual
def PV.weak:PV→PV
 | .rptr cs=>.rptr (PV.weaks cs)
 | .sl _ els=>.sl .unk (PV.weaks els)
 | .agg cs=>.agg (PV.weaks cs)
 | .tuple cs=>.tuple (PV.weaks cs)
 | .fn f a b=>.fn f (PV.weaks a) (PV.weaks b)
 | .iface t p=>.iface t (PV.weak p)
 | .gd n b p=>.gd n b (PV.weak p)
 | p=>p
def PV.weaks:List PV→List PV
 | []=>[]
 | p::ps=>PV.weak p::PV.weaks ps
end
theorem YF:∀ (ps:List PV),(PV.weaks ps).length=ps.length
 | []=>rfl
 | p::ps=>by simp [PV.weaks,YF ps]
theorem uj:∀ (ps:List PV),PV.weaks ps=ps.map PV.weak
 | []=>rfl
 | p::ps=>by simp [PV.weaks,uj ps]
theorem UV {g w k n vs v} (h:vg g w k n vs v):vg g w .unk n vs v:=by
 have main:∀ k:SK,yV g w k n vs v→k=.nil∧yV g w .nil n vs v∨yV g w .any n vs v:=by
  intro k h
  by_cases hn:k=.nil
  ·subst hn;exact .inl ⟨rfl,h⟩
  ·rcases vO h hn with ⟨b,o,cap,sz,h1,h2,h3,h4,h5,h6,h7,h8⟩ | ⟨_,h2,h3⟩
   ·exact .inr (.inl ⟨b,o,cap,sz,h1,h2,h3,(fun e=>zbE),h5,h6,h7,fun t z e=>zbE⟩)
   ·exact .inr (.inr ⟨.inl rfl,h2,h3⟩)
 have main':∀ k:SK,yV g w k n vs v→vg g w .unk n vs v:=fun k h=>(main k h).imp (fun x=>x.2) id
 cases k with
 | unk=>exact h
 | unc=>rcases h with h | h
        ·exact main' _ h
        ·exact main' _ h
 | nil=>exact main' .nil h
 | clip=>exact main' .clip h
 | any=>exact main' .any h
 | tok t z=>exact main' (.tok t z) h
theorem Y60 {p:Prop} (h:p:=by simpa only [PV.weak,R] using r):p:=h
mutual
theorem XZ {g:G} {w:World}:∀ (p:PV) (v:Value),R g w p v→R g w p.weak v
 | .int _ _,_,r=>Y60
 | .bool _,_,r=>Y60
 | .str _,_,r=>Y60
 | .nilp,_,r=>Y60
 | .ptr id i j,v,r=>Y60
 | .rptr cs,v,r=>by
   simp only [R,PV.weak] at r ⊢
   obtain ⟨b,o,vs,h1,h2,h3,h4,hr⟩:=r
   exact ⟨b,o,vs,h1,by rw [YF];exact h2,h3,h4,we cs vs hr⟩
 | .sl k els,v,r=>by
   simp only [R,PV.weak] at r ⊢
   obtain ⟨vs,hr,hs⟩:=r
   exact ⟨vs,we els vs hr,by rw [YF];exact UV hs⟩
 | .own id _ _,v,r=>Y60
 | .agg cs,v,r=>by simp only [R,PV.weak] at r ⊢;obtain ⟨a,h0,h1,h⟩:=r;exact ⟨a,h0,h1,we cs _ h⟩
 | .tuple cs,v,r=>by simp only [R,PV.weak] at r ⊢;obtain ⟨a,h1,h⟩:=r;exact ⟨a,h1,we cs _ h⟩
 | .fn _ a b,v,r=>by simp only [R,PV.weak] at r ⊢;obtain ⟨x,y,h0,h1,h2⟩:=r;exact ⟨x,y,h0,we a _ h1,we b _ h2⟩
 | .nilf,_,r=>Y60
 | .iface _ p,v,r=>by simp only [R,PV.weak] at r ⊢;obtain ⟨x,h0,h⟩:=r;exact ⟨x,h0,XZ p x h⟩
 | .nili,_,r=>Y60
 | .map id,v,r=>Y60
 | .nilm,_,r=>Y60
 | .gd _ b p,v,r=>by simp only [R,PV.weak] at r ⊢;exact ⟨fun hb=>XZ p v (r.1 hb),r.2⟩
 | .junk,_,r=>by simp only [PV.weak,R]
theorem we {g:G} {w:World}:∀ (ps:List PV) (vs:List Value),RA g w ps vs→RA g w (PV.weaks ps) vs
 | [],_,r=>by simpa only [PV.weaks,RA] using r
 | p::ps,vs,r=>by
   simp only [RA,PV.weaks] at r ⊢
   obtain ⟨v,r',h0,h1,h2⟩:=r
   exact ⟨v,r',h0,XZ p v h1,we ps r' h2⟩
end
def Blk.blw (n:Nat):Blk→Prop
 | .row _ els=>PV.blws n els
 | .tok _=>True
 | .map es=>PV.blws n (es.map (·.1))∧PV.blws n (es.map (·.2))
 | .res=>True
theorem Inv.blw {P g s w} (h:Inv P g s w) {id b} (e:s.blk id=some b):b.blw s.nxt:=by
 have:=h.at' id
 rw [e] at this
 rw [← h.nxt]
 cases b with
 | row t els=>obtain ⟨_,_,b,vs,_,_,_,_,_,hr⟩:=this;exact ZY _ _ hr
 | tok L=>trivial
 | map es=>obtain ⟨_,_,b,_,me,cl,_,h1,h2⟩:=this;exact ⟨ZY _ _ h1,ZY _ _ h2⟩
 | res=>trivial
theorem Yw {P g s w} (h:Inv P g s w) (n:Nat) (p:Nat→Bool) (hp:∀ i,p i=true→s.blk i≠none→i<n) (hb:∀ i b,p i=true→s.blk i=some b→b.blw n):Inv P (g.keep n p) (s.keep n p) w where
 nxt:=rfl
 wf:=fun i hi=>by
  simp only [St.keep] at hi ⊢
  split
  ·rename_i hpi
   by_cases e:s.blk i=none
   ·exact e
   ·have:=hp i hpi e;omega
  ·rfl
 at':=fun id=>by
  simp only [St.keep]
  have hat:=h.at' id
  split
  ·rename_i hpi
   cases hbl:s.blk id with
   | none =>
     rw [hbl] at hat
     simp only [At,G.keep,hpi,Bool.true_and,if_true] at hat ⊢
     exact hat
   | some b =>
     rw [hbl] at hat
     have hbw:=hb id b hpi hbl
     have hsub:=ZA g n p
     cases b with
     | row t els =>
       obtain ⟨a,al,b,vs,a1,a2,a3,a4,a5,a6⟩:=hat
       exact ⟨by simp only [G.keep,hpi,if_true];exact a,by simp only [G.keep,hpi,Bool.true_and];exact al,b,vs,a1,a2,a3,a4,a5,ZZ hsub _ _ hbw a6⟩
     | tok L =>
       obtain ⟨a,b,l,a1,a2,a3,a4⟩:=hat
       exact ⟨by simp only [G.keep,hpi,Bool.true_and];exact a,b,l,by simp only [G.keep,hpi,if_true];exact a1,a2,fun ⟨i,k,e,lv⟩=>by
        simp only [G.keep,Bool.and_eq_true] at e lv
        exact a3 ⟨i,k,e,lv.2⟩,a4⟩
     | map es =>
       obtain ⟨a,al,b,a1,me,cl,a2,a3,a4⟩:=hat
       exact ⟨by simp only [G.keep,hpi,if_true];exact a,by simp only [G.keep,hpi,Bool.true_and];exact al,b,a1,me,cl,a2,ZZ hsub _ _ hbw.1 a3,ZZ hsub _ _ hbw.2 a4⟩
     | res=>exact ⟨by simp only [G.keep,hpi,Bool.true_and];exact hat.1,by simp only [G.keep,hpi,if_true];exact hat.2.1,hat.2.2⟩
  ·rename_i hpi
   simp only [At,G.keep,hpi,Bool.false_and,if_false,Bool.false_eq_true,and_self]
 inj:=fun i j b m k li lj e1 e2=>by
  simp only [G.keep,Bool.and_eq_true] at li lj
  exact h.inj i j b m k li.2 lj.2 e1 e2
 tinj:=fun i j b m k e1 e2=>by
  simp only [G.keep] at e1 e2
  split at e1
  ·split at e2
   ·exact h.tinj i j b m k e1 e2
   ·cases e2
  ·cases e1
 lim:=h.lim
 rlim:=fun i b m li e=>by
  simp only [G.keep,Bool.and_eq_true] at li e
  exact h.rlim i b m li.2 e
theorem Ut {g0 w0 g w} (h:Ext g0 w0 g w) (n:Nat) (hn:g0.nxt≤n) (p:Nat→Bool):Ext g0 w0 (g.keep n p) w :=
 { os:=h.os,tape:=h.tape,output:=h.output,size:=h.size,nxt:=hn,rd:=h.rd
   free:=fun b m hb hf=>Ud (h.free b m hb hf)
   same:=h.same,rows:=h.rows,csz:=h.csz
   toks:=fun t ht b' L' e=>by
    simp only [G.keep] at e
    split at e
    ·exact h.toks t ht b' L' e
    ·cases e }
section
variable {P:Program} {fn:Func} {args:List PV} {s0:St} {Q:PV→St→Prop} {e:Env} {s:St}
theorem Ret.all {r:PV} (hr:Xp P fn.results.toList e s=some r) (h:Q r s):Ret P fn args s0 Q e s :=
 ⟨r,hr,r,s,h,fun g0 w0 g w _ hX hI v hv=>⟨g,hI,hv,hX⟩⟩
theorem zou {p:Prop} (h:p:=by simp only [PV.blw] at r ⊢;exact blws_mono h cs r):p:=h
theorem znv {p:Prop} (h:p:=by simp only [PV.blw] at r ⊢;omega):p:=h
theorem Ret.keep {r r':PV} (n:Nat) (p:Nat→Bool) (hr:Xp P fn.results.toList e s=some r) (hr':r'=r.weak) (hn:s0.nxt≤n) (hb:r'.blw n)
  (hp:∀ i,p i=true→s.blk i≠none→i<n) (hk:∀ i b,p i=true→s.blk i=some b→s0.blk i=some b∨b.blw n) (h:Q r' (s.keep n p)):Ret P fn args s0 Q e s:=by
 subst hr'
 refine ⟨r,hr,_,_,h,fun g0 w0 g w hI0 hX hI v hv=>⟨g.keep n p,Yw hI n p hp ?_,zbq (ZA g n p) _ _ hb (XZ r v hv),Ut hX n (by rw [hI0.nxt];exact hn) p⟩⟩
 intro i b hpi hbi
 rcases hk i b hpi hbi with q | q
 ·have:=hI0.blw q
  exact blw_mono hn b this
 ·exact q
where
 blw_mono {n m:Nat} (h:n≤m) (b:Blk) (hb:b.blw n):b.blw m:=by
  cases b with
  | row t els=>exact blws_mono h els hb
  | tok L=>trivial
  | map es=>exact ⟨blws_mono h _ hb.1,blws_mono h _ hb.2⟩
  | res=>trivial
 blw1_mono {n m:Nat} (h:n≤m):∀ (p:PV),p.blw n→p.blw m
  | .int _ _,_=>Y59
  | .bool _,_=>Y59
  | .str _,_=>Y59
  | .nilp,_=>Y59
  | .ptr id i j,r=>znv
  | .rptr cs,r=>zou
  | .sl k els,r=>by simp only [PV.blw] at r ⊢;exact ⟨fun t z e=>Nat.lt_of_lt_of_le (r.1 t z e) h,blws_mono h els r.2⟩
  | .own id _ _,r=>znv
  | .agg cs,r=>zou
  | .tuple cs,r=>zou
  | .fn _ a b,r=>by simp only [PV.blw] at r ⊢;exact ⟨blws_mono h a r.1,blws_mono h b r.2⟩
  | .nilf,_=>Y59
  | .iface _ p,r=>by simp only [PV.blw] at r ⊢;exact blw1_mono h p r
  | .nili,_=>Y59
  | .map id,r=>znv
  | .nilm,_=>Y59
  | .gd _ b p,r=>by simp only [PV.blw] at r ⊢;exact fun hb=>blw1_mono h p (r hb)
  | .junk,_=>Y59
 blws_mono {n m:Nat} (h:n≤m):∀ (ps:List PV),PV.blws n ps→PV.blws m ps
  | [],_=>by simp only [PV.blws]
  | p::ps,r=>by simp only [PV.blws] at r ⊢;exact ⟨blw1_mono h p r.1,blws_mono h ps r.2⟩
theorem Y61 {p:Prop} (h:p:=by
 simp only [hi,decide_false,Bool.false_eq_true,if_false]
 exact (hwf i (by simp only;omega)).symm):p:=h
theorem zlm {p:Prop} (h:p:=by simp only [hi,decide_true,if_true];exact hk i hi):p:=h
theorem ziE {p:Prop} (h:p:=by rw [e1];exact h):p:=h
theorem Ret.pure {r r':PV} (hr:Xp P fn.results.toList e s=some r) (hr':r'=r.weak) (hb:r'.blw s0.nxt) (hwf:s0.wf) (hk:∀ i,i<s0.nxt→s.blk i=s0.blk i) (h:Q r' s0):Ret P fn args s0 Q e s:=by
 have e1:s.keep s0.nxt (fun i=>decide (i<s0.nxt))=s0:=by
  cases s0 with
  | mk n f =>
    simp only [St.keep,St.mk.injEq,true_and]
    funext i
    by_cases hi:i<n
    ·exact zlm
    ·exact Y61
 refine Ret.keep s0.nxt (fun i=>decide (i<s0.nxt)) hr hr' (Nat.le_refl _) hb (fun i hi _=>of_decide_eq_true hi) ?_ ziE
 intro i b hi hbi
 rw [hk i (of_decide_eq_true hi)] at hbi
 exact .inl hbi
end
end Go.PM
namespace Go.PM
open Go
section
variable {P:Program} {w:World}
theorem UT {t ty e:TypeId} {i:TypeInfo} (ht:P.underlying t=some (.slice e)) (hi:P.info? e=some i) {b o sLen sCap n:Nat} {x:Value} {news:Array Value} {w':World}
  (hl:(Builtin.lenOf x).run P w=.ok n w) (hf:(Builtin.firstCells i.size n x).run P w=.ok news w) (hroom:sLen+n≤sCap)
  (hst:(storeCells ⟨b,o+sLen*i.size,none⟩ news.toList).run P w=.ok () w') :
  (Builtin.append_ #[t,t] ty #[.slice (some ⟨b,o,none⟩) sLen sCap,x]).run P w=.ok (.slice (some ⟨b,o,none⟩) (sLen+n) sCap) w':=by
 simp [Builtin.append_,run_underlying ht,sizeOf,typeInfo,hi,hl,hroom,hf,vh,hst]
theorem zgU {t ty e:TypeId} {i:TypeInfo} (ht:P.underlying t=some (.slice e)) (hi:P.info? e=some i) {a:Addr} {x:Value}
  (hl:(Builtin.lenOf x).run P w=.ok 0 w) (hf:(Builtin.firstCells i.size 0 x).run P w=.ok #[] w) :
  (Builtin.append_ #[t,t] ty #[.slice (some a) 0 0,x]).run P w=.ok (.slice (some a) 0 0) w:=by
 have hs:∀ b:Addr,(storeCells b []:Sem Unit).run P w=.ok () w:=fun b=>rfl
 simp [Builtin.append_,run_underlying ht,sizeOf,typeInfo,hi,hl,hf,hs]
theorem zfI {t ty e:TypeId} {i:TypeInfo} (ht:P.underlying t=some (.slice e)) (hi:P.info? e=some i) {x:Value}
  (hl:(Builtin.lenOf x).run P w=.ok 0 w) (hf:(Builtin.firstCells i.size 0 x).run P w=.ok #[] w) :
  (Builtin.append_ #[t,t] ty #[.slice none 0 0,x]).run P w=.ok (.slice none 0 0) w:=by
 simp [Builtin.append_,run_underlying ht,sizeOf,typeInfo,hi,hl,hf]
theorem zaN {t ty e:TypeId} {i:TypeInfo} {z:Value} (ht:P.underlying t=some (.slice e)) (hi:P.info? e=some i) (hz:i.zero=some z) {base:Option Addr} {sLen sCap n:Nat} {x:Value} {olds news:Array Value}
  (hl:(Builtin.lenOf x).run P w=.ok n w) (hfo:(Builtin.firstCells i.size sLen (.slice base sLen sCap)).run P w.drew=.ok olds w.drew) (hf:(Builtin.firstCells i.size n x).run P w.drew=.ok news w.drew)
  (hg:sCap<sLen+n) (h63:((sLen+n:Nat):Int)≤9223372036854775807) (hfit:Builtin.nextslicecap (sLen+n) sCap*i.bytes≤281474976710656) :
  (Builtin.append_ #[t,t] ty #[.slice base sLen sCap,x]).run P w =
    .ok (.slice (some ⟨w.heap.size,0,none⟩) (sLen+n) (grownCap w (sLen+n) sCap e))
     (w.drew.alloc (.cells (olds++news++Builtin.zeroCells z.cells (grownCap w (sLen+n) sCap e-(sLen+n))) e)):=by
 have hn:¬ (sLen+n≤sCap):=Y2
 have h63':¬ (9223372036854775807<((sLen:Int)+(n:Int))):=Y2
 have h48':¬ (281474976710656<Builtin.nextslicecap (sLen+n) sCap*i.bytes):=Y2
 simp [Builtin.append_,run_underlying ht,sizeOf,typeInfo,zeroValue,hi,hz,hl,hn,h63',h48',Question.forced,hf,hfo,newRow,grownCap]
end
def uP (w:World) (x:Value) (vs:List Value):Prop :=
 (∃ a cap,x=.slice a 0 cap∧vs=[])∨(∃ b o cap,x=.slice (some ⟨b,o,none⟩) vs.length cap∧zT w b o (flat vs))
theorem uP.len {P:Program} {w x vs} (h:uP w x vs):(Builtin.lenOf x).run P w=.ok vs.length w:=by
 rcases h with ⟨a,cap,rfl,rfl⟩ | ⟨b,o,cap,rfl,h⟩<;>rfl
theorem uP.cells {P:Program} {w x vs size} (h:uP w x vs) (hs:∀ v∈vs,v.cells.size=size):(Builtin.firstCells size vs.length x).run P w=.ok (flat vs).toArray w:=by
 rcases h with ⟨a,cap,rfl,rfl⟩ | ⟨b,o,cap,rfl,h⟩
 ·cases a with
  | none=>rfl
  | some a=>simp [Builtin.firstCells,loadCells,loadCellsFrom,flat,zo]
 ·exact Yg P w b o _ _ (by rw [yp hs]) h
theorem uP.drew {w x vs} (h:uP w x vs):uP w.drew x vs:=by
 rcases h with h | ⟨b,o,cap,h1,h2⟩
 ·exact .inl h
 ·exact .inr ⟨b,o,cap,h1,h2⟩
theorem zbw {g w k els v} (h:R g w (.sl k els) v):∃ vs,uP w v vs∧RA g w els vs:=by
 obtain ⟨k',hb,h,_⟩:=VL h
 by_cases hk:k'=.nil
 ·subst hk
  obtain ⟨rfl,rfl⟩:=ZO.1 h
  exact ⟨[],.inl ⟨none,0,rfl,rfl⟩,zaZ⟩
 ·rcases uZ h hk hb with ⟨b,o,cap,sz,vs,rfl,h1,h2,h3,h4,h5,h6,h7,h8⟩ | ⟨_,rfl,x,rfl⟩
  ·exact ⟨vs,.inr ⟨b,o,cap,by rw [zV h8],h5⟩,h8⟩
  ·exact ⟨[],.inl ⟨_,0,rfl,rfl⟩,zaZ⟩
def xg (P:Program) (e:TypeId) (els:List PV):Prop:=∀ el∈els,el.ok=true∧el.cells.length=P.cellsOf e
theorem wG {P:Program} {e g w}:∀ {els:List PV} {vs:List Value},xg P e els→RA g w els vs→∀ v∈vs,v.cells.size=P.cellsOf e∧∀ x∈v.cells.toList,x.flat=true
 | [],vs,_,h,v,hv=>by simp [RA] at h;subst h;simp at hv
 | p::ps,vs,he,h,v,hv=>by
   simp only [RA] at h
   obtain ⟨u,r,rfl,hu,hr⟩:=h
   obtain ⟨k1,k2⟩:=he p Y1
   obtain ⟨c1,c2,c3⟩:=xS hu k1
   simp at hv
   rcases hv with rfl | hv
   ·exact ⟨Y2,c2⟩
   ·exact wG (fun q hq=>he q (by simp [hq])) hr v hv
theorem wA (xs ys:List Value):flat (xs++ys)=flat xs++flat ys:=by simp [flat]
def yQ (P:Program) (e:TypeId) (k:SK) (xs ys:List PV) (s:St):Option (PV × St) :=
 if ys=[] then some (.sl k xs,s)
 else match k with
  | .nil | .clip | .unc=>some (.sl (.tok s.nxt (P.cellsOf e)) (xs++ys),s.new (.tok (xs.length+ys.length)))
  | .tok t z=>match s.blk t with
    | some (.tok L)=>if L=xs.length∧z=P.cellsOf e then some (.sl (.tok t z) (xs++ys),s.set t (some (.tok (xs.length+ys.length)))) else none
    | _=>none
  | .any | .unk=>none
theorem zeS {P:Program} {g s w els vs} {sz N:Nat} {ty:TypeId} {c:Array Value} (h:Inv P g s w) (hr:RA g w els vs) (hv:∀ v∈vs,v.cells.size=sz) (hsz:0<sz) (hc:flat vs <+: c.toList) (hN:vs.length≤N) (hcs:N*sz≤c.size) :
  ∃ g',Inv P g' (s.new (.tok vs.length)) (World.newB w (.cells c ty (0,0)))∧Ext g w g' (World.newB w (.cells c ty (0,0))) ∧
   R g' (World.newB w (.cells c ty (0,0))) (.sl (.tok s.nxt sz) els) (.slice (some ⟨w.heap.size,0,none⟩) vs.length N):=by
 obtain ⟨g',h1,h2,h3,h4,h5,h6⟩:=zfy (ty:=ty) (L:=vs.length) (E:=vs.length*sz) (c:=c) h
 refine ⟨g',h1,h2,?_⟩
 have hl:=zV hr
 simp only [R]
 refine ⟨vs,yX h2 _ _ hr,?_⟩
 rw [yT rfl]
 simp only [yV]
 refine .inl ⟨w.heap.size,0,N,sz,by rw [hl],Y2,hsz,Y1,fun hp=>⟨h6,fun m hm=>?_⟩,ZD w c ty (0,0) _ hc,hv,?_⟩
 ·rw [h4] at hm;cases hm;rw [hl];omega
 ·intro t z e
  cases e
  refine ⟨rfl,Y2,fun b' L e'=>?_⟩
  rw [h3] at e';cases e'
  refine ⟨Y2,fun _=>⟨rfl,by rw [h4];congr 1;omega,?_⟩⟩
  rw [Vc];omega
theorem zlX {p:Prop} (h:p:=by unfold Program.bytesOf;rw [hi];rfl):p:=h
theorem zkT {p:Prop} (h:p:=by rw [← hl];exact e1):p:=h
theorem Vt {P:Program} {g s w t ty e k xs ys v s' va vb} (h:Inv P g s w) (hx:R g w (.sl k xs) va) (hy:∃ us,uP w vb us∧RA g w ys us) (htd:td P t=.sl e) (hz:(zpv P e).isSome=true)
  (hex:xg P e xs) (hey:xg P e ys) (hb0:0<P.bytesOf e) (hlen:(xs.length+ys.length)*P.bytesOf e≤140737488355328) (ha:yQ P e k xs ys s=some (v,s')) :
  ∃ val w' g',(Builtin.append_ #[t,t] ty #[va,vb]).run P w=.ok val w'∧Inv P g' s' w'∧Ext g w g' w'∧R g' w' v val:=by
 have hu:=xp htd
 obtain ⟨z,hz⟩:=Option.isSome_iff_exists.1 hz
 obtain ⟨zv,hz1,hz2,hz3,hz4,hpos,hz6,hz7⟩:=yZ (P:=P) (w:=w) hz
 obtain ⟨i,hi,hsz⟩:=vA hpos
 have hiz:i.zero=some zv:=by
  unfold zeroValue at hz1
  rw [ze,xU hi] at hz1
  simp only at hz1
  cases hq:i.zero with
  | none=>rw [hq] at hz1;simp [unsupported,Sem.run] at hz1
  | some z'=>rw [hq] at hz1;simp [zo] at hz1;subst hz1;rfl
 have hby:P.bytesOf e=i.bytes:=zlX
 obtain ⟨us,hus,hru⟩:=hy
 have hue:=wG hey hru
 have hul:=zV hru
 have hn:=hus.len (P:=P)
 have hfc:=hus.cells (P:=P) (size:=P.cellsOf e) (fun v hv=>(hue v hv).1)
 by_cases hys:ys=[]
 ·subst hys
  unfold yQ at ha
  rw [if_pos rfl] at ha
  cases ha
  simp only [RA] at hru
  subst hru
  obtain ⟨k',hkb,hxb,_⟩:=VL hx
  cases hk:decide (k'=.nil) with
  | true =>
    have:=of_decide_eq_true hk
    subst this
    have e0:=(ZO.1 hxb).1
    rw [e0] at hx ⊢
    exact ⟨_,w,g,zfI hu hi hn (by rw [hsz];exact hfc),h,Ext.refl _ _,hx⟩
  | false =>
    rcases uZ hxb (of_decide_eq_false hk) hkb with ⟨b,o,cap,sz,vs,rfl,h1,_⟩ | ⟨_,rfl,x,rfl⟩
    ·exact ⟨_,w,g,UT hu hi hn (by rw [hsz];exact hfc) (by simpa using h1) rfl,h,Ext.refl _ _,hx⟩
    ·exact ⟨_,w,g,zgU hu hi hn (by rw [hsz];exact hfc),h,Ext.refl _ _,hx⟩
 have hm:0<us.length:=by rw [← hul];exact List.length_pos_iff.2 hys
 have grow:∀ (base:Option Addr) (cap:Nat) (vs:List Value),va=.slice base vs.length cap→uP w va vs→RA g w xs vs→cap<vs.length+us.length →
   ∃ N extra,(vs.length+us.length)≤N∧(Builtin.append_ #[t,t] ty #[va,vb]).run P w=.ok (.slice (some ⟨w.heap.size,0,none⟩) (vs.length+us.length) N) (World.newB { w with drawn:=w.drawn+1 } (.cells ((flat (vs++us)).toArray++extra) e (0,0))) ∧
    N*P.cellsOf e≤((flat (vs++us)).toArray++extra).size:=by
  intro base cap vs hva hvs hrv hcap
  have hve:=wG hex hrv
  have hvl:=zV hrv
  have ho:=hvs.drew.cells (P:=P) (size:=P.cellsOf e) (fun v hv=>(hve v hv).1)
  have hn':=hus.drew.cells (P:=P) (size:=P.cellsOf e) (fun v hv=>(hue v hv).1)
  rw [hva] at ho ⊢
  rw [← hsz] at ho hn'
  have hfit:=growslice_fits (bytes:=i.bytes) hcap (by rw [← hby,← hvl,← hul];exact hlen)
  have:=zaN (P:=P) (w:=w) (t:=t) (ty:=ty) hu hi hiz hn ho hn' hcap (by
   have:=Nat.le_mul_of_pos_right (xs.length+ys.length) hb0
   omega) hfit
  have hge:=grownCap_ge w (vs.length+us.length) cap e
  refine ⟨grownCap w (vs.length+us.length) cap e,Builtin.zeroCells zv.cells (grownCap w (vs.length+us.length) cap e-(vs.length+us.length)),hge,?_,?_⟩
  ·rw [this]
   congr 2
   rw [wA]
   simp
  ·rw [Array.size_append,size_zeroCells,hz4,List.size_toArray,yp (sz:=P.cellsOf e),List.length_append,← Nat.add_mul]
   ·apply Nat.mul_le_mul_right;omega
   ·intro v hv
    rcases List.mem_append.1 hv with hv | hv
    ·exact (hve v hv).1
    ·exact (hue v hv).1
 have fresh:∀ (base:Option Addr) (cap:Nat) (vs:List Value),va=.slice base vs.length cap→uP w va vs→RA g w xs vs→cap<vs.length+us.length →
   ∃ val w' g',(Builtin.append_ #[t,t] ty #[va,vb]).run P w=.ok val w'∧Inv P g' (s.new (.tok (xs.length+ys.length))) w'∧Ext g w g' w'∧R g' w' (.sl (.tok s.nxt (P.cellsOf e)) (xs++ys)) val:=by
  intro base cap vs hva hvs hrv hcap
  have hve:=wG hex hrv
  have hvl:=zV hrv
  obtain ⟨N,extra,hN,hrun,hcs⟩:=grow base cap vs hva hvs hrv hcap
  obtain ⟨hI1,hE1⟩:=wV h (w.drawn+1)
  obtain ⟨g',k1,k2,k3⟩:=zeS (ty:=e) (c:=(flat (vs++us)).toArray++extra) (N:=N) (sz:=P.cellsOf e) hI1 (yN (yX hE1 _ _ hrv) (yX hE1 _ _ hru)) (by
   intro v hv
   rcases List.mem_append.1 hv with hv | hv
   ·exact (hve v hv).1
   ·exact (hue v hv).1) hpos Y1 (by rw [List.length_append];exact hN) hcs
  rw [List.length_append] at k1 k3
  refine ⟨_,_,g',hrun,?_,hE1.trans k2,?_⟩
  ·rw [hvl,hul];exact k1
  ·exact k3
 have freshNil:R g w (.sl .nil xs) va→∃ val w' g',(Builtin.append_ #[t,t] ty #[va,vb]).run P w=.ok val w'∧Inv P g' (s.new (.tok (xs.length+ys.length))) w'∧Ext g w g' w'∧R g' w' (.sl (.tok s.nxt (P.cellsOf e)) (xs++ys)) val:=by
  intro hx
  obtain ⟨e1,e2⟩:=ZO.1 hx
  exact fresh none 0 [] (by simpa using e1) (.inl ⟨none,0,e1,rfl⟩) (by rw [e2];simp [RA]) (by simpa using hm)
 have freshClip:R g w (.sl .clip xs) va→∃ val w' g',(Builtin.append_ #[t,t] ty #[va,vb]).run P w=.ok val w'∧Inv P g' (s.new (.tok (xs.length+ys.length))) w'∧Ext g w g' w'∧R g' w' (.sl (.tok s.nxt (P.cellsOf e)) (xs++ys)) val:=by
  intro hx
  rcases uZ hx Y1 rfl with ⟨b,o,cap,sz,vs,e1,h1,h2,h3,h4,h5,h6,h7,h8⟩ | ⟨_,rfl,x,e1⟩
  case inr=>exact fresh _ 0 [] (by simpa using e1) (.inl ⟨_,0,e1,rfl⟩) zaZ (by simpa using hm)
  have hl:=zV h8
  exact fresh _ cap vs zkT (.inr ⟨b,o,cap,zkT,h5⟩) h8 (by have:=h3 rfl;omega)
 unfold yQ at ha
 rw [if_neg hys] at ha
 cases k with
 | any=>cases ha
 | unk=>cases ha
 | nil=>cases ha;exact freshNil hx
 | clip=>cases ha;exact freshClip hx
 | unc =>
   cases ha
   rcases zdw.1 hx with hx | hx
   ·exact freshNil hx
   ·exact freshClip hx
 | tok tk zk =>
   simp only at ha
   split at ha
   case h_2=>cases ha
   rename_i L hL
   split at ha
   case isFalse=>cases ha
   rename_i hLz
   obtain ⟨rfl,rfl⟩:=hLz
   cases ha
   have hat:=h.at' tk
   rw [hL] at hat
   obtain ⟨_,b',E,ht1,ht2,ht3,ht4⟩:=hat
   have hlt:=h.toks_lt ht1
   have moved:∀ (base:Option Addr) (cap:Nat) (vs:List Value),va=.slice base vs.length cap→uP w va vs→RA g w xs vs→cap<vs.length+us.length →
     ∃ val w' g',(Builtin.append_ #[t,t] ty #[va,vb]).run P w=.ok val w'∧Inv P g' (s.set tk (some (.tok (xs.length+ys.length)))) w'∧Ext g w g' w'∧R g' w' (.sl (.tok tk (P.cellsOf e)) (xs++ys)) val:=by
    intro base cap vs hva hvs h8 hcap
    have hl:=zV h8
    have hve:=wG hex h8
    obtain ⟨N,extra,hN,hrun,hcs'⟩:=grow base cap vs hva hvs h8 hcap
    obtain ⟨hI1,hE1⟩:=wV h (w.drawn+1)
    obtain ⟨g',k1,k2,k3,k4,k5,k6⟩:=zdV (ty:=e) (E:=(vs.length+us.length)*P.cellsOf e) (c:=(flat (vs++us)).toArray++extra) hI1 hL ht1 hm
    have hE:=hE1.trans k2
    refine ⟨_,_,g',hrun,by rw [hul];exact k1,hE,?_⟩
    simp only [R]
    refine ⟨vs++us,yN (yX hE _ _ h8) (yX hE _ _ hru),?_⟩
    rw [yT rfl]
    simp only [yV,List.length_append]
    have hszs:∀ v∈vs++us,v.cells.size=P.cellsOf e:=by
     intro v hv
     rcases List.mem_append.1 hv with hv | hv
     ·exact (hve v hv).1
     ·exact (hue v hv).1
    refine .inl ⟨w.heap.size,0,N,P.cellsOf e,by rw [hl,hul],Y2,hpos,Y1,fun hp=>⟨k6,fun m hm'=>?_⟩,?_,hszs,?_⟩
    ·have k4':g'.lim w.heap.size=some ((vs.length+us.length)*P.cellsOf e):=k4
     rw [k4'] at hm';cases hm'
     rw [hl,hul];omega
    ·exact ZD { w with drawn:=w.drawn+1 } _ e (0,0) _ Y1
    ·intro t' z' e'
     cases e'
     refine ⟨rfl,by rw [k5];exact hlt,fun b2 L2 e2=>?_⟩
     have k3':g'.toks tk=some (w.heap.size,xs.length+us.length):=k3
     rw [k3'] at e2;cases e2
     refine ⟨Y2,fun _=>⟨rfl,?_,?_⟩⟩
     ·have k4':g'.lim w.heap.size=some ((vs.length+us.length)*P.cellsOf e):=k4
      rw [k4',hl];congr 1;omega
     ·have:=Vc { w with drawn:=w.drawn+1 } ((flat (vs++us)).toArray++extra) e (0,0)
      show 0+N*P.cellsOf e≤yJ _ w.heap.size
      rw [show w.heap.size=({ w with drawn:=w.drawn+1 }:World).heap.size from rfl,this]
      omega
   rcases uZ hx Y1 rfl with ⟨b,o,cap,sz,vs,e1,h1,h2,h3,h4,h5,h6,h7,h8⟩ | ⟨hodd,rfl,adr,e1⟩
   case inr=>exact moved _ 0 [] (by simpa using e1) (.inl ⟨_,0,e1,rfl⟩) zaZ (by simpa using hm)
   have hl:=zV h8
   obtain ⟨rfl,_,hlive⟩:=h7 tk _ rfl
   obtain ⟨_,hlv⟩:=hlive b' _ ht1
   obtain ⟨rfl,hlim,hcs⟩:=hlv rfl
   have hve:=wG hex h8
   by_cases hroom:xs.length+us.length≤cap
   ·
    have hfl:(flat us).length=us.length*P.cellsOf e:=yp fun v hv=>(hue v hv).1
    have hfit:o+xs.length*P.cellsOf e+(flat us).length≤yJ w b':=by
     rw [hfl]
     have:=Nat.mul_le_mul_right (P.cellsOf e) hroom
     rw [Nat.add_mul] at this
     omega
    obtain ⟨g',k1,k2,k3,k4,k5,k6⟩:=zdL (m:=us.length) (xs:=flat us) h hL ht1 hlim hm
    have hst:=wR P b' (flat us) w (o+xs.length*P.cellsOf e) 0 (by
     intro v hv
     simp only [flat,List.mem_flatMap] at hv
     obtain ⟨u,hu1,hu2⟩:=hv
     exact (hue u hu1).2 v hu2) ht4 (by simpa using hfit)
    have hrun:(Builtin.append_ #[t,t] ty #[va,vb]).run P w=.ok (.slice (some ⟨b',o,none⟩) (xs.length+us.length) cap) (yd w b' (o+xs.length*P.cellsOf e) (flat us)):=by
     rw [e1]
     exact UT hu hi hn (by rw [hsz];exact hfc) hroom (by rw [hsz];simpa using hst)
    refine ⟨_,_,g',hrun,by rw [hul];exact k1,k2,?_⟩
    simp only [R]
    refine ⟨vs++us,yN (yX k2 _ _ h8) (yX k2 _ _ hru),?_⟩
    rw [yT rfl]
    simp only [yV,List.length_append]
    refine .inl ⟨b',o,cap,P.cellsOf e,by rw [hul],Y2,hpos,Y1,fun hp=>⟨k6,fun m hm'=>?_⟩,?_,?_,?_⟩
    ·rw [k4] at hm';cases hm'
     rw [hfl,hul,Nat.add_mul];omega
    ·rw [wA,xa]
     have hvf:(flat vs).length=xs.length*P.cellsOf e:=by rw [yp h6,hl]
     refine ⟨fun j hj=>?_,?_⟩
     ·rw [yn _ _ _ _ _ _ Y2]
      exact h5 j hj
     ·rw [hvf]
      exact wj _ _ _ _ hfit
    ·intro v hv
     rcases List.mem_append.1 hv with hv | hv
     ·exact h6 v hv
     ·exact (hue v hv).1
    ·intro t' z' e'
     cases e'
     refine ⟨rfl,by rw [k5];exact hlt,fun b2 L2 e2=>?_⟩
     rw [k3] at e2;cases e2
     refine ⟨Y2,fun _=>⟨rfl,?_,?_⟩⟩
     ·rw [k4,hfl,Nat.add_mul];congr 1;omega
     ·rw [vU];exact hcs
   ·
    have hva:va=.slice (some ⟨b',o,none⟩) vs.length cap:=zkT
    exact moved _ cap vs hva (.inr ⟨b',o,cap,hva,h5⟩) h8 Y2
theorem Xu {P:Program} {g s w t ty e k k2 xs ys v s' va vb} (h:Inv P g s w) (hx:R g w (.sl k xs) va) (hy:R g w (.sl k2 ys) vb) (htd:td P t=.sl e) (hz:(zpv P e).isSome=true)
  (hex:xg P e xs) (hey:xg P e ys) (hb0:0<P.bytesOf e) (hlen:(xs.length+ys.length)*P.bytesOf e≤140737488355328) (ha:yQ P e k xs ys s=some (v,s')) :
  ∃ val w' g',(Builtin.append_ #[t,t] ty #[va,vb]).run P w=.ok val w'∧Inv P g' s' w'∧Ext g w g' w'∧R g' w' v val :=
 Vt h hx (zbw hy) htd hz hex hey hb0 hlen ha
section
variable {P:Program} {N:Nat} {k:List KI} {e:Env} {s:St} {rt:Env→St→Prop}
theorem zm.append {ops:Array Oper} {d:Option Nat} {x y:Operand} {t ty:TypeId} {pos:String} {af:Array Edge} {gd:Option (Nat × Bool)} {l:List Oper} {el:TypeId} {kx ky:SK} {xs ys:List PV} {v:PV} {s':St}
  (hg:guard? ops ⟨d,.call ⟨.builtin .append,#[x,y],#[t,t]⟩,ty,pos,af,gd⟩ e=some true) (hx:ev e x=.sl kx xs) (hy:ev e y=.sl ky ys) (htd:td P t=.sl el) (hz:(zpv P el).isSome=true)
  (hex:xg P el xs) (hey:xg P el ys) (hb0:0<P.bytesOf el) (hlen:(xs.length+ys.length)*P.bytesOf el≤140737488355328) (ha:yQ P el kx xs ys s=some (v,s'))
  (h:zm P N ops l k (e.put d v) s' rt):zm P N ops (⟨d,.call ⟨.builtin .append,#[x,y],#[t,t]⟩,ty,pos,af,gd⟩::l) k e s rt:=by
 refine zm.eff hg (fun g w a hI hE=>?_) h
 have h1:=xE hE x
 have h2:=xE hE y
 rw [hx] at h1
 rw [hy] at h2
 obtain ⟨val,w',g',r1,r2,r3,r4⟩:=Xu (ty:=ty) hI h1 h2 htd hz hex hey hb0 hlen ha
 refine ⟨val,w',g',.inl ?_,r2,r3,r4⟩
 unfold execOp
 simp only [resolve,ze,zo,invoke,builtin]
 have:Array.map a.eval #[x,y]= #[a.eval x,a.eval y]:=Y1
 rw [this,r1]
end
end Go.PM
namespace Go.PM
open Go
theorem zeB {size:Nat} (hs:0<size):∀ (vals:List Value) (k:Nat) (cells:Array Value),(∀ v∈vals,v.cells.size=size)→(k+vals.length)*size=cells.size →
  ∃ a:Array Value,Instr.fill (fun i=>some (i*size,size)) cells ((vals.zipIdx k).map fun p=>(p.2,p.1))=some a∧a.toList=cells.toList.take (k*size)++flat vals
 | [],k,cells,_,hc=>by
   refine ⟨cells,rfl,?_⟩
   simp only [List.length_nil,Nat.add_zero] at hc
   rw [hc,List.take_of_length_le Y1]
   simp [flat]
 | v::vals,k,cells,hv,hc=>by
   have h0:=hv v Y1
   simp only [List.length_cons] at hc
   have hmul:k*size+size≤cells.size:=by
    rw [← hc,show k+(vals.length+1)=(k+1)+vals.length from Y2,Nat.add_mul (k+1),Nat.succ_mul];omega
   simp only [List.zipIdx_cons,List.map_cons,Instr.fill]
   have hcond:¬ ((v.cells.size≠size||decide (k*size+v.cells.size>cells.size))=true):=by
    simp;omega
   rw [if_neg hcond]
   have hfold:=zfF (k*size) v.cells cells Y2
   have hsz:(v.cells.zipIdx.foldl (fun cs (c,j)=>cs.setIfInBounds (k*size+j) c) cs0)=(v.cells.zipIdx.foldl (fun cs (c,j)=>cs.setIfInBounds (k*size+j) c) cs0):=rfl
   have hlen:(v.cells.zipIdx.foldl (fun cs (c,j)=>cs.setIfInBounds (k*size+j) c) cells).size=cells.size:=by
    rw [← Array.length_toList,hfold,UP zof,Array.length_toList]
   obtain ⟨a,h1,h2⟩:=zeB hs vals (k+1) _ (fun u hu=>hv u (by simp [hu])) (by rw [hlen,← hc];congr 1;omega)
   refine ⟨a,h1,?_⟩
   rw [h2,hfold]
   have:flat (v::vals)=v.cells.toList++flat vals:=rfl
   rw [this,Nat.succ_mul,ZF,← List.append_assoc,← List.append_assoc]
   congr 1
   rw [List.take_append_of_le_length Vb,List.take_of_length_le Vb]
where
 cs0:Array Value:= #[]
def Yv (k:Nat):List (Nat × Operand)→Bool
 | []=>true
 |(i,_)::r=>i==k&&Yv (k+1) r
theorem zaa:∀ (k:Nat) (parts:List (Nat × Operand)) (f:Operand→Value),Yv k parts=true→parts.map (fun p=>(p.1,f p.2))=((parts.map fun p=>f p.2).zipIdx k).map fun p=>(p.2,p.1)
 | k,[],f,_=>rfl
 | k,(i,x)::r,f,h=>by
   simp only [Yv,Bool.and_eq_true,beq_iff_eq] at h
   simp only [List.map_cons,List.zipIdx_cons,List.cons.injEq,Prod.mk.injEq,and_true]
   exact ⟨h.1,zaa (k+1) r f h.2⟩
theorem zaV {P:Program} {w:World} {t e:TypeId} {len:Nat} {parts:Array (Nat × Operand)} {f:Operand→Value} (htd:td P t=.sl e) (hz:(zpv P e).isSome=true) (hseq:Yv 0 parts.toList=true) (hlen:parts.toList.length=len)
  (hmax:len*P.cellsOf e≤16777216) (hv:∀ p∈parts.toList,(f p.2).cells.size=P.cellsOf e) :
  (Instr.buildSlice t len (parts.map fun (i,x)=>(i,f x))).run P w=.ok (.slice (some ⟨w.heap.size,0,none⟩) len len) (World.newB w (.cells (flat (parts.toList.map fun p=>f p.2)).toArray e (0,0))):=by
 obtain ⟨z,hz⟩:=Option.isSome_iff_exists.1 hz
 obtain ⟨zv,hz1,hz2,hz3,hz4,hpos,hz6,hz7⟩:=yZ (P:=P) (w:=w) hz
 unfold Instr.buildSlice
 rw [ze,zh (xp htd)]
 simp only
 rw [ze,yx hpos]
 simp only
 rw [if_neg Y2]
 have hsz:∀ v∈parts.toList.map (fun p=>f p.2),v.cells.size=P.cellsOf e:=by
  intro v hv'
  obtain ⟨p,hp,rfl⟩:=List.mem_map.1 hv'
  exact hv p hp
 by_cases hl:len*P.cellsOf e=0
 ·have hl0:len=0:=by
   rcases Nat.mul_eq_zero.1 hl with h | h<;>omega
  have:parts= #[]:=by
   apply Array.ext'
   simp only
   exact List.length_eq_zero_iff.1 Y2
  subst this
  subst hl0
  simp [hl,Instr.fill,ze,zo,newRow,flat,newObj,Sem.run,Sem.bind,World.newB]
  rw [show (Array.range 0)= #[] from rfl,Array.map_empty]
 ·simp only [hl,if_false]
  obtain ⟨a,h1,h2⟩:=zeB hpos (parts.toList.map fun p=>f p.2) 0 ((Array.range (len*P.cellsOf e)).map (zv.cells[·%zv.cells.size]!)) hsz (by simp [hlen])
  have hp:(parts.map fun (i,x)=>(i,f x)).toList=(((parts.toList.map fun p=>f p.2).zipIdx 0).map fun p=>(p.2,p.1)):=by
   rw [Array.toList_map]
   exact zaa 0 parts.toList f hseq
  simp only [ze,hz1,zo,hp,h1]
  have ha:a=(flat (parts.toList.map fun p=>f p.2)).toArray:=by
   apply Array.ext'
   rw [h2];simp
  rw [ha]
  rfl
def wP (P:Program) (t:TypeId) (len:Nat) (parts:List (Nat × Operand)) (rv:Operand→PV):Option (List PV) :=
 match td P t with
 | .sl e=>if (zpv P e).isSome=true∧Yv 0 parts=true∧parts.length=len∧len*P.cellsOf e≤16777216∧(∀ p∈parts,(rv p.2).ok=true∧(rv p.2).cells.length=P.cellsOf e) then some (parts.map fun p=>rv p.2) else none
 | _=>none
theorem zc2 {P:Program} {g s w els vs} {sz:Nat} {ty:TypeId} (h:Inv P g s w) (hr:RA g w els vs) (hv:∀ v∈vs,v.cells.size=sz) (hsz:0<sz) :
  Inv P g s (World.newB w (.cells (flat vs).toArray ty (0,0)))∧Ext g w g (World.newB w (.cells (flat vs).toArray ty (0,0))) ∧
   R g (World.newB w (.cells (flat vs).toArray ty (0,0))) (.sl .clip els) (.slice (some ⟨w.heap.size,0,none⟩) els.length els.length):=by
 obtain ⟨h1,h2⟩:=zcm h (.cells (flat vs).toArray ty (0,0))
 refine ⟨h1,h2,?_⟩
 have hl:=zV hr
 have hnew:=h.newfree (Nat.le_refl w.heap.size)
 simp only [R]
 refine ⟨vs,yX h2 _ _ hr,?_⟩
 rw [yT rfl]
 refine .inl ⟨w.heap.size,0,els.length,sz,rfl,Nat.le_refl _,hsz,fun _=>rfl,fun hp=>⟨hnew.1,fun m hm=>by rw [hnew.2] at hm;cases hm⟩,ZD w _ ty (0,0) _ Y1,hv,fun t z e=>zbE⟩
theorem Xm {P:Program} {g s w rv t len els} {parts:Array (Nat × Operand)} {a:Act} (h:Inv P g s w) (hrv:∀ x,R g w (rv x) (a.eval x)) (hb:wP P t len parts.toList rv=some els) :
  ∃ val w',(Instr.buildSlice t len (parts.map fun (i,x)=>(i,a.eval x))).run P w=.ok val w'∧Inv P g s w'∧Ext g w g w'∧R g w' (.sl .clip els) val:=by
 unfold wP at hb
 split at hb
 case h_2=>cases hb
 rename_i e htd
 split at hb
 case isFalse=>cases hb
 rename_i hc
 obtain ⟨hz,hseq,hlen,hmax,hall⟩:=hc
 cases hb
 obtain ⟨z,hz'⟩:=Option.isSome_iff_exists.1 hz
 obtain ⟨_,_,_,_,_,hpos,_⟩:=yZ (P:=P) (w:=w) hz'
 have hvs:∀ p∈parts.toList,(a.eval p.2).cells.size=P.cellsOf e:=fun p hp=>by
  obtain ⟨k1,k2⟩:=hall p hp
  obtain ⟨_,_,c3⟩:=xS (hrv p.2) k1
  omega
 have hra:RA g w (parts.toList.map fun p=>rv p.2) (parts.toList.map fun p=>a.eval p.2):=by
  simpa [Function.comp_def] using WZ hrv (parts.toList.map (·.2))
 obtain ⟨k1,k2,k3⟩:=zc2 (ty:=e) h hra (by
  intro v hv
  obtain ⟨p,hp,rfl⟩:=List.mem_map.1 hv
  exact hvs p hp) hpos
 refine ⟨_,_,zaV htd hz hseq hlen hmax hvs,k1,k2,?_⟩
 simp only [List.length_map,hlen] at k3
 exact k3
section
variable {P:Program} {N:Nat} {k:List KI} {e:Env} {s:St} {rt:Env→St→Prop}
theorem zm.lit {ops:Array Oper} {d:Option Nat} {t ty:TypeId} {len:Nat} {parts:Array (Nat × Operand)} {pos:String} {af:Array Edge} {gd:Option (Nat × Bool)} {l:List Oper} {els:List PV}
  (hg:guard? ops ⟨d,.buildSlice t len parts,ty,pos,af,gd⟩ e=some true) (hb:wP P t len parts.toList (ev e)=some els) (h:zm P N ops l k (e.put d (.sl .clip els)) s rt) :
  zm P N ops (⟨d,.buildSlice t len parts,ty,pos,af,gd⟩::l) k e s rt:=by
 refine zm.eff hg (fun g w a hI hE=>?_) h
 obtain ⟨val,w',r1,r2,r3,r4⟩:=Xm hI (fun x=>xE hE x) hb
 refine ⟨val,w',g,.inl ?_,r2,r3,r4⟩
 unfold execOp
 simp only [ze,zo,r1]
theorem yY.cons {g w e tmps i p} (h:yY g w e tmps) (hp:R g w p (tmps.getD i undef)):yY g w ((i,p)::e) tmps:=by
 intro j
 simp only [Env.get]
 split
 ·rename_i hj;subst hj;exact hp
 ·exact h j
theorem Run.unk {c:Code} (i:Nat) {els:List PV} (hi:e.get i=.sl .unk els) (h1:els=[]→Run P N (.code c::k) ((i,.sl .nil [])::e) s rt) (h2:Run P N (.code c::k) ((i,.sl .any els)::e) s rt) :
  Run P N (.code c::k) e s rt:=by
 intro ok okc g w a hI hE hd hN
 have hv:=hE i
 rw [hi] at hv
 rcases XE.1 hv with hv | hv
 ·have:=(ZO.1 hv).2
  subst this
  exact h1 rfl ok okc g w a hI (hE.cons hv) hd hN
 ·exact h2 ok okc g w a hI (hE.cons hv) hd hN
theorem zm.unk {ops:Array Oper} {l:List Oper} (i:Nat) {els:List PV} (hi:e.get i=.sl .unk els) (h1:els=[]→zm P N ops l k ((i,.sl .nil [])::e) s rt) (h2:zm P N ops l k ((i,.sl .any els)::e) s rt) :
  zm P N ops l k e s rt:=by
 intro ok okk idx hidx g w a hI hE hd hN
 have hv:=hE i
 rw [hi] at hv
 rcases XE.1 hv with hv | hv
 ·have:=(ZO.1 hv).2
  subst this
  exact h1 rfl ok okk idx hidx g w a hI (hE.cons hv) hd hN
 ·exact h2 ok okk idx hidx g w a hI (hE.cons hv) hd hN
theorem zm.less {ops:Array Oper} {l:List Oper} (i:Nat) (p:PV) (hp:p=(e.get i).weak) (h:zm P N ops l k ((i,p)::e) s rt):zm P N ops l k e s rt:=by
 subst hp
 intro ok okk idx hidx g w a hI hE hd hN
 exact h ok okk idx hidx g w a hI (hE.cons (XZ _ _ (hE i))) hd hN
theorem zm.callw {ops:Array Oper} {d:Option Nat} {c:Call} {t:TypeId} {pos:String} {af:Array Edge} {gd:Option (Nat × Bool)} {l:List Oper} {f:FuncId} {args args':List PV}
  (hg:guard? ops ⟨d,.call c,t,pos,af,gd⟩ e=some true) (ha:vn c e=some (f,args)) (hw:PV.weaks args=args') (hc:zb P f=true)
  (h:za P f args' s fun r s'=>zm P N ops l k (e.put d r) s' rt):zm P N ops (⟨d,.call c,t,pos,af,gd⟩::l) k e s rt:=by
 subst hw
 refine zm.call_ hg (fun g w a hI hE=>?_) h
 obtain ⟨vs,h1,h2⟩:=wS (P:=P) (o:=⟨d,.call c,t,pos,af,gd⟩) rfl hE ha hc
 exact ⟨vs,h1,we _ _ h2⟩
theorem zm.callwG {ops:Array Oper} {d:Option Nat} {c:Call} {t:TypeId} {pos:String} {af:Array Edge} {j n:Nat} {want b:Bool} {l:List Oper} {f:FuncId} {args args':List PV} {v:PV}
  (hg:VE ops j want e=some (n,b)) (ha:Uf n b c e=some (f,args)) (hw:PV.weaks args=args') (hc:zb P f=true)
  (h:b=true→za P f args' s fun r s'=>r=v∧s'=s) (hr:zm P N ops l k (e.put d (.gd n b v)) s rt):zm P N ops (⟨d,.call c,t,pos,af,some (j,want)⟩::l) k e s rt:=by
 subst hw
 exact zm.callG hg ha hc (fun hb g w vs hI hR=>h hb g w vs hI (we _ _ hR)) hr
end
end Go.PM
namespace Go.PM
open Go
def zu (ops:Array Oper) (o:Oper):List Nat :=
 (o.op.operands.toList.filterMap fun | .tmp t=>some t | _=>none)++(match o.guard with | some (j,_)=>(zii ops j).toList | none=>[])
def DOp (P:Program) (ops:Array Oper) (o:Oper) (e:Env) (s:St) (v:PV) (s1:St):Prop :=
 ∀ g w (a:Act),Inv P g s w→(∀ j∈zu ops o,R g w (e.get j) (a.tmps.getD j undef))→∀ (K:Act→World→Prop) (Q:Exit→Act→World→Prop),
  (∀ val w' g',Inv P g' s1 w'→Ext g w g' w'→R g' w' v val→K (a.put o.dst val) w') →
  (if Region.wanted o (yielded ops a.tmps) then o.wp P a w K Q∨(o.asks P a w∧LetsOut Q) else K (a.put o.dst undef) w)
def uf:Op→Bool
 | .move _ | .assign _ | .pick .. | .build .. | .nilCheck _ | .binOp .. | .unOp .. | .convert .. | .makeInterface .. | .makeFunc .. | .fieldAddr .. | .field .. | .index .. | .extract .. | .typeAssert .. | .buildSlice ..=>false
 | _=>true
inductive Det (P:Program) (ops:Array Oper) (ws:List Nat):Nat→List Oper→Env→St→Env→St→Prop
 | nil {i e s}:Det P ops ws i [] e s e s
 | cons {i o l e s v s1 e' s'}:DOp P ops o e s v s1→(i∉ws→s1=s)→(uf o.op=false→i∉ws→∀ s,DOp P ops o e s v s) →
    Det P ops ws (i+1) l (e.put o.dst v) s1 e' s'→Det P ops ws i (o::l) e s e' s'
def bits (acc:List Nat) (o:Oper):Nat:=o.after.toList.foldl (fun m e=>if Region.binds .any e then m ||| 2 ^ e.on ||| acc.getD e.on 0 else m) 0
def zX:List Oper→List Nat→List Nat
 | [],acc=>acc
 | o::l,acc=>zX l (acc++[bits acc o])
def zQ (o:Oper) (j:Nat):Bool:=o.dst==some j
def YX (ops:Array Oper) (ws:List Nat) (i j:Nat) (oi oj:Oper):Bool :=
 (match oi.dst with | some d=>oj.dst==some d||(zu ops oj).contains d | none=>false) ||
 (match oj.dst with | some d=>(zu ops oi).contains d | none=>false) ||
 (ws.contains i&&(uf oj.op||ws.contains j))||(ws.contains j&&(uf oi.op||ws.contains i))
def YM (ops:Array Oper) (ws:List Nat):Bool :=
 let ms:=zX ops.toList []
 (List.range ops.size).all fun j=>match ops[j]? with
   | none=>false
   | some oj=>(oj.after.toList.all fun e=> !Region.binds .any e||decide (e.on<j)) &&
     (List.range j).all fun i=>match ops[i]? with
       | none=>false
       | some oi=> !YX ops ws i j oi oj||(ms.getD j 0).testBit i
def DC (ops:Array Oper) (L:Nat→Prop):Prop:=∀ (k:Nat) (o:Oper),ops[k]? =some o→L k→∀ e∈o.after,Region.binds .any e=true→L e.on
theorem zj3 {acc:List Nat} {o:Oper} {L:Nat→Prop} (hacc:∀ k,L k→∀ b,(acc.getD k 0).testBit b=true→L b) (he:∀ e∈o.after,Region.binds .any e=true→L e.on) :
  ∀ b,(bits acc o).testBit b=true→L b:=by
 have key:∀ (es:List Edge) (m:Nat),(∀ e∈es,Region.binds .any e=true→L e.on)→(∀ b,m.testBit b=true→L b) →
   ∀ b,(es.foldl (fun m e=>if Region.binds .any e then m ||| 2 ^ e.on ||| acc.getD e.on 0 else m) m).testBit b=true→L b:=by
  intro es
  induction es with
  | nil=>exact fun m _ h=>h
  | cons e es ih =>
    intro m h1 h2
    rw [List.foldl_cons]
    refine ih _ (fun x hx=>h1 x (by simp [hx])) ?_
    intro b hb
    split at hb
    ·rename_i hbind
     have hL:=h1 e Y1 hbind
     rw [Nat.testBit_or,Nat.testBit_or,Bool.or_eq_true,Bool.or_eq_true] at hb
     rcases hb with (hb | hb) | hb
     ·exact h2 b hb
     ·rw [Nat.testBit_two_pow] at hb
      have:e.on=b:=by simpa using hb
      exact this ▸ hL
     ·exact hacc e.on hL b hb
    ·exact h2 b hb
 exact key o.after.toList 0 (fun e h=>he e ziG) (fun b h=>by simp at h)
theorem ur {ops:Array Oper} {L:Nat→Prop} (hdc:DC ops L):∀ (l:List Oper) (acc:List Nat),((acc++l.map fun _=>0).length=ops.size)→(∀ (j:Nat) (o:Oper),l[j]? =some o→ops[acc.length+j]? =some o) →
  (∀ (k:Nat) (o:Oper),k<acc.length→ops[k]? =some o→(∀ e∈o.after,Region.binds .any e=true→L e.on)→∀ b,(acc.getD k 0).testBit b=true→L b) →
  ∀ (k:Nat) (o:Oper),ops[k]? =some o→(∀ e∈o.after,Region.binds .any e=true→L e.on)→∀ b,((zX l acc).getD k 0).testBit b=true→L b
 | [],acc,hlen,_,h,k,o,hk,he,b,hb=>by
   refine h k o ?_ hk he b hb
   have:=(Array.getElem?_eq_some_iff.1 hk).1
   have:=hlen
   simp at this
   omega
 | o::l,acc,hlen,hl,h,k,o',hk,he,b,hb=>by
   refine ur hdc l (acc++[bits acc o]) (by have:=hlen;simp at this ⊢;omega) ?_ ?_ k o' hk he b hb
   ·intro j x hx
    have:=hl (j+1) x (by simpa using hx)
    rw [← this];congr 1;simp;omega
   ·intro k x hk' hx hex b hb
    simp only [List.length_append,List.length_singleton] at hk'
    by_cases hlt:k<acc.length
    ·rw [List.getD_eq_getElem?_getD,List.getElem?_append_left hlt,← List.getD_eq_getElem?_getD] at hb
     exact h k x hlt hx hex b hb
    ·have:k=acc.length:=Y2
     subst this
     have h0:=hl 0 o Y1
     rw [Nat.add_zero,hx] at h0
     cases h0
     rw [List.getD_eq_getElem?_getD,List.getElem?_append_right (Nat.le_refl _)] at hb
     simp at hb
     refine zj3 (L:=L) ?_ hex b hb
     intro m hm b' hb'
     by_cases hm':m<acc.length
     ·cases hom:ops[m]? with
      | none =>
        have:=hlen
        simp at this
        have:=Array.getElem?_eq_none_iff.1 hom
        omega
      | some om=>exact h m om hm' hom (hdc m om hom hm) b' hb'
     ·rw [List.getD_eq_getElem?_getD,List.getElem?_eq_none Y2] at hb'
      simp at hb'
def zH (p l:Nat→Bool):Nat→Option Nat
 | 0=>none
 | m+1=>if p m&&l m then some m else zH p l m
theorem ya {p l l':Nat→Bool}:∀ {n:Nat},(∀ k,k<n→p k=true→l k=l' k)→zH p l n=zH p l' n
 | 0,_=>rfl
 | n+1,h=>by
   unfold zH
   have ih:=ya (n:=n) (p:=p) (l:=l) (l':=l') fun k hk=>h k Y2
   cases hp:p n with
   | false=>simp [ih]
   | true=>rw [h n Y2 hp,ih]
theorem ul {p l:Nat→Bool} {i:Nat}:∀ {n:Nat},i≤n→(∀ k,i≤k→k<n→(p k&&l k)=false)→zH p l n=zH p l i
 | 0,h,_=>by have:i=0:=by omega
             subst this;rfl
 | n+1,h,hk=>by
   by_cases hi:i=n+1
   ·subst hi;rfl
   ·rw [zH,hk n Y2 Y2]
    simp only [Bool.false_eq_true,if_false]
    exact ul Y2 fun k h1 h2=>hk k h1 Y2
theorem Zv {p l:Nat→Bool} {i n:Nat} (hi:i<n) (hp:p i=true) (hl:l i=true) (h:∀ k,i<k→k<n→(p k&&l k)=false):zH p l n=some i:=by
 rw [ul (i:=i+1) Y2 (fun k h1 h2=>h k Y2 h2)]
 simp [zH,hp,hl]
def xH (ops:Array Oper) (j k:Nat):Bool:=((ops[k]?).map (zQ · j)).getD false
theorem yr {ops:Array Oper} {j k:Nat} {o:Oper} (h:ops[k]? =some o):xH ops j k=zQ o j:=by simp [xH,h]
theorem zpZ {p:Prop} (h:p:=by rw [hSget _ (Nat.le_refl _),← ya (l:=fun k=>listed.getD k false) (fun k hk _=>hall' k hk),← hstore];exact hI):p:=h
theorem Y3 {p:Prop} (h:p:=by
 refine hQ g w a ?_ ?_ hX hd hn
 ·exact zpZ
 ·intro j
  rw [hEget _ (Nat.le_refl _) j,← ya (l:=fun k=>listed.getD k false) (fun k hk _=>hall' k hk)];exact hslots j):p:=h
theorem Y4 {p:Prop} (h:p:=by
 exact
                 (fun k hk hkn=>by
  by_cases e:k=i
  ·subst e;rw [hnl];simp
  ·exact hb k Y2 hkn)):p:=h
theorem Y62 {p:Prop} (h:p:=by subst e;rw [if_pos rfl];simp [hsz,hlt]):p:=h
theorem Y5 {p:Prop} (h:p:=by
  -- one less
 have hgt:∀ k,(listed.setIfInBounds i true).getD k true=if k=i then true else listed.getD k true:=by
  intro k
  by_cases e:k=i
  ·exact Y62
  ·rw [if_neg e];exact getD_set_ne true (fun x=>e x.symm)
 have hfil:(List.range ops.size).filter (fun k=> !(listed.setIfInBounds i true).getD k true)=((List.range ops.size).filter fun k=> !listed.getD k true).filter (· != i):=by
  rw [List.filter_filter]
  apply List.filter_congr
  intro k _
  rw [hgt]
  by_cases e:k=i
  ·subst e;simp
  ·simp [e]
 rw [hfil,← List.Nodup.erase_eq_filter (List.Pairwise.filter _ List.nodup_range)]
 have hmem:i∈(List.range ops.size).filter (fun k=> !listed.getD k true):=by
  rw [List.mem_filter]
  exact ⟨List.mem_range.2 hlt,by rw [h0];rfl⟩
 rw [List.length_erase_of_mem hmem]
 omega):p:=h
theorem Y6 {p:Prop} (h:p:=by
 intro k ok hk hlk e he hb
 show (listed.setIfInBounds i true).getD e.on false=true
 have hlk:(listed.setIfInBounds i true).getD k false=true:=hlk
 rw [hgd] at hlk ⊢
 by_cases e1:k=i
 ·subst e1
  rw [ho] at hk;cases hk
  split
  ·rfl
  ·exact hedges e he hb
 ·rw [if_neg e1] at hlk
  split
  ·rfl
  ·exact hdc k ok hk hlk e he hb):p:=h
theorem Y63 {p:Prop} (h:p:=by
 rw [if_neg hjd,ih Y2 j]
 have:(some d==some j)=false:=by simp;exact fun e=>hjd e.symm
 rw [this];simp):p:=h
theorem Y64 {p:Prop} (h:p:=by rw [if_neg e];exact getD_set_ne false (fun x=>e x.symm)):p:=h
theorem zmj {p:Prop} (h:p:=by
 have:ws.contains i=true:=by simpa using hw
 rw [this];simp):p:=h
theorem zmc {p:Prop} (h:p:=by exact (fun k h1 h2=>by rw [hgd',if_neg Y2];exact hcs.2 k h1 h2)):p:=h
theorem zki {p:Prop} (h:p:=by exact (fun j o h=>ziG)):p:=h
theorem zpw {p:Prop} (h:p:=by
 intro j
 rw [hEget _ (Nat.le_refl _) j,← ya (l:=fun k=>listed.getD k false) (fun k hk _=>hall' k hk)];exact hslots j):p:=h
theorem zpg {p:Prop} (h:p:=by
 intro k ok hk hki hp
 rw [yr hk] at hp
 simp only [zQ,beq_iff_eq] at hp
 unfold YX;rw [hp];simp [hdst]):p:=h
theorem zoL {p:Prop} (h:p:=by
 intro k ok hk hki hp
 rw [yr hk] at hp
 simp only [zQ,beq_iff_eq] at hp
 unfold YX;rw [hdst];simp [hp]):p:=h
theorem znX {p:Prop} (h:p:=by
 right
 have:¬ (i∉ws):=fun h2=>hfree ⟨h1,h2⟩
 simpa using this):p:=h
theorem zpU {p:Prop} (h:p:=by
 intro k ok hk hki hp
 unfold YX
 rcases htw with h | h<;>simp only [hp,h,Bool.true_or,Bool.or_true,Bool.and_self]):p:=h
theorem zoJ {p:Prop} (h:p:=by
 intro k ok hk hki hp
 unfold YX
 rcases htw with h | h<;>simp only [hp,h,Bool.true_or,Bool.or_true,Bool.and_self]):p:=h
theorem zlu {p:Prop} (h:p:=by exact (fun k o h=>by simp at h)):p:=h
theorem zkX {p:Prop} (h:p:=by rw [zeG];exact hn):p:=h
theorem znp {p:Prop} (h:p:=by exact (fun k h1 h2=>by rw [hgd,if_neg Y2];exact this k h1 h2)):p:=h
theorem znJ {p:Prop} (h:p:=by rw [hstore,hcs.1];exact (hSget i Y2).symm):p:=h
theorem zi7 {p:Prop} (h:p:=by simpa using hsz):p:=h
theorem zg1 {p:Prop} (h:p:=by simpa using hp):p:=h
theorem any_order {P:Program} {ops:Array Oper} {ws:List Nat} {N:Nat} {e0:Env} {Q:Exit→Act→World→Prop} {V:Nat→PV} {S:Nat→St} {E:Nat→Env} {g0:G} {w0:World}
  (hok:YM ops ws=true) (hN:∀ (i:Nat) (o:Oper),ops[i]? =some o→zbu N o=true)
  (hE0:E 0=e0) (hE:∀ (i:Nat) (o:Oper),ops[i]? =some o→E (i+1)=(E i).put o.dst (V i))
  (hS:∀ (i:Nat) (o:Oper),ops[i]? =some o→i∉ws→S (i+1)=S i)
  (hD:∀ (i:Nat) (o:Oper),ops[i]? =some o→DOp P ops o (E i) (S i) (V i) (S (i+1)))
  (hF:∀ (i:Nat) (o:Oper),ops[i]? =some o→uf o.op=false→i∉ws→∀ s,DOp P ops o (E i) s (V i) s)
  (hQ:∀ g w (a:Act),Inv P g (S ops.size) w→yY g w (E ops.size) a.tmps→Ext g0 w0 g w→a.defers=[]→a.tmps.size=N→Q .normal a w) :
  ∀ (fuel:Nat) (listed:Array Bool) (g:G) (s:St) (w:World) (a:Act),listed.size=ops.size →
   ((List.range ops.size).filter fun k=> !listed.getD k true).length≤fuel→DC ops (fun k=>listed.getD k false=true) →
   Inv P g s w→Ext g0 w0 g w→a.defers=[]→a.tmps.size=N →
   (∀ j,R g w (match zH (xH ops j) (fun k=>listed.getD k false) ops.size with | none=>e0.get j | some k=>V k) (a.tmps.getD j undef)) →
   s=(match zH (fun k=>ws.contains k) (fun k=>listed.getD k false) ops.size with | none=>S 0 | some k=>S (k+1)) →
   wpAny P .any ops Q fuel listed a w:=by
 have hpair:∀ (i j:Nat) (oi oj:Oper),i<j→ops[i]? =some oi→ops[j]? =some oj→YX ops ws i j oi oj=true→((zX ops.toList []).getD j 0).testBit i=true:=by
  intro i j oi oj hij h1 h2 hc
  unfold YM at hok
  have:=List.all_eq_true.1 hok j (List.mem_range.2 (Array.getElem?_eq_some_iff.1 h2).1)
  rw [h2] at this
  simp only [Bool.and_eq_true] at this
  have:=List.all_eq_true.1 this.2 i (List.mem_range.2 hij)
  rw [h1] at this
  simp only [hc,Bool.not_true,Bool.false_or] at this
  exact this
 have hedge:∀ (j:Nat) (oj:Oper),ops[j]? =some oj→∀ e∈oj.after,Region.binds .any e=true→e.on<j:=by
  intro j oj h2 e he hb
  unfold YM at hok
  have:=List.all_eq_true.1 hok j (List.mem_range.2 (Array.getElem?_eq_some_iff.1 h2).1)
  rw [h2] at this
  simp only [Bool.and_eq_true] at this
  have:=List.all_eq_true.1 this.1 e (by simpa using he)
  simpa [hb] using this
 have hmask:∀ (L:Nat→Prop),DC ops L→∀ (k:Nat) (o:Oper),ops[k]? =some o→(∀ e∈o.after,Region.binds .any e=true→L e.on)→∀ b,((zX ops.toList []).getD k 0).testBit b=true→L b :=
  fun L hdc=>ur hdc ops.toList [] Y1 zki zlu
 have hEget:∀ i,i≤ops.size→∀ j,(E i).get j=(match zH (xH ops j) (fun _=>true) i with | none=>e0.get j | some k=>V k):=by
  intro i
  induction i with
  | zero=>intro _ j;rw [hE0];rfl
  | succ i ih =>
    intro hi j
    obtain ⟨o,ho⟩:∃ o,ops[i]? =some o:=⟨ops[i]'Y2,Y1⟩
    rw [hE i o ho]
    unfold zH
    rw [yr ho,Bool.and_true]
    unfold zQ
    cases hd:o.dst with
    | none=>simp only [Env.put];rw [ih Y2 j];simp
    | some d =>
      simp only [Env.put,Env.get]
      by_cases hjd:j=d
      ·subst hjd;simp
      ·exact Y63
 have hSget:∀ i,i≤ops.size→S i=(match zH (fun k=>ws.contains k) (fun _=>true) i with | none=>S 0 | some k=>S (k+1)):=by
  intro i
  induction i with
  | zero=>intro _;rfl
  | succ i ih =>
    intro hi
    obtain ⟨o,ho⟩:∃ o,ops[i]? =some o:=⟨ops[i]'Y2,Y1⟩
    unfold zH
    by_cases hw:i∈ws
    ·exact zmj
    ·have:ws.contains i=false:=by simpa using hw
     rw [this,hS i o ho hw,ih Y2];simp
 intro fuel
 induction fuel with
 | zero =>
   intro listed g s w a hsz hcnt hdc hI hX hd hn hslots hstore
   have hall:∀ k,k<ops.size→listed.getD k true=true:=by
    intro k hk
    have:(List.range ops.size).filter (fun k=> !listed.getD k true)=[]:=List.length_eq_zero_iff.1 Y2
    have:=List.filter_eq_nil_iff.1 this k (List.mem_range.2 hk)
    simpa using this
   have hall':∀ k,k<ops.size→listed.getD k false=true:=by
    intro k hk
    have:=hall k hk
    rw [Array.getD_eq_getD_getElem?,Array.getElem?_eq_getElem Y2] at this ⊢
    exact this
   refine ⟨?_,?_⟩
   ·cases hr:Region.ready .any ops listed with
    | nil=>rfl
    | cons x xs =>
      have hx:x∈Region.ready .any ops listed:=by rw [hr];simp
      obtain ⟨h0,o,ho,_⟩:=mem_ready.1 hx
      rw [hall x (Array.getElem?_eq_some_iff.1 ho).1] at h0
      cases h0
   ·exact Y3
 | succ fuel ih =>
   intro listed g s w a hsz hcnt hdc hI hX hd hn hslots hstore
   refine ⟨?_,?_⟩
   ·intro hr
    have hall:∀ m k,k≤m→k<ops.size→listed.getD k false=true:=by
     intro m
     induction m with
     | zero =>
       intro k hk hlt
       have:k=0:=Y2
       subst this
       exact ready_all hr hedge hsz (fun i hi=>Y2) hlt
     | succ m ihm =>
       intro k hk hlt
       exact ready_all hr hedge hsz (fun i hi=>ihm i Y2 Y2) hlt
    have hall':∀ k,k<ops.size→listed.getD k false=true:=fun k hk=>hall k k (Nat.le_refl _) hk
    refine hQ g w a ?_ ?_ hX hd hn
    ·exact zpZ
    ·exact zpw
   ·intro i hi
    obtain ⟨h0,o,ho,hedges⟩:=mem_ready.1 hi
    have hlt:=(Array.getElem?_eq_some_iff.1 ho).1
    have hnl:listed.getD i false=false:=by
     rw [Array.getD_eq_getD_getElem?,Array.getElem?_eq_getElem Y2] at h0 ⊢
     exact h0
    have hanc:=hmask _ hdc i o ho hedges
    have before:∀ (k:Nat) (ok:Oper),ops[k]? =some ok→k<i→YX ops ws k i ok o=true→listed.getD k false=true :=
     fun k ok hk hki hc=>hanc k (hpair k i ok o hki hk ho hc)
    have behind:∀ (k:Nat) (ok:Oper),ops[k]? =some ok→i<k→YX ops ws i k o ok=true→listed.getD k false=false:=by
     intro k ok hk hki hc
     cases hlk:listed.getD k false with
     | false=>rfl
     | true =>
       have this:listed.getD i false=true:=hmask _ hdc k ok hk (hdc k ok hk hlk) i (hpair i k o ok hki ho hk hc)
       rw [hnl] at this;cases this
    have cell:∀ p:Nat→Bool,(∀ (k:Nat) (ok:Oper),ops[k]? =some ok→k<i→p k=true→YX ops ws k i ok o=true)→(∀ (k:Nat) (ok:Oper),ops[k]? =some ok→i<k→p k=true→YX ops ws i k o ok=true) →
      zH p (fun k=>listed.getD k false) ops.size=zH p (fun _=>true) i∧∀ k,i<k→k<ops.size→(p k&&listed.getD k false)=false:=by
     intro p h1 h2
     have hb:∀ k,i<k→k<ops.size→(p k&&listed.getD k false)=false:=by
      intro k hk hkn
      cases hp:p k with
      | false=>rfl
      | true =>
        obtain ⟨ok,hok'⟩:∃ o,ops[k]? =some o:=⟨ops[k]'Y2,Y1⟩
        rw [behind k ok hok' hk (h2 k ok hok' hk hp)];rfl
     refine ⟨?_,hb⟩
     rw [ul (i:=i) Y2 Y4]
     refine ya fun k hk hp=>?_
     obtain ⟨ok,hok'⟩:∃ o,ops[k]? =some o:=⟨ops[k]'Y2,Y1⟩
     exact before k ok hok' hk (h1 k ok hok' hk hp)
    have hsl:∀ j∈zu ops o,R g w ((E i).get j) (a.tmps.getD j undef):=by
     intro j hj
     have:=(cell (xH ops j) (by
      intro k ok hk hki hp
      rw [yr hk] at hp
      simp only [zQ,beq_iff_eq] at hp
      unfold YX
      rw [hp]
      simp [hj]
     ) (by
      intro k ok hk hki hp
      rw [yr hk] at hp
      simp only [zQ,beq_iff_eq] at hp
      unfold YX
      rw [hp]
      simp [hj]
     )).1
     have h3:=hslots j
     rw [this] at h3
     rw [hEget i Y2 j]
     exact h3
    have rest:∀ (s':St) val w' g',s'=(match zH (fun k=>ws.contains k) (fun k=>(listed.setIfInBounds i true).getD k false) ops.size with | none=>S 0 | some k=>S (k+1)) →
      Inv P g' s' w'→Ext g w g' w'→R g' w' (V i) val→wpAny P .any ops Q fuel (listed.setIfInBounds i true) (a.put o.dst val) w':=by
     intro s' val w' g' hs' hI' hX' hR'
     have hgd:∀ k,(listed.setIfInBounds i true).getD k false=if k=i then true else listed.getD k false:=by
      intro k
      by_cases e:k=i
      ·exact Y62
      ·exact Y64
     refine ih _ g' s' w' _ zi7 ?_ ?_ hI' (hX.trans hX') Y58 zkX ?_ hs'
     ·exact Y5
     ·exact Y6
     ·intro j
      have hokd:=vV (hN i o ho)
      by_cases hw:zQ o j=true
      ·have hdst:o.dst=some j:=by simpa [zQ] using hw
       have:=(cell (xH ops j) zpg zoL).2
       rw [Zv (i:=i) hlt (by rw [yr ho];exact hw) (by rw [hgd];simp) znp]
       simp only [Act.put,hdst]
       have hjN:j<a.tmps.size:=by rw [hn];exact hokd j hdst
       rw [Array.getD_eq_getD_getElem?,Array.getElem?_setIfInBounds]
       simp [hjN,hR']
      ·have:zH (xH ops j) (fun k=>(listed.setIfInBounds i true).getD k false) ops.size=zH (xH ops j) (fun k=>listed.getD k false) ops.size:=by
        refine ya fun k hk hp=>?_
        rw [hgd,if_neg]
        rintro rfl
        rw [yr ho] at hp
        exact hw hp
       rw [this]
       have h3:=Xi hX' _ _ (hslots j)
       cases hdst:o.dst with
       | none=>exact h3
       | some d =>
         have hjd:d≠j:=by
          rintro rfl
          exact hw (by simp [zQ,hdst])
         simp only [Act.put]
         rw [Array.getD_eq_getD_getElem?,Array.getElem?_setIfInBounds,if_neg hjd,← Array.getD_eq_getD_getElem?]
         exact h3
    have hgd':∀ k,(listed.setIfInBounds i true).getD k false=if k=i then true else listed.getD k false:=by
     intro k
     by_cases e:k=i
     ·exact Y62
     ·exact Y64
    unfold wpOp
    rw [ho]
    simp only
    by_cases hfree:uf o.op=false∧i∉ws
    ·
     refine hF i o ho hfree.1 hfree.2 s g w a hI hsl _ _ fun val w' g' k1 k2 k3=>rest s val w' g' ?_ k1 k2 k3
     rw [hstore]
     have:zH (fun k=>ws.contains k) (fun k=>(listed.setIfInBounds i true).getD k false) ops.size=zH (fun k=>ws.contains k) (fun k=>listed.getD k false) ops.size:=by
      refine ya fun k hk hp=>?_
      rw [hgd',if_neg]
      rintro rfl
      exact hfree.2 zg1
     rw [this]
    ·
     have htw:uf o.op=true∨ws.contains i=true:=by
      by_cases h1:uf o.op=false
      ·exact znX
      ·left;simpa using h1
     have hcs:=cell (fun k=>ws.contains k) zpU zoJ
     have hs:s=S i:=znJ
     subst hs
     refine hD i o ho g w a hI hsl _ _ fun val w' g' k1 k2 k3=>rest _ val w' g' ?_ k1 k2 k3
     by_cases hw:ws.contains i=true
     ·rw [Zv (i:=i) hlt hw (by rw [hgd'];simp) zmc]
     ·have hni:i∉ws:=by simpa using hw
      have:zH (fun k=>ws.contains k) (fun k=>(listed.setIfInBounds i true).getD k false) ops.size=zH (fun k=>ws.contains k) (fun k=>listed.getD k false) ops.size:=by
       refine ya fun k hk hp=>?_
       rw [hgd',if_neg]
       rintro rfl
       exact hni zg1
      rw [this,← hstore]
      exact hS i o ho hni
where
 ready_all {ops:Array Oper} {listed:Array Bool} (hr:Region.ready .any ops listed=[]) (hedge:∀ (j:Nat) (oj:Oper),ops[j]? =some oj→∀ e∈oj.after,Region.binds .any e=true→e.on<j) (hsz:listed.size=ops.size) {k:Nat}
   (hb:∀ i,i<k→listed.getD i false=true) (hk:k<ops.size):listed.getD k false=true:=by
  obtain ⟨o,ho⟩:∃ o,ops[k]? =some o:=⟨ops[k]'Y2,Y1⟩
  cases h:listed.getD k false with
  | true=>rfl
  | false =>
    have h':listed.getD k true=false:=by
     rw [Array.getD_eq_getD_getElem?,Array.getElem?_eq_getElem Y2] at h ⊢
     exact h
    have:k∈Region.ready .any ops listed:=mem_ready.2 ⟨h',o,ho,fun e he hbd=>hb e.on (hedge k o ho e he hbd)⟩
    rw [hr] at this
    simp at this
end Go.PM

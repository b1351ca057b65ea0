import Derived.Test.YtdeiiaohdcpecaaGreatB0
import Derived.Orders
import Derived.Attr
import Derived.OpenShut
import Derived.SizedLaws
import Derived.ChangeOld
import Derived.WalkKit
import Derived.ProofKit
import Derived.KernelRfl
set_option linter.unusedVariables false
set_option linter.unusedSimpArgs false
namespace Go.PM
open Go
def slotsOf (ops:Array Oper) (o:Oper):List Nat :=
 (o.op.operands.toList.filterMap fun | .tmp t=>some t | _=>none)++(match o.guard with | some (j,_)=>(gslot ops j).toList | none=>[])
def DOp (P:Program) (ops:Array Oper) (o:Oper) (e:Env) (s:St) (v:PV) (s1:St):Prop :=
 ∀ g w (a:Act),Inv P g s w→(∀ j∈slotsOf ops o,R g w (e.get j) (a.tmps.getD j undef))→∀ (K:Act→World→Prop) (Q:Exit→Act→World→Prop),
  (∀ val w' g',Inv P g' s1 w'→Ext g w g' w'→R g' w' v val→K (a.put o.dst val) w') →
  (if Region.wanted o (yielded ops a.tmps) then o.wp P a w K Q∨(o.asks P a w∧LetsOut Q) else K (a.put o.dst undef) w)
def touch:Op→Bool
 | .move _ | .assign _ | .pick .. | .build .. | .nilCheck _ | .binOp .. | .unOp .. | .convert .. | .makeInterface .. | .makeFunc .. | .fieldAddr .. | .field .. | .index .. | .extract .. | .typeAssert .. | .buildSlice ..=>false
 | _=>true
inductive Det (P:Program) (ops:Array Oper) (ws:List Nat):Nat→List Oper→Env→St→Env→St→Prop
 | nil {i e s}:Det P ops ws i [] e s e s
 | cons {i o l e s v s1 e' s'}:DOp P ops o e s v s1→(i∉ws→s1=s)→(touch o.op=false→i∉ws→∀ s,DOp P ops o e s v s) →
    Det P ops ws (i+1) l (e.put o.dst v) s1 e' s'→Det P ops ws i (o::l) e s e' s'
def bits (acc:List Nat) (o:Oper):Nat:=o.after.toList.foldl (fun m e=>if Region.binds .any e then m ||| 2 ^ e.on ||| acc.getD e.on 0 else m) 0
def masks:List Oper→List Nat→List Nat
 | [],acc=>acc
 | o::l,acc=>masks l (acc++[bits acc o])
def writesSlot (o:Oper) (j:Nat):Bool:=o.dst==some j
def conf (ops:Array Oper) (ws:List Nat) (i j:Nat) (oi oj:Oper):Bool :=
 (match oi.dst with | some d=>oj.dst==some d||(slotsOf ops oj).contains d | none=>false) ||
 (match oj.dst with | some d=>(slotsOf ops oi).contains d | none=>false) ||
 (ws.contains i&&(touch oj.op||ws.contains j))||(ws.contains j&&(touch oi.op||ws.contains i))
def drawOK (ops:Array Oper) (ws:List Nat):Bool :=
 let ms:=masks ops.toList []
 (List.range ops.size).all fun j=>match ops[j]? with
   | none=>false
   | some oj=>(oj.after.toList.all fun e=> !Region.binds .any e||decide (e.on<j)) &&
     (List.range j).all fun i=>match ops[i]? with
       | none=>false
       | some oi=> !conf ops ws i j oi oj||(ms.getD j 0).testBit i
def DC (ops:Array Oper) (L:Nat→Prop):Prop:=∀ (k:Nat) (o:Oper),ops[k]? =some o→L k→∀ e∈o.after,Region.binds .any e=true→L e.on
theorem bits_spec {acc:List Nat} {o:Oper} {L:Nat→Prop} (hacc:∀ k,L k→∀ b,(acc.getD k 0).testBit b=true→L b) (he:∀ e∈o.after,Region.binds .any e=true→L e.on) :
  ∀ b,(bits acc o).testBit b=true→L b:=by
 have key:∀ (es:List Edge) (m:Nat),(∀ e∈es,Region.binds .any e=true→L e.on)→(∀ b,m.testBit b=true→L b) →
   ∀ b,(es.foldl (fun m e=>if Region.binds .any e then m ||| 2 ^ e.on ||| acc.getD e.on 0 else m) m).testBit b=true→L b:=by
  intro es
  induction es with
  | nil=>exact fun m _ h=>h
  | cons e es ih =>
    intro m h1 h2
    rw [List.foldl_cons]
    refine ih _ (fun x hx=>h1 x (by simp [hx])) ?_
    intro b hb
    split at hb
    ·rename_i hbind
     have hL:=h1 e Y1 hbind
     rw [Nat.testBit_or,Nat.testBit_or,Bool.or_eq_true,Bool.or_eq_true] at hb
     rcases hb with (hb | hb) | hb
     ·exact h2 b hb
     ·rw [Nat.testBit_two_pow] at hb
      have:e.on=b:=by simpa using hb
      exact this ▸ hL
     ·exact hacc e.on hL b hb
    ·exact h2 b hb
 exact key o.after.toList 0 (fun e h=>he e Y170) (fun b h=>by simp at h)
theorem masks_spec {ops:Array Oper} {L:Nat→Prop} (hdc:DC ops L):∀ (l:List Oper) (acc:List Nat),((acc++l.map fun _=>0).length=ops.size)→(∀ (j:Nat) (o:Oper),l[j]? =some o→ops[acc.length+j]? =some o) →
  (∀ (k:Nat) (o:Oper),k<acc.length→ops[k]? =some o→(∀ e∈o.after,Region.binds .any e=true→L e.on)→∀ b,(acc.getD k 0).testBit b=true→L b) →
  ∀ (k:Nat) (o:Oper),ops[k]? =some o→(∀ e∈o.after,Region.binds .any e=true→L e.on)→∀ b,((masks l acc).getD k 0).testBit b=true→L b
 | [],acc,hlen,_,h,k,o,hk,he,b,hb=>by
   refine h k o ?_ hk he b hb
   have:=(Array.getElem?_eq_some_iff.1 hk).1
   have:=hlen
   simp at this
   omega
 | o::l,acc,hlen,hl,h,k,o',hk,he,b,hb=>by
   refine masks_spec hdc l (acc++[bits acc o]) (by have:=hlen;simp at this ⊢;omega) ?_ ?_ k o' hk he b hb
   ·intro j x hx
    have:=hl (j+1) x (by simpa using hx)
    rw [← this];congr 1;simp;omega
   ·intro k x hk' hx hex b hb
    simp only [List.length_append,List.length_singleton] at hk'
    by_cases hlt:k<acc.length
    ·rw [List.getD_eq_getElem?_getD,List.getElem?_append_left hlt,← List.getD_eq_getElem?_getD] at hb
     exact h k x hlt hx hex b hb
    ·have:k=acc.length:=Y2
     subst this
     have h0:=hl 0 o Y1
     rw [Nat.add_zero,hx] at h0
     cases h0
     rw [List.getD_eq_getElem?_getD,List.getElem?_append_right (Nat.le_refl _)] at hb
     simp at hb
     refine bits_spec (L:=L) ?_ hex b hb
     intro m hm b' hb'
     by_cases hm':m<acc.length
     ·cases hom:ops[m]? with
      | none =>
        have:=hlen
        simp at this
        have:=Array.getElem?_eq_none_iff.1 hom
        omega
      | some om=>exact h m om hm' hom (hdc m om hom hm) b' hb'
     ·rw [List.getD_eq_getElem?_getD,List.getElem?_eq_none Y2] at hb'
      simp at hb'
def lastW (p l:Nat→Bool):Nat→Option Nat
 | 0=>none
 | m+1=>if p m&&l m then some m else lastW p l m
theorem lastW_congr {p l l':Nat→Bool}:∀ {n:Nat},(∀ k,k<n→p k=true→l k=l' k)→lastW p l n=lastW p l' n
 | 0,_=>rfl
 | n+1,h=>by
   unfold lastW
   have ih:=lastW_congr (n:=n) (p:=p) (l:=l) (l':=l') fun k hk=>h k Y2
   cases hp:p n with
   | false=>simp [ih]
   | true=>rw [h n Y2 hp,ih]
theorem lastW_cut {p l:Nat→Bool} {i:Nat}:∀ {n:Nat},i≤n→(∀ k,i≤k→k<n→(p k&&l k)=false)→lastW p l n=lastW p l i
 | 0,h,_=>by have:i=0:=by omega
             subst this;rfl
 | n+1,h,hk=>by
   by_cases hi:i=n+1
   ·subst hi;rfl
   ·rw [lastW,hk n Y2 Y2]
    simp only [Bool.false_eq_true,if_false]
    exact lastW_cut Y2 fun k h1 h2=>hk k h1 Y2
theorem lastW_at {p l:Nat→Bool} {i n:Nat} (hi:i<n) (hp:p i=true) (hl:l i=true) (h:∀ k,i<k→k<n→(p k&&l k)=false):lastW p l n=some i:=by
 rw [lastW_cut (i:=i+1) Y2 (fun k h1 h2=>h k Y2 h2)]
 simp [lastW,hp,hl]
def wslot (ops:Array Oper) (j k:Nat):Bool:=((ops[k]?).map (writesSlot · j)).getD false
theorem wslot_eq {ops:Array Oper} {j k:Nat} {o:Oper} (h:ops[k]? =some o):wslot ops j k=writesSlot o j:=by simp [wslot,h]
theorem Y180 {p:Prop} (h:p:=by rw [hSget _ (Nat.le_refl _),← lastW_congr (l:=fun k=>listed.getD k false) (fun k hk _=>hall' k hk),← hstore];exact hI):p:=h
theorem Y3 {p:Prop} (h:p:=by
 refine hQ g w a ?_ ?_ hX hd hn
 ·exact Y180
 ·intro j
  rw [hEget _ (Nat.le_refl _) j,← lastW_congr (l:=fun k=>listed.getD k false) (fun k hk _=>hall' k hk)];exact hslots j):p:=h
theorem Y4 {p:Prop} (h:p:=by
 intro j
 rw [hEget _ (Nat.le_refl _) j,← lastW_congr (l:=fun k=>listed.getD k false) (fun k hk _=>hall' k hk)];exact hslots j):p:=h
theorem Y5 {p:Prop} (h:p:=by
 exact
                 (fun k hk hkn=>by
  by_cases e:k=i
  ·subst e;rw [hnl];simp
  ·exact hb k Y2 hkn)):p:=h
theorem Y6 {p:Prop} (h:p:=by subst e;rw [if_pos rfl];simp [hsz,hlt]):p:=h
theorem Y7 {p:Prop} (h:p:=by rw [if_neg e];exact getD_set_ne false (fun x=>e x.symm)):p:=h
theorem Y8 {p:Prop} (h:p:=by
  -- one less
 have hgt:∀ k,(listed.setIfInBounds i true).getD k true=if k=i then true else listed.getD k true:=by
  intro k
  by_cases e:k=i
  ·exact Y6
  ·rw [if_neg e];exact getD_set_ne true (fun x=>e x.symm)
 have hfil:(List.range ops.size).filter (fun k=> !(listed.setIfInBounds i true).getD k true)=((List.range ops.size).filter fun k=> !listed.getD k true).filter (· != i):=by
  rw [List.filter_filter]
  apply List.filter_congr
  intro k _
  rw [hgt]
  by_cases e:k=i
  ·subst e;simp
  ·simp [e]
 rw [hfil,← List.Nodup.erase_eq_filter (List.Pairwise.filter _ List.nodup_range)]
 have hmem:i∈(List.range ops.size).filter (fun k=> !listed.getD k true):=by
  rw [List.mem_filter]
  exact ⟨List.mem_range.2 hlt,by rw [h0];rfl⟩
 rw [List.length_erase_of_mem hmem]
 omega):p:=h
theorem Y9 {p:Prop} (h:p:=by
 intro k ok hk hlk e he hb
 show (listed.setIfInBounds i true).getD e.on false=true
 have hlk:(listed.setIfInBounds i true).getD k false=true:=hlk
 rw [hgd] at hlk ⊢
 by_cases e1:k=i
 ·subst e1
  rw [ho] at hk;cases hk
  split
  ·rfl
  ·exact hedges e he hb
 ·rw [if_neg e1] at hlk
  split
  ·rfl
  ·exact hdc k ok hk hlk e he hb):p:=h
theorem Y63 {p:Prop} (h:p:=by
 rw [if_neg hjd,ih Y2 j]
 have:(some d==some j)=false:=by simp;exact fun e=>hjd e.symm
 rw [this];simp):p:=h
theorem Y126 {p:Prop} (h:p:=by
 have:ws.contains i=true:=by simpa using hw
 rw [this];simp):p:=h
theorem Y127 {p:Prop} (h:p:=by exact (fun k h1 h2=>by rw [hgd',if_neg Y2];exact hcs.2 k h1 h2)):p:=h
theorem Y181 {p:Prop} (h:p:=by exact (fun j o h=>Y170)):p:=h
theorem Y182 {p:Prop} (h:p:=by
 intro k ok hk hki hp
 rw [wslot_eq hk] at hp
 simp only [writesSlot,beq_iff_eq] at hp
 unfold conf;rw [hp];simp [hdst]):p:=h
theorem Y183 {p:Prop} (h:p:=by
 intro k ok hk hki hp
 rw [wslot_eq hk] at hp
 simp only [writesSlot,beq_iff_eq] at hp
 unfold conf;rw [hdst];simp [hp]):p:=h
theorem Y184 {p:Prop} (h:p:=by exact (fun k h1 h2=>by rw [hgd,if_neg Y2];exact this k h1 h2)):p:=h
theorem Y185 {p:Prop} (h:p:=by
 right
 have:¬ (i∉ws):=fun h2=>hfree ⟨h1,h2⟩
 simpa using this):p:=h
theorem Y186 {p:Prop} (h:p:=by
 intro k ok hk hki hp
 unfold conf
 rcases htw with h | h<;>simp only [hp,h,Bool.true_or,Bool.or_true,Bool.and_self]):p:=h
theorem Y187 {p:Prop} (h:p:=by
 intro k ok hk hki hp
 unfold conf
 rcases htw with h | h<;>simp only [hp,h,Bool.true_or,Bool.or_true,Bool.and_self]):p:=h
theorem Y238 {p:Prop} (h:p:=by exact (fun k o h=>by simp at h)):p:=h
theorem Y239 {p:Prop} (h:p:=by rw [put_size];exact hn):p:=h
theorem Y240 {p:Prop} (h:p:=by simpa using hp):p:=h
theorem Y241 {p:Prop} (h:p:=by rw [hstore,hcs.1];exact (hSget i Y2).symm):p:=h
theorem Y304 {p:Prop} (h:p:=by simpa using hsz):p:=h
theorem any_order {P:Program} {ops:Array Oper} {ws:List Nat} {N:Nat} {e0:Env} {Q:Exit→Act→World→Prop} {V:Nat→PV} {S:Nat→St} {E:Nat→Env} {g0:G} {w0:World}
  (hok:drawOK ops ws=true) (hN:∀ (i:Nat) (o:Oper),ops[i]? =some o→okOp N o=true)
  (hE0:E 0=e0) (hE:∀ (i:Nat) (o:Oper),ops[i]? =some o→E (i+1)=(E i).put o.dst (V i))
  (hS:∀ (i:Nat) (o:Oper),ops[i]? =some o→i∉ws→S (i+1)=S i)
  (hD:∀ (i:Nat) (o:Oper),ops[i]? =some o→DOp P ops o (E i) (S i) (V i) (S (i+1)))
  (hF:∀ (i:Nat) (o:Oper),ops[i]? =some o→touch o.op=false→i∉ws→∀ s,DOp P ops o (E i) s (V i) s)
  (hQ:∀ g w (a:Act),Inv P g (S ops.size) w→EnvOK g w (E ops.size) a.tmps→Ext g0 w0 g w→a.defers=[]→a.tmps.size=N→Q .normal a w) :
  ∀ (fuel:Nat) (listed:Array Bool) (g:G) (s:St) (w:World) (a:Act),listed.size=ops.size →
   ((List.range ops.size).filter fun k=> !listed.getD k true).length≤fuel→DC ops (fun k=>listed.getD k false=true) →
   Inv P g s w→Ext g0 w0 g w→a.defers=[]→a.tmps.size=N →
   (∀ j,R g w (match lastW (wslot ops j) (fun k=>listed.getD k false) ops.size with | none=>e0.get j | some k=>V k) (a.tmps.getD j undef)) →
   s=(match lastW (fun k=>ws.contains k) (fun k=>listed.getD k false) ops.size with | none=>S 0 | some k=>S (k+1)) →
   wpAny P .any ops Q fuel listed a w:=by
 have hpair:∀ (i j:Nat) (oi oj:Oper),i<j→ops[i]? =some oi→ops[j]? =some oj→conf ops ws i j oi oj=true→((masks ops.toList []).getD j 0).testBit i=true:=by
  intro i j oi oj hij h1 h2 hc
  unfold drawOK at hok
  have:=List.all_eq_true.1 hok j (List.mem_range.2 (Array.getElem?_eq_some_iff.1 h2).1)
  rw [h2] at this
  simp only [Bool.and_eq_true] at this
  have:=List.all_eq_true.1 this.2 i (List.mem_range.2 hij)
  rw [h1] at this
  simp only [hc,Bool.not_true,Bool.false_or] at this
  exact this
 have hedge:∀ (j:Nat) (oj:Oper),ops[j]? =some oj→∀ e∈oj.after,Region.binds .any e=true→e.on<j:=by
  intro j oj h2 e he hb
  unfold drawOK at hok
  have:=List.all_eq_true.1 hok j (List.mem_range.2 (Array.getElem?_eq_some_iff.1 h2).1)
  rw [h2] at this
  simp only [Bool.and_eq_true] at this
  have:=List.all_eq_true.1 this.1 e (by simpa using he)
  simpa [hb] using this
 have hmask:∀ (L:Nat→Prop),DC ops L→∀ (k:Nat) (o:Oper),ops[k]? =some o→(∀ e∈o.after,Region.binds .any e=true→L e.on)→∀ b,((masks ops.toList []).getD k 0).testBit b=true→L b :=
  fun L hdc=>masks_spec hdc ops.toList [] Y1 Y181 Y238
 have hEget:∀ i,i≤ops.size→∀ j,(E i).get j=(match lastW (wslot ops j) (fun _=>true) i with | none=>e0.get j | some k=>V k):=by
  intro i
  induction i with
  | zero=>intro _ j;rw [hE0];rfl
  | succ i ih =>
    intro hi j
    obtain ⟨o,ho⟩:∃ o,ops[i]? =some o:=⟨ops[i]'Y2,Y1⟩
    rw [hE i o ho]
    unfold lastW
    rw [wslot_eq ho,Bool.and_true]
    unfold writesSlot
    cases hd:o.dst with
    | none=>simp only [Env.put];rw [ih Y2 j];simp
    | some d =>
      simp only [Env.put,Env.get]
      by_cases hjd:j=d
      ·subst hjd;simp
      ·exact Y63
 have hSget:∀ i,i≤ops.size→S i=(match lastW (fun k=>ws.contains k) (fun _=>true) i with | none=>S 0 | some k=>S (k+1)):=by
  intro i
  induction i with
  | zero=>intro _;rfl
  | succ i ih =>
    intro hi
    obtain ⟨o,ho⟩:∃ o,ops[i]? =some o:=⟨ops[i]'Y2,Y1⟩
    unfold lastW
    by_cases hw:i∈ws
    ·exact Y126
    ·have:ws.contains i=false:=by simpa using hw
     rw [this,hS i o ho hw,ih Y2];simp
 intro fuel
 induction fuel with
 | zero =>
   intro listed g s w a hsz hcnt hdc hI hX hd hn hslots hstore
   have hall:∀ k,k<ops.size→listed.getD k true=true:=by
    intro k hk
    have:(List.range ops.size).filter (fun k=> !listed.getD k true)=[]:=List.length_eq_zero_iff.1 Y2
    have:=List.filter_eq_nil_iff.1 this k (List.mem_range.2 hk)
    simpa using this
   have hall':∀ k,k<ops.size→listed.getD k false=true:=by
    intro k hk
    have:=hall k hk
    rw [Array.getD_eq_getD_getElem?,Array.getElem?_eq_getElem Y2] at this ⊢
    exact this
   refine ⟨?_,?_⟩
   ·cases hr:Region.ready .any ops listed with
    | nil=>rfl
    | cons x xs =>
      have hx:x∈Region.ready .any ops listed:=by rw [hr];simp
      obtain ⟨h0,o,ho,_⟩:=mem_ready.1 hx
      rw [hall x (Array.getElem?_eq_some_iff.1 ho).1] at h0
      cases h0
   ·exact Y3
 | succ fuel ih =>
   intro listed g s w a hsz hcnt hdc hI hX hd hn hslots hstore
   refine ⟨?_,?_⟩
   ·intro hr
    have hall:∀ m k,k≤m→k<ops.size→listed.getD k false=true:=by
     intro m
     induction m with
     | zero =>
       intro k hk hlt
       have:k=0:=Y2
       subst this
       exact ready_all hr hedge hsz (fun i hi=>Y2) hlt
     | succ m ihm =>
       intro k hk hlt
       exact ready_all hr hedge hsz (fun i hi=>ihm i Y2 Y2) hlt
    have hall':∀ k,k<ops.size→listed.getD k false=true:=fun k hk=>hall k k (Nat.le_refl _) hk
    refine hQ g w a ?_ ?_ hX hd hn
    ·exact Y180
    ·exact Y4
   ·intro i hi
    obtain ⟨h0,o,ho,hedges⟩:=mem_ready.1 hi
    have hlt:=(Array.getElem?_eq_some_iff.1 ho).1
    have hnl:listed.getD i false=false:=by
     rw [Array.getD_eq_getD_getElem?,Array.getElem?_eq_getElem Y2] at h0 ⊢
     exact h0
    have hanc:=hmask _ hdc i o ho hedges
    have before:∀ (k:Nat) (ok:Oper),ops[k]? =some ok→k<i→conf ops ws k i ok o=true→listed.getD k false=true :=
     fun k ok hk hki hc=>hanc k (hpair k i ok o hki hk ho hc)
    have behind:∀ (k:Nat) (ok:Oper),ops[k]? =some ok→i<k→conf ops ws i k o ok=true→listed.getD k false=false:=by
     intro k ok hk hki hc
     cases hlk:listed.getD k false with
     | false=>rfl
     | true =>
       have this:listed.getD i false=true:=hmask _ hdc k ok hk (hdc k ok hk hlk) i (hpair i k o ok hki ho hk hc)
       rw [hnl] at this;cases this
    have cell:∀ p:Nat→Bool,(∀ (k:Nat) (ok:Oper),ops[k]? =some ok→k<i→p k=true→conf ops ws k i ok o=true)→(∀ (k:Nat) (ok:Oper),ops[k]? =some ok→i<k→p k=true→conf ops ws i k o ok=true) →
      lastW p (fun k=>listed.getD k false) ops.size=lastW p (fun _=>true) i∧∀ k,i<k→k<ops.size→(p k&&listed.getD k false)=false:=by
     intro p h1 h2
     have hb:∀ k,i<k→k<ops.size→(p k&&listed.getD k false)=false:=by
      intro k hk hkn
      cases hp:p k with
      | false=>rfl
      | true =>
        obtain ⟨ok,hok'⟩:∃ o,ops[k]? =some o:=⟨ops[k]'Y2,Y1⟩
        rw [behind k ok hok' hk (h2 k ok hok' hk hp)];rfl
     refine ⟨?_,hb⟩
     rw [lastW_cut (i:=i) Y2 Y5]
     refine lastW_congr fun k hk hp=>?_
     obtain ⟨ok,hok'⟩:∃ o,ops[k]? =some o:=⟨ops[k]'Y2,Y1⟩
     exact before k ok hok' hk (h1 k ok hok' hk hp)
    have hsl:∀ j∈slotsOf ops o,R g w ((E i).get j) (a.tmps.getD j undef):=by
     intro j hj
     have:=(cell (wslot ops j) (by
      intro k ok hk hki hp
      rw [wslot_eq hk] at hp
      simp only [writesSlot,beq_iff_eq] at hp
      unfold conf
      rw [hp]
      simp [hj]
     ) (by
      intro k ok hk hki hp
      rw [wslot_eq hk] at hp
      simp only [writesSlot,beq_iff_eq] at hp
      unfold conf
      rw [hp]
      simp [hj]
     )).1
     have h3:=hslots j
     rw [this] at h3
     rw [hEget i Y2 j]
     exact h3
    have rest:∀ (s':St) val w' g',s'=(match lastW (fun k=>ws.contains k) (fun k=>(listed.setIfInBounds i true).getD k false) ops.size with | none=>S 0 | some k=>S (k+1)) →
      Inv P g' s' w'→Ext g w g' w'→R g' w' (V i) val→wpAny P .any ops Q fuel (listed.setIfInBounds i true) (a.put o.dst val) w':=by
     intro s' val w' g' hs' hI' hX' hR'
     have hgd:∀ k,(listed.setIfInBounds i true).getD k false=if k=i then true else listed.getD k false:=by
      intro k
      by_cases e:k=i
      ·exact Y6
      ·exact Y7
     refine ih _ g' s' w' _ Y304 ?_ ?_ hI' (hX.trans hX') Y59 Y239 ?_ hs'
     ·exact Y8
     ·exact Y9
     ·intro j
      have hokd:=okOp_lt (hN i o ho)
      by_cases hw:writesSlot o j=true
      ·have hdst:o.dst=some j:=by simpa [writesSlot] using hw
       have:=(cell (wslot ops j) Y182 Y183).2
       rw [lastW_at (i:=i) hlt (by rw [wslot_eq ho];exact hw) (by rw [hgd];simp) Y184]
       simp only [Act.put,hdst]
       have hjN:j<a.tmps.size:=by rw [hn];exact hokd j hdst
       rw [Array.getD_eq_getD_getElem?,Array.getElem?_setIfInBounds]
       simp [hjN,hR']
      ·have:lastW (wslot ops j) (fun k=>(listed.setIfInBounds i true).getD k false) ops.size=lastW (wslot ops j) (fun k=>listed.getD k false) ops.size:=by
        refine lastW_congr fun k hk hp=>?_
        rw [hgd,if_neg]
        rintro rfl
        rw [wslot_eq ho] at hp
        exact hw hp
       rw [this]
       have h3:=R_ext hX' _ _ (hslots j)
       cases hdst:o.dst with
       | none=>exact h3
       | some d =>
         have hjd:d≠j:=by
          rintro rfl
          exact hw (by simp [writesSlot,hdst])
         simp only [Act.put]
         rw [Array.getD_eq_getD_getElem?,Array.getElem?_setIfInBounds,if_neg hjd,← Array.getD_eq_getD_getElem?]
         exact h3
    have hgd':∀ k,(listed.setIfInBounds i true).getD k false=if k=i then true else listed.getD k false:=by
     intro k
     by_cases e:k=i
     ·exact Y6
     ·exact Y7
    unfold wpOp
    rw [ho]
    simp only
    by_cases hfree:touch o.op=false∧i∉ws
    ·
     refine hF i o ho hfree.1 hfree.2 s g w a hI hsl _ _ fun val w' g' k1 k2 k3=>rest s val w' g' ?_ k1 k2 k3
     rw [hstore]
     have:lastW (fun k=>ws.contains k) (fun k=>(listed.setIfInBounds i true).getD k false) ops.size=lastW (fun k=>ws.contains k) (fun k=>listed.getD k false) ops.size:=by
      refine lastW_congr fun k hk hp=>?_
      rw [hgd',if_neg]
      rintro rfl
      exact hfree.2 Y240
     rw [this]
    ·
     have htw:touch o.op=true∨ws.contains i=true:=by
      by_cases h1:touch o.op=false
      ·exact Y185
      ·left;simpa using h1
     have hcs:=cell (fun k=>ws.contains k) Y186 Y187
     have hs:s=S i:=Y241
     subst hs
     refine hD i o ho g w a hI hsl _ _ fun val w' g' k1 k2 k3=>rest _ val w' g' ?_ k1 k2 k3
     by_cases hw:ws.contains i=true
     ·rw [lastW_at (i:=i) hlt hw (by rw [hgd'];simp) Y127]
     ·have hni:i∉ws:=by simpa using hw
      have:lastW (fun k=>ws.contains k) (fun k=>(listed.setIfInBounds i true).getD k false) ops.size=lastW (fun k=>ws.contains k) (fun k=>listed.getD k false) ops.size:=by
       refine lastW_congr fun k hk hp=>?_
       rw [hgd',if_neg]
       rintro rfl
       exact hni Y240
      rw [this,← hstore]
      exact hS i o ho hni
where
 ready_all {ops:Array Oper} {listed:Array Bool} (hr:Region.ready .any ops listed=[]) (hedge:∀ (j:Nat) (oj:Oper),ops[j]? =some oj→∀ e∈oj.after,Region.binds .any e=true→e.on<j) (hsz:listed.size=ops.size) {k:Nat}
   (hb:∀ i,i<k→listed.getD i false=true) (hk:k<ops.size):listed.getD k false=true:=by
  obtain ⟨o,ho⟩:∃ o,ops[k]? =some o:=⟨ops[k]'Y2,Y1⟩
  cases h:listed.getD k false with
  | true=>rfl
  | false =>
    have h':listed.getD k true=false:=by
     rw [Array.getD_eq_getD_getElem?,Array.getElem?_eq_getElem Y2] at h ⊢
     exact h
    have:k∈Region.ready .any ops listed:=mem_ready.2 ⟨h',o,ho,fun e he hbd=>hb e.on (hedge k o ho e he hbd)⟩
    rw [hr] at this
    simp at this
end Go.PM
namespace Go.PM
open Go
theorem keep_mem (e:Env):∀ (l:List Nat) (i:Nat),(i∈l∧(Env.keep l e).get i=e.get i)∨(Env.keep l e).get i=.junk
 | [],i=>.inr rfl
 | x::l,i=>by
   simp only [Env.keep,List.map_cons,Env.get]
   split
   ·rename_i h;subst h;exact .inl ⟨Y1,rfl⟩
   ·rcases keep_mem e l i with ⟨h1,h2⟩ | h
    ·exact .inl ⟨by simp [h1],h2⟩
    ·exact .inr h
theorem keep_ok {g w e l} {tmps:Array Value} (h:∀ j∈l,R g w (Env.get e j) (tmps.getD j undef)):EnvOK g w (Env.keep l e) tmps:=by
 intro i
 rcases keep_mem e l i with ⟨h1,h2⟩ | h2
 ·rw [h2];exact h i h1
 ·rw [h2];simp [R]
def dcore (P:Program) (op:Op) (rv:Operand→PV) (s:St):Option PV :=
 match op with
 | .buildSlice t len parts=>match aBuildSlice P t len parts.toList rv with
   | some els=>some (.sl .clip els)
   | none=>none
 | _=>apure P op rv s
theorem apure_touch {P:Program} {op:Op} {rv:Operand→PV} {s s':St} (h:touch op=false):apure P op rv s=apure P op rv s':=by
 cases op<;>first | rfl |(simp [touch] at h)
theorem dcore_touch {P:Program} {op:Op} {rv:Operand→PV} {s s':St} (h:touch op=false):dcore P op rv s=dcore P op rv s':=by
 unfold dcore
 cases op<;>first | rfl | exact apure_touch h
theorem dcore_run {P:Program} {g s w v rv} {a:Act} {o:Oper} (h:Inv P g s w) (hrv:∀ x,R g w (rv x) (a.eval x)) (ha:dcore P o.op rv s=some v):Effect P o g w a v s:=by
 have pureCase:apure P o.op rv s=some v→Effect P o g w a v s:=fun hp=>by
  obtain ⟨val,h1,h2⟩:=apure_run h hrv hp
  exact ⟨val,w,g,.inl h1,h,Ext.refl _ _,h2⟩
 unfold dcore at ha
 cases hop:o.op with
 | buildSlice t len parts =>
   rw [hop] at ha
   simp only at ha
   cases hb:aBuildSlice P t len parts.toList rv with
   | none=>rw [hb] at ha;cases ha
   | some els =>
     rw [hb] at ha
     cases ha
     obtain ⟨val,w',r1,r2,r3,r4⟩:=aBuildSlice_run h hrv hb
     refine ⟨val,w',g,.inl ?_,r2,r3,r4⟩
     unfold execOp
     rw [hop]
     simp only [bind_run,pure_run,r1]
 | _=>rw [hop] at ha;exact pureCase Y175
def dop1 (P:Program) (ops:Array Oper) (o:Oper) (e:Env) (s:St):Option PV :=
 match o.guard with
 | none=>dcore P o.op (ev e) s
 | some (j,want)=>match gcond ops j want e with
   | none=>none
   | some (n,c)=>match dcore P o.op (fun x=>ung n c (ev e x)) s with
     | some v=>some (.gd n c v)
     | none=>none
theorem DOp.of_effect {P:Program} {ops:Array Oper} {o:Oper} {e:Env} {s s1:St} {v:PV} (hg:guard? ops o (Env.keep (slotsOf ops o) e)=some true)
  (h:∀ g w (a:Act),Inv P g s w→EnvOK g w (Env.keep (slotsOf ops o) e) a.tmps→Effect P o g w a v s1):DOp P ops o e s v s1:=by
 intro g w a hI hsl K Q hk
 have hE:=keep_ok hsl
 rw [guard_wanted hg hE]
 simp only [if_true]
 obtain ⟨val,w',g',hr,k1,k2,k3⟩:=h g w a hI hE
 left
 unfold Oper.wp
 rcases hr with hr | ⟨hr,rfl⟩
 ·rw [hr,Oper.upon_value];exact hk val w' g' k1 k2 k3
 ·rw [hr,Oper.upon_skip];exact hk _ w' g' k1 k2 k3
theorem dop1_op {P:Program} {ops:Array Oper} {o:Oper} {e:Env} {s:St} {v:PV} (h:dop1 P ops o (Env.keep (slotsOf ops o) e) s=some v):DOp P ops o e s v s:=by
 unfold dop1 at h
 cases hg:o.guard with
 | none =>
   rw [hg] at h
   exact DOp.of_effect (by unfold guard?;rw [hg]) fun g w a hI hE=>dcore_run hI (fun x=>ev_R hE x) h
 | some jw =>
   obtain ⟨j,want⟩:=jw
   rw [hg] at h
   simp only at h
   split at h
   ·cases h
   rename_i n c hcd
   split at h
   ·rename_i u hu
    cases h
    cases c with
    | true =>
      intro g w a hI hsl K Q hk
      have hE:=keep_ok hsl
      rw [gcond_wanted hg hcd hE]
      simp only [if_true]
      obtain ⟨val,w',g',hr,k2,k3,k4⟩:=dcore_run (o:=o) (a:=a) hI (fun x=>ung_R n true rfl (ev_R hE x)) hu
      have hk4:R g' w' (.gd n true u) val:=by simp only [R];exact ⟨fun _=>k4,fun x=>by cases x⟩
      left
      unfold Oper.wp
      rcases hr with hr | ⟨hr,rfl⟩
      ·rw [hr,Oper.upon_value];exact hk val w' g' k2 k3 hk4
      ·rw [hr,Oper.upon_skip];exact hk _ w' g' k2 k3 hk4
    | false =>
      intro g w a hI hsl K Q hk
      rw [gcond_wanted hg hcd (keep_ok hsl)]
      simp only [Bool.false_eq_true,if_false]
      exact hk undef w g hI (Ext.refl _ _) Y176
   ·cases h
theorem dop1_touch {P:Program} {ops:Array Oper} {o:Oper} {e:Env} {s s':St} (ht:touch o.op=false):dop1 P ops o e s=dop1 P ops o e s':=by
 unfold dop1
 cases o.guard with
 | none=>exact dcore_touch ht
 | some jw =>
   obtain ⟨j,want⟩:=jw
   simp only
   cases gcond ops j want e with
   | none=>rfl
   | some nc=>obtain ⟨n,c⟩:=nc;simp only;rw [dcore_touch (s:=s) (s':=s') ht]
def dops (P:Program) (ops:Array Oper):List Oper→Env→St→Option Env
 | [],e,_=>some e
 | o::l,e,s=>match dop1 P ops o (Env.keep (slotsOf ops o) e) s with
   | some v=>dops P ops l (Env.put e o.dst v) s
   | none=>none
def dnext (P:Program) (ops:Array Oper) (l:List Oper) (d:Option Nat) (e:Env) (s:St) (r:Option PV):Option Env :=
 match r with
 | some v=>dops P ops l (Env.put e d v) s
 | none=>none
theorem dops_nil (P:Program) (ops:Array Oper) (e:Env) (s:St):dops P ops [] e s=some e:=rfl
theorem dops_cons (P:Program) (ops:Array Oper) (o:Oper) (l:List Oper) (e:Env) (s:St):dops P ops (o::l) e s=dnext P ops l o.dst e s (dop1 P ops o (Env.keep (slotsOf ops o) e) s):=rfl
theorem dnext_some (P:Program) (ops:Array Oper) (l:List Oper) (d:Option Nat) (e:Env) (s:St) (v:PV):dnext P ops l d e s (some v)=dops P ops l (Env.put e d v) s:=rfl
section
variable {P:Program} {ops:Array Oper} {ws:List Nat} {e e':Env} {s s':St}
theorem Y305 {p:Prop} (h:p:=by cases h;exact hd):p:=h
theorem Det.pre:∀ {pre:List Oper} {l:List Oper} {i:Nat} {e e1:Env},dops P ops pre e s=some e1→Det P ops ws (i+pre.length) l e1 s e' s'→Det P ops ws i (pre++l) e s e' s'
 | [],l,i,e,e1,h,hd=>Y305
 | o::pre,l,i,e,e1,h,hd=>by
   rw [dops_cons] at h
   cases hv:dop1 P ops o (Env.keep (slotsOf ops o) e) s with
   | none=>rw [hv] at h;cases h
   | some v =>
     rw [hv,dnext_some] at h
     refine Det.cons (dop1_op hv) (fun _=>rfl) (fun ht _ s2=>dop1_op (by rw [dop1_touch (s':=s) ht];exact hv)) ?_
     refine Det.pre h ?_
     simp only [List.length_cons] at hd
     rw [show i+1+pre.length=i+(pre.length+1) from Y2]
     exact hd
theorem Det.all {l:List Oper} {i:Nat} {e1:Env} (h:dops P ops l e s=some e1):Det P ops ws i l e s e1 s:=by
 have:=Det.pre (ws:=ws) (l:=[]) (i:=i) (e':=e1) (s':=s) h Det.nil
 simpa using this
theorem Det.call {d:Option Nat} {c:Call} {t:TypeId} {pos:String} {af:Array Edge} {gd:Option (Nat × Bool)} {l:List Oper} {i:Nat} {f:FuncId} {args args':List PV} {v:PV}
  (hg:guard? ops ⟨d,.call c,t,pos,af,gd⟩ (Env.keep (slotsOf ops ⟨d,.call c,t,pos,af,gd⟩) e)=some true)
  (ha:acall c (Env.keep (slotsOf ops ⟨d,.call c,t,pos,af,gd⟩) e)=some (f,args)) (hw:PV.weaks args=args') (hc:callable P f=true)
  (h:ACalls P f args' s fun r s1=>r=v∧s1=s) (hd:Det P ops ws (i+1) l (e.put d v) s e' s'):Det P ops ws i (⟨d,.call c,t,pos,af,gd⟩::l) e s e' s':=by
 subst hw
 refine Det.cons (v:=v) (s1:=s) ?_ (fun _=>rfl) (fun ht=>by simp [touch] at ht) hd
 intro g w a hI hsl K Q hk
 have hE:=keep_ok hsl
 rw [guard_wanted hg hE]
 simp only [if_true]
 obtain ⟨vs,hrun,hra⟩:=acall_run (P:=P) (o:=⟨d,.call c,t,pos,af,gd⟩) (a:=a) rfl hE ha hc
 left
 unfold Oper.wp
 rw [hrun,Oper.upon_enter]
 refine (h g w vs hI (RA_weak _ _ hra)).mono ?_
 rintro e' w' ⟨v',g',r',s',rfl,hI',hR',hX',rfl,rfl⟩
 exact hk _ _ _ hI' hX' hR'
theorem Y128 {p:Prop} (h:p:=by simpa using hi):p:=h
theorem Det.eff {o:Oper} {l:List Oper} {i:Nat} {v:PV} {s1:St} (hi:ws.contains i=true) (hg:guard? ops o (Env.keep (slotsOf ops o) e)=some true)
  (ha:acore P o.op (ev (Env.keep (slotsOf ops o) e)) s=some (v,s1)) (hd:Det P ops ws (i+1) l (e.put o.dst v) s1 e' s'):Det P ops ws i (o::l) e s e' s':=by
 have hi':i∈ws:=Y128
 exact Det.cons (DOp.of_effect hg fun g w a hI hE=>acore_run hI (fun x=>ev_R hE x) ha) (fun h=>absurd hi' h) (fun _ h=>absurd hi' h) hd
theorem Det.append {d:Option Nat} {x y:Operand} {t ty:TypeId} {pos:String} {af:Array Edge} {gd:Option (Nat × Bool)} {l:List Oper} {i:Nat} {el:TypeId} {kx ky:SK} {xs ys:List PV} {v:PV} {s1:St} (hi:ws.contains i=true)
  (hg:guard? ops ⟨d,.call ⟨.builtin .append,#[x,y],#[t,t]⟩,ty,pos,af,gd⟩ (Env.keep (slotsOf ops ⟨d,.call ⟨.builtin .append,#[x,y],#[t,t]⟩,ty,pos,af,gd⟩) e)=some true)
  (hx:ev e x=.sl kx xs) (hy:ev e y=.sl ky ys) (htd:td P t=.sl el) (hz:(zpv P el).isSome=true)
  (hex:isEls P el xs) (hey:isEls P el ys) (hb0:0<P.bytesOf el) (hlen:(xs.length+ys.length)*P.bytesOf el≤140737488355328) (ha:aAppend P el kx xs ys s=some (v,s1))
  (hd:Det P ops ws (i+1) l (e.put d v) s1 e' s'):Det P ops ws i (⟨d,.call ⟨.builtin .append,#[x,y],#[t,t]⟩,ty,pos,af,gd⟩::l) e s e' s':=by
 have hi':i∈ws:=Y128
 refine Det.cons (DOp.of_effect hg fun g w a hI hE=>?_) (fun h=>absurd hi' h) (fun _ h=>absurd hi' h) hd
 have hkeep:∀ z:Operand,z=x∨z=y→ev (Env.keep (slotsOf ops ⟨d,.call ⟨.builtin .append,#[x,y],#[t,t]⟩,ty,pos,af,gd⟩) e) z=ev e z:=by
  intro z hz
  cases z with
  | tmp j =>
    simp only [ev]
    have hmem:j∈slotsOf ops ⟨d,.call ⟨.builtin .append,#[x,y],#[t,t]⟩,ty,pos,af,gd⟩:=by
     unfold slotsOf
     simp only [Op.operands,Call.operands]
     rcases hz with rfl | rfl<;>simp
    have:∀ (l:List Nat),j∈l→(Env.keep l e).get j=e.get j:=by
     intro l
     induction l with
     | nil=>intro h;simp at h
     | cons q l ih =>
       intro h
       simp only [Env.keep,List.map_cons,Env.get]
       split
       ·rename_i hq;subst hq;rfl
       ·rename_i hq
        simp at h
        rcases h with h | h
        ·exact absurd h hq
        ·exact ih h
    exact this _ hmem
  | const v=>rfl
  | func f=>rfl
  | global g=>rfl
 have h1:=ev_R hE x
 have h2:=ev_R hE y
 rw [hkeep x (.inl rfl),hx] at h1
 rw [hkeep y (.inr rfl),hy] at h2
 obtain ⟨val,w',g',r1,r2,r3,r4⟩:=aAppend_run (ty:=ty) hI h1 h2 htd hz hex hey hb0 hlen ha
 refine ⟨val,w',g',.inl ?_,r2,r3,r4⟩
 unfold execOp
 simp only [resolve,bind_run,pure_run,invoke,builtin]
 have:Array.map a.eval #[x,y]= #[a.eval x,a.eval y]:=Y1
 rw [this,r1]
theorem Y10 {p:Prop} (h:p:=by
 show (if i+(o::l).length=i then e else E (i+(o::l).length))=e'
 rw [List.length_cons,if_neg Y2,show i+(l.length+1)=i+1+l.length from Y2];exact a3):p:=h
theorem Y11 {p:Prop} (h:p:=by
 show (if i+(o::l).length=i then s else S (i+(o::l).length))=s'
 rw [List.length_cons,if_neg Y2,show i+(l.length+1)=i+1+l.length from Y2];exact a4):p:=h
theorem Y129 {p:Prop} (h:p:=by
 exact
                      (fun j o'=>by
  have:=hl (j+1) o'
  rw [show i+1+j=i+(j+1) from Y2]
  simpa using this)):p:=h
theorem Y188 {p:Prop} (h:p:=by
 subst e1
 rw [h0] at ho';cases ho'
 simp only [if_true,show ¬ (k+1=k) from Y2,if_false]
 rw [a1,a2]
 exact ⟨rfl,h2,h1,h3⟩):p:=h
theorem Det.lists:∀ {i l e s e' s'},Det P ops ws i l e s e' s'→(∀ j (o:Oper),l[j]? =some o↔ops[i+j]? =some o) →
  ∃ (V:Nat→PV) (S:Nat→St) (E:Nat→Env),E i=e∧S i=s∧E (i+l.length)=e'∧S (i+l.length)=s'∧∀ k (o:Oper),i≤k→ops[k]? =some o →
   E (k+1)=(E k).put o.dst (V k)∧(k∉ws→S (k+1)=S k)∧DOp P ops o (E k) (S k) (V k) (S (k+1))∧(touch o.op=false→k∉ws→∀ s,DOp P ops o (E k) s (V k) s):=by
 intro i l e s e' s' h
 induction h with
 | nil =>
   rename_i i e s
   intro hl
   refine ⟨fun _=>.junk,fun _=>s,fun _=>e,rfl,rfl,rfl,rfl,fun k o hk ho=>?_⟩
   have:=(hl (k-i) o).2 (by rw [show i+(k-i)=k from Y2];exact ho)
   simp at this
 | cons h1 h2 h3 hd ih =>
   rename_i i o l e s v s1 e' s'
   intro hl
   obtain ⟨V,S,E,a1,a2,a3,a4,a5⟩:=ih Y129
   have h0:ops[i]? =some o:=by have:=(hl 0 o).1 Y1;simpa using this
   refine ⟨fun k=>if k=i then v else V k,fun k=>if k=i then s else S k,fun k=>if k=i then e else E k,if_pos rfl,if_pos rfl,?_,?_,?_⟩
   ·exact Y10
   ·exact Y11
   ·intro k o' hk ho'
    by_cases e1:k=i
    ·exact Y188
    ·simp only [e1,show ¬ (k+1=i) from Y2,if_false]
     exact a5 k o' Y2 ho'
variable {N:Nat} {k:List KI} {rt:Env→St→Prop}
theorem Y64 {p:Prop} (h:p:=by
 intro i o ho
 exact List.all_eq_true.1 ok.1 o (by simpa using Array.mem_of_getElem? ho)):p:=h
theorem Y65 {p:Prop} (h:p:=by refine Nat.le_trans (List.length_filter_le _ _) Y1):p:=h
theorem Y130 {p:Prop} (h:p:=by
 intro j
 rw [hnone]
 exact R_ext hX1 _ _ (hE j)):p:=h
theorem Run.draw {id:Nat} (ws:List Nat) (hm:P.follows .mixedOrders=true) (hs:drawOK ops ws=true) (hd:Det P ops ws 0 ops.toList e s e' s') (l:List Nat) (h:Run P N k (Env.keep l e') s' rt) :
  Run P N (.code (.region id ops true)::k) e s rt:=by
 intro ok
 simp only [okK,okC,Bool.and_eq_true] at ok
 intro _ g w a hI hE hdf hN
 obtain ⟨V,S,E,a1,a2,a3,a4,a5⟩:=hd.lists (fun j o=>Y1)
 simp only [Nat.zero_add,Array.length_toList] at a3 a4
 refine wp_region_any hm ?_
 obtain ⟨hI1,hX1⟩:=drew_step hI (w.drawn+1)
 have hnone:∀ (p:Nat→Bool) (n:Nat),lastW p (fun k=>(Array.replicate ops.size false).getD k false) n=none:=by
  intro p n
  induction n with
  | zero=>rfl
  | succ n ih =>
    unfold lastW
    have:(Array.replicate ops.size false).getD n false=false:=by
     rw [Array.getD_eq_getD_getElem?]
     cases hx:(Array.replicate ops.size false)[n]? with
     | none=>rfl
     | some b=>have:=Array.mem_of_getElem? hx;simp at this;rw [this.2];rfl
    rw [this,ih];simp
 refine any_order (ws:=ws) (N:=N) (e0:=e) (V:=V) (S:=S) (E:=E) (g0:=g) (w0:=w) hs ?_ a1 (fun i o ho=>(a5 i o (Nat.zero_le _) ho).1) (fun i o ho=>(a5 i o (Nat.zero_le _) ho).2.1)
  (fun i o ho=>(a5 i o (Nat.zero_le _) ho).2.2.1) (fun i o ho=>(a5 i o (Nat.zero_le _) ho).2.2.2) ?_ ops.size _ g s _ a Y1 ?_ ?_ hI1 hX1 hdf hN ?_ ?_
 ·exact Y64
 ·intro g' w' a' k1 k2 k3 k4 k5
  rw [a4] at k1
  rw [a3] at k2
  exact ⟨g',Env.keep l e',s',k1,k2.env (keep_get e' l),k3,k4,k5,h ok.2⟩
 ·exact Y65
 ·intro k o ho hk
  have hk:(Array.replicate ops.size false).getD k false=true:=hk
  rw [Array.getD_eq_getD_getElem?] at hk
  cases hx:(Array.replicate ops.size false)[k]? with
  | none=>rw [hx] at hk;cases hk
  | some b=>have:=Array.mem_of_getElem? hx;simp at this;rw [hx,this.2] at hk;cases hk
 ·exact Y130
 ·rw [hnone];exact a2.symm
end
end Go.PM
namespace Go.PM
open Go
def methPtr (P:Program) (t:TypeId) (name:String):Option (FuncId × Bool × TypeId) :=
 match P.info? t with
 | none=>none
 | some i=>match i.methods.find? (·.name==name),P.underlying t with
   | some m,some (.pointer e)=>match m.path.toList,m.func with
     | [],some (f,pr)=>some (f,pr,e)
     | _,_=>none
   | _,_=>none
theorem arr_head (x:Value) (ys:Array Value):(#[x]++ys)[0]? =some x:=by
 rw [← Array.getElem?_toList]
 simp
theorem arr_tail (x:Value) (ys:Array Value):(#[x]++ys).extract 1 (#[x]++ys).size=ys:=by
 rcases ys with ⟨l⟩
 apply Array.ext'
 simp
theorem ssaWrap {P:Program} {w:World} (ts:Array TypeId) (ty:TypeId) (p:Addr) (x y:ByteArray):(Builtin.ssaWrapNilChk_ ts ty #[.pointer (some p),.string x,.string y]).run P w=.ok (.pointer (some p)) w:=rfl
theorem method_ptr {P:Program} {t:TypeId} {name:String} {f:FuncId} {pr:Bool} {e:TypeId} (h:methPtr P t name=some (f,pr,e)) (fuel:Nat) (w:World) (p:Addr) {val:Value} (hv:(loadVar e p).run P w=.ok val w∨pr=true) :
  (method (fuel+1) t (.pointer (some p)) name).run P w=.ok (f,if pr then .pointer (some p) else val) w:=by
 unfold methPtr at h
 cases hi:P.info? t with
 | none=>rw [hi] at h;cases h
 | some i =>
   rw [hi] at h
   simp only at h
   split at h
   ·rename_i m e' hm hu
    split at h
    ·rename_i f' pr' hp hf
     cases h
     have hpe:m.path= #[]:=by apply Array.ext';simpa using hp
     unfold method
     simp only [bind_run,typeInfo_run hi,hm,hp,follow,pure_run,hf]
     unfold receiverAt
     simp only [bind_run,underlying_run hu]
     cases pr with
     | true=>simp only [Place.get,pure_run,if_true]
     | false =>
       have hv':(loadVar e p).run P w=.ok val w:=by rcases hv with hv | hv;exact hv;cases hv
       simp only [Place.get,pure_run,bind_run,hpe,Array.isEmpty,List.size_toArray,List.length_nil,decide_true,if_true,ssaWrap,strVal,asAddr,hv',Bool.false_eq_true,if_false]
    ·cases h
   ·cases h
def ainvoke (P:Program) (c:Call) (e:Env) (s:St):Option (FuncId × List PV) :=
 match c.callee with
 | .invoke recv name=>match ev e recv with
   | .iface t (.ptr id i j)=>match methPtr P t name with
     | some (f,true,_)=>some (f,.ptr id i j::c.args.toList.map (ev e))
     | some (f,false,el)=>match aLoad P el (.ptr id i j) s with
       | some v=>some (f,v::c.args.toList.map (ev e))
       | none=>none
     | none=>none
   | _=>none
 | _=>none
theorem ainvoke_run {P:Program} {c:Call} {o:Oper} {g s w e f args} {a:Act} (hop:o.op=.call c) (hI:Inv P g s w) (hE:EnvOK g w e a.tmps) (h:ainvoke P c e s=some (f,args)) (hc:callable P f=true) :
  ∃ vs:Array Value,(execOp a.eval o).run P w=.ok (.enter f vs) w∧RA g w args vs.toList:=by
 unfold ainvoke at h
 obtain ⟨callee,cargs,ats⟩:=c
 simp only at h
 cases callee with
 | invoke recv name =>
   simp only at h
   split at h
   case h_2=>cases h
   rename_i t id i j hev
   have hx:=ev_R hE recv
   rw [hev] at hx
   simp only [R] at hx
   obtain ⟨x,hx,hlt,b,sz,hrow,rfl⟩:=hx
   have hptr:R g w (.ptr id i j) (.pointer (some ⟨b,i*sz+j,none⟩)):=by simp only [R];exact ⟨hlt,b,sz,hrow,rfl⟩
   have fuel:∃ n,P.types.size+Made.depth=n+1:=⟨P.types.size+Made.depth-1,by unfold Made.depth;omega⟩
   obtain ⟨n,hn⟩:=fuel
   have go:∀ rv:Value,(method (n+1) t (.pointer (some ⟨b,i*sz+j,none⟩)) name).run P w=.ok (f,rv) w→(execOp a.eval o).run P w=.ok (.enter f (#[rv]++cargs.map a.eval)) w:=by
    intro rv hm
    unfold execOp
    rw [hop]
    simp only [resolve,hx,bind_run,pure_run,invoke]
    simp only [arr_head,arr_tail]
    unfold callMethod
    simp only [bind_run]
    rw [show (program.run P w)=.ok P w from rfl]
    simp only [hn,hm]
    exact callFunc_run hc
   split at h
   ·rename_i f' e' hm
    cases h
    have:=method_ptr (w:=w) (val:=undef) hm n ⟨b,i*sz+j,none⟩ (.inr rfl)
    refine ⟨_,go _ this,?_⟩
    simp only [if_true,Array.toList_append,List.toList_toArray,List.cons_append,List.nil_append,Array.toList_map,RA]
    exact ⟨_,_,rfl,hptr,ev_RA hE _⟩
   ·rename_i f' el hm
    split at h
    ·rename_i v hl
     cases h
     obtain ⟨val,hv,hr⟩:=aLoad_run hI hptr hl
     have hv':(loadVar el ⟨b,i*sz+j,none⟩).run P w=.ok val w:=by
      unfold Instr.loadAt at hv
      simpa only [Instr.sureAddr,bind_run,pure_run] using hv
     have:=method_ptr (w:=w) (val:=val) hm n ⟨b,i*sz+j,none⟩ (.inl hv')
     refine ⟨_,go _ this,?_⟩
     simp only [Bool.false_eq_true,if_false,Array.toList_append,List.toList_toArray,List.cons_append,List.nil_append,Array.toList_map,RA]
     exact ⟨_,_,rfl,hr,ev_RA hE _⟩
    ·cases h
   ·cases h
 | _=>cases h
section
variable {P:Program} {N:Nat} {k:List KI} {e:Env} {s:St} {rt:Env→St→Prop}
theorem RunO.invoke {ops:Array Oper} {d:Option Nat} {c:Call} {t:TypeId} {pos:String} {af:Array Edge} {gd:Option (Nat × Bool)} {l:List Oper} {f:FuncId} {args:List PV}
  (hg:guard? ops ⟨d,.call c,t,pos,af,gd⟩ e=some true) (ha:ainvoke P c e s=some (f,args)) (hc:callable P f=true)
  (h:ACalls P f args s fun r s'=>RunO P N ops l k (e.put d r) s' rt):RunO P N ops (⟨d,.call c,t,pos,af,gd⟩::l) k e s rt :=
 RunO.call_ hg (fun g w a hI hE=>ainvoke_run rfl hI hE ha hc) h
end
end Go.PM
namespace Go.PM
open Go
theorem set_new (s:St) (b b':Blk):(s.new b).set s.nxt (some b')=s.new b':=by
 simp only [St.new,St.set,St.mk.injEq,true_and]
 funext i
 split<;>rfl
theorem set_new_ne (s:St) (b:Blk) (id:Nat) (b':Option Blk) (h:id≠s.nxt):(s.new b).set id b'=(s.set id b').new b:=by
 simp only [St.new,St.set,St.mk.injEq,true_and]
 funext i
 by_cases h1:i=id
 ·subst h1;simp [h]
 ·simp [h1]
theorem set_set (s:St) (id:Nat) (b b':Option Blk):(s.set id b).set id b'=s.set id b':=by
 simp only [St.set,St.mk.injEq,true_and]
 funext i
 split<;>rfl
def aAppendOwn (P:Program) (e:TypeId) (id len:Nat) (ys:List PV) (s:St):Option (PV × St) :=
 match s.blk id with
 | some (.row ty els)=>if ys≠[]∧P.cellsOf e=P.cellsOf ty∧len≤els.length then some (.own s.nxt 0 (len+ys.length),(s.set id none).new (.row ty (els.take len++ys))) else none
 | _=>none
def aAppendFirst (P:Program) (e:TypeId) (k:SK) (xs ys:List PV) (s:St):Option (PV × St) :=
 match k with
 | .nil | .clip | .unc=>if ys≠[] then some (.own s.nxt 0 (xs.length+ys.length),s.new (.row e (xs++ys))) else none
 | _=>none
theorem aAppendFirst_run {P:Program} {g s w t ty e k k2 xs ys v s' va vb} (h:Inv P g s w) (hx:R g w (.sl k xs) va) (hy:R g w (.sl k2 ys) vb) (htd:td P t=.sl e) (hz:(zpv P e).isSome=true)
  (hex:isEls P e xs) (hey:isEls P e ys) (hb0:0<P.bytesOf e) (hlen:(xs.length+ys.length)*P.bytesOf e≤140737488355328) (ha:aAppendFirst P e k xs ys s=some (v,s')) :
  ∃ val w' g',(Builtin.append_ #[t,t] ty #[va,vb]).run P w=.ok val w'∧Inv P g' s' w'∧Ext g w g' w'∧R g' w' v val:=by
 have hkind:(k=.nil∨k=.clip∨k=.unc)∧ys≠[]∧v=.own s.nxt 0 (xs.length+ys.length)∧s'=s.new (.row e (xs++ys)):=by
  unfold aAppendFirst at ha
  split at ha
  all_goals first |(cases ha;done) | skip
  all_goals
   split at ha
   ·rename_i hc;cases ha;exact ⟨Y1,hc,rfl,rfl⟩
   ·cases ha
 obtain ⟨hk,hys,rfl,rfl⟩:=hkind
 have hu:=td_slice htd
 obtain ⟨z,hz⟩:=Option.isSome_iff_exists.1 hz
 obtain ⟨zv,hz1,hz2,hz3,hz4,hpos,hz6,hz7⟩:=zero_run (P:=P) (w:=w) hz
 obtain ⟨i,hi,hsz⟩:=cells_info hpos
 have hiz:i.zero=some zv:=by
  unfold zeroValue at hz1
  rw [bind_run,typeInfo_run hi] at hz1
  simp only at hz1
  cases hq:i.zero with
  | none=>rw [hq] at hz1;simp [unsupported,Sem.run] at hz1
  | some z'=>rw [hq] at hz1;simp [pure_run] at hz1;subst hz1;rfl
 have hby:P.bytesOf e=i.bytes:=Y179
 obtain ⟨us,hus,hru⟩:=sl_holds hy
 have hue:=isEls_vals hey hru
 have hul:=RA_length hru
 have hn:=hus.len (P:=P)
 have hm:0<us.length:=by rw [← hul];exact List.length_pos_iff.2 hys
 obtain ⟨base,cap,vs,rfl,hvs,hrv,hcap⟩:∃ base cap vs,va=.slice base vs.length cap∧Holds w va vs∧RA g w xs vs∧cap=vs.length:=by
  have hnil:R g w (.sl .nil xs) va→∃ base cap vs,va=.slice base vs.length cap∧Holds w va vs∧RA g w xs vs∧cap=vs.length:=fun hx=>by
   obtain ⟨e1,e2⟩:=R_nil.1 hx
   exact ⟨none,0,[],by simpa using e1,.inl ⟨none,0,e1,rfl⟩,by rw [e2];simp [RA],rfl⟩
  have hclip:R g w (.sl .clip xs) va→∃ base cap vs,va=.slice base vs.length cap∧Holds w va vs∧RA g w xs vs∧cap=vs.length:=fun hx=>by
   rcases sl_head hx Y1 rfl with ⟨b,o,cap,sz,vs,e1,h1,h2,h3,h4,h5,h6,h7,h8⟩ | ⟨_,rfl,x,e1⟩
   case inr=>exact ⟨_,0,[],by simpa using e1,.inl ⟨_,0,e1,rfl⟩,Y229,rfl⟩
   have hl:=RA_length h8
   exact ⟨_,cap,vs,Y237,.inr ⟨b,o,cap,Y237,h5⟩,h8,by rw [← hl];exact h3 rfl⟩
  rcases hk with rfl | rfl | rfl
  ·exact hnil hx
  ·exact hclip hx
  ·rcases R_unc.1 hx with hx | hx
   ·exact hnil hx
   ·exact hclip hx
 have hve:=isEls_vals hex hrv
 have hvl:=RA_length hrv
 have ho:=hvs.drew.cells (P:=P) (size:=P.cellsOf e) (fun v hv=>(hve v hv).1)
 have hn':=hus.drew.cells (P:=P) (size:=P.cellsOf e) (fun v hv=>(hue v hv).1)
 rw [← hsz] at ho hn'
 have hfit:=growslice_fits (need:=vs.length+us.length) (old:=cap) (bytes:=i.bytes) Y2 (by rw [← hby,← hul,← hvl];exact hlen)
 have hrun:=append_new (P:=P) (w:=w) (t:=t) (ty:=ty) hu hi hiz hn ho hn' Y2 (by
  have:=Nat.le_mul_of_pos_right (xs.length+ys.length) hb0
  omega) hfit
 have hge:=grownCap_ge w (vs.length+us.length) cap e
 obtain ⟨hI1,hE1⟩:=drew_step h (w.drawn+1)
 have hcat:∀ v∈vs++us,v.cells.size=P.cellsOf e∧∀ x∈v.cells.toList,x.flat=true:=by
  intro v hv
  rcases List.mem_append.1 hv with hv | hv
  ·exact hve v hv
  ·exact hue v hv
 obtain ⟨g',m1,m2,m3,m4⟩:=newRow_step (t:=e) (ty:=e) (els:=xs++ys) (vs:=vs++us) (c:=(flat vs).toArray++(flat us).toArray++Builtin.zeroCells zv.cells (grownCap w (vs.length+us.length) cap e-(vs.length+us.length))) hI1 hpos
  (RA_append (RA_ext hE1 _ _ hrv) (RA_ext hE1 _ _ hru)) (by rw [flat_append];simp) hcat
 refine ⟨_,_,g',hrun,m1,hE1.trans m2,?_⟩
 simp only [R]
 refine ⟨by rw [m4];exact Nat.lt_succ_self _,w.heap.size,P.cellsOf e,grownCap w (vs.length+us.length) cap e,m3,Y2,by rw [hul,hvl];simp,?_⟩
 have hcz:=newB_csize { w with drawn:=w.drawn+1 } ((flat vs).toArray++(flat us).toArray++Builtin.zeroCells zv.cells (grownCap w (vs.length+us.length) cap e-(vs.length+us.length))) e (0,0)
 show (0+grownCap w (vs.length+us.length) cap e)*P.cellsOf e≤csize (World.newB { w with drawn:=w.drawn+1 } _) ({ w with drawn:=w.drawn+1 }:World).heap.size
 rw [hcz]
 simp only [Array.size_append,List.size_toArray,size_zeroCells,hz4,flat_length (fun v hv=>(hve v hv).1),flat_length (fun v hv=>(hue v hv).1)]
 rw [← Nat.add_mul,← Nat.add_mul]
 apply Nat.mul_le_mul_right
 omega
section
variable {P:Program} {N:Nat} {k:List KI} {e:Env} {s:St} {rt:Env→St→Prop}
theorem append_exec {P:Program} {w w':World} {a:Act} {o:Oper} {x y:Operand} {t:TypeId} {val:Value} (hop:o.op=.call ⟨.builtin .append,#[x,y],#[t,t]⟩)
  (h:(Builtin.append_ #[t,t] o.type #[a.eval x,a.eval y]).run P w=.ok val w'):(execOp a.eval o).run P w=.ok (.value val) w':=by
 unfold execOp
 rw [hop]
 simp only [resolve,bind_run,pure_run,invoke,builtin]
 have:Array.map a.eval #[x,y]= #[a.eval x,a.eval y]:=Y1
 rw [this,h]
theorem RunO.appendFirst {ops:Array Oper} {d:Option Nat} {x y:Operand} {t ty:TypeId} {pos:String} {af:Array Edge} {gd:Option (Nat × Bool)} {l:List Oper} {el:TypeId} {kx ky:SK} {xs ys:List PV} {v:PV} {s':St}
  (hg:guard? ops ⟨d,.call ⟨.builtin .append,#[x,y],#[t,t]⟩,ty,pos,af,gd⟩ e=some true) (hx:ev e x=.sl kx xs) (hy:ev e y=.sl ky ys) (htd:td P t=.sl el) (hz:(zpv P el).isSome=true)
  (hex:isEls P el xs) (hey:isEls P el ys) (hb0:0<P.bytesOf el) (hlen:(xs.length+ys.length)*P.bytesOf el≤140737488355328) (ha:aAppendFirst P el kx xs ys s=some (v,s'))
  (h:RunO P N ops l k (e.put d v) s' rt):RunO P N ops (⟨d,.call ⟨.builtin .append,#[x,y],#[t,t]⟩,ty,pos,af,gd⟩::l) k e s rt:=by
 refine RunO.eff hg (fun g w a hI hE=>?_) h
 have h1:=ev_R hE x
 have h2:=ev_R hE y
 rw [hx] at h1
 rw [hy] at h2
 obtain ⟨val,w',g',r1,r2,r3,r4⟩:=aAppendFirst_run (ty:=ty) hI h1 h2 htd hz hex hey hb0 hlen ha
 exact ⟨val,w',g',.inl (append_exec rfl r1),r2,r3,r4⟩
end
end Go.PM
namespace Go.PM
open Go
theorem get_nil (i:Nat):Env.get [] i=.junk:=rfl
theorem get_cons (k:Nat) (v:PV) (e:Env) (i:Nat):Env.get ((k,v)::e) i=if i=k then v else Env.get e i:=rfl
theorem put_some (e:Env) (d:Nat) (v:PV):Env.put e (some d) v=(d,v)::e:=rfl
theorem put_none (e:Env) (v:PV):Env.put e none v=e:=rfl
theorem ev_tmp (e:Env) (t:Nat):ev e (.tmp t)=e.get t:=rfl
theorem ev_func (e:Env) (f:FuncId):ev e (.func f)=.fn (.func f) [] []:=rfl
theorem ev_int (e:Env) (k:IntKind) (n:Int):ev e (.const (.int k n))=.int k n:=rfl
theorem ev_bool (e:Env) (b:Bool):ev e (.const (.bool b))=.bool b:=rfl
theorem ev_str (e:Env) (s:ByteArray):ev e (.const (.string s))=.str s:=rfl
theorem ev_nilp (e:Env):ev e (.const (.pointer none))=.nilp:=rfl
theorem ev_nils (e:Env):ev e (.const (.slice none 0 0))=.sl .nil []:=rfl
theorem ev_nilm (e:Env):ev e (.const (.map none))=.nilm:=rfl
theorem ev_nilf (e:Env):ev e (.const .nilFunc)=.nilf:=rfl
theorem ev_nili (e:Env):ev e (.const .nilIface)=.nili:=rfl
theorem keep_nil (e:Env):Env.keep [] e=[]:=rfl
theorem keep_cons (i:Nat) (l:List Nat) (e:Env):Env.keep (i::l) e=(i,e.get i)::Env.keep l e:=rfl
theorem blk_new (s:St) (b:Blk) (i:Nat):(s.new b).blk i=if i=s.nxt then some b else s.blk i:=rfl
theorem nxt_new (s:St) (b:Blk):(s.new b).nxt=s.nxt+1:=rfl
theorem blk_set (s:St) (id:Nat) (b:Option Blk) (i:Nat):(s.set id b).blk i=if i=id then b else s.blk i:=rfl
theorem blk_set_self (s:St) (id:Nat) (b:Option Blk):(s.set id b).blk id=b:=if_pos rfl
theorem nxt_set (s:St) (id:Nat) (b:Option Blk):(s.set id b).nxt=s.nxt:=rfl
attribute [go_sem] get_nil get_cons put_some put_none ev_tmp ev_func ev_int ev_bool ev_str ev_nilp ev_nils ev_nilm ev_nilf ev_nili keep_nil keep_cons blk_new nxt_new blk_set nxt_set set_new
attribute [go_sem] aops_nil aops_cons anext_some aop1 acore apure aeff aLoad loadC aStore setC spl aFieldAddr aIndexAddr aPart aField aIndex aExtract optInt aSlice
 aBin iBin aEql aUn aConv fillP aBuild pickv aLen aMin aMax aMakeIface aTypeAssert ung gslot gcond acallU guard? gA_self_l gA_self_l2 gA_self_l3 gA_pick_t gA_pick_f gA_true gA_false gA_tru gA_fals gU_true gU_false gU_tru PV.cells PV.ok acall retv ret1 rets okOp dops_nil dops_cons dnext_some dop1 dcore slotsOf aBuildSlice ainvoke aAppendOwn aAppendFirst seqParts Op.operands Call.operands aLookup aMapUpdate aLookupI aMapUpdateI aLookupP aMapUpdateP pairD
theorem argEnv_nil (i:Nat):argEnv i []=[]:=rfl
theorem argEnv_cons (i:Nat) (p:PV) (ps:List PV):argEnv i (p::ps)=(i,p)::argEnv (i+1) ps:=rfl
attribute [go_sem] argEnv_nil argEnv_cons List.getElem?_cons_zero List.getElem?_cons_succ List.getElem?_toArray Option.bind_some Option.map_some Option.map_none List.length_cons List.length_nil List.drop_succ_cons List.drop_zero List.take_succ_cons List.take_zero
 List.set_cons_zero List.set_cons_succ List.head?_cons and_true true_and and_self Bool.or_false Bool.false_or Bool.and_false Bool.false_and Bool.true_and Bool.and_true Bool.not_true Bool.not_false Bool.true_or Bool.or_true
 beq_true beq_false beq_self_eq_true cond_true cond_false List.map_cons List.map_nil List.all_cons List.all_nil if_true if_false Bool.false_eq_true List.cons_append List.nil_append List.append_nil List.filterMap_cons List.filterMap_nil Option.toList_some Option.toList_none List.map_cons List.map_nil List.isEmpty_nil Nat.zero_add Nat.add_zero ne_eq not_true_eq_false not_false_eq_true
 Bool.cond_false_right Bool.cond_false_left Bool.cond_true_left Bool.cond_true_right Bool.not_or_self Bool.or_not_self Bool.not_not Bool.not_and_self Option.some.injEq Option.getD_some Option.getD_none Int.toNat_natCast
theorem nx1 (n:Nat):(n=n+1)=False:=Y1
theorem ny1 (n:Nat):(n+1=n)=False:=Y1
theorem nx2 (n:Nat):(n=n+2)=False:=Y1
theorem ny2 (n:Nat):(n+2=n)=False:=Y1
theorem nx3 (n:Nat):(n=n+3)=False:=Y1
theorem ny3 (n:Nat):(n+3=n)=False:=Y1
theorem nx4 (n:Nat):(n=n+4)=False:=Y1
theorem ny4 (n:Nat):(n+4=n)=False:=Y1
theorem nx5 (n:Nat):(n=n+5)=False:=Y1
theorem ny5 (n:Nat):(n+5=n)=False:=Y1
theorem nx6 (n:Nat):(n=n+6)=False:=Y1
theorem ny6 (n:Nat):(n+6=n)=False:=Y1
theorem nx7 (n:Nat):(n=n+7)=False:=Y1
theorem ny7 (n:Nat):(n+7=n)=False:=Y1
theorem nx8 (n:Nat):(n=n+8)=False:=Y1
theorem ny8 (n:Nat):(n+8=n)=False:=Y1
theorem nx9 (n:Nat):(n=n+9)=False:=Y1
theorem ny9 (n:Nat):(n+9=n)=False:=Y1
theorem nx10 (n:Nat):(n=n+10)=False:=Y1
theorem ny10 (n:Nat):(n+10=n)=False:=Y1
theorem nx11 (n:Nat):(n=n+11)=False:=Y1
theorem ny11 (n:Nat):(n+11=n)=False:=Y1
theorem nx12 (n:Nat):(n=n+12)=False:=Y1
theorem ny12 (n:Nat):(n+12=n)=False:=Y1
theorem nx13 (n:Nat):(n=n+13)=False:=Y1
theorem ny13 (n:Nat):(n+13=n)=False:=Y1
theorem nx14 (n:Nat):(n=n+14)=False:=Y1
theorem ny14 (n:Nat):(n+14=n)=False:=Y1
theorem nx15 (n:Nat):(n=n+15)=False:=Y1
theorem ny15 (n:Nat):(n+15=n)=False:=Y1
theorem nx16 (n:Nat):(n=n+16)=False:=Y1
theorem ny16 (n:Nat):(n+16=n)=False:=Y1
theorem nx17 (n:Nat):(n=n+17)=False:=Y1
theorem ny17 (n:Nat):(n+17=n)=False:=Y1
theorem nx18 (n:Nat):(n=n+18)=False:=Y1
theorem ny18 (n:Nat):(n+18=n)=False:=Y1
theorem nx19 (n:Nat):(n=n+19)=False:=Y1
theorem ny19 (n:Nat):(n+19=n)=False:=Y1
theorem nx20 (n:Nat):(n=n+20)=False:=Y1
theorem ny20 (n:Nat):(n+20=n)=False:=Y1
theorem nx21 (n:Nat):(n=n+21)=False:=Y1
theorem ny21 (n:Nat):(n+21=n)=False:=Y1
theorem nx22 (n:Nat):(n=n+22)=False:=Y1
theorem ny22 (n:Nat):(n+22=n)=False:=Y1
theorem nx23 (n:Nat):(n=n+23)=False:=Y1
theorem ny23 (n:Nat):(n+23=n)=False:=Y1
theorem nx24 (n:Nat):(n=n+24)=False:=Y1
theorem ny24 (n:Nat):(n+24=n)=False:=Y1
attribute [go_sem] nx1 ny1 nx2 ny2 nx3 ny3 nx4 ny4 nx5 ny5 nx6 ny6 nx7 ny7 nx8 ny8 nx9 ny9 nx10 ny10 nx11 ny11 nx12 ny12 nx13 ny13 nx14 ny14 nx15 ny15 nx16 ny16 nx17 ny17 nx18 ny18 nx19 ny19 nx20 ny20 nx21 ny21 nx22 ny22 nx23 ny23 nx24 ny24
attribute [go_sem] PV.weak PV.weaks PV.blw PV.blws SK.base
theorem weaks_map_id {α:Type} (f:α→PV) (h:∀ x,(f x).weak=f x) (l:List α):PV.weaks (l.map f)=l.map f:=by
 rw [weaks_map,List.map_map]
 exact List.map_congr_left fun x _=>h x
theorem blws_map {α:Type} (f:α→PV) (n:Nat) (h:∀ x,(f x).blw n):∀ (l:List α),PV.blws n (l.map f)
 | []=>by simp only [List.map_nil,PV.blws]
 | x::l=>by simp only [List.map_cons,PV.blws];exact ⟨h x,blws_map f n h l⟩
end Go.PM
namespace Go.PM
open Go
section
variable {P:Program} {N:Nat} {k:List KI} {e e':Env} {s:St} {rt:Env→St→Prop}
theorem RunO.live' {ops:Array Oper} (l:List Nat) (he:Env.keep l e=e') (h:Run P N k e' s rt):RunO P N ops [] k e s rt:=by
 subst he;exact RunO.live l h
def DetC (P:Program) (ops:Array Oper) (ws:List Nat) (i:Nat) (l:List Oper) (e:Env) (s:St) (K:Env→St→Prop):Prop:=∃ e' s',Det P ops ws i l e s e' s'∧K e' s'
theorem Run.drawC {ops:Array Oper} {id:Nat} (ws:List Nat) (l:List Nat) (hm:P.follows .mixedOrders=true) (hs:drawOK ops ws=true)
  (hd:DetC P ops ws 0 ops.toList e s (fun e2 s2=>Run P N k (Env.keep l e2) s2 rt)):Run P N (.code (.region id ops true)::k) e s rt:=by
 obtain ⟨e2,s2,h1,h2⟩:=hd
 exact Run.draw ws hm hs h1 l h2
theorem DetC.nil {ops:Array Oper} {ws:List Nat} {i:Nat} {K:Env→St→Prop} (h:K e s):DetC P ops ws i [] e s K:=⟨e,s,Det.nil,h⟩
theorem DetC.pre {ops:Array Oper} {ws:List Nat} {i:Nat} {K:Env→St→Prop} {pre l:List Oper} {e1:Env} (h:dops P ops pre e s=some e1) (hd:DetC P ops ws (i+pre.length) l e1 s K):DetC P ops ws i (pre++l) e s K:=by
 obtain ⟨e2,s2,h1,h2⟩:=hd
 exact ⟨e2,s2,Det.pre h h1,h2⟩
theorem DetC.all {ops:Array Oper} {ws:List Nat} {i:Nat} {K:Env→St→Prop} {l:List Oper} {e1:Env} (h:dops P ops l e s=some e1) (hk:K e1 s):DetC P ops ws i l e s K:=⟨e1,s,Det.all h,hk⟩
theorem DetC.call {ops:Array Oper} {ws:List Nat} {i:Nat} {K:Env→St→Prop} {d:Option Nat} {c:Call} {t:TypeId} {pos:String} {af:Array Edge} {gd:Option (Nat × Bool)} {l:List Oper} {f:FuncId} {args args':List PV} {v:PV}
  (hg:guard? ops ⟨d,.call c,t,pos,af,gd⟩ (Env.keep (slotsOf ops ⟨d,.call c,t,pos,af,gd⟩) e)=some true)
  (ha:acall c (Env.keep (slotsOf ops ⟨d,.call c,t,pos,af,gd⟩) e)=some (f,args)) (hw:PV.weaks args=args') (hc:callable P f=true)
  (h:ACalls P f args' s fun r s1=>r=v∧s1=s) (hd:DetC P ops ws (i+1) l (e.put d v) s K):DetC P ops ws i (⟨d,.call c,t,pos,af,gd⟩::l) e s K:=by
 obtain ⟨e2,s2,h1,h2⟩:=hd
 exact ⟨e2,s2,Det.call hg ha hw hc h h1,h2⟩
theorem DetC.eff {ops:Array Oper} {ws:List Nat} {i:Nat} {K:Env→St→Prop} {o:Oper} {l:List Oper} {v:PV} {s1:St} (hi:ws.contains i=true) (hg:guard? ops o (Env.keep (slotsOf ops o) e)=some true)
  (ha:acore P o.op (ev (Env.keep (slotsOf ops o) e)) s=some (v,s1)) (hd:DetC P ops ws (i+1) l (e.put o.dst v) s1 K):DetC P ops ws i (o::l) e s K:=by
 obtain ⟨e2,s2,h1,h2⟩:=hd
 exact ⟨e2,s2,Det.eff hi hg ha h1,h2⟩
theorem DetC.effect {ops:Array Oper} {ws:List Nat} {i:Nat} {K:Env→St→Prop} {o:Oper} {l:List Oper} {v:PV} {s1:St} (hi:ws.contains i=true) (hg:guard? ops o (Env.keep (slotsOf ops o) e)=some true)
  (he:∀ g w (a:Act),Inv P g s w→EnvOK g w (Env.keep (slotsOf ops o) e) a.tmps→Effect P o g w a v s1) (hd:DetC P ops ws (i+1) l (e.put o.dst v) s1 K):DetC P ops ws i (o::l) e s K:=by
 obtain ⟨e2,s2,h1,h2⟩:=hd
 have hi':i∈ws:=Y128
 exact ⟨e2,s2,Det.cons (DOp.of_effect hg he) (fun h=>absurd hi' h) (fun _ h=>absurd hi' h) h1,h2⟩
theorem DetC.appendFirst {ops:Array Oper} {ws:List Nat} {i:Nat} {K:Env→St→Prop} {d:Option Nat} {x y:Operand} {t ty:TypeId} {pos:String} {af:Array Edge} {gd:Option (Nat × Bool)} {l:List Oper} {el:TypeId} {kx ky:SK} {xs ys:List PV} {v:PV} {s1:St}
  (hi:ws.contains i=true) (hg:guard? ops ⟨d,.call ⟨.builtin .append,#[x,y],#[t,t]⟩,ty,pos,af,gd⟩ (Env.keep (slotsOf ops ⟨d,.call ⟨.builtin .append,#[x,y],#[t,t]⟩,ty,pos,af,gd⟩) e)=some true)
  (hx:ev (Env.keep (slotsOf ops ⟨d,.call ⟨.builtin .append,#[x,y],#[t,t]⟩,ty,pos,af,gd⟩) e) x=.sl kx xs) (hy:ev (Env.keep (slotsOf ops ⟨d,.call ⟨.builtin .append,#[x,y],#[t,t]⟩,ty,pos,af,gd⟩) e) y=.sl ky ys)
  (htd:td P t=.sl el) (hz:(zpv P el).isSome=true) (hex:isEls P el xs) (hey:isEls P el ys) (hb0:0<P.bytesOf el) (hlen:(xs.length+ys.length)*P.bytesOf el≤140737488355328) (ha:aAppendFirst P el kx xs ys s=some (v,s1))
  (hd:DetC P ops ws (i+1) l (e.put d v) s1 K):DetC P ops ws i (⟨d,.call ⟨.builtin .append,#[x,y],#[t,t]⟩,ty,pos,af,gd⟩::l) e s K:=by
 refine DetC.effect hi hg (fun g w a hI hE=>?_) hd
 have h1:=ev_R hE x
 have h2:=ev_R hE y
 rw [hx] at h1
 rw [hy] at h2
 obtain ⟨val,w',g',r1,r2,r3,r4⟩:=aAppendFirst_run (ty:=ty) hI h1 h2 htd hz hex hey hb0 hlen ha
 exact ⟨val,w',g',.inl (append_exec rfl r1),r2,r3,r4⟩
theorem RunO.bcase {ops:Array Oper} {l:List Oper} {b:Bool} (i:Nat) (hi:e.get i=.bool b) (ht:b=true→RunO P N ops l k ((i,.bool true)::e) s rt) (hf:b=false→RunO P N ops l k ((i,.bool false)::e) s rt):RunO P N ops l k e s rt:=by
 intro ok okk idx hidx g w a hI hE hd hN
 have hv:=hE i
 rw [hi] at hv
 cases b with
 | true=>exact ht rfl ok okk idx hidx g w a hI (hE.cons hv) hd hN
 | false=>exact hf rfl ok okk idx hidx g w a hI (hE.cons hv) hd hN
def ivar (e:Env) (i:Nat):Nat:=match e.get i with
 | .int _ n=>n.toNat
 | _=>0
theorem wrap_i64 {n:Int} (h: -9223372036854775808≤n∧n≤9223372036854775807):IntKind.i64.wrap n=n:=by
 simp [IntKind.wrap,IntKind.signed,IntKind.bits]
 omega
theorem Run.envEq' (he:e=e') (h:Run P N k e' s rt):Run P N k e s rt:=by
 subst he;exact h
end
end Go.PM
namespace Go.PM
open Go
def Grows (s:St) (k:SK) (n z:Nat):Prop:=k=.nil∧n=0∨(k=.clip∨k=.unc)∨∃ t,k=.tok t z∧s.blk t=some (.tok n)
theorem new_wf {s:St} (h:s.wf) (b:Blk):(s.new b).wf:=fun i hi=>by
 have hi:s.nxt+1≤i:=hi
 show (if i=s.nxt then some b else s.blk i)=none
 rw [if_neg Y2]
 exact h i Y2
structure TMoves (s s':St) (k k':SK):Prop where
 wf:s.wf→s'.wf
 nxt:s.nxt≤s'.nxt
 rest:∀ i,i<s.nxt→(∀ z,k≠.tok i z)→s'.blk i=s.blk i
 fresh:∀ i z,k'=.tok i z→(∃ z',k=.tok i z')∨s.nxt≤i∧i<s'.nxt
theorem Grows.mono {s s':St} {k:SK} {n z:Nat} (h:Grows s k n z) (hf:∀ t,k=.tok t z→s'.blk t=s.blk t):Grows s' k n z:=by
 rcases h with h | h | ⟨t,h1,h2⟩
 ·exact .inl h
 ·exact .inr (.inl h)
 ·exact .inr (.inr ⟨t,h1,by rw [hf t h1];exact h2⟩)
theorem Grows.ne {s:St} {k:SK} {n z t z':Nat} {b:Blk} (h:Grows s k n z) (hk:k=.tok t z') (i:Nat) (hb:s.blk i=some b) (hr:∀ n,b≠.tok n):t≠i:=by
 rintro rfl
 rcases h with ⟨h,_⟩ | h | ⟨t',h1,h2⟩
 ·rw [hk] at h;cases h
 ·rw [hk] at h;rcases h with h | h<;>cases h
 ·rw [hk] at h1;cases h1;rw [hb] at h2;exact hr _ (Option.some.inj h2)
theorem Grows.append {P:Program} {s:St} {e:TypeId} {k:SK} {xs ys:List PV} (h:Grows s k xs.length (P.cellsOf e)) (hy:ys≠[]) :
  ∃ k' s',aAppend P e k xs ys s=some (.sl k' (xs++ys),s')∧Grows s' k' (xs.length+ys.length) (P.cellsOf e)∧TMoves s s' k k':=by
 have new:(k=.nil∨k=.clip∨k=.unc)→aAppend P e k xs ys s=some (.sl (.tok s.nxt (P.cellsOf e)) (xs++ys),s.new (.tok (xs.length+ys.length)))∧Grows (s.new (.tok (xs.length+ys.length))) (.tok s.nxt (P.cellsOf e)) (xs.length+ys.length) (P.cellsOf e)∧TMoves s (s.new (.tok (xs.length+ys.length))) k (.tok s.nxt (P.cellsOf e)):=by
  intro hk
  refine ⟨?_,.inr (.inr ⟨s.nxt,rfl,by simp [St.new]⟩),⟨fun hwf=>new_wf hwf _,Nat.le_succ _,fun i hi _=>?_,fun i z e=>.inr (by cases e;exact ⟨Nat.le_refl _,Nat.lt_succ_self _⟩)⟩⟩
  ·unfold aAppend
   rw [if_neg hy]
   rcases hk with rfl | rfl | rfl<;>rfl
  ·show (if i=s.nxt then _ else s.blk i)=s.blk i
   rw [if_neg Y2]
 rcases h with ⟨rfl,_⟩ | h | ⟨t,rfl,ht⟩
 ·exact ⟨_,_,new (.inl rfl)⟩
 ·exact ⟨_,_,new (.inr h)⟩
 ·refine ⟨.tok t (P.cellsOf e),s.set t (some (.tok (xs.length+ys.length))),?_,.inr (.inr ⟨t,rfl,blk_set_self _ _ _⟩),⟨fun hwf i hi=>by
   rw [blk_set]
   split
   ·rename_i e
    subst e
    rw [hwf i hi] at ht
    cases ht
   ·exact hwf i hi,Nat.le_refl _,fun i hi hk=>?_,fun i z e=>.inl ⟨_,by cases e;rfl⟩⟩⟩
  ·unfold aAppend
   rw [if_neg hy]
   simp only [ht]
   simp only [and_self,if_true]
  ·rw [blk_set,if_neg]
   rintro rfl
   exact hk _ rfl
section
variable {P:Program} {N:Nat} {k:List KI} {e e':Env} {s:St} {rt:Env→St→Prop}
theorem RunO.grow {ops:Array Oper} {d:Option Nat} {x y:Operand} {t ty:TypeId} {pos:String} {af:Array Edge} {gd:Option (Nat × Bool)} {l:List Oper} {el:TypeId} {kx ky:SK} {xs ys:List PV}
  (hg:guard? ops ⟨d,.call ⟨.builtin .append,#[x,y],#[t,t]⟩,ty,pos,af,gd⟩ e=some true) (hx:ev e x=.sl kx xs) (hy:ev e y=.sl ky ys) (htd:td P t=.sl el) (hz:(zpv P el).isSome=true)
  (hex:isEls P el xs) (hey:isEls P el ys) (hb0:0<P.bytesOf el) (hlen:(xs.length+ys.length)*P.bytesOf el≤140737488355328) (hgr:Grows s kx xs.length (P.cellsOf el)) (hys:ys≠[])
  (h:∀ k' s',Grows s' k' (xs.length+ys.length) (P.cellsOf el)→TMoves s s' kx k'→RunO P N ops l k (e.put d (.sl k' (xs++ys))) s' rt) :
  RunO P N ops (⟨d,.call ⟨.builtin .append,#[x,y],#[t,t]⟩,ty,pos,af,gd⟩::l) k e s rt:=by
 obtain ⟨k',s',h1,h2,h3⟩:=hgr.append (P:=P) hys
 exact RunO.append hg hx hy htd hz hex hey hb0 hlen h1 (h k' s' h2 h3)
theorem Grows.append' {P:Program} {s:St} {e:TypeId} {k:SK} {xs ys:List PV} (h:Grows s k xs.length (P.cellsOf e)) :
  ∃ k' s',aAppend P e k xs ys s=some (.sl k' (xs++ys),s')∧Grows s' k' (xs.length+ys.length) (P.cellsOf e)∧TMoves s s' k k':=by
 by_cases hy:ys=[]
 ·subst hy
  exact ⟨k,s,by unfold aAppend;rw [if_pos rfl,List.append_nil],Y170,⟨fun h=>h,Nat.le_refl _,fun _ _ _=>rfl,fun i z e=>.inl ⟨z,e⟩⟩⟩
 ·exact h.append hy
theorem RunO.grow' {ops:Array Oper} {d:Option Nat} {x y:Operand} {t ty:TypeId} {pos:String} {af:Array Edge} {gd:Option (Nat × Bool)} {l:List Oper} {el:TypeId} {kx ky:SK} {xs ys:List PV}
  (hg:guard? ops ⟨d,.call ⟨.builtin .append,#[x,y],#[t,t]⟩,ty,pos,af,gd⟩ e=some true) (hx:ev e x=.sl kx xs) (hy:ev e y=.sl ky ys) (htd:td P t=.sl el) (hz:(zpv P el).isSome=true)
  (hex:isEls P el xs) (hey:isEls P el ys) (hb0:0<P.bytesOf el) (hlen:(xs.length+ys.length)*P.bytesOf el≤140737488355328) (hgr:Grows s kx xs.length (P.cellsOf el))
  (h:∀ k' s',Grows s' k' (xs.length+ys.length) (P.cellsOf el)→TMoves s s' kx k'→RunO P N ops l k (e.put d (.sl k' (xs++ys))) s' rt) :
  RunO P N ops (⟨d,.call ⟨.builtin .append,#[x,y],#[t,t]⟩,ty,pos,af,gd⟩::l) k e s rt:=by
 obtain ⟨k',s',h1,h2,h3⟩:=hgr.append' (P:=P) (ys:=ys)
 exact RunO.append hg hx hy htd hz hex hey hb0 hlen h1 (h k' s' h2 h3)
theorem DetC.grow {ops:Array Oper} {ws:List Nat} {i:Nat} {K:Env→St→Prop} {d:Option Nat} {x y:Operand} {t ty:TypeId} {pos:String} {af:Array Edge} {gd:Option (Nat × Bool)} {l:List Oper} {el:TypeId} {kx ky:SK} {xs ys:List PV}
  (hi:ws.contains i=true) (hg:guard? ops ⟨d,.call ⟨.builtin .append,#[x,y],#[t,t]⟩,ty,pos,af,gd⟩ (Env.keep (slotsOf ops ⟨d,.call ⟨.builtin .append,#[x,y],#[t,t]⟩,ty,pos,af,gd⟩) e)=some true)
  (hx:ev e x=.sl kx xs) (hy:ev e y=.sl ky ys) (htd:td P t=.sl el) (hz:(zpv P el).isSome=true)
  (hex:isEls P el xs) (hey:isEls P el ys) (hb0:0<P.bytesOf el) (hlen:(xs.length+ys.length)*P.bytesOf el≤140737488355328) (hgr:Grows s kx xs.length (P.cellsOf el)) (hys:ys≠[])
  (h:∀ k' s',Grows s' k' (xs.length+ys.length) (P.cellsOf el)→TMoves s s' kx k'→DetC P ops ws (i+1) l (e.put d (.sl k' (xs++ys))) s' K) :
  DetC P ops ws i (⟨d,.call ⟨.builtin .append,#[x,y],#[t,t]⟩,ty,pos,af,gd⟩::l) e s K:=by
 obtain ⟨k',s',h1,h2,h3⟩:=hgr.append (P:=P) hys
 obtain ⟨e2,s2,d1,d2⟩:=h k' s' h2 h3
 exact ⟨e2,s2,Det.append hi hg hx hy htd hz hex hey hb0 hlen h1 d1,d2⟩
end
def gundef (ops:Array Oper) (o:Oper) (e:Env):Bool :=
 match o.guard with
 | none=>false
 | some (j,_)=>match (ops[j]?).bind (fun o=>o.dst) with
   | none=>false
   | some d=>match Env.get e d with
     | .tuple []=>true
     | _=>false
theorem gundef_wanted {g w ops o e} {a:Act} (h:gundef ops o e=true) (hE:EnvOK g w e a.tmps):Region.wanted o (yielded ops a.tmps)=false:=by
 unfold gundef at h
 unfold Region.wanted
 cases hg:o.guard with
 | none=>rw [hg] at h;cases h
 | some x =>
   obtain ⟨j,want⟩:=x
   rw [hg] at h
   simp only at h ⊢
   cases hd:(ops[j]?).bind (fun o=>o.dst) with
   | none=>rw [hd] at h;cases h
   | some d =>
     rw [hd] at h
     simp only at h
     split at h
     case h_2=>cases h
     rename_i hb
     have hv:=hE d
     rw [hb] at hv
     simp only [R,RA] at hv
     obtain ⟨x,hx,hx2⟩:=hv
     unfold yielded
     rw [hd]
     simp only [Option.bind_some]
     rw [Array.getD_eq_getD_getElem?] at hx
     cases hq:a.tmps[d]? with
     | none=>rfl
     | some v =>
       rw [hq] at hx
       simp only [Option.getD_some] at hx
       subst hx
       rfl
section
variable {P:Program} {N:Nat} {k:List KI} {e:Env} {s:St} {rt:Env→St→Prop}
theorem Y242 {p:Prop} (h:p:=by simp only [R,RA];exact ⟨#[],rfl,rfl⟩):p:=h
theorem RunO.gskip' {ops:Array Oper} {o:Oper} {l:List Oper} (hg:guard? ops o e=some false) (h:RunO P N ops l k (e.put o.dst (.tuple [])) s rt):RunO P N ops (o::l) k e s rt:=by
 intro ok okk idx hidx g w a hI hE hd hN
 obtain ⟨i,r,rfl,ho,hr⟩:=idx_cons hidx
 simp only [List.all_cons,Bool.and_eq_true] at ok
 have hw:=guard_wanted hg hE
 simp only [wpOps,ho,hw,if_false,Bool.false_eq_true]
 exact h ok.2 okk r hr g w (a.put o.dst undef) hI (hE.put hN (okOp_lt ok.1) Y242) Y59 Y124
theorem RunO.gskipU {ops:Array Oper} {o:Oper} {l:List Oper} (hg:gundef ops o e=true) (h:RunO P N ops l k (e.put o.dst (.tuple [])) s rt):RunO P N ops (o::l) k e s rt:=by
 intro ok okk idx hidx g w a hI hE hd hN
 obtain ⟨i,r,rfl,ho,hr⟩:=idx_cons hidx
 simp only [List.all_cons,Bool.and_eq_true] at ok
 have hw:=gundef_wanted hg hE
 simp only [wpOps,ho,hw,if_false,Bool.false_eq_true]
 exact h ok.2 okk r hr g w (a.put o.dst undef) hI (hE.put hN (okOp_lt ok.1) Y242) Y59 Y124
end
attribute [go_sem] gundef aEqStruct eqScalars
theorem ACalls.wf {P:Program} {f:FuncId} {args:List PV} {s:St} {Q:PV→St→Prop} (h:ACalls P f args s Q):ACalls P f args s (fun r s'=>s'.wf∧Q r s') :=
 fun g w vs hI hR=>(h g w vs hI hR).mono fun e w' ⟨v,g',r,s',h1,h2,h3,h4,h5⟩=>⟨v,g',r,s',h1,h2,h3,h4,h2.wf,h5⟩
theorem isEls_map {α:Type} {P:Program} {e:TypeId} {f:α→PV} (h:∀ a,(f a).ok=true∧(f a).cells.length=P.cellsOf e) (l:List α):isEls P e (l.map f):=by
 intro x hx
 obtain ⟨a,_,rfl⟩:=List.mem_map.1 hx
 exact h a
end Go.PM
namespace Go.PM
open Go
theorem flat_replicate_get (v:Value):∀ (n i:Nat),i<n*v.cells.size→(flat (List.replicate n v))[i]? =v.cells.toList[i%v.cells.size]?
 | 0,i,h=>by simp at h
 | n+1,i,h=>by
   rw [List.replicate_succ]
   show (v.cells.toList++flat (List.replicate n v))[i]? =_
   by_cases h1:i<v.cells.size
   ·rw [List.getElem?_append_left (by simpa using h1),Nat.mod_eq_of_lt h1]
   ·rw [List.getElem?_append_right (by simpa using h1),Array.length_toList,flat_replicate_get v n (i-v.cells.size) (by rw [Nat.succ_mul] at h;omega),← Nat.mod_eq_sub_mod Y2]
theorem zeroCells_flat (v:Value) (n:Nat):(Builtin.zeroCells v.cells n).toList=flat (List.replicate n v):=by
 apply List.ext_getElem?
 intro i
 have hl:(flat (List.replicate n v)).length=n*v.cells.size:=by
  rw [flat_length (sz:=v.cells.size) (fun u hu=>by rw [(List.mem_replicate.1 hu).2]),List.length_replicate]
 by_cases hi:i<n*v.cells.size
 ·rw [flat_replicate_get v n i hi]
  have hs:0<v.cells.size:=Nat.pos_of_ne_zero (by intro e;rw [e] at hi;simp at hi)
  have hm:i%v.cells.size<v.cells.size:=Nat.mod_lt _ hs
  unfold Builtin.zeroCells
  rw [Array.getElem?_toList,Array.getElem?_eq_getElem Y128,Array.getElem_map,Array.getElem_range,List.getElem?_eq_getElem (by simpa using hm)]
  rw [getElem!_pos v.cells _ hm]
  simp
 ·rw [List.getElem?_eq_none (l:=(Builtin.zeroCells v.cells n).toList) (by rw [Array.length_toList,size_zeroCells];omega),List.getElem?_eq_none (by rw [hl];omega)]
def aClear (P:Program) (e:TypeId) (id off len:Nat) (s:St):Option St :=
 match s.blk id,zpv P e with
 | some (.row ty els),some z=>if 0<len∧P.cellsOf e=P.cellsOf ty∧off+len≤els.length then some (s.set id (some (.row ty (els.take off++List.replicate len z++els.drop (off+len))))) else none
 | _,_=>none
theorem RA_replicate {g w p v} (h:R g w p v):∀ n,RA g w (List.replicate n p) (List.replicate n v)
 | 0=>rfl
 | n+1=>by
   rw [List.replicate_succ,List.replicate_succ]
   simp only [RA]
   exact ⟨v,_,rfl,h,RA_replicate h n⟩
theorem Y189 {p:Prop} (h:p:=by
 rw [putCells_cell_out _ _ _ _ _ _ Y2]
 have hq:=cellsAt_take a2 (off*P.cellsOf tyr)
 rw [← hft] at hq
 exact hq j hj):p:=h
theorem aClear_run {P:Program} {g s w t ty e id off len va s'} (h:Inv P g s w) (hx:R g w (.own id off len) va) (htd:td P t=.sl e) (ha:aClear P e id off len s=some s') :
  ∃ w',(Builtin.clear_ #[t] ty #[va]).run P w=.ok (.tuple #[]) w'∧Inv P g s' w'∧Ext g w g w':=by
 unfold aClear at ha
 split at ha
 case h_2=>cases ha
 rename_i tyr els z hbl hz
 split at ha
 case isFalse=>cases ha
 rename_i hc
 obtain ⟨hl0,hce,hle⟩:=hc
 cases ha
 have hu:=td_slice htd
 obtain ⟨zv,hz1,hz2,hz3,hz4,hpos,hz6,hz7⟩:=zero_run (P:=P) (w:=w) hz
 have hat:=h.at' id
 rw [hbl] at hat
 obtain ⟨_,hlv,b,vs,hr,hrp,hrow⟩:=hat
 obtain ⟨a1,a2,a3,a4⟩:=hrow
 have hvl:=RA_length a4
 simp only [R] at hx
 obtain ⟨_,b',sz',cap,hr',hcap,rfl,hcs⟩:=hx
 rw [hr] at hr';cases hr'
 have hsz':∀ v∈vs,v.cells.size=P.cellsOf tyr:=fun v hv=>(a3 v hv).1
 have hflt:∀ x∈zv.cells.toList,x.flat=true:=by
  cases hzv:zv with
  | agg cs=>rw [hzv] at hz3;simp only [flatV] at hz3;exact fun x hx=>List.all_eq_true.1 hz3 x hx
  | tuple vs=>exact absurd hzv (hz6 vs)
  | _=>intro x hx;simp [Value.cells] at hx;subst hx;rfl
 have hzr:R g w z zv:=by rw [hz2];exact pvOf_R g w zv (fun cs e x hx=>hflt x (by rw [e];simpa [Value.cells] using hx))
 have hfz:(flat (List.replicate len zv)).length=len*P.cellsOf tyr:=by
  rw [flat_length (sz:=P.cellsOf tyr) (fun u hu=>by rw [(List.mem_replicate.1 hu).2,hz4,hce]),List.length_replicate]
 have hfit:off*P.cellsOf tyr+(flat (List.replicate len zv)).length≤csize w b:=by
  rw [hfz,← Nat.add_mul]
  exact Nat.le_trans (Nat.mul_le_mul_right _ Y2) hcs
 have hft:flat (vs.take off)=(flat vs).take (off*P.cellsOf tyr):=flat_take vs _ hsz' off
 have hfd:flat (vs.drop (off+len))=(flat vs).drop ((off+len)*P.cellsOf tyr):=flat_drop vs _ hsz' (off+len)
 have hlt:(flat (vs.take off)).length=off*P.cellsOf tyr:=by
  rw [flat_length (sz:=P.cellsOf tyr) (fun v hv=>hsz' v (List.mem_of_mem_take hv)),List.length_take,Nat.min_eq_left Y2]
 have hcells:cellsAt (putCells w b (off*P.cellsOf tyr) (flat (List.replicate len zv))) b 0 (flat (vs.take off++List.replicate len zv++vs.drop (off+len))):=by
  rw [flat_append,flat_append,cellsAt_append,cellsAt_append]
  refine ⟨⟨fun j hj=>?_,?_⟩,fun j hj=>?_⟩
  ·exact Y189
  ·rw [hlt,Nat.zero_add]
   exact putCells_cell_in _ _ _ _ hfit
  ·rw [List.length_append,hlt,hfz,Nat.zero_add]
   rw [putCells_cell_out _ _ _ _ _ _ (by rw [hfz];omega)]
   have hq:=cellsAt_drop a2 ((off+len)*P.cellsOf tyr)
   rw [← hfd] at hq
   have:=hq j hj
   rw [Nat.zero_add,Nat.add_mul] at this
   exact this
 have hcat:∀ v∈vs.take off++List.replicate len zv++vs.drop (off+len),v.cells.size=P.cellsOf tyr∧∀ x∈v.cells.toList,x.flat=true:=by
  intro v hv
  rcases List.mem_append.1 hv with hv | hv
  ·rcases List.mem_append.1 hv with hv | hv
   ·exact a3 v (List.mem_of_mem_take hv)
   ·rw [(List.mem_replicate.1 hv).2];exact ⟨by rw [hz4,hce],hflt⟩
  ·exact a3 v (List.mem_of_mem_drop hv)
 obtain ⟨k1,k2⟩:=rowStore_step (els':=els.take off++List.replicate len z++els.drop (off+len)) (vs':=vs.take off++List.replicate len zv++vs.drop (off+len)) (o:=off*P.cellsOf tyr) (xs:=flat (List.replicate len zv)) h hbl hr hcells hcat
  (RA_append (RA_append (RA_take _ a4) (RA_replicate hzr len)) (RA_drop _ a4))
 refine ⟨_,?_,k1,k2⟩
 have hst:=storeCells_run P b (flat (List.replicate len zv)) w (off*P.cellsOf tyr) 0 (by
  intro v hv
  simp only [flat,List.mem_flatMap] at hv
  obtain ⟨u,hu1,hu2⟩:=hv
  rw [(List.mem_replicate.1 hu1).2] at hu2
  exact hflt v hu2) a1 (by simpa using hfit)
 unfold Builtin.clear_
 obtain ⟨len',rfl⟩:∃ k,len=k+1:=⟨len-1,Y2⟩
 simp only [List.getElem?_toArray,List.getElem?_cons_zero,bind_run,underlying_run hu,hz1,zeroCells_flat,hst,pure_run,Nat.add_zero]
section
variable {P:Program} {N:Nat} {k:List KI} {e e':Env} {s:St} {rt:Env→St→Prop}
theorem RunO.clear {ops:Array Oper} {d:Option Nat} {x:Operand} {t ty:TypeId} {pos:String} {af:Array Edge} {gd:Option (Nat × Bool)} {l:List Oper} {el:TypeId} {id off len:Nat} {s':St}
  (hg:guard? ops ⟨d,.call ⟨.builtin .clear,#[x],#[t]⟩,ty,pos,af,gd⟩ e=some true) (hx:ev e x=.own id off len) (htd:td P t=.sl el) (ha:aClear P el id off len s=some s')
  (h:RunO P N ops l k (e.put d (.tuple [])) s' rt):RunO P N ops (⟨d,.call ⟨.builtin .clear,#[x],#[t]⟩,ty,pos,af,gd⟩::l) k e s rt:=by
 refine RunO.eff hg (fun g w a hI hE=>?_) h
 have h1:=ev_R hE x
 rw [hx] at h1
 obtain ⟨w',r1,r2,r3⟩:=aClear_run (ty:=ty) hI h1 htd ha
 refine ⟨.tuple #[],w',g,.inl ?_,r2,r3,by simp only [R];exact ⟨#[],rfl,rfl⟩⟩
 unfold execOp
 simp only [resolve,bind_run,pure_run,invoke,builtin]
 have:Array.map a.eval #[x]= #[a.eval x]:=Y1
 rw [this]
 unfold Go.invoke
 simp only [builtin,bind_run,r1,pure_run]
end
end Go.PM
namespace Go.PM
open Go
theorem tail_order {P:Program} {ops:Array Oper} {Q:Exit→Act→World→Prop} {n:Nat} (hcut:∀ i j,n≤j→j<ops.size→i<j→((masks ops.toList []).getD j 0).testBit i=true)
  (hedge:∀ (j:Nat) (oj:Oper),ops[j]? =some oj→∀ e∈oj.after,Region.binds .any e=true→e.on<j)
  (hmask:∀ (L:Nat→Prop),DC ops L→∀ (k:Nat) (o:Oper),ops[k]? =some o→(∀ e∈o.after,Region.binds .any e=true→L e.on)→∀ b,((masks ops.toList []).getD k 0).testBit b=true→L b) :
  ∀ (d fuel m:Nat) (listed:Array Bool) (a:Act) (w:World),m+d=ops.size→d≤fuel→n≤m→(∀ k,listed.getD k false=decide (k<m))→listed.size=ops.size→DC ops (fun k=>listed.getD k false=true) →
   wpOps P ops Q (List.range' m d) a w→wpAny P .any ops Q fuel listed a w:=by
 intro d
 induction d with
 | zero =>
   intro fuel m listed a w hmd hf hnm hl hsz hdc h
   have hr:Region.ready .any ops listed=[]:=by
    cases hr:Region.ready .any ops listed with
    | nil=>rfl
    | cons x xs =>
      have hx:x∈Region.ready .any ops listed:=by rw [hr];simp
      obtain ⟨h0,o,ho,_⟩:=mem_ready.1 hx
      have hx':=(Array.getElem?_eq_some_iff.1 ho).1
      have:=hl x
      rw [Array.getD_eq_getD_getElem?,Array.getElem?_eq_getElem Y2] at this h0
      simp only [Option.getD_some] at this h0
      rw [h0] at this
      simp at this;omega
   cases fuel with
   | zero=>exact ⟨hr,h⟩
   | succ f =>
     refine ⟨fun _=>h,fun i hi=>?_⟩
     rw [hr] at hi;simp at hi
 | succ d ih =>
   intro fuel m listed a w hmd hf hnm hl hsz hdc h
   obtain ⟨f,rfl⟩:∃ f,fuel=f+1:=⟨fuel-1,Y2⟩
   have hm:m<ops.size:=Y2
   obtain ⟨om,hom⟩:∃ o,ops[m]? =some o:=⟨ops[m],Y1⟩
   have hgt:∀ k,k<ops.size→listed.getD k true=listed.getD k false:=fun k hk=>by
    rw [Array.getD_eq_getD_getElem?,Array.getD_eq_getD_getElem?,Array.getElem?_eq_getElem Y2];rfl
   have hmr:m∈Region.ready .any ops listed:=mem_ready.2 ⟨by rw [hgt m hm,hl m];simp,om,hom,fun e he hb=>by rw [hl];simpa using hedge m om hom e he hb⟩
   refine ⟨fun hr=>?_,fun i hi=>?_⟩
   ·rw [hr] at hmr;simp at hmr
   obtain ⟨h0,o,ho,hedges⟩:=mem_ready.1 hi
   have hlt:=(Array.getElem?_eq_some_iff.1 ho).1
   have hge:m≤i:=by
    rw [hgt i hlt,hl i] at h0
    simpa using h0
   have him:i=m:=by
    by_cases he:i=m
    ·exact he
    ·have:listed.getD m false=true:=hmask _ hdc i o ho hedges m (hcut m i Y2 hlt Y2)
     rw [hl m] at this
     simp at this
   subst him
   rw [List.range'_succ,wpOps_cons] at h
   refine wpOp_mono (fun a' w' h'=>?_) h
   have hgd:∀ k,(listed.setIfInBounds i true).getD k false=if k=i then true else listed.getD k false:=by
    intro k
    by_cases e:k=i
    ·exact Y6
    ·exact Y7
   refine ih f (i+1) _ a' w' Y2 Y2 Y2 (fun k=>?_) Y304 ?_ h'
   ·rw [hgd,hl k]
    by_cases e:k=i
    ·subst e;simp
    ·rw [if_neg e]
     congr 1
     exact propext ⟨fun x=>Y2,fun x=>Y2⟩
   ·intro k ok hk hlk e he hb
    have hlk:(listed.setIfInBounds i true).getD k false=true:=hlk
    show (listed.setIfInBounds i true).getD e.on false=true
    rw [hgd] at hlk ⊢
    split
    ·rfl
    ·by_cases e1:k=i
     ·subst e1
      rw [ho] at hk;cases hk
      exact hedges e he hb
     ·rw [if_neg e1] at hlk
      exact hdc k ok hk hlk e he hb
theorem Y12 {p:Prop} (h:p:=by
 refine Nat.le_trans ?_ hcnt
 have e1:((List.range ops.size).filter fun k=> !listed.getD k true)=((List.range ops.size).filter fun k=>decide (n≤k)):=by
  apply List.filter_congr
  intro k hk
  have hk:=List.mem_range.1 hk
  have h3:listed.getD k true=listed.getD k false:=by
   rw [Array.getD_eq_getD_getElem?,Array.getD_eq_getD_getElem?,Array.getElem?_eq_getElem Y2];rfl
  rw [h3]
  by_cases hkn:k<n
  ·rw [hall' k hkn];simp;omega
  ·rw [hhi k Y2];simp;omega
 rw [e1]
 have e2:∀ m,((List.range m).filter fun k=>decide (n≤k)).length=m-n:=by
  intro m
  induction m with
  | zero=>simp
  | succ m ih =>
    rw [List.range_succ,List.filter_append,List.length_append,ih]
    by_cases h:n≤m
    ·simp [h];omega
    ·simp [h];omega
 rw [e2];exact Nat.le_refl _):p:=h
theorem Y13 {p:Prop} (h:p:=by
 intro hr
 exfalso
 apply hfull
 have hall:∀ m k,k≤m→k<ops.size→listed.getD k false=true:=by
  intro m
  induction m with
  | zero =>
    intro k hk hlt
    have:k=0:=by omega
    subst this
    exact any_order.ready_all hr hedge hsz (fun i hi=>Y2) hlt
  | succ m ihm =>
    intro k hk hlt
    exact any_order.ready_all hr hedge hsz (fun i hi=>ihm i Y2 Y2) hlt
 exact fun k hk=>hall k k (Nat.le_refl _) Y2):p:=h
theorem Y14 {p:Prop} (h:p:=by
 have:lastW (wslot ops j) (fun k=>(listed.setIfInBounds i true).getD k false) n=lastW (wslot ops j) (fun k=>listed.getD k false) n:=by
  refine lastW_congr fun k hk hp=>?_
  rw [hgd,if_neg]
  rintro rfl
  rw [wslot_eq ho] at hp
  exact hw hp
 rw [this]
 have h3:=R_ext hX' _ _ (hslots j)
 cases hdst:o.dst with
 | none=>exact h3
 | some d =>
   have hjd:d≠j:=by
    rintro rfl
    exact hw (by simp [writesSlot,hdst])
   simp only [Act.put]
   rw [Array.getD_eq_getD_getElem?,Array.getElem?_setIfInBounds,if_neg hjd,← Array.getD_eq_getD_getElem?]
   exact h3):p:=h
theorem Y66 {p:Prop} (h:p:=by
 intro k
 by_cases hkn:k<n
 ·rw [hall' k hkn];simp [hkn]
 ·rw [hhi k Y2];simp [hkn]):p:=h
theorem Y67 {p:Prop} (h:p:=by
 have hni:i∉ws:=by simpa using hw
 have:lastW (fun k=>ws.contains k) (fun k=>(listed.setIfInBounds i true).getD k false) n=lastW (fun k=>ws.contains k) (fun k=>listed.getD k false) n:=by
  refine lastW_congr fun k hk hp=>?_
  rw [hgd',if_neg]
  rintro rfl
  exact hni Y240
 rw [this,← hstore]
 exact hS i o hin ho hni):p:=h
theorem Y131 {p:Prop} (h:p:=by
 have:ws.contains i=false:=by simpa using hw
 rw [this,hS i o Y2 ho hw,ih Y2];simp):p:=h
theorem Y132 {p:Prop} (h:p:=by exact fin _ listed g s w a hsz hcnt hdc hhi hI hX hd hn hslots hstore hfull):p:=h
theorem Y133 {p:Prop} (h:p:=by
 exfalso
 exact hfull fun k hk=>hanc k (hcut k i Y2 hlt Y2)):p:=h
theorem Y134 {p:Prop} (h:p:=by exact (fun k hk=>by rw [hgd,if_neg Y2];exact hhi k hk)):p:=h
theorem any_order_cut {P:Program} {ops:Array Oper} {ws:List Nat} {N:Nat} {e0:Env} {Q:Exit→Act→World→Prop} {V:Nat→PV} {S:Nat→St} {E:Nat→Env} {g0:G} {w0:World} {n:Nat}
  (hnsz:n≤ops.size) (hcut:∀ i j,n≤j→j<ops.size→i<j→((masks ops.toList []).getD j 0).testBit i=true) (hok:drawOK ops ws=true) (hN:∀ (i:Nat) (o:Oper),ops[i]? =some o→okOp N o=true)
  (hE0:E 0=e0) (hE:∀ (i:Nat) (o:Oper),i<n→ops[i]? =some o→E (i+1)=(E i).put o.dst (V i))
  (hS:∀ (i:Nat) (o:Oper),i<n→ops[i]? =some o→i∉ws→S (i+1)=S i)
  (hD:∀ (i:Nat) (o:Oper),i<n→ops[i]? =some o→DOp P ops o (E i) (S i) (V i) (S (i+1)))
  (hF:∀ (i:Nat) (o:Oper),i<n→ops[i]? =some o→touch o.op=false→i∉ws→∀ s,DOp P ops o (E i) s (V i) s)
  (hQ:∀ g w (a:Act),Inv P g (S n) w→EnvOK g w (E n) a.tmps→Ext g0 w0 g w→a.defers=[]→a.tmps.size=N→wpOps P ops Q (List.range' n (ops.size-n)) a w) :
  ∀ (fuel:Nat) (listed:Array Bool) (g:G) (s:St) (w:World) (a:Act),listed.size=ops.size →
   ((List.range ops.size).filter fun k=> !listed.getD k true).length≤fuel→DC ops (fun k=>listed.getD k false=true)→(∀ k,n≤k→listed.getD k false=false) →
   Inv P g s w→Ext g0 w0 g w→a.defers=[]→a.tmps.size=N →
   (∀ j,R g w (match lastW (wslot ops j) (fun k=>listed.getD k false) n with | none=>e0.get j | some k=>V k) (a.tmps.getD j undef)) →
   s=(match lastW (fun k=>ws.contains k) (fun k=>listed.getD k false) n with | none=>S 0 | some k=>S (k+1)) →
   wpAny P .any ops Q fuel listed a w:=by
 have hpair:∀ (i j:Nat) (oi oj:Oper),i<j→ops[i]? =some oi→ops[j]? =some oj→conf ops ws i j oi oj=true→((masks ops.toList []).getD j 0).testBit i=true:=by
  intro i j oi oj hij h1 h2 hc
  unfold drawOK at hok
  have:=List.all_eq_true.1 hok j (List.mem_range.2 (Array.getElem?_eq_some_iff.1 h2).1)
  rw [h2] at this
  simp only [Bool.and_eq_true] at this
  have:=List.all_eq_true.1 this.2 i (List.mem_range.2 hij)
  rw [h1] at this
  simp only [hc,Bool.not_true,Bool.false_or] at this
  exact this
 have hedge:∀ (j:Nat) (oj:Oper),ops[j]? =some oj→∀ e∈oj.after,Region.binds .any e=true→e.on<j:=by
  intro j oj h2 e he hb
  unfold drawOK at hok
  have:=List.all_eq_true.1 hok j (List.mem_range.2 (Array.getElem?_eq_some_iff.1 h2).1)
  rw [h2] at this
  simp only [Bool.and_eq_true] at this
  have:=List.all_eq_true.1 this.1 e (by simpa using he)
  simpa [hb] using this
 have hmask:∀ (L:Nat→Prop),DC ops L→∀ (k:Nat) (o:Oper),ops[k]? =some o→(∀ e∈o.after,Region.binds .any e=true→L e.on)→∀ b,((masks ops.toList []).getD k 0).testBit b=true→L b :=
  fun L hdc=>masks_spec hdc ops.toList [] Y1 Y181 Y238
 have hEget:∀ i,i≤n→∀ j,(E i).get j=(match lastW (wslot ops j) (fun _=>true) i with | none=>e0.get j | some k=>V k):=by
  intro i
  induction i with
  | zero=>intro _ j;rw [hE0];rfl
  | succ i ih =>
    intro hi j
    obtain ⟨o,ho⟩:∃ o,ops[i]? =some o:=⟨ops[i]'Y2,Y1⟩
    rw [hE i o Y2 ho]
    unfold lastW
    rw [wslot_eq ho,Bool.and_true]
    unfold writesSlot
    cases hd:o.dst with
    | none=>simp only [Env.put];rw [ih Y2 j];simp
    | some d =>
      simp only [Env.put,Env.get]
      by_cases hjd:j=d
      ·subst hjd;simp
      ·exact Y63
 have hSget:∀ i,i≤n→S i=(match lastW (fun k=>ws.contains k) (fun _=>true) i with | none=>S 0 | some k=>S (k+1)):=by
  intro i
  induction i with
  | zero=>intro _;rfl
  | succ i ih =>
    intro hi
    obtain ⟨o,ho⟩:∃ o,ops[i]? =some o:=⟨ops[i]'Y2,Y1⟩
    unfold lastW
    by_cases hw:i∈ws
    ·exact Y126
    ·exact Y131
 intro fuel
 have fin:∀ (fuel:Nat) (listed:Array Bool) (g:G) (s:St) (w:World) (a:Act),listed.size=ops.size →
   ((List.range ops.size).filter fun k=> !listed.getD k true).length≤fuel→DC ops (fun k=>listed.getD k false=true)→(∀ k,n≤k→listed.getD k false=false) →
   Inv P g s w→Ext g0 w0 g w→a.defers=[]→a.tmps.size=N →
   (∀ j,R g w (match lastW (wslot ops j) (fun k=>listed.getD k false) n with | none=>e0.get j | some k=>V k) (a.tmps.getD j undef)) →
   s=(match lastW (fun k=>ws.contains k) (fun k=>listed.getD k false) n with | none=>S 0 | some k=>S (k+1))→(∀ k,k<n→listed.getD k false=true) →
   wpAny P .any ops Q fuel listed a w:=by
  intro fuel listed g s w a hsz hcnt hdc hhi hI hX hd hn hslots hstore hall'
  refine tail_order (n:=n) hcut hedge hmask (ops.size-n) fuel n listed a w Y2 ?_ (Nat.le_refl _) ?_ hsz hdc ?_
  ·exact Y12
  ·exact Y66
  ·exact Y3
 induction fuel with
 | zero =>
   intro listed g s w a hsz hcnt hdc hhi hI hX hd hn hslots hstore
   refine fin 0 listed g s w a hsz hcnt hdc hhi hI hX hd hn hslots hstore ?_
   have hall:∀ k,k<ops.size→listed.getD k true=true:=by
    intro k hk
    have:(List.range ops.size).filter (fun k=> !listed.getD k true)=[]:=List.length_eq_zero_iff.1 Y2
    have:=List.filter_eq_nil_iff.1 this k (List.mem_range.2 hk)
    simpa using this
   intro k hk
   have:=hall k Y2
   rw [Array.getD_eq_getD_getElem?,Array.getElem?_eq_getElem Y2] at this ⊢
   exact this
 | succ fuel ih =>
   intro listed g s w a hsz hcnt hdc hhi hI hX hd hn hslots hstore
   by_cases hfull:∀ k,k<n→listed.getD k false=true
   ·exact Y132
   refine ⟨?_,?_⟩
   ·exact Y13
   ·intro i hi
    obtain ⟨h0,o,ho,hedges⟩:=mem_ready.1 hi
    have hlt:=(Array.getElem?_eq_some_iff.1 ho).1
    have hnl:listed.getD i false=false:=by
     rw [Array.getD_eq_getD_getElem?,Array.getElem?_eq_getElem Y2] at h0 ⊢
     exact h0
    have hanc:=hmask _ hdc i o ho hedges
    have hin:i<n:=by
     by_cases h:i<n
     ·exact h
     ·exact Y133
    have before:∀ (k:Nat) (ok:Oper),ops[k]? =some ok→k<i→conf ops ws k i ok o=true→listed.getD k false=true :=
     fun k ok hk hki hc=>hanc k (hpair k i ok o hki hk ho hc)
    have behind:∀ (k:Nat) (ok:Oper),ops[k]? =some ok→i<k→conf ops ws i k o ok=true→listed.getD k false=false:=by
     intro k ok hk hki hc
     cases hlk:listed.getD k false with
     | false=>rfl
     | true =>
       have this:listed.getD i false=true:=hmask _ hdc k ok hk (hdc k ok hk hlk) i (hpair i k o ok hki ho hk hc)
       rw [hnl] at this;cases this
    have cell:∀ p:Nat→Bool,(∀ (k:Nat) (ok:Oper),ops[k]? =some ok→k<i→p k=true→conf ops ws k i ok o=true)→(∀ (k:Nat) (ok:Oper),ops[k]? =some ok→i<k→p k=true→conf ops ws i k o ok=true) →
      lastW p (fun k=>listed.getD k false) n=lastW p (fun _=>true) i∧∀ k,i<k→k<n→(p k&&listed.getD k false)=false:=by
     intro p h1 h2
     have hb:∀ k,i<k→k<n→(p k&&listed.getD k false)=false:=by
      intro k hk hkn
      cases hp:p k with
      | false=>rfl
      | true =>
        obtain ⟨ok,hok'⟩:∃ o,ops[k]? =some o:=⟨ops[k]'Y2,Y1⟩
        rw [behind k ok hok' hk (h2 k ok hok' hk hp)];rfl
     refine ⟨?_,hb⟩
     rw [lastW_cut (i:=i) Y2 Y5]
     refine lastW_congr fun k hk hp=>?_
     obtain ⟨ok,hok'⟩:∃ o,ops[k]? =some o:=⟨ops[k]'Y2,Y1⟩
     exact before k ok hok' hk (h1 k ok hok' hk hp)
    have hsl:∀ j∈slotsOf ops o,R g w ((E i).get j) (a.tmps.getD j undef):=by
     intro j hj
     have:=(cell (wslot ops j) (by
      intro k ok hk hki hp
      rw [wslot_eq hk] at hp
      simp only [writesSlot,beq_iff_eq] at hp
      unfold conf
      rw [hp]
      simp [hj]
     ) (by
      intro k ok hk hki hp
      rw [wslot_eq hk] at hp
      simp only [writesSlot,beq_iff_eq] at hp
      unfold conf
      rw [hp]
      simp [hj]
     )).1
     have h3:=hslots j
     rw [this] at h3
     rw [hEget i Y2 j]
     exact h3
    have rest:∀ (s':St) val w' g',s'=(match lastW (fun k=>ws.contains k) (fun k=>(listed.setIfInBounds i true).getD k false) n with | none=>S 0 | some k=>S (k+1)) →
      Inv P g' s' w'→Ext g w g' w'→R g' w' (V i) val→wpAny P .any ops Q fuel (listed.setIfInBounds i true) (a.put o.dst val) w':=by
     intro s' val w' g' hs' hI' hX' hR'
     have hgd:∀ k,(listed.setIfInBounds i true).getD k false=if k=i then true else listed.getD k false:=by
      intro k
      by_cases e:k=i
      ·exact Y6
      ·exact Y7
     refine ih _ g' s' w' _ Y304 ?_ ?_ Y134 hI' (hX.trans hX') Y59 Y239 ?_ hs'
     ·exact Y8
     ·exact Y9
     ·intro j
      have hokd:=okOp_lt (hN i o ho)
      by_cases hw:writesSlot o j=true
      ·have hdst:o.dst=some j:=by simpa [writesSlot] using hw
       have:=(cell (wslot ops j) Y182 Y183).2
       rw [lastW_at (i:=i) hin (by rw [wslot_eq ho];exact hw) (by rw [hgd];simp) Y184]
       simp only [Act.put,hdst]
       have hjN:j<a.tmps.size:=by rw [hn];exact hokd j hdst
       rw [Array.getD_eq_getD_getElem?,Array.getElem?_setIfInBounds]
       simp [hjN,hR']
      ·exact Y14
    have hgd':∀ k,(listed.setIfInBounds i true).getD k false=if k=i then true else listed.getD k false:=by
     intro k
     by_cases e:k=i
     ·exact Y6
     ·exact Y7
    unfold wpOp
    rw [ho]
    simp only
    by_cases hfree:touch o.op=false∧i∉ws
    ·
     refine hF i o hin ho hfree.1 hfree.2 s g w a hI hsl _ _ fun val w' g' k1 k2 k3=>rest s val w' g' ?_ k1 k2 k3
     rw [hstore]
     have:lastW (fun k=>ws.contains k) (fun k=>(listed.setIfInBounds i true).getD k false) n=lastW (fun k=>ws.contains k) (fun k=>listed.getD k false) n:=by
      refine lastW_congr fun k hk hp=>?_
      rw [hgd',if_neg]
      rintro rfl
      exact hfree.2 Y240
     rw [this]
    ·
     have htw:touch o.op=true∨ws.contains i=true:=by
      by_cases h1:touch o.op=false
      ·exact Y185
      ·left;simpa using h1
     have hcs:=cell (fun k=>ws.contains k) Y186 Y187
     have hs:s=S i:=Y241
     subst hs
     refine hD i o hin ho g w a hI hsl _ _ fun val w' g' k1 k2 k3=>rest _ val w' g' ?_ k1 k2 k3
     by_cases hw:ws.contains i=true
     ·rw [lastW_at (i:=i) hin hw (by rw [hgd'];simp) Y127]
     ·exact Y67
def cutOK (ops:Array Oper) (n:Nat):Bool :=
 let ms:=masks ops.toList []
 (List.range ops.size).all fun j=>decide (j<n)||(List.range j).all fun i=>(ms.getD j 0).testBit i
theorem cutOK_spec {ops:Array Oper} {n:Nat} (h:cutOK ops n=true):∀ i j,n≤j→j<ops.size→i<j→((masks ops.toList []).getD j 0).testBit i=true:=by
 intro i j h1 h2 h3
 unfold cutOK at h
 have:=List.all_eq_true.1 h j (List.mem_range.2 h2)
 simp only [Bool.or_eq_true,decide_eq_true_eq] at this
 rcases this with h' | h'
 ·omega
 ·exact List.all_eq_true.1 h' i (List.mem_range.2 h3)
section
variable {P:Program} {ops:Array Oper} {ws:List Nat} {e e':Env} {s s':St} {N:Nat} {k:List KI} {rt:Env→St→Prop}
theorem Y15 {p:Prop} (h:p:=by
 simp only [e1,show ¬ (k+1=i) from Y2,if_false]
 exact a5 k o' Y2 (by simp only [List.length_cons] at hk2;omega) ho'):p:=h
theorem Y68 {p:Prop} (h:p:=by have:=(hl 0 o) Y1;simpa using this):p:=h
theorem Det.lists':∀ {i l e s e' s'},Det P ops ws i l e s e' s'→(∀ j (o:Oper),l[j]? =some o→ops[i+j]? =some o) →
  ∃ (V:Nat→PV) (S:Nat→St) (E:Nat→Env),E i=e∧S i=s∧E (i+l.length)=e'∧S (i+l.length)=s'∧∀ k (o:Oper),i≤k→k<i+l.length→ops[k]? =some o →
   E (k+1)=(E k).put o.dst (V k)∧(k∉ws→S (k+1)=S k)∧DOp P ops o (E k) (S k) (V k) (S (k+1))∧(touch o.op=false→k∉ws→∀ s,DOp P ops o (E k) s (V k) s):=by
 intro i l e s e' s' h
 induction h with
 | nil =>
   rename_i i e s
   intro hl
   refine ⟨fun _=>.junk,fun _=>s,fun _=>e,rfl,rfl,rfl,rfl,fun k o hk hk2 ho=>?_⟩
   simp at hk2;omega
 | cons h1 h2 h3 hd ih =>
   rename_i i o l e s v s1 e' s'
   intro hl
   obtain ⟨V,S,E,a1,a2,a3,a4,a5⟩:=ih Y129
   have h0:ops[i]? =some o:=Y68
   refine ⟨fun k=>if k=i then v else V k,fun k=>if k=i then s else S k,fun k=>if k=i then e else E k,if_pos rfl,if_pos rfl,?_,?_,?_⟩
   ·exact Y10
   ·exact Y11
   ·intro k o' hk hk2 ho'
    by_cases e1:k=i
    ·exact Y188
    ·exact Y15
theorem Y135 {p:Prop} (h:p:=by refine List.all_eq_true.2 fun o ho=>List.all_eq_true.1 ok.1 o (List.mem_of_mem_drop ho)):p:=h
theorem Y136 {p:Prop} (h:p:=by
 rw [List.getElem?_range' hi]
 have:min n ops.size+1*i=n+i:=by omega
 simp only [Option.map_some,this,Nat.add_comm]
 rw [Array.getElem?_eq_getElem Y2]
 rfl):p:=h
theorem Y16 {p:Prop} (h:p:=by
 intro g' w' a' k1 k2 k3 k4 k5
 rw [a4] at k1
 rw [a3] at k2
 refine RunO.eff.wpOps_mono' (fun _ _ _=>Lift.trans k3) (h ?_ ok.2 _ ?_ g' w' a' k1 k2 k4 k5)
 ·exact Y135
 ·apply List.ext_getElem?
  intro i
  simp only [List.getElem?_map,List.getElem?_drop,List.getElem?_range',Array.getElem?_toList]
  by_cases hi:i<ops.size-min n ops.size
  ·exact Y136
  ·rw [List.getElem?_eq_none Y115,Array.getElem?_eq_none Y2]
   rfl):p:=h
theorem Y69 {p:Prop} (h:p:=by
 intro k o ho hk
 have hk:(Array.replicate ops.size false).getD k false=true:=hk
 rw [hrepl] at hk;cases hk):p:=h
theorem Run.drawCut {id:Nat} (n:Nat) (ws:List Nat) (hm:P.follows .mixedOrders=true) (hs:drawOK ops ws=true) (hc:cutOK ops n=true) (hd:DetC P ops ws 0 (ops.toList.take n) e s (fun e' s'=>RunO P N ops (ops.toList.drop n) k e' s' rt)) :
  Run P N (.code (.region id ops true)::k) e s rt:=by
 obtain ⟨e',s',hd,h⟩:=hd
 intro ok
 simp only [okK,okC,Bool.and_eq_true] at ok
 intro _ g w a hI hE hdf hN
 obtain ⟨V,S,E,a1,a2,a3,a4,a5⟩:=hd.lists' (fun j o ho=>by
  rw [List.getElem?_take] at ho
  split at ho
  ·simpa using ho
  ·cases ho)
 have hlen:(ops.toList.take n).length=min n ops.size:=Y1
 simp only [Nat.zero_add,hlen] at a3 a4 a5
 have hmin:min n ops.size≤ops.size:=Nat.min_le_right _ _
 refine wp_region_any hm ?_
 obtain ⟨hI1,hX1⟩:=drew_step hI (w.drawn+1)
 have hnone:∀ (p:Nat→Bool) (n:Nat),lastW p (fun k=>(Array.replicate ops.size false).getD k false) n=none:=by
  intro p n
  induction n with
  | zero=>rfl
  | succ n ih =>
    unfold lastW
    have:(Array.replicate ops.size false).getD n false=false:=by
     rw [Array.getD_eq_getD_getElem?]
     cases hx:(Array.replicate ops.size false)[n]? with
     | none=>rfl
     | some b=>have:=Array.mem_of_getElem? hx;simp at this;rw [this.2];rfl
    rw [this,ih];simp
 have hrepl:∀ k,(Array.replicate ops.size false).getD k false=false:=by
  intro k
  rw [Array.getD_eq_getD_getElem?]
  cases hx:(Array.replicate ops.size false)[k]? with
  | none=>rfl
  | some b=>have:=Array.mem_of_getElem? hx;simp at this;rw [this.2];rfl
 have hcut:∀ i j,min n ops.size≤j→j<ops.size→i<j→((masks ops.toList []).getD j 0).testBit i=true :=
  fun i j h1 h2 h3=>cutOK_spec hc i j Y2 h2 h3
 refine any_order_cut (ws:=ws) (N:=N) (e0:=e) (V:=V) (S:=S) (E:=E) (g0:=g) (w0:=w) (n:=min n ops.size) hmin hcut hs ?_ a1 (fun i o hi ho=>(a5 i o (Nat.zero_le _) hi ho).1) (fun i o hi ho=>(a5 i o (Nat.zero_le _) hi ho).2.1)
  (fun i o hi ho=>(a5 i o (Nat.zero_le _) hi ho).2.2.1) (fun i o hi ho=>(a5 i o (Nat.zero_le _) hi ho).2.2.2) ?_ ops.size _ g s _ a Y1 ?_ ?_ (fun k _=>hrepl k) hI1 hX1 hdf hN ?_ ?_
 ·exact Y64
 ·exact Y16
 ·exact Y65
 ·exact Y69
 ·exact Y130
 ·rw [hnone];exact a2.symm
theorem DetC.skip_ {o:Oper} {l:List Oper} {i:Nat} {K:Env→St→Prop} (hw:∀ g w (a:Act),EnvOK g w (Env.keep (slotsOf ops o) e) a.tmps→Region.wanted o (yielded ops a.tmps)=false) (hd:DetC P ops ws (i+1) l (e.put o.dst (.tuple [])) s K):DetC P ops ws i (o::l) e s K:=by
 obtain ⟨e2,s2,h1,h2⟩:=hd
 have key:∀ s,DOp P ops o e s (.tuple []) s:=by
  intro s g w a hI hsl K Q hk
  rw [hw g w a (keep_ok hsl)]
  simp only [Bool.false_eq_true,if_false]
  exact hk undef w g hI (Ext.refl _ _) Y242
 exact ⟨e2,s2,Det.cons (key s) (fun _=>rfl) (fun _ _ s=>key s) h1,h2⟩
theorem DetC.gdo {o:Oper} {l:List Oper} {i:Nat} {K:Env→St→Prop} {v:PV} (hg:guard? ops o (Env.keep (slotsOf ops o) e)=some true) (ha:dcore P o.op (ev (Env.keep (slotsOf ops o) e)) s=some v) (hd:DetC P ops ws (i+1) l (e.put o.dst v) s K):DetC P ops ws i (o::l) e s K:=by
 obtain ⟨e2,s2,h1,h2⟩:=hd
 have key:∀ s,dcore P o.op (ev (Env.keep (slotsOf ops o) e)) s=some v→DOp P ops o e s v s:=fun s ha=>DOp.of_effect hg fun g w a hI hE=>dcore_run hI (fun x=>ev_R hE x) ha
 exact ⟨e2,s2,Det.cons (key s ha) (fun _=>rfl) (fun ht _ s2=>key s2 (by rw [dcore_touch (s':=s) ht];exact ha)) h1,h2⟩
theorem DetC.gskip' {o:Oper} {l:List Oper} {i:Nat} {K:Env→St→Prop} (hg:guard? ops o (Env.keep (slotsOf ops o) e)=some false) (hd:DetC P ops ws (i+1) l (e.put o.dst (.tuple [])) s K):DetC P ops ws i (o::l) e s K :=
 DetC.skip_ (fun g w a hE=>guard_wanted hg hE) hd
theorem DetC.gskipU {o:Oper} {l:List Oper} {i:Nat} {K:Env→St→Prop} (hg:gundef ops o (Env.keep (slotsOf ops o) e)=true) (hd:DetC P ops ws (i+1) l (e.put o.dst (.tuple [])) s K):DetC P ops ws i (o::l) e s K :=
 DetC.skip_ (fun g w a hE=>gundef_wanted hg hE) hd
end
end Go.PM
namespace Go.PM
open Go
def PV.frz (wk:Bool) (s:St) (q:Nat→Bool):Nat→PV→PV
 | 0,p=>p.weak
 | n+1,.own id off len=>if q id=true then .own id off len else match s.blk id with
   | some (.row _ els)=>if off+len≤els.length then .sl .unk (((els.drop off).take len).map (PV.frz wk s q n)) else .junk
   | _=>.junk
 | n+1,.sl k els=>.sl (if wk then .unk else k) (els.map (PV.frz wk s q n))
 | n+1,.agg cs=>.agg (cs.map (PV.frz wk s q n))
 | n+1,.tuple cs=>.tuple (cs.map (PV.frz wk s q n))
 | _+1,p=>p.weak
theorem RA_frz_map {g:G} {w:World} {m:Nat} {q:Nat→Bool} {f:PV→PV} (hf:∀ p v,(f p).blw m→R g w p v→R (g.keep m q) w (f p) v):∀ (ps:List PV) (vs:List Value),PV.blws m (ps.map f)→RA g w ps vs→RA (g.keep m q) w (ps.map f) vs
 | [],vs,_,h=>by simpa only [List.map_nil,RA] using h
 | p::ps,vs,hb,h=>by
   simp only [List.map_cons,PV.blws,RA] at hb h ⊢
   obtain ⟨v,r,rfl,h1,h2⟩:=h
   exact ⟨v,r,rfl,hf p v hb.1 h1,RA_frz_map hf ps r hb.2 h2⟩
theorem cellsAt_sub {w:World} {b o:Nat} {xs:List Value} (h:cellsAt w b o xs) (i n:Nat):cellsAt w b (o+i) ((xs.drop i).take n):=by
 intro j hj
 simp only [List.length_take,List.length_drop] at hj
 rw [List.getElem_take,List.getElem_drop,Nat.add_assoc]
 exact h (i+j) Y2
theorem dead_free {P:Program} {g:G} {s:St} {w:World} (h:Inv P g s w) {id b n:Nat} {q:Nat→Bool} (hl:g.live id=true) (hr:g.rows id=some (b,n)) (hq:q id=false) (m k:Nat):(g.keep m q).free b k:=by
 refine ⟨?_,fun e he=>?_⟩
 ·rintro ⟨i,z,hz,hlv⟩
  simp only [G.keep,Bool.and_eq_true] at hz hlv
  have:=h.inj i id b z n hlv.2 hl hz hr
  subst this
  rw [hq] at hlv
  exact absurd hlv.1 Y1
 ·have:(g.keep m q).lim b=g.lim b:=rfl
  rw [this,h.rlim id b n hl hr] at he
  cases he
theorem R_frz {P:Program} {g:G} {s:St} {w:World} (h:Inv P g s w) (m:Nat) (wk:Bool) (q:Nat→Bool):∀ (n:Nat) (p:PV) (v:Value),(p.frz wk s q n).blw m→R g w p v→R (g.keep m q) w (p.frz wk s q n) v:=by
 intro n
 have leaf:∀ (p:PV) (v:Value),p.weak.blw m→R g w p v→R (g.keep m q) w p.weak v:=fun p v hb hr=>R_sub (keep_sub g m q) _ _ hb (R_weak p v hr)
 induction n with
 | zero=>exact leaf
 | succ n ih =>
   intro p v hb hr
   cases p with
   | own id off len =>
     unfold PV.frz at hb ⊢
     split at hb
     ·rename_i hq
      rw [if_pos hq]
      exact R_sub (keep_sub g m q) _ _ hb hr
     ·rename_i hq
      rw [if_neg hq]
      split at hb
      ·rename_i t els hbl
       split at hb
       ·rename_i hle
        rw [if_pos hle]
        have hat:=h.at' id
        rw [hbl] at hat
        obtain ⟨_,hlv,b,vs,hrow,hpos,_,hc,hsz,hra⟩:=hat
        simp only [R] at hr
        obtain ⟨hlt,b',sz,cap,hrow',hcap,rfl,hcs⟩:=hr
        rw [hrow] at hrow'
        cases hrow'
        have hvl:=RA_length hra
        have hra':=RA_take len (RA_drop off hra)
        simp only [PV.blw] at hb
        simp only [R]
        refine ⟨(vs.drop off).take len,RA_frz_map ih _ _ hb.2 hra',.inr ?_⟩
        have hlen:(((els.drop off).take len).map (PV.frz wk s q n)).length=len:=Y115
        have hss:∀ v∈(vs.drop off).take len,v.cells.size=P.cellsOf t:=fun v hv=>(hsz v (List.mem_of_mem_drop (List.mem_of_mem_take hv))).1
        refine .inl ⟨b,off*P.cellsOf t,cap,P.cellsOf t,by rw [hlen],by rw [hlen];omega,hpos,(fun e=>Y292),fun _=>dead_free h hlv hrow (by simpa using hq) _ _,?_,hss,Y122⟩
        rw [flat_take _ (P.cellsOf t) (fun v hv=>(hsz v (List.mem_of_mem_drop hv)).1),flat_drop _ (P.cellsOf t) (fun v hv=>(hsz v hv).1)]
        have:=cellsAt_sub hc (off*P.cellsOf t) (len*P.cellsOf t)
        rwa [Nat.zero_add] at this
       ·rename_i hle
        rw [if_neg hle]
        simp only [R]
      ·simp only [R]
   | sl k els =>
     unfold PV.frz at hb ⊢
     simp only [PV.blw] at hb
     simp only [R] at hr ⊢
     obtain ⟨vs,h1,h2⟩:=hr
     refine ⟨vs,RA_frz_map ih _ _ hb.2 h1,?_⟩
     rw [List.length_map]
     cases wk with
     | true=>exact slHead_sub (keep_sub g m q) Y122 (slHead_weak h2)
     | false=>exact slHead_sub (keep_sub g m q) hb.1 h2
   | agg cs =>
     unfold PV.frz at hb ⊢
     simp only [PV.blw] at hb
     simp only [R] at hr ⊢
     obtain ⟨a,h1,h2,h3⟩:=hr
     exact ⟨a,h1,h2,RA_frz_map ih _ _ hb h3⟩
   | tuple cs =>
     unfold PV.frz at hb ⊢
     simp only [PV.blw] at hb
     simp only [R] at hr ⊢
     obtain ⟨a,h1,h3⟩:=hr
     exact ⟨a,h1,RA_frz_map ih _ _ hb h3⟩
   | _=>exact leaf _ v hb hr
section
variable {P:Program} {fn:Func} {args:List PV} {s0:St} {Q:PV→St→Prop} {e:Env} {s:St}
theorem Ret.keepF {r r':PV} (wk:Bool) (fuel n:Nat) (p:Nat→Bool) (hr:retv P fn.results.toList e s=some r) (hr':∀ g w v,R g w (r.frz wk s p fuel) v→R g w r' v) (hn:s0.nxt≤n) (hb:(r.frz wk s p fuel).blw n)
  (hp:∀ i,p i=true→s.blk i≠none→i<n) (hk:∀ i b,p i=true→s.blk i=some b→s0.blk i=some b∨b.blw n) (h:Q r' (s.keep n p)):Ret P fn args s0 Q e s:=by
 refine ⟨r,hr,_,_,h,fun g0 w0 g w hI0 hX hI v hv=>⟨g.keep n p,keep_inv hI n p hp ?_,hr' _ _ _ (R_frz hI n wk p fuel _ _ hb hv),keep_ext0 hX n (by rw [hI0.nxt];exact hn) p⟩⟩
 intro i b hpi hbi
 rcases hk i b hpi hbi with q | q
 ·have:=hI0.blw q
  exact Ret.keep.blw_mono (s0:=s0) (n:=s0.nxt) hn b this
 ·exact q
theorem Ret.pureF {r r':PV} (fuel:Nat) (hr:retv P fn.results.toList e s=some r) (hr':r.frz true s (fun i=>decide (i<s0.nxt)) fuel=r') (hb:r'.blw s0.nxt) (hwf:s0.wf) (hk:∀ i,i<s0.nxt→s.blk i=s0.blk i) (h:Q r' s0):Ret P fn args s0 Q e s:=by
 have e1:s.keep s0.nxt (fun i=>decide (i<s0.nxt))=s0:=by
  cases s0 with
  | mk n f =>
    simp only [St.keep,St.mk.injEq,true_and]
    funext i
    by_cases hi:i<n
    ·exact Y125
    ·exact Y62
 subst hr'
 refine Ret.keepF true fuel s0.nxt (fun i=>decide (i<s0.nxt)) hr (fun _ _ _ h=>h) (Nat.le_refl _) hb (fun i hi _=>of_decide_eq_true hi) ?_ Y303
 intro i b hi hbi
 rw [hk i (of_decide_eq_true hi)] at hbi
 exact .inl hbi
end
def Rowed (e:TypeId) (s:St) (lo:Nat) (v:PV) (els:List PV):Prop :=
 v=.sl .nil []∧els=[]∨∃ L zs,v=.own L 0 els.length∧lo≤L∧s.blk L=some (.row e zs)∧els.length≤zs.length∧zs.take els.length=els
theorem Rowed.nil (e:TypeId) (s:St) (lo:Nat):Rowed e s lo (.sl .nil []) []:=.inl ⟨rfl,rfl⟩
theorem Rowed.keep {e:TypeId} {s s':St} {lo:Nat} {v:PV} {els:List PV} (h:Rowed e s lo v els) (hk:∀ L z n,v=.own L z n→s'.blk L=s.blk L):Rowed e s' lo v els:=by
 rcases h with h | ⟨L,zs,h1,h2,h3,h4⟩
 ·exact .inl h
 ·exact .inr ⟨L,zs,h1,h2,by rw [hk L _ _ h1];exact h3,h4⟩
theorem Rowed.lt {e:TypeId} {s:St} (hwf:s.wf) {lo:Nat} {v:PV} {els:List PV} (h:Rowed e s lo v els) {L z n:Nat} (hv:v=.own L z n):lo≤L∧L<s.nxt:=by
 rcases h with ⟨h,_⟩ | ⟨L',zs,h1,h2,h3,h4⟩
 ·rw [hv] at h;cases h
 ·rw [h1] at hv;cases hv
  refine ⟨h2,?_⟩
  rcases Nat.lt_or_ge L s.nxt with h | h
  ·exact h
  ·rw [hwf L h] at h3;cases h3
theorem Rowed.frz {e:TypeId} {s:St} {lo:Nat} {v:PV} {els:List PV} (h:Rowed e s lo v els) {wk:Bool} {q:Nat→Bool} (hq:∀ L z n,v=.own L z n→q L=false) (n:Nat):v.frz wk s q (n+1)=.sl .unk (els.map (PV.frz wk s q n))∨els=[]∧v.frz wk s q (n+1)=.sl .nil []:=by
 rcases h with ⟨rfl,rfl⟩ | ⟨L,zs,rfl,h2,h3,h4,h5⟩
 ·cases wk with
  | true=>exact .inl rfl
  | false=>exact .inr ⟨rfl,rfl⟩
 ·left
  unfold PV.frz
  rw [if_neg (by rw [hq L 0 _ rfl];simp),h3]
  simp only [Nat.zero_add,List.drop_zero]
  rw [if_pos h4,h5]
theorem Rowed.out {e:TypeId} {s:St} {lo:Nat} {v:PV} {els:List PV} (h:Rowed e s lo v els) {wk:Bool} {q:Nat→Bool} (hq:∀ L z n,v=.own L z n→q L=false) (n m:Nat) (hb:PV.blws m (els.map (PV.frz wk s q n))) :
  (v.frz wk s q (n+1)).blw m∧∀ g w u,R g w (v.frz wk s q (n+1)) u→R g w (.sl .unk (els.map (PV.frz wk s q n))) u:=by
 rcases h.frz hq n with e | ⟨rfl,e⟩
 ·rw [e]
  exact ⟨by simp only [PV.blw];exact ⟨Y122,hb⟩,fun _ _ _ h=>h⟩
 ·rw [e]
  exact ⟨by simp only [PV.blw];exact ⟨Y122,hb⟩,fun g w u h=>R_unk.2 (.inl h)⟩
theorem Rowed.len {P:Program} {t e e':TypeId} {s:St} {lo:Nat} {v:PV} {els:List PV} (h:Rowed e s lo v els) (ht:td P t=.sl e'):aLen P t v s=some (.int .i64 els.length):=by
 rcases h with ⟨rfl,rfl⟩ | ⟨L,zs,rfl,h2,h3,h4,h5⟩
 ·unfold aLen;simp [ht]
 ·unfold aLen;simp only [ht]
section
variable {P:Program} {N:Nat} {k:List KI} {e:Env} {s:St} {rt:Env→St→Prop}
end
section
variable {P:Program} {fn:Func} {args:List PV} {s0:St} {Q:PV→St→Prop} {e:Env} {s:St}
end
end Go.PM
namespace Go.PM
open Go
section
variable {P:Program} {N:Nat} {k:List KI} {e:Env} {s:St} {rt:Env→St→Prop}
theorem Run.join {x:KI} (J:Env→St→Prop) (hj:∀ e s,J e s→Run P N k e s rt) (h:(∀ e s,J e s→Run P N k e s rt)→Run P N (x::k) e s rt):Run P N (x::k) e s rt:=h hj
theorem AWP.env {c:Code} {e e':Env} {Q:AQ} (he:∀ i,Env.get e' i=e.get i∨Env.get e' i=.junk) (h:AWP P N c e' s Q):AWP P N c e s Q :=
 fun ok g w a h1 h2 h3 h4=>h ok g w a h1 (h2.env he) h3 h4
theorem Run.prune {c:Code} {e':Env} (l:List Nat) (he:Env.keep l e=e') (h:Run P N (.code c::k) e' s rt):Run P N (.code c::k) e s rt:=by
 subst he
 intro ok
 exact AWP.env (keep_get e l) (h ok)
end
end Go.PM
namespace Go.PM
open Go
def conff (ops:Array Oper) (ws:List Nat) (fr:Nat→Bool) (i j:Nat) (oi oj:Oper):Bool :=
 (match oi.dst with | some d=>oj.dst==some d||(slotsOf ops oj).contains d | none=>false) ||
 (match oj.dst with | some d=>(slotsOf ops oi).contains d | none=>false) ||
 (ws.contains i&&(!fr j||ws.contains j))||(ws.contains j&&(!fr i||ws.contains i))
def drawOKf (ops:Array Oper) (ws:List Nat) (fr:Nat→Bool):Bool :=
 let ms:=masks ops.toList []
 (List.range ops.size).all fun j=>match ops[j]? with
   | none=>false
   | some oj=>(oj.after.toList.all fun e=> !Region.binds .any e||decide (e.on<j)) &&
     (List.range j).all fun i=>match ops[i]? with
       | none=>false
       | some oi=> !conff ops ws fr i j oi oj||(ms.getD j 0).testBit i
theorem lastW_lt {p l:Nat→Bool}:∀ {n k:Nat},lastW p l n=some k→k<n
 | 0,k,h=>by simp [lastW] at h
 | n+1,k,h=>by
   unfold lastW at h
   split at h
   ·cases h;omega
   ·have:=lastW_lt h;omega
theorem Y17 {p:Prop} (h:p:=by
 intro j
 have hokd:=okOp_lt (hN i o ho)
 by_cases hw:writesSlot o j=true
 ·have hdst:o.dst=some j:=by simpa [writesSlot] using hw
  have:=(cell (wslot ops j) (by
   intro k ok hk hki hp
   rw [wslot_eq hk] at hp
   simp only [writesSlot,beq_iff_eq] at hp
   unfold conff;rw [hp];simp [hdst]) (by
   intro k ok hk hki hp
   rw [wslot_eq hk] at hp
   simp only [writesSlot,beq_iff_eq] at hp
   unfold conff;rw [hdst];simp [hp])).2
  rw [lastW_at (i:=i) hin (by rw [wslot_eq ho];exact hw) (by rw [hgd];simp) Y184]
  simp only [Act.put,hdst]
  have hjN:j<a.tmps.size:=by rw [hn];exact hokd j hdst
  rw [Array.getD_eq_getD_getElem?,Array.getElem?_setIfInBounds]
  simp [hjN,hR']
 ·have:lastW (wslot ops j) (fun k=>(listed.setIfInBounds i true).getD k false) n=lastW (wslot ops j) (fun k=>listed.getD k false) n:=by
   refine lastW_congr fun k hk hp=>?_
   rw [hgd,if_neg]
   rintro rfl
   rw [wslot_eq ho] at hp
   exact hw hp
  rw [this]
  have h3:=R_ext hX' _ _ (hslots j)
  cases hdst:o.dst with
  | none=>exact h3
  | some d =>
    have hjd:d≠j:=by
     rintro rfl
     exact hw (by simp [writesSlot,hdst])
    simp only [Act.put]
    rw [Array.getD_eq_getD_getElem?,Array.getElem?_setIfInBounds,if_neg hjd,← Array.getD_eq_getD_getElem?]
    exact h3):p:=h
theorem any_order_f {P:Program} {ops:Array Oper} {ws:List Nat} {N:Nat} {e0:Env} {Q:Exit→Act→World→Prop} {V:Nat→PV} {S:Nat→St} {E:Nat→Env} {g0:G} {w0:World} {n:Nat} {fr:Nat→Bool}
  (hnsz:n≤ops.size) (hcut:∀ i j,n≤j→j<ops.size→i<j→((masks ops.toList []).getD j 0).testBit i=true) (hok:drawOKf ops ws fr=true) (hN:∀ (i:Nat) (o:Oper),ops[i]? =some o→okOp N o=true)
  (hE0:E 0=e0) (hE:∀ (i:Nat) (o:Oper),i<n→ops[i]? =some o→E (i+1)=(E i).put o.dst (V i))
  (hS:∀ (i:Nat) (o:Oper),i<n→ops[i]? =some o→i∉ws→S (i+1)=S i)
  (hD:∀ (i:Nat) (o:Oper),i<n→ops[i]? =some o→DOp P ops o (E i) (S i) (V i) (S (i+1)))
  (hF:∀ (i:Nat) (o:Oper),i<n→ops[i]? =some o→fr i=true→i∉ws→∀ k,k≤n→DOp P ops o (E i) (S k) (V i) (S k))
  (hQ:∀ g w (a:Act),Inv P g (S n) w→EnvOK g w (E n) a.tmps→Ext g0 w0 g w→a.defers=[]→a.tmps.size=N→wpOps P ops Q (List.range' n (ops.size-n)) a w) :
  ∀ (fuel:Nat) (listed:Array Bool) (g:G) (s:St) (w:World) (a:Act),listed.size=ops.size →
   ((List.range ops.size).filter fun k=> !listed.getD k true).length≤fuel→DC ops (fun k=>listed.getD k false=true)→(∀ k,n≤k→listed.getD k false=false) →
   Inv P g s w→Ext g0 w0 g w→a.defers=[]→a.tmps.size=N →
   (∀ j,R g w (match lastW (wslot ops j) (fun k=>listed.getD k false) n with | none=>e0.get j | some k=>V k) (a.tmps.getD j undef)) →
   s=(match lastW (fun k=>ws.contains k) (fun k=>listed.getD k false) n with | none=>S 0 | some k=>S (k+1)) →
   wpAny P .any ops Q fuel listed a w:=by
 have hpair:∀ (i j:Nat) (oi oj:Oper),i<j→ops[i]? =some oi→ops[j]? =some oj→conff ops ws fr i j oi oj=true→((masks ops.toList []).getD j 0).testBit i=true:=by
  intro i j oi oj hij h1 h2 hc
  unfold drawOKf at hok
  have:=List.all_eq_true.1 hok j (List.mem_range.2 (Array.getElem?_eq_some_iff.1 h2).1)
  rw [h2] at this
  simp only [Bool.and_eq_true] at this
  have:=List.all_eq_true.1 this.2 i (List.mem_range.2 hij)
  rw [h1] at this
  simp only [hc,Bool.not_true,Bool.false_or] at this
  exact this
 have hedge:∀ (j:Nat) (oj:Oper),ops[j]? =some oj→∀ e∈oj.after,Region.binds .any e=true→e.on<j:=by
  intro j oj h2 e he hb
  unfold drawOKf at hok
  have:=List.all_eq_true.1 hok j (List.mem_range.2 (Array.getElem?_eq_some_iff.1 h2).1)
  rw [h2] at this
  simp only [Bool.and_eq_true] at this
  have:=List.all_eq_true.1 this.1 e (by simpa using he)
  simpa [hb] using this
 have hmask:∀ (L:Nat→Prop),DC ops L→∀ (k:Nat) (o:Oper),ops[k]? =some o→(∀ e∈o.after,Region.binds .any e=true→L e.on)→∀ b,((masks ops.toList []).getD k 0).testBit b=true→L b :=
  fun L hdc=>masks_spec hdc ops.toList [] Y1 Y181 Y238
 have hEget:∀ i,i≤n→∀ j,(E i).get j=(match lastW (wslot ops j) (fun _=>true) i with | none=>e0.get j | some k=>V k):=by
  intro i
  induction i with
  | zero=>intro _ j;rw [hE0];rfl
  | succ i ih =>
    intro hi j
    obtain ⟨o,ho⟩:∃ o,ops[i]? =some o:=⟨ops[i]'Y2,Y1⟩
    rw [hE i o Y2 ho]
    unfold lastW
    rw [wslot_eq ho,Bool.and_true]
    unfold writesSlot
    cases hd:o.dst with
    | none=>simp only [Env.put];rw [ih Y2 j];simp
    | some d =>
      simp only [Env.put,Env.get]
      by_cases hjd:j=d
      ·subst hjd;simp
      ·exact Y63
 have hSget:∀ i,i≤n→S i=(match lastW (fun k=>ws.contains k) (fun _=>true) i with | none=>S 0 | some k=>S (k+1)):=by
  intro i
  induction i with
  | zero=>intro _;rfl
  | succ i ih =>
    intro hi
    obtain ⟨o,ho⟩:∃ o,ops[i]? =some o:=⟨ops[i]'Y2,Y1⟩
    unfold lastW
    by_cases hw:i∈ws
    ·exact Y126
    ·exact Y131
 intro fuel
 have fin:∀ (fuel:Nat) (listed:Array Bool) (g:G) (s:St) (w:World) (a:Act),listed.size=ops.size →
   ((List.range ops.size).filter fun k=> !listed.getD k true).length≤fuel→DC ops (fun k=>listed.getD k false=true)→(∀ k,n≤k→listed.getD k false=false) →
   Inv P g s w→Ext g0 w0 g w→a.defers=[]→a.tmps.size=N →
   (∀ j,R g w (match lastW (wslot ops j) (fun k=>listed.getD k false) n with | none=>e0.get j | some k=>V k) (a.tmps.getD j undef)) →
   s=(match lastW (fun k=>ws.contains k) (fun k=>listed.getD k false) n with | none=>S 0 | some k=>S (k+1))→(∀ k,k<n→listed.getD k false=true) →
   wpAny P .any ops Q fuel listed a w:=by
  intro fuel listed g s w a hsz hcnt hdc hhi hI hX hd hn hslots hstore hall'
  refine tail_order (n:=n) hcut hedge hmask (ops.size-n) fuel n listed a w Y2 ?_ (Nat.le_refl _) ?_ hsz hdc ?_
  ·exact Y12
  ·exact Y66
  ·exact Y3
 induction fuel with
 | zero =>
   intro listed g s w a hsz hcnt hdc hhi hI hX hd hn hslots hstore
   refine fin 0 listed g s w a hsz hcnt hdc hhi hI hX hd hn hslots hstore ?_
   have hall:∀ k,k<ops.size→listed.getD k true=true:=by
    intro k hk
    have:(List.range ops.size).filter (fun k=> !listed.getD k true)=[]:=List.length_eq_zero_iff.1 Y2
    have:=List.filter_eq_nil_iff.1 this k (List.mem_range.2 hk)
    simpa using this
   intro k hk
   have:=hall k Y2
   rw [Array.getD_eq_getD_getElem?,Array.getElem?_eq_getElem Y2] at this ⊢
   exact this
 | succ fuel ih =>
   intro listed g s w a hsz hcnt hdc hhi hI hX hd hn hslots hstore
   by_cases hfull:∀ k,k<n→listed.getD k false=true
   ·exact Y132
   refine ⟨?_,?_⟩
   ·exact Y13
   ·intro i hi
    obtain ⟨h0,o,ho,hedges⟩:=mem_ready.1 hi
    have hlt:=(Array.getElem?_eq_some_iff.1 ho).1
    have hnl:listed.getD i false=false:=by
     rw [Array.getD_eq_getD_getElem?,Array.getElem?_eq_getElem Y2] at h0 ⊢
     exact h0
    have hanc:=hmask _ hdc i o ho hedges
    have hin:i<n:=by
     by_cases h:i<n
     ·exact h
     ·exact Y133
    have before:∀ (k:Nat) (ok:Oper),ops[k]? =some ok→k<i→conff ops ws fr k i ok o=true→listed.getD k false=true :=
     fun k ok hk hki hc=>hanc k (hpair k i ok o hki hk ho hc)
    have behind:∀ (k:Nat) (ok:Oper),ops[k]? =some ok→i<k→conff ops ws fr i k o ok=true→listed.getD k false=false:=by
     intro k ok hk hki hc
     cases hlk:listed.getD k false with
     | false=>rfl
     | true =>
       have this:listed.getD i false=true:=hmask _ hdc k ok hk (hdc k ok hk hlk) i (hpair i k o ok hki ho hk hc)
       rw [hnl] at this;cases this
    have cell:∀ p:Nat→Bool,(∀ (k:Nat) (ok:Oper),ops[k]? =some ok→k<i→p k=true→conff ops ws fr k i ok o=true)→(∀ (k:Nat) (ok:Oper),ops[k]? =some ok→i<k→p k=true→conff ops ws fr i k o ok=true) →
      lastW p (fun k=>listed.getD k false) n=lastW p (fun _=>true) i∧∀ k,i<k→k<n→(p k&&listed.getD k false)=false:=by
     intro p h1 h2
     have hb:∀ k,i<k→k<n→(p k&&listed.getD k false)=false:=by
      intro k hk hkn
      cases hp:p k with
      | false=>rfl
      | true =>
        obtain ⟨ok,hok'⟩:∃ o,ops[k]? =some o:=⟨ops[k]'Y2,Y1⟩
        rw [behind k ok hok' hk (h2 k ok hok' hk hp)];rfl
     refine ⟨?_,hb⟩
     rw [lastW_cut (i:=i) Y2 Y5]
     refine lastW_congr fun k hk hp=>?_
     obtain ⟨ok,hok'⟩:∃ o,ops[k]? =some o:=⟨ops[k]'Y2,Y1⟩
     exact before k ok hok' hk (h1 k ok hok' hk hp)
    have hsl:∀ j∈slotsOf ops o,R g w ((E i).get j) (a.tmps.getD j undef):=by
     intro j hj
     have:=(cell (wslot ops j) (by
      intro k ok hk hki hp
      rw [wslot_eq hk] at hp
      simp only [writesSlot,beq_iff_eq] at hp
      unfold conff
      rw [hp]
      simp [hj]
     ) (by
      intro k ok hk hki hp
      rw [wslot_eq hk] at hp
      simp only [writesSlot,beq_iff_eq] at hp
      unfold conff
      rw [hp]
      simp [hj]
     )).1
     have h3:=hslots j
     rw [this] at h3
     rw [hEget i Y2 j]
     exact h3
    have rest:∀ (s':St) val w' g',s'=(match lastW (fun k=>ws.contains k) (fun k=>(listed.setIfInBounds i true).getD k false) n with | none=>S 0 | some k=>S (k+1)) →
      Inv P g' s' w'→Ext g w g' w'→R g' w' (V i) val→wpAny P .any ops Q fuel (listed.setIfInBounds i true) (a.put o.dst val) w':=by
     intro s' val w' g' hs' hI' hX' hR'
     have hgd:∀ k,(listed.setIfInBounds i true).getD k false=if k=i then true else listed.getD k false:=by
      intro k
      by_cases e:k=i
      ·exact Y6
      ·exact Y7
     refine ih _ g' s' w' _ Y304 ?_ ?_ Y134 hI' (hX.trans hX') Y59 Y239 ?_ hs'
     ·exact Y8
     ·exact Y9
     ·exact Y17
    have hgd':∀ k,(listed.setIfInBounds i true).getD k false=if k=i then true else listed.getD k false:=by
     intro k
     by_cases e:k=i
     ·exact Y6
     ·exact Y7
    unfold wpOp
    rw [ho]
    simp only
    by_cases hfree:fr i=true∧i∉ws
    ·
     obtain ⟨kk,hkk,hsk⟩:∃ kk,kk≤n∧s=S kk:=by
      rw [hstore]
      cases hlw:lastW (fun k=>ws.contains k) (fun k=>listed.getD k false) n with
      | none=>exact ⟨0,Nat.zero_le _,rfl⟩
      | some k=>exact ⟨k+1,lastW_lt hlw,rfl⟩
     subst hsk
     refine hF i o hin ho hfree.1 hfree.2 kk hkk g w a hI hsl _ _ fun val w' g' k1 k2 k3=>rest (S kk) val w' g' ?_ k1 k2 k3
     rw [hstore]
     have:lastW (fun k=>ws.contains k) (fun k=>(listed.setIfInBounds i true).getD k false) n=lastW (fun k=>ws.contains k) (fun k=>listed.getD k false) n:=by
      refine lastW_congr fun k hk hp=>?_
      rw [hgd',if_neg]
      rintro rfl
      exact hfree.2 Y240
     rw [this]
    ·
     have htw:(!fr i)=true∨ws.contains i=true:=by
      by_cases h1:fr i=true
      ·exact Y185
      ·left;simpa using h1
     have hcs:=cell (fun k=>ws.contains k) (by
      intro k ok hk hki hp
      unfold conff
      rcases htw with h | h<;>simp only [hp,h,Bool.true_or,Bool.or_true,Bool.and_self]) (by
      intro k ok hk hki hp
      unfold conff
      rcases htw with h | h<;>simp only [hp,h,Bool.true_or,Bool.or_true,Bool.and_self])
     have hs:s=S i:=Y241
     subst hs
     refine hD i o hin ho g w a hI hsl _ _ fun val w' g' k1 k2 k3=>rest _ val w' g' ?_ k1 k2 k3
     by_cases hw:ws.contains i=true
     ·rw [lastW_at (i:=i) hin hw (by rw [hgd'];simp) Y127]
     ·exact Y67
inductive DetB (P:Program) (ops:Array Oper) (ws:List Nat) (σ:List St):Nat→List Oper→Env→St→Env→St→Prop
 | nil {i e s}:s∈σ→DetB P ops ws σ i [] e s e s
 | cons {i o l e s v e' s'}:i∉ws→(∀ s∈σ,DOp P ops o e s v s)→s∈σ→DetB P ops ws σ (i+1) l (e.put o.dst v) s e' s'→DetB P ops ws σ i (o::l) e s e' s'
 | ef {i o l e s v s1 e' s'}:i∈ws→s∈σ→DOp P ops o e s v s1→DetB P ops ws σ (i+1) l (e.put o.dst v) s1 e' s'→DetB P ops ws σ i (o::l) e s e' s'
section
variable {P:Program} {ops:Array Oper} {ws:List Nat} {σ:List St} {e e':Env} {s s' s0:St} {N:Nat} {k:List KI} {rt:Env→St→Prop}
def DetBC (P:Program) (ops:Array Oper) (ws:List Nat) (σ:List St) (i:Nat) (l:List Oper) (e:Env) (s:St) (K:Env→St→Prop):Prop:=∃ e' s',DetB P ops ws σ i l e s e' s'∧K e' s'
theorem DetBC.nil {i:Nat} {K:Env→St→Prop} (hs:s∈σ) (h:K e s):DetBC P ops ws σ i [] e s K:=⟨e,s,.nil hs,h⟩
def DopsB (P:Program) (ops:Array Oper):List Oper→Env→St→List St→Env→Prop
 | [],e,_,_,e1=>e=e1
 | o::l,e,s,σ,e1=>∃ v,dop1 P ops o (Env.keep (slotsOf ops o) e) s=some v∧(∀ s∈σ,dop1 P ops o (Env.keep (slotsOf ops o) e) s=some v)∧DopsB P ops l (e.put o.dst v) s σ e1
theorem Y306 {p:Prop} (h:p:=by exact (fun a ha=>by have:=hi a ha;omega)):p:=h
theorem DetB.pre (hs:s∈σ):∀ {pre:List Oper} {l:List Oper} {i:Nat} {e e1 e':Env},(∀ a∈ws,a<i∨i+pre.length≤a)→DopsB P ops pre e s σ e1→DetB P ops ws σ (i+pre.length) l e1 s e' s'→DetB P ops ws σ i (pre++l) e s e' s'
 | [],l,i,e,e1,e',_,h,hd=>Y305
 | o::pre,l,i,e,e1,e',hi,h,hd=>by
   simp only [List.length_cons] at hi hd
   obtain ⟨v,hv,hv',h⟩:=h
   refine DetB.cons (fun hm=>by have:=hi i hm;omega) (fun s hs=>dop1_op (hv' s hs)) hs ?_
   refine DetB.pre hs Y306 h ?_
   rw [show i+1+pre.length=i+(pre.length+1) from Y2]
   exact hd
theorem DetBC.pre {pre l:List Oper} {i:Nat} {e1:Env} {K:Env→St→Prop} (hi:∀ a∈ws,a<i∨i+pre.length≤a) (hs:s∈σ) (h:DopsB P ops pre e s σ e1) (hd:DetBC P ops ws σ (i+pre.length) l e1 s K):DetBC P ops ws σ i (pre++l) e s K:=by
 obtain ⟨e',s',h1,h2⟩:=hd
 exact ⟨e',s',DetB.pre hs hi h h1,h2⟩
theorem DetBC.all {l:List Oper} {i:Nat} {e1:Env} {K:Env→St→Prop} (hi:∀ a∈ws,a<i∨i+l.length≤a) (hs:s∈σ) (h:DopsB P ops l e s σ e1) (hk:K e1 s):DetBC P ops ws σ i l e s K:=by
 have:=DetBC.pre (P:=P) (ops:=ops) (l:=[]) hi hs h (DetBC.nil hs hk)
 simpa using this
theorem DOp.of_call {d:Option Nat} {c:Call} {t:TypeId} {pos:String} {af:Array Edge} {gd:Option (Nat × Bool)} {f:FuncId} {args args':List PV} {v:PV} {s:St}
  (hg:guard? ops ⟨d,.call c,t,pos,af,gd⟩ (Env.keep (slotsOf ops ⟨d,.call c,t,pos,af,gd⟩) e)=some true)
  (ha:acall c (Env.keep (slotsOf ops ⟨d,.call c,t,pos,af,gd⟩) e)=some (f,args)) (hw:PV.weaks args=args') (hc:callable P f=true)
  (h:ACalls P f args' s fun r s1=>r=v∧s1=s):DOp P ops ⟨d,.call c,t,pos,af,gd⟩ e s v s:=by
 subst hw
 intro g w a hI hsl K Q hk
 have hE:=keep_ok hsl
 rw [guard_wanted hg hE]
 simp only [if_true]
 obtain ⟨vs,hrun,hra⟩:=acall_run (P:=P) (o:=⟨d,.call c,t,pos,af,gd⟩) (a:=a) rfl hE ha hc
 left
 unfold Oper.wp
 rw [hrun,Oper.upon_enter]
 refine (h g w vs hI (RA_weak _ _ hra)).mono ?_
 rintro e' w' ⟨v',g',r',s',rfl,hI',hR',hX',rfl,rfl⟩
 exact hk _ _ _ hI' hX' hR'
theorem DetBC.call {d:Option Nat} {c:Call} {t:TypeId} {pos:String} {af:Array Edge} {gd:Option (Nat × Bool)} {l:List Oper} {i:Nat} {f:FuncId} {args args':List PV} {v:PV} {K:Env→St→Prop} (hi:ws.contains i=false)
  (hg:guard? ops ⟨d,.call c,t,pos,af,gd⟩ (Env.keep (slotsOf ops ⟨d,.call c,t,pos,af,gd⟩) e)=some true)
  (ha:acall c (Env.keep (slotsOf ops ⟨d,.call c,t,pos,af,gd⟩) e)=some (f,args)) (hw:PV.weaks args=args') (hc:callable P f=true)
  (hs:s∈σ) (h:∀ s∈σ,ACalls P f args' s fun r s2=>r=v∧s2=s) (hd:DetBC P ops ws σ (i+1) l (e.put d v) s K):DetBC P ops ws σ i (⟨d,.call c,t,pos,af,gd⟩::l) e s K:=by
 obtain ⟨e',s',h1,h2⟩:=hd
 exact ⟨e',s',DetB.cons Y128 (fun s hs=>DOp.of_call hg ha hw hc (h s hs)) hs h1,h2⟩
theorem DetBC.eff {o:Oper} {l:List Oper} {i:Nat} {v:PV} {s1:St} {K:Env→St→Prop} (hi:ws.contains i=true) (hs:s∈σ) (hg:guard? ops o (Env.keep (slotsOf ops o) e)=some true)
  (ha:acore P o.op (ev (Env.keep (slotsOf ops o) e)) s=some (v,s1)) (hd:DetBC P ops ws σ (i+1) l (e.put o.dst v) s1 K):DetBC P ops ws σ i (o::l) e s K:=by
 obtain ⟨e',s',h1,h2⟩:=hd
 exact ⟨e',s',DetB.ef Y128 hs (DOp.of_effect hg fun g w a hI hE=>acore_run hI (fun x=>ev_R hE x) ha) h1,h2⟩
theorem DetBC.callE {d:Option Nat} {c:Call} {t:TypeId} {pos:String} {af:Array Edge} {gd:Option (Nat × Bool)} {l:List Oper} {i:Nat} {f:FuncId} {args args':List PV} {v:PV} {s1:St} {K:Env→St→Prop} (hi:ws.contains i=true) (hs:s∈σ)
  (hg:guard? ops ⟨d,.call c,t,pos,af,gd⟩ (Env.keep (slotsOf ops ⟨d,.call c,t,pos,af,gd⟩) e)=some true)
  (ha:acall c (Env.keep (slotsOf ops ⟨d,.call c,t,pos,af,gd⟩) e)=some (f,args)) (hw:PV.weaks args=args') (hc:callable P f=true)
  (h:ACalls P f args' s fun r s2=>r=v∧s2=s1) (hd:DetBC P ops ws σ (i+1) l (e.put d v) s1 K):DetBC P ops ws σ i (⟨d,.call c,t,pos,af,gd⟩::l) e s K:=by
 obtain ⟨e',s',h1,h2⟩:=hd
 refine ⟨e',s',DetB.ef (v:=v) (s1:=s1) Y128 hs ?_ h1,h2⟩
 subst hw
 intro g w a hI hsl K Q hk
 have hE:=keep_ok hsl
 rw [guard_wanted hg hE]
 simp only [if_true]
 obtain ⟨vs,hrun,hra⟩:=acall_run (P:=P) (o:=⟨d,.call c,t,pos,af,gd⟩) (a:=a) rfl hE ha hc
 left
 unfold Oper.wp
 rw [hrun,Oper.upon_enter]
 refine (h g w vs hI (RA_weak _ _ hra)).mono ?_
 rintro e' w' ⟨v',g',r',s',rfl,hI',hR',hX',rfl,rfl⟩
 exact hk _ _ _ hI' hX' hR'
theorem Y18 {p:Prop} (h:p:=by
 exact
                        (fun j o'=>by
  have:=hl (j+1) o'
  rw [show i+1+j=i+(j+1) from Y2]
  simpa using this)):p:=h
theorem Y19 {p:Prop} (h:p:=by
 intro k hk hk2
 simp only [List.length_cons] at hk2
 by_cases e1:k=i
 ·simp only [e1,if_true];exact hs
 ·simp only [e1,if_false];exact a6 k Y2 Y2):p:=h
theorem Y70 {p:Prop} (h:p:=by
 intro k o' hk hk2 ho'
 by_cases e1:k=i
 ·subst e1
  rw [h0] at ho';cases ho'
  simp only [if_true,show ¬ (k+1=k) from Y2,if_false]
  rw [a1,a2]
  exact ⟨rfl,fun e=>absurd hin e,h1⟩
 ·exact Y15):p:=h
theorem DetB.lists:∀ {i l e s e' s'},DetB P ops ws σ i l e s e' s'→(∀ j (o:Oper),l[j]? =some o→ops[i+j]? =some o) →
  ∃ (V:Nat→PV) (S:Nat→St) (E:Nat→Env),E i=e∧S i=s∧E (i+l.length)=e'∧S (i+l.length)=s'∧(∀ k,i≤k→k≤i+l.length→S k∈σ)∧∀ k (o:Oper),i≤k→k<i+l.length→ops[k]? =some o →
   E (k+1)=(E k).put o.dst (V k)∧(k∉ws→S (k+1)=S k∧∀ s∈σ,DOp P ops o (E k) s (V k) s)∧DOp P ops o (E k) (S k) (V k) (S (k+1)):=by
 intro i l e s e' s' h
 induction h with
 | nil hs =>
   rename_i i e s
   intro hl
   refine ⟨fun _=>.junk,fun _=>s,fun _=>e,rfl,rfl,rfl,rfl,fun k _ _=>hs,fun k o hk hk2 ho=>?_⟩
   simp at hk2;omega
 | cons hne h1 hs hd ih =>
   rename_i i o l e s v e' s'
   intro hl
   obtain ⟨V,S,E,a1,a2,a3,a4,a6,a5⟩:=ih Y18
   have h0:ops[i]? =some o:=Y68
   refine ⟨fun k=>if k=i then v else V k,fun k=>if k=i then s else S k,fun k=>if k=i then e else E k,if_pos rfl,if_pos rfl,?_,?_,?_,?_⟩
   ·exact Y10
   ·exact Y11
   ·exact Y19
   ·intro k o' hk hk2 ho'
    by_cases e1:k=i
    ·subst e1
     rw [h0] at ho';cases ho'
     simp only [if_true,show ¬ (k+1=k) from Y2,if_false]
     rw [a1,a2]
     exact ⟨rfl,fun _=>⟨rfl,h1⟩,h1 _ hs⟩
    ·exact Y15
 | ef hin hs h1 hd ih =>
   rename_i i o l e s v s1 e' s'
   intro hl
   obtain ⟨V,S,E,a1,a2,a3,a4,a6,a5⟩:=ih Y18
   have h0:ops[i]? =some o:=Y68
   refine ⟨fun k=>if k=i then v else V k,fun k=>if k=i then s else S k,fun k=>if k=i then e else E k,if_pos rfl,if_pos rfl,?_,?_,?_,?_⟩
   ·exact Y10
   ·exact Y11
   ·exact Y19
   ·exact Y70
theorem Run.drawM {id:Nat} (n:Nat) (ws:List Nat) (σ:List St) (hm:P.follows .mixedOrders=true) (hs:drawOKf ops ws (fun _=>true)=true) (hc:cutOK ops n=true)
  (hd:DetBC P ops ws σ 0 (ops.toList.take n) e s0 (fun e' s'=>RunO P N ops (ops.toList.drop n) k e' s' rt)):Run P N (.code (.region id ops true)::k) e s0 rt:=by
 obtain ⟨e',s',hd,h⟩:=hd
 intro ok
 simp only [okK,okC,Bool.and_eq_true] at ok
 intro _ g w ac hI hE hdf hN
 obtain ⟨V,S,E,a1,a2,a3,a4,a6,a5⟩:=hd.lists (fun j o ho=>by
  rw [List.getElem?_take] at ho
  split at ho
  ·simpa using ho
  ·cases ho)
 have hlen:(ops.toList.take n).length=min n ops.size:=Y1
 simp only [Nat.zero_add,hlen] at a3 a4 a5 a6
 have hmin:min n ops.size≤ops.size:=Nat.min_le_right _ _
 refine wp_region_any hm ?_
 obtain ⟨hI1,hX1⟩:=drew_step hI (w.drawn+1)
 have hrepl:∀ k,(Array.replicate ops.size false).getD k false=false:=by
  intro k
  rw [Array.getD_eq_getD_getElem?]
  cases hx:(Array.replicate ops.size false)[k]? with
  | none=>rfl
  | some b=>have:=Array.mem_of_getElem? hx;simp at this;rw [this.2];rfl
 have hnone:∀ (p:Nat→Bool) (n:Nat),lastW p (fun k=>(Array.replicate ops.size false).getD k false) n=none:=by
  intro p n
  induction n with
  | zero=>rfl
  | succ n ih=>unfold lastW;rw [hrepl,ih];simp
 have hcut:∀ i j,min n ops.size≤j→j<ops.size→i<j→((masks ops.toList []).getD j 0).testBit i=true :=
  fun i j h1 h2 h3=>cutOK_spec hc i j Y2 h2 h3
 refine any_order_f (ws:=ws) (N:=N) (e0:=e) (V:=V) (S:=S) (E:=E) (g0:=g) (w0:=w) (n:=min n ops.size) (fr:=fun _=>true) hmin hcut hs ?_ a1 (fun i o hi ho=>(a5 i o (Nat.zero_le _) hi ho).1)
  (fun i o hi ho hne=>((a5 i o (Nat.zero_le _) hi ho).2.1 hne).1) (fun i o hi ho=>(a5 i o (Nat.zero_le _) hi ho).2.2)
  (fun i o hi ho _ hne k hk=>((a5 i o (Nat.zero_le _) hi ho).2.1 hne).2 _ (a6 k (Nat.zero_le _) hk)) ?_ ops.size _ g s0 _ ac Y1 ?_ ?_ (fun k _=>hrepl k) hI1 hX1 hdf hN ?_ ?_
 ·exact Y64
 ·exact Y16
 ·exact Y65
 ·exact Y69
 ·exact Y130
 ·rw [hnone];exact a2.symm
structure Fr (s s':St):Prop where
 wf:s'.wf
 nxt:s.nxt≤s'.nxt
 blk:∀ i,i<s.nxt→s'.blk i=s.blk i
theorem Fr.refl {s:St} (h:s.wf):Fr s s:=⟨h,Nat.le_refl _,fun _ _=>rfl⟩
theorem Fr.trans {a b c:St} (h:Fr a b) (k:Fr b c):Fr a c:=⟨k.wf,Nat.le_trans h.nxt k.nxt,fun i hi=>by rw [k.blk i (Nat.lt_of_lt_of_le hi h.nxt),h.blk i hi]⟩
theorem Fr.new {s s':St} (h:Fr s s') (b:Blk):Fr s (s'.new b) :=
 ⟨new_wf h.wf b,Nat.le_trans h.nxt (Nat.le_succ _),fun i hi=>by
  show (if i=s'.nxt then some b else s'.blk i)=s.blk i
  rw [if_neg (by have:=h.nxt;omega),h.blk i hi]⟩
theorem Fr.set {s s':St} (h:Fr s s') {id:Nat} (h1:s.nxt≤id) (h2:id<s'.nxt) (b:Option Blk):Fr s (s'.set id b) :=
 ⟨fun i hi=>by
  have hi:s'.nxt≤i:=hi
  show (if i=id then b else s'.blk i)=none
  rw [if_neg Y2];exact h.wf i hi,h.nxt,fun i hi=>by
  show (if i=id then b else s'.blk i)=s.blk i
  rw [if_neg Y2,h.blk i hi]⟩
theorem Fr.lt {s s':St} (h:Fr s s') {i:Nat} {b:Blk} (hb:s.blk i=some b) (hwf:s.wf):s'.blk i=some b:=by
 rw [h.blk i ?_,hb]
 rcases Nat.lt_or_ge i s.nxt with k | k
 ·exact k
 ·rw [hwf i k] at hb;cases hb
theorem Fr.newset {s s':St} (h:Fr s s') {id:Nat} (b:Blk) (b':Option Blk) (hid:id=s'.nxt):Fr s ((s'.new b).set id b'):=by
 subst hid
 exact (h.new b).set h.nxt (Nat.lt_succ_self _) b'
theorem ACalls.unk1 {P:Program} {f:FuncId} {els rest:List PV} {s:St} {Q:PV→St→Prop} (h1:els=[]→ACalls P f (.sl .nil []::rest) s Q) (h2:ACalls P f (.sl .any els::rest) s Q):ACalls P f (.sl .unk els::rest) s Q:=by
 intro g w vs hI hR
 simp only [RA] at hR
 obtain ⟨v,r,hv,hx,hr⟩:=hR
 rcases R_unk.1 hx with hx | hx
 ·have he:=(R_nil.1 hx).2
  subst he
  exact h1 rfl g w vs hI (by simp only [RA];exact ⟨v,r,hv,hx,hr⟩)
 ·exact h2 g w vs hI (by simp only [RA];exact ⟨v,r,hv,hx,hr⟩)
theorem Fr.tm {a s s':St} {k k':SK} (h:Fr a s) (m:TMoves s s' k k') (hk:∀ t z,k=.tok t z→a.nxt≤t):Fr a s' :=
 ⟨m.wf h.wf,Nat.le_trans h.nxt m.nxt,fun i hi=>by rw [m.rest i (Nat.lt_of_lt_of_le hi h.nxt) (fun z e=>by have:=hk i z e;omega),h.blk i hi]⟩
theorem Ret.pureK {P:Program} {fn:Func} {args:List PV} {s0:St} {Q:PV→St→Prop} {e:Env} {s:St} {r:PV} (hr:retv P fn.results.toList e s=some r) (hb:r.blw s0.nxt) (hwf:s0.wf) (hk:∀ i,i<s0.nxt→s.blk i=s0.blk i) (h:Q r s0):Ret P fn args s0 Q e s:=by
 have e1:s.keep s0.nxt (fun i=>decide (i<s0.nxt))=s0:=by
  cases s0 with
  | mk n f =>
    simp only [St.keep,St.mk.injEq,true_and]
    funext i
    by_cases hi:i<n
    ·exact Y125
    ·exact Y62
 refine ⟨r,hr,r,s.keep s0.nxt (fun i=>decide (i<s0.nxt)),Y303,fun g0 w0 g w hI0 hX hI v hv=>⟨g.keep s0.nxt _,keep_inv hI s0.nxt _ (fun i hi _=>of_decide_eq_true hi) ?_,R_sub (keep_sub g s0.nxt _) _ _ hb hv,keep_ext0 hX s0.nxt (by rw [hI0.nxt];exact Nat.le_refl _) _⟩⟩
 intro i b hi hbi
 rw [hk i (of_decide_eq_true hi)] at hbi
 exact hI0.blw hbi
structure Kp (s s':St) (l:List (Nat × Blk)):Prop where
 fr:Fr s s'
 all:∀ p∈l,p.1<s'.nxt∧s'.blk p.1=some p.2
theorem Kp.nil {s s':St} (h:Fr s s'):Kp s s' []:=⟨h,fun p hp=>by cases hp⟩
theorem Kp.new {s s':St} {l:List (Nat × Blk)} (h:Kp s s' l) (b:Blk):Kp s (s'.new b) l :=
 ⟨h.fr.new b,fun p hp=>by
  have:=h.all p hp
  exact ⟨Nat.lt_succ_of_lt this.1,by rw [show (s'.new b).blk p.1=if p.1=s'.nxt then some b else s'.blk p.1 from rfl,if_neg Y2];exact this.2⟩⟩
theorem Kp.push {s s':St} {l:List (Nat × Blk)} (h:Kp s s' l) (b:Blk):Kp s (s'.new b) ((s'.nxt,b)::l) :=
 ⟨h.fr.new b,fun p hp=>by
  rcases List.mem_cons.1 hp with rfl | hp
  ·exact ⟨Nat.lt_succ_self _,if_pos rfl⟩
  ·exact (h.new b).all p hp⟩
theorem Kp.newset {s s':St} {l:List (Nat × Blk)} (h:Kp s s' l) {id:Nat} (b:Blk) (b':Option Blk) (hid:id=s'.nxt):Kp s ((s'.new b).set id b') l :=
 ⟨h.fr.newset b b' hid,fun p hp=>by
  have h1:=h.all p hp
  have h2:=(h.new b).all p hp
  refine ⟨h2.1,?_⟩
  show (if p.1=id then b' else (s'.new b).blk p.1)=_
  rw [if_neg Y2];exact h2.2⟩
theorem Kp.pushset {s s':St} {l:List (Nat × Blk)} (h:Kp s s' l) {id:Nat} (b b':Blk) (hid:id=s'.nxt):Kp s ((s'.new b).set id (some b')) ((id,b')::l) :=
 ⟨h.fr.newset b (some b') hid,fun p hp=>by
  rcases List.mem_cons.1 hp with rfl | hp
  ·exact ⟨by show id<s'.nxt+1;omega,if_pos rfl⟩
  ·exact (h.newset b (some b') hid).all p hp⟩
theorem Kp.setset {s s':St} {l:List (Nat × Blk)} {id:Nat} {b b':Blk} (h:Kp s s' ((id,b)::l)) (hd:∀ p∈l,p.1≠id) (hlo:s.nxt≤id):Kp s (s'.set id (some b')) ((id,b')::l):=by
 have h0:=h.all _ (List.mem_cons_self)
 refine ⟨h.fr.set hlo h0.1 _,fun p hp=>?_⟩
 rcases List.mem_cons.1 hp with rfl | hp
 ·exact ⟨h0.1,if_pos rfl⟩
 ·have:=h.all p (List.mem_cons_of_mem _ hp)
  refine ⟨this.1,?_⟩
  show (if p.1=id then some b' else s'.blk p.1)=_
  rw [if_neg (hd p hp)];exact this.2
theorem Kp.tl {s s':St} {p:Nat × Blk} {l:List (Nat × Blk)} (h:Kp s s' (p::l)):Kp s s' l:=⟨h.fr,fun q hq=>h.all q (List.mem_cons_of_mem _ hq)⟩
theorem Kp.hd {s s':St} {p:Nat × Blk} {l:List (Nat × Blk)} (h:Kp s s' (p::l)):s'.blk p.1=some p.2:=(h.all p List.mem_cons_self).2
theorem Kp.lt {s s':St} {p:Nat × Blk} {l:List (Nat × Blk)} (h:Kp s s' (p::l)):p.1<s'.nxt:=(h.all p List.mem_cons_self).1
theorem Kp.ne {s s':St} {p:Nat × Blk} {l:List (Nat × Blk)} (h:Kp s s' (p::l)) (n:Nat):(p.1=s'.nxt+n)=False:=eq_false (by have:=h.lt;omega)
theorem St.set_self {s:St} {i:Nat} {b:Option Blk} (h:s.blk i=b):s.set i b=s:=by
 cases s with
 | mk n f =>
   simp only [St.set,St.mk.injEq,true_and]
   funext k
   by_cases hk:k=i
   ·subst hk;rw [if_pos rfl];exact h.symm
   ·rw [if_neg hk]
theorem Kp.setbase {s s':St} {l:List (Nat × Blk)} {i:Nat} {b:Option Blk} (h:Kp (s.set i b) s' l) (hi:i<s.nxt) (hd:∀ p∈l,p.1≠i) (b':Option Blk):Kp (s.set i b') (s'.set i b') l:=by
 have hn:s.nxt≤s'.nxt:=h.fr.nxt
 refine ⟨⟨fun j hj=>?_,hn,fun j hj=>?_⟩,fun p hp=>⟨(h.all p hp).1,?_⟩⟩
 ·have hj:s'.nxt≤j:=hj
  show (if j=i then b' else s'.blk j)=none
  rw [if_neg Y2];exact h.fr.wf j hj
 ·show (if j=i then b' else s'.blk j)=if j=i then b' else s.blk j
  split
  ·rfl
  ·rename_i hji
   have:=h.fr.blk j hj
   rw [this]
   show (if j=i then b else s.blk j)=s.blk j
   rw [if_neg hji]
 ·show (if p.1=i then b' else s'.blk p.1)=_
  rw [if_neg (hd p hp)];exact (h.all p hp).2
theorem lt_blk {s:St} (hwf:s.wf) {i:Nat} {b:Blk} (h:s.blk i=some b):i<s.nxt:=by
 rcases Nat.lt_or_ge i s.nxt with k | k
 ·exact k
 ·rw [hwf i k] at h;cases h
theorem forall_mem_nil' {p:St→Prop}:(∀ s∈([]:List St),p s)↔True:=Y1
attribute [go_sem] Array.toList_append Option.toArray_none Option.toArray_some DopsB exists_eq_left' List.forall_mem_cons forall_mem_nil'
end
end Go.PM
namespace Go.PM
open Go
theorem any_order_g {P:Program} {ops:Array Oper} {ws:List Nat} {N:Nat} {e0:Env} {Q:Exit→Act→World→Prop} {V:Nat→PV} {S:Nat→St} {E:Nat→Env} {g0:G} {w0:World} {n:Nat} {al:Nat} {Gf:St→St}
  (hnsz:n≤ops.size) (hcut:∀ i j,n≤j→j<ops.size→i<j→((masks ops.toList []).getD j 0).testBit i=true) (hok:drawOKf ops ws (fun _=>true)=true) (hal:al<n) (haw:al∉ws) (hN:∀ (i:Nat) (o:Oper),ops[i]? =some o→okOp N o=true)
  (hE0:E 0=e0) (hE:∀ (i:Nat) (o:Oper),i<n→ops[i]? =some o→E (i+1)=(E i).put o.dst (V i))
  (hS:∀ (i:Nat) (o:Oper),i<n→ops[i]? =some o→i∉ws→S (i+1)=S i)
  (hD:∀ (i:Nat) (o:Oper),i<n→ops[i]? =some o→i∈ws→(((masks ops.toList []).getD i 0).testBit al=false→DOp P ops o (E i) (S i) (V i) (S (i+1)))∧DOp P ops o (E i) (Gf (S i)) (V i) (Gf (S (i+1))))
  (hF:∀ (i:Nat) (o:Oper),i<n→ops[i]? =some o→i∉ws→i≠al→∀ k,k≤n→DOp P ops o (E i) (S k) (V i) (S k)∧DOp P ops o (E i) (Gf (S k)) (V i) (Gf (S k)))
  (hA:∀ (o:Oper),ops[al]? =some o→∀ k,k≤n→DOp P ops o (E al) (S k) (V al) (Gf (S k)))
  (hQ:∀ g w (a:Act),Inv P g (Gf (S n)) w→EnvOK g w (E n) a.tmps→Ext g0 w0 g w→a.defers=[]→a.tmps.size=N→wpOps P ops Q (List.range' n (ops.size-n)) a w) :
  ∀ (fuel:Nat) (listed:Array Bool) (g:G) (s:St) (w:World) (a:Act),listed.size=ops.size →
   ((List.range ops.size).filter fun k=> !listed.getD k true).length≤fuel→DC ops (fun k=>listed.getD k false=true)→(∀ k,n≤k→listed.getD k false=false) →
   Inv P g s w→Ext g0 w0 g w→a.defers=[]→a.tmps.size=N →
   (∀ j,R g w (match lastW (wslot ops j) (fun k=>listed.getD k false) n with | none=>e0.get j | some k=>V k) (a.tmps.getD j undef)) →
   s=(if listed.getD al false=true then Gf (match lastW (fun k=>ws.contains k) (fun k=>listed.getD k false) n with | none=>S 0 | some k=>S (k+1)) else (match lastW (fun k=>ws.contains k) (fun k=>listed.getD k false) n with | none=>S 0 | some k=>S (k+1))) →
   wpAny P .any ops Q fuel listed a w:=by
 have hpair:∀ (i j:Nat) (oi oj:Oper),i<j→ops[i]? =some oi→ops[j]? =some oj→conff ops ws (fun _=>true) i j oi oj=true→((masks ops.toList []).getD j 0).testBit i=true:=by
  intro i j oi oj hij h1 h2 hc
  unfold drawOKf at hok
  have:=List.all_eq_true.1 hok j (List.mem_range.2 (Array.getElem?_eq_some_iff.1 h2).1)
  rw [h2] at this
  simp only [Bool.and_eq_true] at this
  have:=List.all_eq_true.1 this.2 i (List.mem_range.2 hij)
  rw [h1] at this
  simp only [hc,Bool.not_true,Bool.false_or] at this
  exact this
 have hedge:∀ (j:Nat) (oj:Oper),ops[j]? =some oj→∀ e∈oj.after,Region.binds .any e=true→e.on<j:=by
  intro j oj h2 e he hb
  unfold drawOKf at hok
  have:=List.all_eq_true.1 hok j (List.mem_range.2 (Array.getElem?_eq_some_iff.1 h2).1)
  rw [h2] at this
  simp only [Bool.and_eq_true] at this
  have:=List.all_eq_true.1 this.1 e (by simpa using he)
  simpa [hb] using this
 have hmask:∀ (L:Nat→Prop),DC ops L→∀ (k:Nat) (o:Oper),ops[k]? =some o→(∀ e∈o.after,Region.binds .any e=true→L e.on)→∀ b,((masks ops.toList []).getD k 0).testBit b=true→L b :=
  fun L hdc=>masks_spec hdc ops.toList [] Y1 Y181 Y238
 have hEget:∀ i,i≤n→∀ j,(E i).get j=(match lastW (wslot ops j) (fun _=>true) i with | none=>e0.get j | some k=>V k):=by
  intro i
  induction i with
  | zero=>intro _ j;rw [hE0];rfl
  | succ i ih =>
    intro hi j
    obtain ⟨o,ho⟩:∃ o,ops[i]? =some o:=⟨ops[i]'Y2,Y1⟩
    rw [hE i o Y2 ho]
    unfold lastW
    rw [wslot_eq ho,Bool.and_true]
    unfold writesSlot
    cases hd:o.dst with
    | none=>simp only [Env.put];rw [ih Y2 j];simp
    | some d =>
      simp only [Env.put,Env.get]
      by_cases hjd:j=d
      ·subst hjd;simp
      ·exact Y63
 have hSget:∀ i,i≤n→S i=(match lastW (fun k=>ws.contains k) (fun _=>true) i with | none=>S 0 | some k=>S (k+1)):=by
  intro i
  induction i with
  | zero=>intro _;rfl
  | succ i ih =>
    intro hi
    obtain ⟨o,ho⟩:∃ o,ops[i]? =some o:=⟨ops[i]'Y2,Y1⟩
    unfold lastW
    by_cases hw:i∈ws
    ·exact Y126
    ·exact Y131
 intro fuel
 have fin:∀ (fuel:Nat) (listed:Array Bool) (g:G) (s:St) (w:World) (a:Act),listed.size=ops.size →
   ((List.range ops.size).filter fun k=> !listed.getD k true).length≤fuel→DC ops (fun k=>listed.getD k false=true)→(∀ k,n≤k→listed.getD k false=false) →
   Inv P g s w→Ext g0 w0 g w→a.defers=[]→a.tmps.size=N →
   (∀ j,R g w (match lastW (wslot ops j) (fun k=>listed.getD k false) n with | none=>e0.get j | some k=>V k) (a.tmps.getD j undef)) →
   s=(if listed.getD al false=true then Gf (match lastW (fun k=>ws.contains k) (fun k=>listed.getD k false) n with | none=>S 0 | some k=>S (k+1)) else (match lastW (fun k=>ws.contains k) (fun k=>listed.getD k false) n with | none=>S 0 | some k=>S (k+1)))→(∀ k,k<n→listed.getD k false=true) →
   wpAny P .any ops Q fuel listed a w:=by
  intro fuel listed g s w a hsz hcnt hdc hhi hI hX hd hn hslots hstore hall'
  refine tail_order (n:=n) hcut hedge hmask (ops.size-n) fuel n listed a w Y2 ?_ (Nat.le_refl _) ?_ hsz hdc ?_
  ·exact Y12
  ·exact Y66
  ·refine hQ g w a ?_ ?_ hX hd hn
   ·rw [hSget _ (Nat.le_refl _),← lastW_congr (l:=fun k=>listed.getD k false) (fun k hk _=>hall' k hk)]
    rw [if_pos (hall' al hal)] at hstore
    rw [← hstore];exact hI
   ·exact Y4
 induction fuel with
 | zero =>
   intro listed g s w a hsz hcnt hdc hhi hI hX hd hn hslots hstore
   refine fin 0 listed g s w a hsz hcnt hdc hhi hI hX hd hn hslots hstore ?_
   have hall:∀ k,k<ops.size→listed.getD k true=true:=by
    intro k hk
    have:(List.range ops.size).filter (fun k=> !listed.getD k true)=[]:=List.length_eq_zero_iff.1 Y2
    have:=List.filter_eq_nil_iff.1 this k (List.mem_range.2 hk)
    simpa using this
   intro k hk
   have:=hall k Y2
   rw [Array.getD_eq_getD_getElem?,Array.getElem?_eq_getElem Y2] at this ⊢
   exact this
 | succ fuel ih =>
   intro listed g s w a hsz hcnt hdc hhi hI hX hd hn hslots hstore
   by_cases hfull:∀ k,k<n→listed.getD k false=true
   ·exact Y132
   refine ⟨?_,?_⟩
   ·exact Y13
   ·intro i hi
    obtain ⟨h0,o,ho,hedges⟩:=mem_ready.1 hi
    have hlt:=(Array.getElem?_eq_some_iff.1 ho).1
    have hnl:listed.getD i false=false:=by
     rw [Array.getD_eq_getD_getElem?,Array.getElem?_eq_getElem Y2] at h0 ⊢
     exact h0
    have hanc:=hmask _ hdc i o ho hedges
    have hin:i<n:=by
     by_cases h:i<n
     ·exact h
     ·exact Y133
    have before:∀ (k:Nat) (ok:Oper),ops[k]? =some ok→k<i→conff ops ws (fun _=>true) k i ok o=true→listed.getD k false=true :=
     fun k ok hk hki hc=>hanc k (hpair k i ok o hki hk ho hc)
    have behind:∀ (k:Nat) (ok:Oper),ops[k]? =some ok→i<k→conff ops ws (fun _=>true) i k o ok=true→listed.getD k false=false:=by
     intro k ok hk hki hc
     cases hlk:listed.getD k false with
     | false=>rfl
     | true =>
       have this:listed.getD i false=true:=hmask _ hdc k ok hk (hdc k ok hk hlk) i (hpair i k o ok hki ho hk hc)
       rw [hnl] at this;cases this
    have cell:∀ p:Nat→Bool,(∀ (k:Nat) (ok:Oper),ops[k]? =some ok→k<i→p k=true→conff ops ws (fun _=>true) k i ok o=true)→(∀ (k:Nat) (ok:Oper),ops[k]? =some ok→i<k→p k=true→conff ops ws (fun _=>true) i k o ok=true) →
      lastW p (fun k=>listed.getD k false) n=lastW p (fun _=>true) i∧∀ k,i<k→k<n→(p k&&listed.getD k false)=false:=by
     intro p h1 h2
     have hb:∀ k,i<k→k<n→(p k&&listed.getD k false)=false:=by
      intro k hk hkn
      cases hp:p k with
      | false=>rfl
      | true =>
        obtain ⟨ok,hok'⟩:∃ o,ops[k]? =some o:=⟨ops[k]'Y2,Y1⟩
        rw [behind k ok hok' hk (h2 k ok hok' hk hp)];rfl
     refine ⟨?_,hb⟩
     rw [lastW_cut (i:=i) Y2 Y5]
     refine lastW_congr fun k hk hp=>?_
     obtain ⟨ok,hok'⟩:∃ o,ops[k]? =some o:=⟨ops[k]'Y2,Y1⟩
     exact before k ok hok' hk (h1 k ok hok' hk hp)
    have hsl:∀ j∈slotsOf ops o,R g w ((E i).get j) (a.tmps.getD j undef):=by
     intro j hj
     have:=(cell (wslot ops j) (by
      intro k ok hk hki hp
      rw [wslot_eq hk] at hp
      simp only [writesSlot,beq_iff_eq] at hp
      unfold conff
      rw [hp]
      simp [hj]
     ) (by
      intro k ok hk hki hp
      rw [wslot_eq hk] at hp
      simp only [writesSlot,beq_iff_eq] at hp
      unfold conff
      rw [hp]
      simp [hj]
     )).1
     have h3:=hslots j
     rw [this] at h3
     rw [hEget i Y2 j]
     exact h3
    have rest:∀ (s':St) val w' g',s'=(if (listed.setIfInBounds i true).getD al false=true then Gf (match lastW (fun k=>ws.contains k) (fun k=>(listed.setIfInBounds i true).getD k false) n with | none=>S 0 | some k=>S (k+1)) else (match lastW (fun k=>ws.contains k) (fun k=>(listed.setIfInBounds i true).getD k false) n with | none=>S 0 | some k=>S (k+1))) →
      Inv P g' s' w'→Ext g w g' w'→R g' w' (V i) val→wpAny P .any ops Q fuel (listed.setIfInBounds i true) (a.put o.dst val) w':=by
     intro s' val w' g' hs' hI' hX' hR'
     have hgd:∀ k,(listed.setIfInBounds i true).getD k false=if k=i then true else listed.getD k false:=by
      intro k
      by_cases e:k=i
      ·exact Y6
      ·exact Y7
     refine ih _ g' s' w' _ Y304 ?_ ?_ Y134 hI' (hX.trans hX') Y59 Y239 ?_ hs'
     ·exact Y8
     ·exact Y9
     ·exact Y17
    have hgd':∀ k,(listed.setIfInBounds i true).getD k false=if k=i then true else listed.getD k false:=by
     intro k
     by_cases e:k=i
     ·exact Y6
     ·exact Y7
    unfold wpOp
    rw [ho]
    simp only
    have hbase:∃ kk,kk≤n∧(match lastW (fun k=>ws.contains k) (fun k=>listed.getD k false) n with | none=>S 0 | some k=>S (k+1))=S kk:=by
     cases hlw:lastW (fun k=>ws.contains k) (fun k=>listed.getD k false) n with
     | none=>exact ⟨0,Nat.zero_le _,rfl⟩
     | some k=>exact ⟨k+1,lastW_lt hlw,rfl⟩
    by_cases hia:i=al
    ·
     subst hia
     obtain ⟨kk,hkk,hbk⟩:=hbase
     have hsk:s=S kk:=by rw [hstore,if_neg (by rw [hnl];simp),hbk]
     subst hsk
     refine hA o ho kk hkk g w a hI hsl _ _ fun val w' g' k1 k2 k3=>rest _ val w' g' ?_ k1 k2 k3
     rw [hgd',if_pos rfl]
     have:lastW (fun k=>ws.contains k) (fun k=>(listed.setIfInBounds i true).getD k false) n=lastW (fun k=>ws.contains k) (fun k=>listed.getD k false) n:=by
      refine lastW_congr fun k hk hp=>?_
      rw [hgd',if_neg]
      rintro rfl
      exact haw Y240
     rw [this,hbk];rfl
    ·have hgal:(listed.setIfInBounds i true).getD al false=listed.getD al false:=by rw [hgd',if_neg (fun e=>hia e.symm)]
     by_cases hfree:i∉ws
     ·
      obtain ⟨kk,hkk,hbk⟩:=hbase
      have hsame:lastW (fun k=>ws.contains k) (fun k=>(listed.setIfInBounds i true).getD k false) n=lastW (fun k=>ws.contains k) (fun k=>listed.getD k false) n:=by
       refine lastW_congr fun k hk hp=>?_
       rw [hgd',if_neg]
       rintro rfl
       exact hfree Y240
      have hboth:=hF i o hin ho hfree hia kk hkk
      have hd:DOp P ops o (E i) s (V i) s:=by
       rw [hstore,hbk]
       split
       ·exact hboth.2
       ·exact hboth.1
      refine hd g w a hI hsl _ _ fun val w' g' k1 k2 k3=>rest s val w' g' ?_ k1 k2 k3
      rw [hgal,hsame,← hstore]
     ·
      have htw:ws.contains i=true:=by simpa using hfree
      have hcs:=cell (fun k=>ws.contains k) (by
       intro k ok hk hki hp
       unfold conff
       simp only [hp,htw,Bool.or_true,Bool.and_self,Bool.not_true]) (by
       intro k ok hk hki hp
       unfold conff
       simp only [hp,htw,Bool.or_true,Bool.and_self,Bool.not_true])
      have hs0:(match lastW (fun k=>ws.contains k) (fun k=>listed.getD k false) n with | none=>S 0 | some k=>S (k+1))=S i:=by rw [hcs.1];exact (hSget i Y2).symm
      have hs1:lastW (fun k=>ws.contains k) (fun k=>(listed.setIfInBounds i true).getD k false) n=some i :=
       lastW_at (i:=i) hin htw (by rw [hgd'];simp) Y127
      have hboth:=hD i o hin ho (by simpa using hfree)
      have hd:DOp P ops o (E i) s (V i) (if listed.getD al false=true then Gf (S (i+1)) else S (i+1)):=by
       rw [hstore,hs0]
       split
       ·exact hboth.2
       ·rename_i hnal
        refine hboth.1 ?_
        cases hm:((masks ops.toList []).getD i 0).testBit al with
        | false=>rfl
        | true=>exact absurd (hanc al hm) hnal
      refine hd g w a hI hsl _ _ fun val w' g' k1 k2 k3=>rest _ val w' g' ?_ k1 k2 k3
      rw [hgal,hs1]
inductive DetG (P:Program) (ops:Array Oper) (ws:List Nat) (al:Nat) (Gf:St→St) (σ:List St):Nat→List Oper→Env→St→Env→St→Prop
 | nil {i e s}:s∈σ→DetG P ops ws al Gf σ i [] e s e s
 | cons {i o l e s v e' s'}:i∉ws→i≠al→(∀ s∈σ,DOp P ops o e s v s∧DOp P ops o e (Gf s) v (Gf s))→s∈σ→DetG P ops ws al Gf σ (i+1) l (e.put o.dst v) s e' s'→DetG P ops ws al Gf σ i (o::l) e s e' s'
 | ef {i o l e s v s1 e' s'}:i∈ws→s∈σ→DOp P ops o e s v s1→DOp P ops o e (Gf s) v (Gf s1)→DetG P ops ws al Gf σ (i+1) l (e.put o.dst v) s1 e' s'→DetG P ops ws al Gf σ i (o::l) e s e' s'
 | ef2 {i o l e s v s1 e' s'}:i∈ws→s∈σ→((masks ops.toList []).getD i 0).testBit al=true→DOp P ops o e (Gf s) v (Gf s1)→DetG P ops ws al Gf σ (i+1) l (e.put o.dst v) s1 e' s'→DetG P ops ws al Gf σ i (o::l) e s e' s'
 | al {i o l e s v e' s'}:i=al→(∀ s∈σ,DOp P ops o e s v (Gf s))→s∈σ→DetG P ops ws al Gf σ (i+1) l (e.put o.dst v) s e' s'→DetG P ops ws al Gf σ i (o::l) e s e' s'
section
variable {P:Program} {ops:Array Oper} {ws:List Nat} {al:Nat} {Gf:St→St} {σ:List St} {e e':Env} {s s' s0:St} {N:Nat} {k:List KI} {rt:Env→St→Prop}
theorem DetG.lists (haw:al∉ws):∀ {i l e s e' s'},DetG P ops ws al Gf σ i l e s e' s'→(∀ j (o:Oper),l[j]? =some o→ops[i+j]? =some o) →
  ∃ (V:Nat→PV) (S:Nat→St) (E:Nat→Env),E i=e∧S i=s∧E (i+l.length)=e'∧S (i+l.length)=s'∧(∀ k,i≤k→k≤i+l.length→S k∈σ)∧∀ k (o:Oper),i≤k→k<i+l.length→ops[k]? =some o →
   E (k+1)=(E k).put o.dst (V k)∧(k∉ws→S (k+1)=S k)∧(k∉ws→k≠al→∀ s∈σ,DOp P ops o (E k) s (V k) s∧DOp P ops o (E k) (Gf s) (V k) (Gf s)) ∧
   (k∈ws→(((masks ops.toList []).getD k 0).testBit al=false→DOp P ops o (E k) (S k) (V k) (S (k+1)))∧DOp P ops o (E k) (Gf (S k)) (V k) (Gf (S (k+1))))∧(k=al→∀ s∈σ,DOp P ops o (E k) s (V k) (Gf s)):=by
 intro i l e s e' s' h
 have glue:∀ {i:Nat} {o:Oper} {l:List Oper} {e:Env} {s:St} {v:PV} {s1:St} {e':Env} {s':St},s∈σ→(i∉ws→s1=s) →
   (i∉ws→i≠al→∀ s∈σ,DOp P ops o e s v s∧DOp P ops o e (Gf s) v (Gf s))→(i∈ws→(((masks ops.toList []).getD i 0).testBit al=false→DOp P ops o e s v s1)∧DOp P ops o e (Gf s) v (Gf s1))→(i=al→∀ s∈σ,DOp P ops o e s v (Gf s)) →
   ((∀ j (o:Oper),l[j]? =some o→ops[i+1+j]? =some o)→∃ (V:Nat→PV) (S:Nat→St) (E:Nat→Env),E (i+1)=e.put o.dst v∧S (i+1)=s1∧E (i+1+l.length)=e'∧S (i+1+l.length)=s'∧(∀ k,i+1≤k→k≤i+1+l.length→S k∈σ)∧∀ k (o:Oper),i+1≤k→k<i+1+l.length→ops[k]? =some o →
     E (k+1)=(E k).put o.dst (V k)∧(k∉ws→S (k+1)=S k)∧(k∉ws→k≠al→∀ s∈σ,DOp P ops o (E k) s (V k) s∧DOp P ops o (E k) (Gf s) (V k) (Gf s)) ∧
     (k∈ws→(((masks ops.toList []).getD k 0).testBit al=false→DOp P ops o (E k) (S k) (V k) (S (k+1)))∧DOp P ops o (E k) (Gf (S k)) (V k) (Gf (S (k+1))))∧(k=al→∀ s∈σ,DOp P ops o (E k) s (V k) (Gf s))) →
   (∀ j (o':Oper),(o::l)[j]? =some o'→ops[i+j]? =some o')→∃ (V:Nat→PV) (S:Nat→St) (E:Nat→Env),E i=e∧S i=s∧E (i+(o::l).length)=e'∧S (i+(o::l).length)=s'∧(∀ k,i≤k→k≤i+(o::l).length→S k∈σ)∧∀ k (o':Oper),i≤k→k<i+(o::l).length→ops[k]? =some o' →
     E (k+1)=(E k).put o'.dst (V k)∧(k∉ws→S (k+1)=S k)∧(k∉ws→k≠al→∀ s∈σ,DOp P ops o' (E k) s (V k) s∧DOp P ops o' (E k) (Gf s) (V k) (Gf s)) ∧
     (k∈ws→(((masks ops.toList []).getD k 0).testBit al=false→DOp P ops o' (E k) (S k) (V k) (S (k+1)))∧DOp P ops o' (E k) (Gf (S k)) (V k) (Gf (S (k+1))))∧(k=al→∀ s∈σ,DOp P ops o' (E k) s (V k) (Gf s)):=by
  intro i o l e s v s1 e' s' hs hne hfree hef hal ih hl
  obtain ⟨V,S,E,a1,a2,a3,a4,a6,a5⟩:=ih Y18
  have h0:ops[i]? =some o:=Y68
  refine ⟨fun k=>if k=i then v else V k,fun k=>if k=i then s else S k,fun k=>if k=i then e else E k,if_pos rfl,if_pos rfl,?_,?_,?_,?_⟩
  ·exact Y10
  ·exact Y11
  ·exact Y19
  ·intro k o' hk hk2 ho'
   by_cases e1:k=i
   ·subst e1
    rw [h0] at ho';cases ho'
    simp only [if_true,show ¬ (k+1=k) from Y2,if_false]
    rw [a1,a2]
    exact ⟨rfl,hne,hfree,hef,hal⟩
   ·exact Y15
 induction h with
 | nil hs =>
   rename_i i e s
   intro hl
   refine ⟨fun _=>.junk,fun _=>s,fun _=>e,rfl,rfl,rfl,rfl,fun k _ _=>hs,fun k o hk hk2 ho=>?_⟩
   simp at hk2;omega
 | cons hne hna h1 hs hd ih=>exact glue hs (fun _=>rfl) (fun _ _=>h1) (fun h=>absurd h hne) (fun h=>absurd h hna) ih
 | ef hin hs h1 h2 hd ih=>exact glue hs (fun h=>absurd hin h) (fun h=>absurd hin h) (fun _=>⟨fun _=>h1,h2⟩) (fun h=>absurd (h ▸ hin) haw) ih
 | ef2 hin hs hm h2 hd ih=>exact glue hs (fun h=>absurd hin h) (fun h=>absurd hin h) (fun _=>⟨fun h=>(by rw [hm] at h;cases h),h2⟩) (fun h=>absurd (h ▸ hin) haw) ih
 | al heq h1 hs hd ih=>exact glue hs (fun _=>rfl) (fun _ h=>absurd heq h) (fun h=>absurd (heq ▸ h) haw) (fun _=>h1) ih
def DetGC (P:Program) (ops:Array Oper) (ws:List Nat) (al:Nat) (Gf:St→St) (σ:List St) (i:Nat) (l:List Oper) (e:Env) (s:St) (K:Env→St→Prop):Prop:=∃ e' s',DetG P ops ws al Gf σ i l e s e' s'∧K e' s'
theorem DetGC.nil {i:Nat} {K:Env→St→Prop} (hs:s∈σ) (h:K e s):DetGC P ops ws al Gf σ i [] e s K:=⟨e,s,.nil hs,h⟩
theorem DetG.pre (hs:s∈σ):∀ {pre:List Oper} {l:List Oper} {i:Nat} {e e1 e':Env},(∀ a∈al::ws,a<i∨i+pre.length≤a)→DopsB P ops pre e s (σ++σ.map Gf) e1→DetG P ops ws al Gf σ (i+pre.length) l e1 s e' s'→DetG P ops ws al Gf σ i (pre++l) e s e' s'
 | [],l,i,e,e1,e',_,h,hd=>Y305
 | o::pre,l,i,e,e1,e',hi,h,hd=>by
   simp only [List.length_cons] at hi hd
   obtain ⟨v,hv,hv',h⟩:=h
   refine DetG.cons (fun hm=>by have:=hi i (List.mem_cons_of_mem _ hm);omega) (fun hm=>by have:=hi i (by rw [hm];exact List.mem_cons_self);omega)
    (fun s hs=>⟨dop1_op (hv' s (List.mem_append_left _ hs)),dop1_op (hv' (Gf s) (List.mem_append_right _ (List.mem_map_of_mem hs)))⟩) hs ?_
   refine DetG.pre hs Y306 h ?_
   rw [show i+1+pre.length=i+(pre.length+1) from Y2]
   exact hd
theorem DetGC.pre {pre l:List Oper} {i:Nat} {e1:Env} {K:Env→St→Prop} (hi:∀ a∈al::ws,a<i∨i+pre.length≤a) (hs:s∈σ) (h:DopsB P ops pre e s (σ++σ.map Gf) e1) (hd:DetGC P ops ws al Gf σ (i+pre.length) l e1 s K):DetGC P ops ws al Gf σ i (pre++l) e s K:=by
 obtain ⟨e',s',h1,h2⟩:=hd
 exact ⟨e',s',DetG.pre hs hi h h1,h2⟩
theorem DetGC.all {l:List Oper} {i:Nat} {e1:Env} {K:Env→St→Prop} (hi:∀ a∈al::ws,a<i∨i+l.length≤a) (hs:s∈σ) (h:DopsB P ops l e s (σ++σ.map Gf) e1) (hk:K e1 s):DetGC P ops ws al Gf σ i l e s K:=by
 have:=DetGC.pre (P:=P) (ops:=ops) (l:=[]) hi hs h (DetGC.nil hs hk)
 simpa using this
theorem DetGC.callE {d:Option Nat} {c:Call} {t:TypeId} {pos:String} {af:Array Edge} {gd:Option (Nat × Bool)} {l:List Oper} {i:Nat} {f:FuncId} {args args':List PV} {v:PV} {s1:St} {K:Env→St→Prop} (hi:ws.contains i=true) (hs:s∈σ)
  (hg:guard? ops ⟨d,.call c,t,pos,af,gd⟩ (Env.keep (slotsOf ops ⟨d,.call c,t,pos,af,gd⟩) e)=some true)
  (ha:acall c (Env.keep (slotsOf ops ⟨d,.call c,t,pos,af,gd⟩) e)=some (f,args)) (hw:PV.weaks args=args') (hc:callable P f=true)
  (h:ACalls P f args' s fun r s2=>r=v∧s2=s1) (h':ACalls P f args' (Gf s) fun r s2=>r=v∧s2=Gf s1) (hd:DetGC P ops ws al Gf σ (i+1) l (e.put d v) s1 K):DetGC P ops ws al Gf σ i (⟨d,.call c,t,pos,af,gd⟩::l) e s K:=by
 obtain ⟨e',s',h1,h2⟩:=hd
 subst hw
 have key:∀ sa sb,(ACalls P f (PV.weaks args) sa fun r s2=>r=v∧s2=sb)→DOp P ops ⟨d,.call c,t,pos,af,gd⟩ e sa v sb:=by
  intro sa sb h g w a hI hsl K Q hk
  have hE:=keep_ok hsl
  rw [guard_wanted hg hE]
  simp only [if_true]
  obtain ⟨vs,hrun,hra⟩:=acall_run (P:=P) (o:=⟨d,.call c,t,pos,af,gd⟩) (a:=a) rfl hE ha hc
  left
  unfold Oper.wp
  rw [hrun,Oper.upon_enter]
  refine (h g w vs hI (RA_weak _ _ hra)).mono ?_
  rintro e' w' ⟨v',g',r',s',rfl,hI',hR',hX',rfl,rfl⟩
  exact hk _ _ _ hI' hX' hR'
 exact ⟨e',s',DetG.ef (v:=v) (s1:=s1) Y128 hs (key _ _ h) (key _ _ h') h1,h2⟩
theorem DetGC.call {d:Option Nat} {c:Call} {t:TypeId} {pos:String} {af:Array Edge} {gd:Option (Nat × Bool)} {l:List Oper} {i:Nat} {f:FuncId} {args args':List PV} {v:PV} {K:Env→St→Prop} (hi:ws.contains i=false) (hna:i≠al)
  (hg:guard? ops ⟨d,.call c,t,pos,af,gd⟩ (Env.keep (slotsOf ops ⟨d,.call c,t,pos,af,gd⟩) e)=some true)
  (ha:acall c (Env.keep (slotsOf ops ⟨d,.call c,t,pos,af,gd⟩) e)=some (f,args)) (hw:PV.weaks args=args') (hc:callable P f=true)
  (hs:s∈σ) (h:∀ s,ACalls P f args' s fun r s2=>r=v∧s2=s) (hd:DetGC P ops ws al Gf σ (i+1) l (e.put d v) s K):DetGC P ops ws al Gf σ i (⟨d,.call c,t,pos,af,gd⟩::l) e s K:=by
 obtain ⟨e',s',h1,h2⟩:=hd
 exact ⟨e',s',DetG.cons Y128 hna (fun s _=>⟨DOp.of_call hg ha hw hc (h s),DOp.of_call hg ha hw hc (h (Gf s))⟩) hs h1,h2⟩
theorem DetGC.alloc {o:Oper} {l:List Oper} {i:Nat} {v:PV} {K:Env→St→Prop} (hi:i=al) (hs:s∈σ) (hg:guard? ops o (Env.keep (slotsOf ops o) e)=some true)
  (ha:∀ s∈σ,acore P o.op (ev (Env.keep (slotsOf ops o) e)) s=some (v,Gf s)) (hd:DetGC P ops ws al Gf σ (i+1) l (e.put o.dst v) s K):DetGC P ops ws al Gf σ i (o::l) e s K:=by
 obtain ⟨e',s',h1,h2⟩:=hd
 exact ⟨e',s',DetG.al hi (fun s hs=>DOp.of_effect hg fun g w a hI hE=>acore_run hI (fun x=>ev_R hE x) (ha s hs)) hs h1,h2⟩
theorem Run.drawG {id:Nat} (n:Nat) (ws:List Nat) (al:Nat) (Gf:St→St) (σ:List St) (hm:P.follows .mixedOrders=true) (hs:drawOKf ops ws (fun _=>true)=true) (hc:cutOK ops n=true) (han:al<min n ops.size) (haw:al∉ws)
  (hd:DetGC P ops ws al Gf σ 0 (ops.toList.take n) e s0 (fun e' s'=>RunO P N ops (ops.toList.drop n) k e' (Gf s') rt)):Run P N (.code (.region id ops true)::k) e s0 rt:=by
 obtain ⟨e',s',hd,h⟩:=hd
 intro ok
 simp only [okK,okC,Bool.and_eq_true] at ok
 intro _ g w ac hI hE hdf hN
 obtain ⟨V,S,E,a1,a2,a3,a4,a6,a5⟩:=hd.lists haw (fun j o ho=>by
  rw [List.getElem?_take] at ho
  split at ho
  ·simpa using ho
  ·cases ho)
 have hlen:(ops.toList.take n).length=min n ops.size:=Y1
 simp only [Nat.zero_add,hlen] at a3 a4 a5 a6
 have hmin:min n ops.size≤ops.size:=Nat.min_le_right _ _
 refine wp_region_any hm ?_
 obtain ⟨hI1,hX1⟩:=drew_step hI (w.drawn+1)
 have hrepl:∀ k,(Array.replicate ops.size false).getD k false=false:=by
  intro k
  rw [Array.getD_eq_getD_getElem?]
  cases hx:(Array.replicate ops.size false)[k]? with
  | none=>rfl
  | some b=>have:=Array.mem_of_getElem? hx;simp at this;rw [this.2];rfl
 have hnone:∀ (p:Nat→Bool) (n:Nat),lastW p (fun k=>(Array.replicate ops.size false).getD k false) n=none:=by
  intro p n
  induction n with
  | zero=>rfl
  | succ n ih=>unfold lastW;rw [hrepl,ih];simp
 have hcut:∀ i j,min n ops.size≤j→j<ops.size→i<j→((masks ops.toList []).getD j 0).testBit i=true :=
  fun i j h1 h2 h3=>cutOK_spec hc i j Y2 h2 h3
 refine any_order_g (ws:=ws) (N:=N) (e0:=e) (V:=V) (S:=S) (E:=E) (g0:=g) (w0:=w) (n:=min n ops.size) (al:=al) (Gf:=Gf) hmin hcut hs han haw ?_ a1 (fun i o hi ho=>(a5 i o (Nat.zero_le _) hi ho).1)
  (fun i o hi ho hne=>(a5 i o (Nat.zero_le _) hi ho).2.1 hne) (fun i o hi ho hin=>(a5 i o (Nat.zero_le _) hi ho).2.2.2.1 hin)
  (fun i o hi ho hne hna k hk=>(a5 i o (Nat.zero_le _) hi ho).2.2.1 hne hna _ (a6 k (Nat.zero_le _) hk)) (fun o ho k hk=>(a5 al o (Nat.zero_le _) han ho).2.2.2.2 rfl _ (a6 k (Nat.zero_le _) hk)) ?_ ops.size _ g s0 _ ac Y1 ?_ ?_ (fun k _=>hrepl k) hI1 hX1 hdf hN ?_ ?_
 ·exact Y64
 ·exact Y16
 ·exact Y65
 ·exact Y69
 ·exact Y130
 ·rw [hnone,if_neg (by rw [hrepl];simp)];exact a2.symm
end
end Go.PM
namespace Go.PM
open Go
inductive DetF (P:Program) (ops:Array Oper) (ws lc:List Nat) (σ:List St):Nat→List Oper→Env→St→Env→St→Prop
 | nil {i e s}:s∈σ→DetF P ops ws lc σ i [] e s e s
 | cons {i o l e s v e' s'}:i∉ws→(∀ s∈σ,DOp P ops o e s v s)→s∈σ→DetF P ops ws lc σ (i+1) l (e.put o.dst v) s e' s'→DetF P ops ws lc σ i (o::l) e s e' s'
 | lo {i o l e s v e' s'}:i∉ws→i∈lc→DOp P ops o e s v s→s∈σ→DetF P ops ws lc σ (i+1) l (e.put o.dst v) s e' s'→DetF P ops ws lc σ i (o::l) e s e' s'
 | ef {i o l e s v s1 e' s'}:i∈ws→s∈σ→DOp P ops o e s v s1→DetF P ops ws lc σ (i+1) l (e.put o.dst v) s1 e' s'→DetF P ops ws lc σ i (o::l) e s e' s'
section
variable {P:Program} {ops:Array Oper} {ws lc:List Nat} {σ:List St} {e e':Env} {s s' s0:St} {N:Nat} {k:List KI} {rt:Env→St→Prop}
def DetFC (P:Program) (ops:Array Oper) (ws lc:List Nat) (σ:List St) (i:Nat) (l:List Oper) (e:Env) (s:St) (K:Env→St→Prop):Prop:=∃ e' s',DetF P ops ws lc σ i l e s e' s'∧K e' s'
theorem DetFC.nil {i:Nat} {K:Env→St→Prop} (hs:s∈σ) (h:K e s):DetFC P ops ws lc σ i [] e s K:=⟨e,s,.nil hs,h⟩
theorem DetF.pre (hs:s∈σ):∀ {pre:List Oper} {l:List Oper} {i:Nat} {e e1 e':Env},(∀ a∈ws,a<i∨i+pre.length≤a)→DopsB P ops pre e s σ e1→DetF P ops ws lc σ (i+pre.length) l e1 s e' s'→DetF P ops ws lc σ i (pre++l) e s e' s'
 | [],l,i,e,e1,e',_,h,hd=>Y305
 | o::pre,l,i,e,e1,e',hi,h,hd=>by
   simp only [List.length_cons] at hi hd
   obtain ⟨v,hv,hv',h⟩:=h
   refine DetF.cons (fun hm=>by have:=hi i hm;omega) (fun s hs=>dop1_op (hv' s hs)) hs ?_
   refine DetF.pre hs Y306 h ?_
   rw [show i+1+pre.length=i+(pre.length+1) from Y2]
   exact hd
theorem DetFC.pre {pre l:List Oper} {i:Nat} {e1:Env} {K:Env→St→Prop} (hi:∀ a∈ws,a<i∨i+pre.length≤a) (hs:s∈σ) (h:DopsB P ops pre e s σ e1) (hd:DetFC P ops ws lc σ (i+pre.length) l e1 s K):DetFC P ops ws lc σ i (pre++l) e s K:=by
 obtain ⟨e',s',h1,h2⟩:=hd
 exact ⟨e',s',DetF.pre hs hi h h1,h2⟩
theorem DetFC.all {l:List Oper} {i:Nat} {e1:Env} {K:Env→St→Prop} (hi:∀ a∈ws,a<i∨i+l.length≤a) (hs:s∈σ) (h:DopsB P ops l e s σ e1) (hk:K e1 s):DetFC P ops ws lc σ i l e s K:=by
 have:=DetFC.pre (P:=P) (ops:=ops) (lc:=lc) (l:=[]) hi hs h (DetFC.nil hs hk)
 simpa using this
theorem DetFC.call {d:Option Nat} {c:Call} {t:TypeId} {pos:String} {af:Array Edge} {gd:Option (Nat × Bool)} {l:List Oper} {i:Nat} {f:FuncId} {args args':List PV} {v:PV} {K:Env→St→Prop} (hi:ws.contains i=false)
  (hg:guard? ops ⟨d,.call c,t,pos,af,gd⟩ (Env.keep (slotsOf ops ⟨d,.call c,t,pos,af,gd⟩) e)=some true)
  (ha:acall c (Env.keep (slotsOf ops ⟨d,.call c,t,pos,af,gd⟩) e)=some (f,args)) (hw:PV.weaks args=args') (hc:callable P f=true)
  (hs:s∈σ) (h:∀ s∈σ,ACalls P f args' s fun r s2=>r=v∧s2=s) (hd:DetFC P ops ws lc σ (i+1) l (e.put d v) s K):DetFC P ops ws lc σ i (⟨d,.call c,t,pos,af,gd⟩::l) e s K:=by
 obtain ⟨e',s',h1,h2⟩:=hd
 exact ⟨e',s',DetF.cons Y128 (fun s hs=>DOp.of_call hg ha hw hc (h s hs)) hs h1,h2⟩
theorem DetFC.eff {o:Oper} {l:List Oper} {i:Nat} {v:PV} {s1:St} {K:Env→St→Prop} (hi:ws.contains i=true) (hs:s∈σ) (hg:guard? ops o (Env.keep (slotsOf ops o) e)=some true)
  (ha:acore P o.op (ev (Env.keep (slotsOf ops o) e)) s=some (v,s1)) (hd:DetFC P ops ws lc σ (i+1) l (e.put o.dst v) s1 K):DetFC P ops ws lc σ i (o::l) e s K:=by
 obtain ⟨e',s',h1,h2⟩:=hd
 exact ⟨e',s',DetF.ef Y128 hs (DOp.of_effect hg fun g w a hI hE=>acore_run hI (fun x=>ev_R hE x) ha) h1,h2⟩
theorem DetFC.callE {d:Option Nat} {c:Call} {t:TypeId} {pos:String} {af:Array Edge} {gd:Option (Nat × Bool)} {l:List Oper} {i:Nat} {f:FuncId} {args args':List PV} {v:PV} {s1:St} {K:Env→St→Prop} (hi:ws.contains i=true) (hs:s∈σ)
  (hg:guard? ops ⟨d,.call c,t,pos,af,gd⟩ (Env.keep (slotsOf ops ⟨d,.call c,t,pos,af,gd⟩) e)=some true)
  (ha:acall c (Env.keep (slotsOf ops ⟨d,.call c,t,pos,af,gd⟩) e)=some (f,args)) (hw:PV.weaks args=args') (hc:callable P f=true)
  (h:ACalls P f args' s fun r s2=>r=v∧s2=s1) (hd:DetFC P ops ws lc σ (i+1) l (e.put d v) s1 K):DetFC P ops ws lc σ i (⟨d,.call c,t,pos,af,gd⟩::l) e s K:=by
 obtain ⟨e',s',h1,h2⟩:=hd
 refine ⟨e',s',DetF.ef (v:=v) (s1:=s1) Y128 hs ?_ h1,h2⟩
 subst hw
 intro g w a hI hsl K Q hk
 have hE:=keep_ok hsl
 rw [guard_wanted hg hE]
 simp only [if_true]
 obtain ⟨vs,hrun,hra⟩:=acall_run (P:=P) (o:=⟨d,.call c,t,pos,af,gd⟩) (a:=a) rfl hE ha hc
 left
 unfold Oper.wp
 rw [hrun,Oper.upon_enter]
 refine (h g w vs hI (RA_weak _ _ hra)).mono ?_
 rintro e' w' ⟨v',g',r',s',rfl,hI',hR',hX',rfl,rfl⟩
 exact hk _ _ _ hI' hX' hR'
theorem DetF.lists:∀ {i l e s e' s'},DetF P ops ws lc σ i l e s e' s'→(∀ j (o:Oper),l[j]? =some o→ops[i+j]? =some o) →
  ∃ (V:Nat→PV) (S:Nat→St) (E:Nat→Env),E i=e∧S i=s∧E (i+l.length)=e'∧S (i+l.length)=s'∧(∀ k,i≤k→k≤i+l.length→S k∈σ)∧∀ k (o:Oper),i≤k→k<i+l.length→ops[k]? =some o →
   E (k+1)=(E k).put o.dst (V k)∧(k∉ws→S (k+1)=S k∧(k∉lc→∀ s∈σ,DOp P ops o (E k) s (V k) s))∧DOp P ops o (E k) (S k) (V k) (S (k+1)):=by
 intro i l e s e' s' h
 induction h with
 | nil hs =>
   rename_i i e s
   intro hl
   refine ⟨fun _=>.junk,fun _=>s,fun _=>e,rfl,rfl,rfl,rfl,fun k _ _=>hs,fun k o hk hk2 ho=>?_⟩
   simp at hk2;omega
 | cons hne h1 hs hd ih =>
   rename_i i o l e s v e' s'
   intro hl
   obtain ⟨V,S,E,a1,a2,a3,a4,a6,a5⟩:=ih Y18
   have h0:ops[i]? =some o:=Y68
   refine ⟨fun k=>if k=i then v else V k,fun k=>if k=i then s else S k,fun k=>if k=i then e else E k,if_pos rfl,if_pos rfl,?_,?_,?_,?_⟩
   ·exact Y10
   ·exact Y11
   ·exact Y19
   ·intro k o' hk hk2 ho'
    by_cases e1:k=i
    ·subst e1
     rw [h0] at ho';cases ho'
     simp only [if_true,show ¬ (k+1=k) from Y2,if_false]
     rw [a1,a2]
     exact ⟨rfl,fun _=>⟨rfl,fun _=>h1⟩,h1 _ hs⟩
    ·exact Y15
 | lo hne hlc h1 hs hd ih =>
   rename_i i o l e s v e' s'
   intro hl
   obtain ⟨V,S,E,a1,a2,a3,a4,a6,a5⟩:=ih Y18
   have h0:ops[i]? =some o:=Y68
   refine ⟨fun k=>if k=i then v else V k,fun k=>if k=i then s else S k,fun k=>if k=i then e else E k,if_pos rfl,if_pos rfl,?_,?_,?_,?_⟩
   ·exact Y10
   ·exact Y11
   ·exact Y19
   ·intro k o' hk hk2 ho'
    by_cases e1:k=i
    ·subst e1
     rw [h0] at ho';cases ho'
     simp only [if_true,show ¬ (k+1=k) from Y2,if_false]
     rw [a1,a2]
     exact ⟨rfl,fun _=>⟨rfl,fun h=>absurd hlc h⟩,h1⟩
    ·exact Y15
 | ef hin hs h1 hd ih =>
   rename_i i o l e s v s1 e' s'
   intro hl
   obtain ⟨V,S,E,a1,a2,a3,a4,a6,a5⟩:=ih Y18
   have h0:ops[i]? =some o:=Y68
   refine ⟨fun k=>if k=i then v else V k,fun k=>if k=i then s else S k,fun k=>if k=i then e else E k,if_pos rfl,if_pos rfl,?_,?_,?_,?_⟩
   ·exact Y10
   ·exact Y11
   ·exact Y19
   ·exact Y70
end
end Go.PM
namespace Go.PM
open Go
theorem range_zero {z:Value} {n:Nat} (hz:0<z.cells.size):(Array.range (n*z.cells.size)).map (z.cells[·%z.cells.size]!)=(flat (List.replicate n z)).toArray:=by
 have hl:(flat (List.replicate n z)).length=n*z.cells.size:=by
  rw [flat_length (sz:=z.cells.size) (fun v hv=>by rw [(List.mem_replicate.1 hv).2]),List.length_replicate]
 refine Array.ext (by simp [hl]) fun i h1 h2=>?_
 simp only [Array.size_map,Array.size_range] at h1
 have:=flat_replicate_get z n i h1
 have hm:i%z.cells.size<z.cells.size:=Nat.mod_lt _ hz
 simp only [Array.getElem_map,Array.getElem_range]
 rw [List.getElem_toArray]
 rw [List.getElem?_eq_getElem (by rw [hl];exact h1)] at this
 simp only [Array.getElem?_toList,Array.getElem?_eq_getElem hm,Option.some.injEq] at this
 rw [this,getElem!_pos z.cells _ hm]
theorem flatV_agg {z:Value} (h:flatV z=true):∀ cs,z=.agg cs→∀ x∈cs.toList,x.flat=true:=by
 intro cs e x hx
 subst e
 exact List.all_eq_true.1 h x hx
theorem makeSlice_run {P:Program} {w:World} {t e:TypeId} {v:PV} {n:Nat} (htd:td P t=.sl e) (hz:zpv P e=some v) (hn:0<n) (hn2:n<1073741824) (hroom:n*P.bytesOf e≤roomBytes) (h48:n*P.bytesOf e≤140737488355328) :
  ∃ z,v=pvOf z∧z.cells.size=P.cellsOf e∧(∀ cs,z=.agg cs→∀ x∈cs.toList,x.flat=true)∧(Instr.makeSlice t (.int .i64 n) (.int .i64 n)).run P w=.ok (.slice (some ⟨w.heap.size,0,none⟩) n n) (World.newB w (.cells (flat (List.replicate n z)).toArray e (0,0))):=by
 obtain ⟨z,hz1,hz2,hz3,hz4,hpos,hz6,hz7⟩:=zero_run (P:=P) (w:=w) hz
 obtain ⟨i,hi,hsz⟩:=cells_info hpos
 have hby:P.bytesOf e=i.bytes:=Y179
 refine ⟨z,hz2,hz4,?_,?_⟩
 ·exact flatV_agg hz3
 ·unfold Instr.makeSlice
  rw [bind_run,underlying_run (td_slice htd)]
  simp only [asInt,pure_run,bind_run,typeInfo_run hi]
  have hw:IntKind.i64.wrap (n:Int)=(n:Int):=wrap_i64 Y2
  have hc:¬ ((decide ((n:Int)<0)||decide ((i.bytes:Int)*(n:Int)>2 ^ 48))||decide ((n:Int)<0)||decide ((n:Int)>n))=true:=by
   have:(i.bytes:Int)*(n:Int)=((n*P.bytesOf e:Nat):Int):=by rw [hby];push_cast;exact Int.mul_comm _ _
   rw [this]
   simp
   omega
  have ha:(asIntOf (Value.int IntKind.i64 (n:Int))).run P w=.ok (IntKind.i64,(n:Int)) w:=rfl
  simp only [ha,hw]
  rw [if_neg hc]
  have hr:askRoom ((n:Int).toNat*i.bytes)=pure ():=by
   unfold askRoom
   rw [if_neg]
   rw [Int.toNat_natCast,← hby]
   omega
  rw [hr]
  have hne:¬ n*P.cellsOf e=0:=by
   have:=Nat.mul_pos hn hpos
   omega
  simp only [bind_run,pure_run,sizeOf_run hpos,Int.toNat_natCast]
  rw [if_neg hne]
  simp only [bind_run,pure_run,hz1]
  rw [← range_zero (by rw [hz4];exact hpos),hz4]
  rfl
section
variable {P:Program} {N:Nat} {k:List KI} {e:Env} {s:St} {rt:Env→St→Prop}
theorem Y307 {p:Prop} (h:p:=by unfold roomBytes;omega):p:=h
theorem RunO.makeSlice {ops:Array Oper} {d:Option Nat} {t ty el:TypeId} {x y:Operand} {pos:String} {af:Array Edge} {gd:Option (Nat × Bool)} {l:List Oper} {n:Nat} {v:PV}
  (hg:guard? ops ⟨d,.makeSlice t x y,ty,pos,af,gd⟩ e=some true) (hx:ev e x=.int .i64 n) (hy:ev e y=.int .i64 n) (htd:td P t=.sl el) (hz:zpv P el=some v) (hn:0<n) (hn2:n<1073741824) (hroom:n*P.bytesOf el≤140737488355328)
  (h:RunO P N ops l k (e.put d (.sl .clip (List.replicate n v))) s rt):RunO P N ops (⟨d,.makeSlice t x y,ty,pos,af,gd⟩::l) k e s rt:=by
 refine RunO.eff hg (fun g w a hI hE=>?_) h
 have h1:=ev_R hE x
 have h2:=ev_R hE y
 rw [hx] at h1
 rw [hy] at h2
 simp only [R] at h1 h2
 obtain ⟨z,r1,r2,r3,r4⟩:=makeSlice_run (w:=w) htd hz hn hn2 Y307 hroom
 obtain ⟨k1,k2,k3⟩:=newClip_R (ty:=el) (sz:=P.cellsOf el) hI (RA_replicate (show R g w v z by rw [r1];exact pvOf_R g w z r3) n) (fun u hu=>by rw [(List.mem_replicate.1 hu).2];exact r2) (by
  obtain ⟨_,_,_,_,_,hp,_⟩:=zero_run (P:=P) (w:=w) hz
  exact hp)
 rw [List.length_replicate] at k3
 refine ⟨_,_,g,.inl ?_,k1,k2,k3⟩
 unfold execOp
 simp only [bind_run,pure_run,h1,h2,r4]
end
end Go.PM
namespace Go.PM
open Go Go.ChangeShapes Go.WideShapes Go.RowKit
def g0:G:={ nxt:=0,rows:=fun _=>none,live:=fun _=>false,toks:=fun _=>none,lim:=fun _=>none }
def s0:St:={ nxt:=0,blk:=fun _=>none }
theorem g0_isRow (b:Nat):¬ g0.isRow b:=by
 rintro ⟨i,n,e,_⟩
 cases e
theorem g0_free (b n:Nat):g0.free b n:=⟨g0_isRow b,fun m h=>by cases h⟩
theorem inv0 (P:Program) (w:World):Inv P g0 s0 w where
 nxt:=rfl
 wf:=fun _ _=>rfl
 at':=fun id=>⟨rfl,rfl⟩
 inj:=fun i j b m n hi _ _ _=>by cases hi
 tinj:=fun i j b m n hi _=>by cases hi
 lim:=fun b e h=>by cases h
 rlim:=fun _ _ _ _ _=>rfl
theorem below0 {w g' w'} (h:Ext g0 w g' w'):Below w.heap.size w w' :=
 ⟨h.os,h.tape,h.output,h.size,fun k hk=>h.same k hk (g0_isRow k) rfl⟩
theorem calls0 {P:Program} {f:FuncId} {args:List PV} {vs:Array Value} {w:World} (h:ACalls P f args s0 (fun r _=>r=.bool true)) (hr:RA g0 w args vs.toList) :
  Calls P f vs w fun e w'=>e=.returned (.bool true)∧Below w.heap.size w w':=by
 refine (h g0 w vs (inv0 P w) hr).mono fun e w' ⟨v,g',r,s',h1,h2,h3,h4,h5⟩=>?_
 subst h5
 simp only [R] at h3
 subst h3
 exact ⟨h1,below0 h4⟩
theorem trodAll_back {H:Type} {enc:TypeId × Value→H} {P:Program} (hl:laidOutB P=true) {W W':World} (hb:Below W.heap.size W W'):∀ {ts:List TypeId} {vs:List Value} {ds:List (DataW H)} {ps:List MemPlace},
  ts.all (fun t=>P.readableRec t&&decide (t<P.types.size))=true→DataW.TrodAll enc P W 0 (fun _=>true) true ts vs ds ps →
  DataW.TrodAll enc P W' 0 (fun b=>decide (b<W.heap.size)) true ts vs ds ps
 | [],vs,ds,ps,_,h=>by
   obtain ⟨rfl,rfl,rfl⟩:=trodAll_nil h
   exact trodAll_mk0
 | t::ts,vs,ds,ps,ht,h=>by
   obtain ⟨v,vs',d,ds',p,q,rfl,rfl,rfl,h1,h2⟩:=trodAll_cons h
   simp only [List.all_cons,Bool.and_eq_true,decide_eq_true_eq] at ht
   have lt:∀ x∈p,x.block<W.heap.size:=by obtain ⟨m,hm⟩:=h1;exact DataW.trod_lt m _ _ _ hm
   exact trodAll_cons_mk (Below.trod hl ht.1.1 ht.1.2 h1 hb lt) (trodAll_back hl hb ht.2 h2)
inductive Sh where
 | int (k:IntKind) | bool
def scal (P:Program) (t:TypeId):Option Sh:=match P.underlying t with
 | some (.int k)=>some (.int k)
 | some .bool=>some .bool
 | _=>none
def shFields (P:Program):Nat→List Field→Option (List Sh)
 | _,[]=>some []
 | o,f::fs=>match scal P f.type with
   | some s=>if f.offset=o∧P.cellsOf f.type=1 then (shFields P (o+1) fs).map (s::·) else none
   | none=>none
def shEl (P:Program) (t:TypeId):Option (List Sh × Bool):=match P.underlying t with
 | some (.struct fs)=>if P.cellsOf t=fs.size then (shFields P 0 fs.toList).map (·,true) else none
 | _=>(scal P t).map fun s=>([s],false)
def fit1:Sh→PV→Prop
 | .int k,p=>∃ n,p=.int k n∧(Lit.int k n).wf=true
 | .bool,p=>∃ b,p=.bool b
def fits:List Sh→List PV→Prop
 | [],ps=>ps=[]
 | s::ss,ps=>∃ p r,ps=p::r∧fit1 s p∧fits ss r
def fitEl:List Sh × Bool→PV→Prop
 |(ss,true),p=>∃ ps,p=.agg ps∧fits ss ps
 |(ss,false),p=>fits ss [p]
section
variable {H:Type} {enc:TypeId × Value→H} {P:Program} {w:World} {base:Nat} {sp:Nat→Bool} {held:Bool}
theorem trod_scal {t s fuel cs x} (g:G) (hs:scal P t=some s) (h:DataW.trod enc P w base sp held fuel t cs=some x) :
  ∃ p v,cs=[v]∧fit1 s p∧R g w p v∧v.flat=true:=by
 unfold scal at hs
 split at hs
 ·rename_i k hu
  cases hs
  obtain ⟨n,rfl,_,hw⟩:=DataW.trod_int hu h
  exact ⟨.int k n,_,rfl,⟨n,rfl,hw⟩,by simp [R],rfl⟩
 ·rename_i hu
  cases hs
  obtain ⟨b,rfl,_⟩:=DataW.trod_bool hu h
  exact ⟨.bool b,_,rfl,⟨b,rfl⟩,by simp [R],rfl⟩
 ·cases hs
theorem trod_fields {fuel:Nat} (g:G) (cs:List Value):∀ (fs:List Field) (o:Nat) (ss:List Sh),shFields P o fs=some ss→cs.length=o+fs.length →
  (∀ (i:Nat) (f:Field),fs[i]? =some f→∃ x,DataW.trod enc P w base sp held fuel f.type ((cs.drop f.offset).take (P.cellsOf f.type))=some x) →
  ∃ ps,fits ss ps∧RA g w ps (cs.drop o)∧∀ v∈cs.drop o,v.flat=true
 | [],o,ss,h,hl,_=>by
   simp only [shFields,Option.some.injEq] at h
   subst h
   have:cs.drop o=[]:=List.drop_eq_nil_of_le (by simp at hl;omega)
   rw [this]
   exact ⟨[],rfl,rfl,Y1⟩
 | f::fs,o,ss,h,hl,hx=>by
   simp only [shFields] at h
   cases hs:scal P f.type with
   | none=>rw [hs] at h;cases h
   | some s =>
     rw [hs] at h
     simp only at h
     split at h
     case isFalse=>cases h
     rename_i hc
     obtain ⟨ho,hc1⟩:=hc
     cases hr:shFields P (o+1) fs with
     | none=>rw [hr] at h;cases h
     | some ss' =>
       rw [hr] at h
       simp only [Option.map_some,Option.some.injEq] at h
       subst h
       obtain ⟨x,hx0⟩:=hx 0 f Y1
       rw [ho,hc1] at hx0
       obtain ⟨p,v,e,h1,h2,h3⟩:=trod_scal g hs hx0
       simp only [List.length_cons] at hl
       obtain ⟨ps,k1,k2,k3⟩:=trod_fields g cs fs (o+1) ss' hr Y2 (fun i f' hf'=>hx (i+1) f' (by simpa using hf'))
       have hd:cs.drop o=v::cs.drop (o+1):=by
        have hlt:o<cs.length:=Y2
        have h2:=List.drop_eq_getElem_cons hlt
        rw [h2] at e
        simp only [List.take_succ_cons,List.take_zero,List.cons.injEq,and_true] at e
        rw [h2,e]
       refine ⟨p::ps,⟨p,ps,rfl,h1,k1⟩,?_,?_⟩
       ·rw [hd];simp only [RA];exact ⟨v,_,rfl,h2,k2⟩
       ·rw [hd]
        intro u hu
        rcases List.mem_cons.1 hu with rfl | hu
        ·exact h3
        ·exact k3 u hu
theorem trod_el {t q fuel cs x} (g:G) (hq:shEl P t=some q) (h:DataW.trod enc P w base sp held fuel t cs=some x) :
  ∃ p v,R g w p v∧v.cells.toList=cs∧fitEl q p∧∀ x∈cs,x.flat=true:=by
 unfold shEl at hq
 split at hq
 ·rename_i fs hu
  split at hq
  case isFalse=>cases hq
  rename_i hc
  obtain ⟨xs,n,_,_,hl,hn,hx⟩:=DataW.trod_struct hu h
  cases hr:shFields P 0 fs.toList with
  | none=>rw [hr] at hq;cases hq
  | some ss =>
    rw [hr] at hq
    simp only [Option.map_some,Option.some.injEq] at hq
    subst hq
    obtain ⟨ps,k1,k2,k3⟩:=trod_fields (enc:=enc) (base:=base) (sp:=sp) (held:=held) (fuel:=n) g cs fs.toList 0 ss hr (by rw [hl,hc];simp) (fun i f hf=>by
     rw [hx i f (by simpa using hf)]
     have:i<xs.length:=by rw [hn];have:=(List.getElem?_eq_some_iff.1 hf).1;simpa using this
     exact ⟨xs[i],by simp [this]⟩)
    rw [List.drop_zero] at k2 k3
    exact ⟨.agg ps,.agg cs.toArray,by simp only [R];exact ⟨cs.toArray,rfl,by simpa using k3,by simpa using k2⟩,by simp [Value.cells],⟨ps,rfl,k1⟩,k3⟩
 ·cases hs:scal P t with
  | none=>rw [hs] at hq;cases hq
  | some s =>
    rw [hs] at hq
    simp only [Option.map_some,Option.some.injEq] at hq
    subst hq
    obtain ⟨p,v,rfl,h1,h2,h3⟩:=trod_scal g hs h
    exact ⟨p,v,h2,by rw [flat_cells h3],⟨p,[],rfl,h1,rfl⟩,by simpa using h3⟩
theorem Y71 {p:Prop} (h:p:=by
 rw [flat_append,cellsAt_append]
 refine ⟨h3,?_⟩
 have hvl:=RA_length h2
 rw [flat_length h4,← hvl,h1]
 intro j hj
 simp only [flat,List.flatMap_cons,List.flatMap_nil,List.append_nil] at hj ⊢
 have hj':j<cs.length:=by rw [← p2];exact hj
 have:=hcc j Y2
 rw [add_plain,add_plain,List.getElem?_eq_getElem hj'] at this
 rw [this]
 simp only [p2]):p:=h
theorem Y243 {p:Prop} (h:p:=by
 intro u hu
 rcases List.mem_append.1 hu with hu | hu
 ·exact h4 u hu
 ·simp at hu;subst hu;exact hvs):p:=h
theorem Y244 {p:Prop} (h:p:=by
 intro u hu
 rcases List.mem_append.1 hu with hu | hu
 ·exact h5 u hu
 ·simp at hu;subst hu;exact p3):p:=h
theorem open_list {r:Reach} {b0:Nat} {t e q v d ps} (ht:P.underlying t=some (.slice e)) (hq:shEl P e=some q) (hpos:0<P.cellsOf e) (hval:Value.okWide P w r b0 t v) (hd:DataW.Trod enc P w base sp held t v d ps)
  {ts:List TypeId} {ds:List (DataW H)} (hsz:(DataW.weightsEach P ts ds).all (·≤reachBytes)=true) {j:Nat} (htj:ts[j]? =some t) (hdj:ds[j]? =some d) :
  ∃ els,R g0 w (.sl .unk els) v∧(∀ x∈els,fitEl q x)∧els.length*P.bytesOf e≤reachBytes:=by
 obtain ⟨a,len,cap,rfl⟩:=okWide_slice ht hval
 obtain ⟨fuel,hf⟩:=hd
 rcases DataW.trod_slice ht hf with ⟨hcs,_⟩ | ⟨a',l',c',elems,rest,n,_,hcs,hx,_,hlc,_,hel,hat,_⟩
 ·simp [Value.cells] at hcs
  obtain ⟨rfl,rfl,rfl⟩:=hcs
  exact ⟨[],R_unk.2 (.inl (R_nil.2 ⟨rfl,rfl⟩)),Y1,Y1⟩
 ·simp [Value.cells] at hcs
  obtain ⟨rfl,rfl,rfl⟩:=hcs
  have hsp:a'.spot=none:=by
   simp only [Value.okWide,ht,Cell.okWide,Cell.ok] at hval
   exact hval.2.2.2.1
  obtain ⟨b,o,s⟩:=a'
  simp only at hsp
  subst hsp
  have main:∀ k,k≤len→∃ els vs,els.length=k∧RA g0 w els vs∧cellsAt w b o (flat vs)∧(∀ v∈vs,v.cells.size=P.cellsOf e)∧∀ x∈els,fitEl q x:=by
   intro k
   induction k with
   | zero=>exact fun _=>⟨[],[],rfl,rfl,by intro j hj;simp [flat] at hj,Y1,Y1⟩
   | succ k ih =>
     intro hk
     obtain ⟨els,vs,h1,h2,h3,h4,h5⟩:=ih Y2
     have:=hat k Y2
     have hk':k<elems.length:=Y2
     rw [List.getElem?_eq_getElem hk'] at this
     obtain ⟨cs,hc1,hc2⟩:=Option.bind_eq_some_iff.1 this
     obtain ⟨_,hcl,hcc⟩:=World.cells?_some hc1
     obtain ⟨p,v,p1,p2,p3,p4⟩:=trod_el g0 hq hc2
     have hvs:v.cells.size=P.cellsOf e:=by rw [← Array.length_toList,p2,hcl]
     refine ⟨els++[p],vs++[v],by simp [h1],RA_append h2 (by simp only [RA];exact ⟨v,[],rfl,p1,rfl⟩),?_,?_,?_⟩
     ·exact Y71
     ·exact Y243
     ·exact Y244
  obtain ⟨els,vs,h1,h2,h3,h4,h5⟩:=main len (Nat.le_refl _)
  refine ⟨els,R_unk.2 (.inr ?_),h5,?_⟩
  ·simp only [R,slHead,slHead0]
   exact ⟨vs,h2,.inl ⟨b,o,cap,P.cellsOf e,by rw [h1],Y2,hpos,Y1,fun _=>g0_free _ _,h3,h4,Y1⟩⟩
  ·have hx1:d=.slice (elems.map (·.1)) (rest.map (·.1)):=congrArg (·.1) hx
   subst hx1
   have:=sized_slice hsz htj hdj ht
   simp only [List.length_map] at this
   rw [h1,← hel]
   exact Nat.le_trans (Nat.mul_le_mul_right _ (Nat.le_add_right _ _)) this
end
theorem choose_list {α:Type} {f:α→PV} {q:α→Prop}:∀ {l:List PV},(∀ x∈l,∃ a,x=f a∧q a)→∃ ls:List α,l=ls.map f∧∀ a∈ls,q a
 | [],_=>⟨[],rfl,Y1⟩
 | x::l,h=>by
   obtain ⟨a,rfl,ha⟩:=h x Y1
   obtain ⟨ls,rfl,has⟩:=choose_list (f:=f) (q:=q) (l:=l) fun y hy=>h y (by simp [hy])
   exact ⟨a::ls,rfl,fun y hy=>by
    rcases List.mem_cons.1 hy with h1 | h1
    ·rw [h1];exact ha
    ·exact has y h1⟩
end Go.PM
namespace Go.PM
open Go
theorem ints_fit {k:IntKind} {els:List PV} (h:∀ x∈els,fitEl ([.int k],false) x):∃ l:List Int,els=l.map (PV.int k)∧∀ n∈l,(Lit.int k n).wf=true :=
 choose_list (f:=PV.int k) (q:=fun n=>(Lit.int k n).wf=true) fun x hx=>by
  obtain ⟨p,r,e,⟨n,e1,hw⟩,e2⟩:=h x hx
  simp only [List.cons.injEq] at e
  exact ⟨n,by rw [e.1,e1],hw⟩
theorem wf_u8 {n:Int} (h:(Lit.int .u8 n).wf=true):0≤n∧n≤255:=by
 simp [Lit.wf,IntKind.min,IntKind.max,IntKind.signed,IntKind.bits] at h
 omega
end Go.PM
namespace Go.PM
open Go Go.ChangeShapes Go.WideShapes Go.RowKit
def mkv (a:Bool) (cs:List Value):Value:=if a=true then .agg cs.toArray else cs.headD .nilFunc
theorem mkv_cells {a:Bool} {cs:List Value} (hf:∀ y∈cs,y.flat=true) (h:a=false→cs.length=1):(mkv a cs).cells.toList=cs:=by
 cases a with
 | true=>rfl
 | false =>
   obtain ⟨x,rfl⟩:=List.length_eq_one_iff.1 (h rfl)
   simp only [mkv,Bool.false_eq_true,if_false,List.headD_cons]
   exact congrArg Array.toList (flat_cells (hf x Y1))
structure Rd (P:Program) (t:TypeId) (a:Bool) (φ:PV→Prop):Prop where
 rd:∀ {H:Type} {enc:TypeId × Value→H} {w:World} {base fuel:Nat} {held:Bool} {cs:List Value} {x:DataW H × List MemPlace},
 DataW.trod enc P w base (fun _=>true) held fuel t cs=some x→(∀ n∈x.1.weights P t,n≤reachBytes)→∃ p,R g0 w p (mkv a cs)∧φ p∧(∀ y∈cs,y.flat=true)∧(a=false→cs.length=1)
theorem Y308 {p:Prop} (h:p:=by simp [Value.flat]):p:=h
theorem rd_int {P:Program} {t:TypeId} {k:IntKind} (h:P.underlying t=some (.int k)):Rd P t false fun p=>∃ n,p=.int k n∧(Lit.int k n).wf=true:=by
 refine ⟨@fun H enc w base fuel held cs x hx _=>?_⟩
 obtain ⟨n,rfl,_,hw⟩:=DataW.trod_int h hx
 exact ⟨.int k n,by simp [R,mkv],⟨n,rfl,hw⟩,Y308,fun _=>rfl⟩
theorem rd_bool {P:Program} {t:TypeId} (h:P.underlying t=some .bool):Rd P t false fun p=>∃ b,p=.bool b:=by
 refine ⟨@fun H enc w base fuel held cs x hx _=>?_⟩
 obtain ⟨n,rfl,_⟩:=DataW.trod_bool h hx
 exact ⟨.bool n,by simp [R,mkv],⟨n,rfl⟩,Y308,fun _=>rfl⟩
def fitL:List (PV→Prop)→List PV→Prop
 | [],ps=>ps=[]
 | f::fs,ps=>∃ p r,ps=p::r∧f p∧fitL fs r
inductive RdF (P:Program):Nat→List (Nat × TypeId × Nat)→List (PV→Prop)→Prop
 | nil (o:Nat):RdF P o [] []
 | cons {o t φ fs φs}:Rd P t false φ→RdF P (o+1) fs φs→RdF P o ((o,t,1)::fs) (φ::φs)
def ftypes (P:Program) (t:TypeId):Option (List (Nat × TypeId × Nat)):=match P.underlying t with
 | some (.struct fs)=>if P.cellsOf t=fs.size then some (fs.toList.map fun f=>(f.offset,f.type,P.cellsOf f.type)) else none
 | _=>none
theorem rd_fields {P:Program} {H:Type} {enc:TypeId × Value→H} {w:World} {base fuel:Nat} {held:Bool} {cs:List Value}:∀ {fs:List (Nat × TypeId × Nat)} {o:Nat} {φs:List (PV→Prop)},RdF P o fs φs→cs.length=o+fs.length →
  (∀ (i:Nat) (f:Nat × TypeId × Nat),fs[i]? =some f→∃ x,DataW.trod enc P w base (fun _=>true) held fuel f.2.1 ((cs.drop f.1).take f.2.2)=some x∧∀ n∈x.1.weights P f.2.1,n≤reachBytes) →
  ∃ ps,fitL φs ps∧RA g0 w ps (cs.drop o)∧∀ v∈cs.drop o,v.flat=true
 | [],o,φs,h,hl,_=>by
   cases h
   have:cs.drop o=[]:=List.drop_eq_nil_of_le (by simp at hl;omega)
   rw [this]
   exact ⟨[],rfl,rfl,Y1⟩
 | f::fs,o,φs,h,hl,hx=>by
   cases h with
   | cons h1 h2 =>
     rename_i t φ φs
     obtain ⟨x,hx0,hw⟩:=hx 0 (o,t,1) Y1
     obtain ⟨p,k1,k3,k4,_⟩:=h1.rd hx0 hw
     simp only [List.length_cons] at hl
     obtain ⟨ps,m1,m2,m3⟩:=rd_fields h2 Y2 (fun i f' hf'=>hx (i+1) f' (by simpa using hf'))
     have hlt:o<cs.length:=Y2
     have hd:=List.drop_eq_getElem_cons hlt
     rw [hd] at k1 k4
     simp only [List.take_succ_cons,List.take_zero,mkv,Bool.false_eq_true,if_false,List.headD_cons] at k1 k4
     refine ⟨p::ps,⟨p,ps,rfl,k3,m1⟩,?_,?_⟩
     ·rw [hd];simp only [RA];exact ⟨_,_,rfl,k1,m2⟩
     ·rw [hd]
      intro u hu
      rcases List.mem_cons.1 hu with rfl | hu
      ·exact k4 _ Y1
      ·exact m3 u hu
theorem rd_struct {P:Program} {t:TypeId} {fs:List (Nat × TypeId × Nat)} {φs:List (PV→Prop)} (h:ftypes P t=some fs) (hf:RdF P 0 fs φs):Rd P t true fun p=>∃ ps,p=.agg ps∧fitL φs ps:=by
 refine ⟨@fun H enc w base fuel held cs x hx hw=>?_⟩
 unfold ftypes at h
 split at h
 ·rename_i fa hu
  split at h
  ·rename_i hc
   cases h
   obtain ⟨xs,n,_,rfl,hl,hn,hxx⟩:=DataW.trod_struct hu hx
   obtain ⟨ps,k1,k2,k3⟩:=rd_fields (enc:=enc) (base:=base) (held:=held) (fuel:=n) (w:=w) (cs:=cs) hf (by rw [hl,hc];simp) (fun i f hf=>by
    rw [List.getElem?_map] at hf
    obtain ⟨f0,hf0,rfl⟩:=Option.map_eq_some_iff.1 hf
    rw [hxx i f0 (by simpa using hf0)]
    have hi:i<xs.length:=by rw [hn];have:=(List.getElem?_eq_some_iff.1 hf0).1;simpa using this
    refine ⟨xs[i],by simp [hi],fun m hm=>hw m ?_⟩
    simp only [DataW.weights,hu]
    exact DataW.weights_mem_each (j:=i) (t:=f0.type) (d:=xs[i].1) (by rw [List.getElem?_map,hf0];rfl) (by rw [List.getElem?_map,List.getElem?_eq_getElem hi];rfl) m hm)
   rw [List.drop_zero] at k2 k3
   exact ⟨.agg ps,by simp only [R,mkv,if_true];exact ⟨cs.toArray,rfl,by simpa using k3,by simpa using k2⟩,⟨ps,rfl,k1⟩,k3,fun e=>Y292⟩
  ·cases h
 ·cases h
theorem weights_mem_all {H:Type} {P:Program} {e:TypeId}:∀ {ds:List (DataW H)} {d:DataW H},d∈ds→∀ n∈d.weights P e,n∈DataW.weightsAll P e ds
 | [],_,h,_,_=>by cases h
 | a::ds,d,h,n,hn=>by
   simp only [DataW.weightsAll,List.mem_append]
   rcases List.mem_cons.1 h with rfl | h
   ·exact .inl hn
   ·exact .inr (weights_mem_all h n hn)
theorem cells_spot {w:World} {base:Nat} {a:Addr} {n:Nat} {cs:List Value} (h:w.cells? base a n=some cs) (hn:0<n):a.spot=none:=by
 obtain ⟨_,hl,hc⟩:=World.cells?_some h
 have h0:=hc 0 hn
 rw [List.getElem?_eq_getElem Y2] at h0
 have e:a.add 0=a:=rfl
 rw [e] at h0
 unfold World.cell? at h0
 split at h0
 ·split at h0
  ·cases h0
  ·rename_i h;simpa using h
 ·cases h0
theorem rd_slice {P:Program} {t e:TypeId} {a:Bool} {φ:PV→Prop} (ht:P.underlying t=some (.slice e)) (hpos:0<P.cellsOf e) (h:Rd P e a φ):Rd P t false fun p=>∃ els,p=.sl .unk els∧(∀ x∈els,φ x)∧els.length*P.bytesOf e≤reachBytes:=by
 refine ⟨@fun H enc w base fuel held cs x hx hw=>?_⟩
 rcases DataW.trod_slice ht hx with ⟨rfl,_⟩ | ⟨ad,len,cap,elems,rest,n,_,rfl,hxx,_,hlc,_,hel,hat,hsp,_⟩
 ·exact ⟨.sl .unk [],R_unk.2 (.inl (R_nil.2 ⟨rfl,rfl⟩)),⟨[],rfl,Y1,Y1⟩,Y308,fun _=>rfl⟩
 ·have hx1:x.1=.slice (elems.map (·.1)) (rest.map (·.1)):=by rw [hxx]
  have hw1:(elems.length+rest.length)*P.bytesOf e≤reachBytes:=hw _ (by rw [hx1];simp only [DataW.weights,ht,List.length_map];exact List.mem_cons_self)
  have hw2:∀ d∈elems,∀ m∈d.1.weights P e,m≤reachBytes:=fun d hd m hm=>hw m (by
   rw [hx1];simp only [DataW.weights,ht]
   exact List.mem_cons_of_mem _ (List.mem_append_left _ (weights_mem_all (List.mem_map_of_mem hd) m hm)))
  have hbound:len*P.bytesOf e≤reachBytes:=by
   rw [← hel];exact Nat.le_trans (Nat.mul_le_mul_right _ (Nat.le_add_right _ _)) hw1
  simp only [mkv,Bool.false_eq_true,if_false,List.headD_cons]
  by_cases h00:len=0∧cap=0
  ·obtain ⟨rfl,rfl⟩:=h00
   exact ⟨.sl .unk [],R_unk.2 (.inr (by simp only [R];exact ⟨[],rfl,.inr ⟨.inl rfl,rfl,ad,rfl⟩⟩)),⟨[],rfl,Y1,Y1⟩,Y308,fun _=>rfl⟩
  have hspot:ad.spot=none:=by
   by_cases hl0:len=0
   ·obtain ⟨hr,hrr⟩:=hsp rfl
    have h1:=hrr 0 Y2
    have:0<rest.length:=Y2
    rw [List.getElem?_eq_getElem this] at h1
    obtain ⟨cs,hc1,_⟩:=Option.bind_eq_some_iff.1 h1
    subst hl0
    rw [Nat.zero_add,Nat.zero_mul] at hc1
    exact cells_spot hc1 hpos
   ·have h1:=hat 0 Y2
    have:0<elems.length:=Y2
    rw [List.getElem?_eq_getElem this] at h1
    obtain ⟨cs,hc1,_⟩:=Option.bind_eq_some_iff.1 h1
    rw [Nat.zero_mul] at hc1
    exact cells_spot hc1 hpos
  obtain ⟨b,o,s⟩:=ad
  simp only at hspot
  subst hspot
  have main:∀ k,k≤len→∃ els vs,els.length=k∧RA g0 w els vs∧cellsAt w b o (flat vs)∧(∀ v∈vs,v.cells.size=P.cellsOf e)∧∀ x∈els,φ x:=by
   intro k
   induction k with
   | zero=>exact fun _=>⟨[],[],rfl,rfl,by intro j hj;simp [flat] at hj,Y1,Y1⟩
   | succ k ih =>
     intro hk
     obtain ⟨els,vs,h1,h2,h3,h4,h5⟩:=ih Y2
     have:=hat k Y2
     have hk':k<elems.length:=Y2
     rw [List.getElem?_eq_getElem hk'] at this
     obtain ⟨cs,hc1,hc2⟩:=Option.bind_eq_some_iff.1 this
     obtain ⟨_,hcl,hcc⟩:=World.cells?_some hc1
     obtain ⟨p,p1,p3,p4,p5⟩:=h.rd hc2 (hw2 _ (List.getElem_mem hk'))
     have p2:=mkv_cells p4 p5
     have hvs:(mkv a cs).cells.size=P.cellsOf e:=by rw [← Array.length_toList,p2,hcl]
     refine ⟨els++[p],vs++[mkv a cs],by simp [h1],RA_append h2 (by simp only [RA];exact ⟨_,[],rfl,p1,rfl⟩),?_,?_,?_⟩
     ·exact Y71
     ·exact Y243
     ·exact Y244
  obtain ⟨els,vs,h1,h2,h3,h4,h5⟩:=main len (Nat.le_refl _)
  refine ⟨.sl .unk els,R_unk.2 (.inr ?_),⟨els,rfl,h5,by rw [h1];exact hbound⟩,Y308,fun _=>rfl⟩
  simp only [R,slHead,slHead0]
  exact ⟨vs,h2,.inl ⟨b,o,cap,P.cellsOf e,by rw [h1],Y2,hpos,Y1,fun _=>g0_free _ _,h3,h4,Y1⟩⟩
section
variable {H:Type} {enc:TypeId × Value→H} {P:Program} {w:World} {base:Nat} {held:Bool}
theorem sized_each {ts:List TypeId} {ds:List (DataW H)} (hsz:(DataW.weightsEach P ts ds).all (·≤reachBytes)=true) {j:Nat} {t:TypeId} {d:DataW H} (htj:ts[j]? =some t) (hdj:ds[j]? =some d):∀ n∈d.weights P t,n≤reachBytes :=
 fun n hn=>by simpa using List.all_eq_true.1 hsz n (DataW.weights_mem_each htj hdj n hn)
theorem open_sl {r:Reach} {b0:Nat} {t e v d ps φ} (ht:P.underlying t=some (.slice e)) (h:Rd P t false φ) (hval:Value.okWide P w r b0 t v) (hd:DataW.Trod enc P w base (fun _=>true) held t v d ps)
  {ts:List TypeId} {ds:List (DataW H)} (hsz:(DataW.weightsEach P ts ds).all (·≤reachBytes)=true) {j:Nat} (htj:ts[j]? =some t) (hdj:ds[j]? =some d):∃ p,R g0 w p v∧φ p:=by
 obtain ⟨a,len,cap,rfl⟩:=okWide_slice ht hval
 obtain ⟨fuel,hf⟩:=hd
 obtain ⟨p,h1,h2,_,_⟩:=h.rd hf (sized_each hsz htj hdj)
 exact ⟨p,by simpa [mkv,Value.cells] using h1,h2⟩
end
end Go.PM
namespace Go.PM
theorem Rd.mono {P:Go.Program} {t:Go.TypeId} {a:Bool} {φ ψ:PV→Prop} (h:Rd P t a φ) (k:∀ p,φ p→ψ p):Rd P t a ψ:=by
 refine ⟨@fun H enc w base fuel held cs x hx hw=>?_⟩
 obtain ⟨p,h1,h2,h3,h4⟩:=h.rd hx hw
 exact ⟨p,h1,k p h2,h3,h4⟩
end Go.PM
namespace Go.Proofs
open Go.PM Go
structure Sp where
 pos:Int
 cnt:Int
 deriving DecidableEq
def Sp.pv (s:Sp):PV:=.agg [.int .i64 s.pos,.int .i64 s.cnt]
structure Win where
 space:Int
 virt:Int
 phys:Int
 cnt:Int
 deriving DecidableEq
def Win.pv (w:Win):PV:=.agg [.int .i64 w.space,.int .i64 w.virt,.int .i64 w.phys,.int .i64 w.cnt]
structure Slt where
 pos:Int
 len:Int
 deriving DecidableEq
def Slt.pv (s:Slt):PV:=.agg [.int .i64 s.pos,.int .i64 s.len]
structure Ten where
 unit:Int
 fns:Int
 queue:Int
 wins:List Win
 slts:List Slt
 deriving DecidableEq
def Ten.pv (t:Ten):PV:=.agg [.int .i64 t.unit,.int .u32 t.fns,.int .i64 t.queue,.sl .unk (t.wins.map Win.pv),.sl .unk (t.slts.map Slt.pv)]
structure Tab where
 frame:Int
 tens:List Ten
 deriving DecidableEq
def Tab.pv (t:Tab):PV:=.agg [.int .i64 t.frame,.sl .unk (t.tens.map Ten.pv)]
def I64 (n:Int):Prop:= -9223372036854775808≤n∧n≤9223372036854775807
def U32 (n:Int):Prop:=0≤n∧n≤4294967295
structure Sp.ok (s:Sp):Prop where
 pos:I64 s.pos
 cnt:I64 s.cnt
structure Win.ok (w:Win):Prop where
 space:I64 w.space
 virt:I64 w.virt
 phys:I64 w.phys
 cnt:I64 w.cnt
structure Slt.ok (s:Slt):Prop where
 pos:I64 s.pos
 len:I64 s.len
structure Ten.ok (t:Ten):Prop where
 unit:I64 t.unit
 fns:U32 t.fns
 queue:I64 t.queue
 wins:∀ w∈t.wins,w.ok
 slts:∀ s∈t.slts,s.ok
 bw:t.wins.length*32≤140737488351232
 bs:t.slts.length*16≤140737488351232
structure Tab.ok (t:Tab):Prop where
 frame:I64 t.frame
 tens:∀ x∈t.tens,x.ok
 bt:t.tens.length*72≤140737488351232
theorem Ten.ok.nw {t:Ten} (h:t.ok):t.wins.length<140737488355328:=by have:=h.bw;omega
theorem Ten.ok.ns {t:Ten} (h:t.ok):t.slts.length<140737488355328:=by have:=h.bs;omega
theorem Tab.ok.nt {t:Tab} (h:t.ok):t.tens.length<140737488355328:=by have:=h.bt;omega
theorem weaks_sps (l:List Sp):PV.weaks (l.map Sp.pv)=l.map Sp.pv:=weaks_map_id Sp.pv (fun _=>rfl) l
theorem weaks_wins (l:List Win):PV.weaks (l.map Win.pv)=l.map Win.pv:=weaks_map_id Win.pv (fun _=>rfl) l
theorem weaks_slts (l:List Slt):PV.weaks (l.map Slt.pv)=l.map Slt.pv:=weaks_map_id Slt.pv (fun _=>rfl) l
theorem weak_ten (t:Ten):t.pv.weak=t.pv:=by
 simp only [Ten.pv,PV.weak,PV.weaks,weaks_wins,weaks_slts]
theorem weaks_tens (l:List Ten):PV.weaks (l.map Ten.pv)=l.map Ten.pv:=weaks_map_id Ten.pv weak_ten l
theorem blws_wins (n:Nat) (l:List Win):PV.blws n (l.map Win.pv):=blws_map Win.pv n (fun a=>by simp [Win.pv,PV.blw,PV.blws]) l
theorem blws_slts (n:Nat) (l:List Slt):PV.blws n (l.map Slt.pv):=blws_map Slt.pv n (fun a=>by simp [Slt.pv,PV.blw,PV.blws]) l
theorem blws_sps (n:Nat) (l:List Sp):PV.blws n (l.map Sp.pv):=blws_map Sp.pv n (fun a=>by simp [Sp.pv,PV.blw,PV.blws]) l
theorem Y20 {p:Prop} (h:p:=by cases e):p:=h
theorem blw_ten (n:Nat) (t:Ten):t.pv.blw n:=by
 simp only [Ten.pv,PV.blw,PV.blws,true_and,and_true]
 exact ⟨⟨fun t z e=>Y20,blws_wins _ _⟩,fun t z e=>Y20,blws_slts _ _⟩
theorem blws_tens (n:Nat) (l:List Ten):PV.blws n (l.map Ten.pv):=blws_map Ten.pv n (blw_ten n) l
theorem blw_tab (n:Nat) (t:Tab):t.pv.blw n:=by
 simp only [Tab.pv,PV.blw,PV.blws,true_and,and_true]
 exact ⟨fun t z e=>Y20,blws_tens _ _⟩
def Ten.pvc (t:Ten):PV:=.agg [.int .i64 t.unit,.int .u32 t.fns,.int .i64 t.queue,.sl .unc (t.wins.map Win.pv),.sl .unc (t.slts.map Slt.pv)]
theorem weaks_tensc (l:List Ten):PV.weaks (l.map Ten.pvc)=l.map Ten.pv:=by
 rw [weaks_map,List.map_map]
 refine List.map_congr_left fun t _=>?_
 simp only [Function.comp,Ten.pvc,Ten.pv,PV.weak,PV.weaks,weaks_wins,weaks_slts]
attribute [go_sem] Int.natCast_nonneg Int.ofNat_lt List.length_map decide_true decide_false ne_eq not_true_eq_false not_false_eq_true Int.lt_irrefl Int.le_refl weaks_wins weaks_slts weaks_tens weaks_sps
theorem map_get {α:Type} {f:α→PV} {l:List α} {i:Nat} (h:i<l.length):(l.map f)[i]? =some (f l[i]):=by
 rw [List.getElem?_map,List.getElem?_eq_getElem h];rfl
def withinI (n lo hi:Int):Int:=if lo≤n∧n≤hi then n else lo+if n.tmod (hi-lo+1)<0 then n.tmod (hi-lo+1)+hi-lo+1 else n.tmod (hi-lo+1)
theorem tmod_bound (n:Int) {m:Int} (h:0<m): -m<n.tmod m∧n.tmod m<m:=by
 constructor
 ·rcases Int.le_total 0 n with h1 | h1
  ·have:=Int.tmod_nonneg m h1;omega
  ·have h2:=Int.tmod_lt_of_pos (-n) h
   rw [Int.neg_tmod] at h2
   omega
 ·exact Int.tmod_lt_of_pos n h
theorem Y21 {p:Prop} (h:p:=by omega):p:=h
theorem withinI_bound {n lo hi:Int} (h:lo≤hi):lo≤withinI n lo hi∧withinI n lo hi≤hi:=by
 unfold withinI
 have:=tmod_bound n (m:=hi-lo+1) Y21
 split
 ·omega
 ·split<;>omega
structure Tp where
 l:List Int
 pos:Nat
def Tp.pv (t:Tp):PV:=.agg [.sl .unk (t.l.map (PV.int .i64)),.int .i64 t.pos]
def Tp.val (t:Tp) (n:Int):Int:=if t.l.length≤t.pos∨n<1 then 0 else (withinI (t.l[t.pos]?.getD 0) 0 1073741824).tmod n
def Tp.nx (t:Tp) (n:Int):Tp:=if t.l.length≤t.pos∨n<1 then t else ⟨t.l,t.pos+1⟩
structure Tp.ok (t:Tp):Prop where
 len:t.l.length*8≤140737488351232
 pos:t.pos≤t.l.length+1000
theorem Y72 {p:Prop} (h:p:=by simp only;omega):p:=h
theorem Tp.ok.nx {t:Tp} (h:t.ok) (n:Int):(t.nx n).ok:=by
 unfold Tp.nx
 split
 ·exact h
 ·rename_i hc
  exact ⟨h.len,Y72⟩
theorem Y22 {p:Prop} (h:p:=by decide):p:=h
theorem Tp.val_bound (t:Tp) {n:Int} (hn:1≤n):0≤t.val n∧t.val n≤n-1:=by
 unfold Tp.val
 split
 ·omega
 ·have h1:=withinI_bound (n:=t.l[t.pos]?.getD 0) (lo:=0) (hi:=1073741824) Y22
  have h2:=Int.tmod_nonneg n h1.1
  have h3:=Int.tmod_lt_of_pos (withinI (t.l[t.pos]?.getD 0) 0 1073741824) (show 0<n from Y21)
  omega
def spRight (s:Sp) (most:Int):Bool:=decide (0≤s.pos∧1≤s.cnt∧s.pos≤most∧s.cnt≤most-s.pos)
def great:Int:=2147483648
def spMeets (a b:Sp):Bool:=spRight a great&&spRight b great&&decide (max a.pos b.pos<min (a.pos+a.cnt) (b.pos+b.cnt))
def spMeet (a b:Sp):Sp:=if spMeets a b then ⟨max a.pos b.pos,min (a.pos+a.cnt) (b.pos+b.cnt)-max a.pos b.pos⟩ else ⟨0,0⟩
theorem spRight_iff {s:Sp} {m:Int}:spRight s m=true↔0≤s.pos∧1≤s.cnt∧s.pos≤m∧s.cnt≤m-s.pos:=by simp [spRight]
theorem spMeets_l {a b:Sp} (h:(!spRight a great)=true):spMeets a b=false∧spMeet a b=⟨0,0⟩:=by
 have h:spRight a great=false:=by simpa using h
 have h2:spMeets a b=false:=by simp [spMeets,h]
 exact ⟨h2,by simp [spMeet,h2]⟩
theorem spMeets_r {a b:Sp} (h:(!spRight b great)=true):spMeets a b=false∧spMeet a b=⟨0,0⟩:=by
 have h:spRight b great=false:=by simpa using h
 have h2:spMeets a b=false:=by simp [spMeets,h]
 exact ⟨h2,by simp [spMeet,h2]⟩
theorem spMeets_not {a b:Sp} (ha:(!spRight a great)=false) (hb:(!spRight b great)=false) (h:decide ((if IntKind.i64.wrap (b.pos+b.cnt)<IntKind.i64.wrap (a.pos+a.cnt) then IntKind.i64.wrap (b.pos+b.cnt) else IntKind.i64.wrap (a.pos+a.cnt))≤if a.pos<b.pos then b.pos else a.pos)=true) :
  spMeets a b=false∧spMeet a b=⟨0,0⟩:=by
 have h1:=spRight_iff.1 (show spRight a great=true by simpa using ha)
 have h2:=spRight_iff.1 (show spRight b great=true by simpa using hb)
 unfold great at h1 h2
 rw [wrap_i64 Y21,wrap_i64 Y21] at h
 have h:=of_decide_eq_true h
 have h3:spMeets a b=false:=by
  simp only [spMeets,Bool.and_eq_false_iff,decide_eq_false_iff_not]
  right
  have e1:max a.pos b.pos=if a.pos<b.pos then b.pos else a.pos:=Y21
  have e2:min (a.pos+a.cnt) (b.pos+b.cnt)=if b.pos+b.cnt<a.pos+a.cnt then b.pos+b.cnt else a.pos+a.cnt:=Y21
  rw [e1,e2]
  omega
 exact ⟨h3,by simp [spMeet,h3]⟩
theorem spMeets_yes {a b:Sp} (ha:(!spRight a great)=false) (hb:(!spRight b great)=false) (h:decide ((if IntKind.i64.wrap (b.pos+b.cnt)<IntKind.i64.wrap (a.pos+a.cnt) then IntKind.i64.wrap (b.pos+b.cnt) else IntKind.i64.wrap (a.pos+a.cnt))≤if a.pos<b.pos then b.pos else a.pos)=false) :
  spMeets a b=true∧spMeet a b=⟨if a.pos<b.pos then b.pos else a.pos,IntKind.i64.wrap ((if IntKind.i64.wrap (b.pos+b.cnt)<IntKind.i64.wrap (a.pos+a.cnt) then IntKind.i64.wrap (b.pos+b.cnt) else IntKind.i64.wrap (a.pos+a.cnt))-if a.pos<b.pos then b.pos else a.pos)⟩:=by
 have ha':spRight a great=true:=by simpa using ha
 have hb':spRight b great=true:=by simpa using hb
 have h1:=spRight_iff.1 ha'
 have h2:=spRight_iff.1 hb'
 unfold great at h1 h2
 have w1:IntKind.i64.wrap (b.pos+b.cnt)=b.pos+b.cnt:=wrap_i64 Y21
 have w2:IntKind.i64.wrap (a.pos+a.cnt)=a.pos+a.cnt:=wrap_i64 Y21
 rw [w1,w2] at h ⊢
 have h:=of_decide_eq_false h
 have e1:max a.pos b.pos=if a.pos<b.pos then b.pos else a.pos:=Y21
 have e2:min (a.pos+a.cnt) (b.pos+b.cnt)=if b.pos+b.cnt<a.pos+a.cnt then b.pos+b.cnt else a.pos+a.cnt:=Y21
 have h3:spMeets a b=true:=by
  simp only [spMeets,ha',hb',Bool.true_and,decide_eq_true_eq]
  rw [e1,e2]
  omega
 refine ⟨h3,?_⟩
 rw [spMeet,if_pos h3,e1,e2,wrap_i64 (by split<;>split<;>omega)]
def Win.v (w:Win):Sp:=⟨w.virt,w.cnt⟩
def Win.p (w:Win):Sp:=⟨w.phys,w.cnt⟩
def Slt.sp (s:Slt):Sp:=⟨s.pos,s.len⟩
def winRight (w:Win):Bool:=decide (0≤w.space∧w.space≤3)&&spRight w.v 65536&&spRight w.p 512
def winMeet (a b:Win):Bool:=spMeets a.p b.p&&decide (a.space=b.space)&&winRight a&&winRight b
def winMeetV (a b:Win):Bool:=spMeets a.v b.v&&decide (a.space=b.space)&&winRight a&&winRight b
def winsMeet (a b:List Win):Bool:=a.any fun x=>b.any fun y=>winMeet x y
def winBad (a b:Win):Bool:=winMeet a b||winMeetV a b
def winsOwnA (ahead:List Win):List Win→Bool
 | []=>true
 | x::l=>ahead.all (fun y=> !winBad x y)&&winsOwnA (ahead++[x]) l
def winsOwn (l:List Win):Bool:=winsOwnA [] l
theorem drop_get {α:Type} {l:List α} {i:Nat} (h:i<l.length):l.drop i=l[i]::l.drop (i+1):=List.drop_eq_getElem_cons h
theorem take_get {α:Type} {l:List α} {i:Nat} (h:i<l.length):l.take (i+1)=l.take i++[l[i]]:=by
 rw [List.take_add_one,List.getElem?_eq_getElem h];rfl
def sltMeet (a b:Slt):Bool:=spMeets a.sp b.sp
def sltMeets (s:Slt) (l:List Slt):Bool:=l.any fun x=>sltMeet s x
def sltRight (frame:Int) (s:Slt):Bool:=decide (72≤s.len)&&spRight s.sp frame
def tenWhy (x:Ten) (frame:Int):Int :=
 if x.unit<1∨247<x.unit then 21
 else if x.queue<1∨6<x.queue then 22
 else if 6<x.wins.length∨x.slts.length<1∨3<x.slts.length then 26
 else if x.wins.any (fun w=> !winRight w)|| !winsOwn x.wins then 23
 else if x.slts.any (fun s=> !sltRight frame s) then 25
 else 0
def sltsBadA (ahead:List Ten):List Slt→List Slt→Bool
 | _,[]=>false
 | done,s::l=>sltMeets s done||ahead.any (fun y=>sltMeets s y.slts)||sltsBadA ahead (done++[s]) l
def tenBeside (x:Ten) (ahead:List Ten):Int :=
 if ahead.any fun y=>winsMeet x.wins y.wins then 24 else if sltsBadA ahead [] x.slts then 25 else 0
def tabWhereA (frame:Int):List Ten→List Ten→Int × Int
 | _,[]=>(0,-1)
 | done,x::l=>if tenWhy x frame≠0 then (tenWhy x frame,done.length) else if tenBeside x done≠0 then (tenBeside x done,done.length) else tabWhereA frame (done++[x]) l
def tabWhere (t:Tab):Int × Int :=
 if t.frame<1∨2000<t.frame then (20,-1) else if t.tens.length<1∨4<t.tens.length then (26,-1) else tabWhereA t.frame [] t.tens
def tabRight (t:Tab):Bool:=decide ((tabWhere t).1=0)
theorem sltRight_eq (frame:Int) (a:Slt):sltRight frame a=(decide (0≤a.pos)&&decide (72≤a.len)&&decide (a.pos≤frame)&&decide (a.len≤frame-a.pos)):=by
 simp only [sltRight,spRight,Slt.sp]
 by_cases h1:0≤a.pos<;>by_cases h2:72≤a.len<;>by_cases h3:a.pos≤frame<;>by_cases h4:a.len≤frame-a.pos<;>simp [h1,h2,h3,h4]<;>omega
def idxF {α:Type} (p:α→Bool):List α→Nat→Int
 | [],_=> -1
 | x::l,i=>if p x then i else idxF p l (i+1)
theorem idxF_any {α:Type} (p:α→Bool):∀ (l:List α) (i:Nat),decide (0≤idxF p l i)=l.any p
 | [],i=>rfl
 | x::l,i=>by
   unfold idxF
   cases h:p x with
   | true=>simp [h]
   | false=>simp [h,idxF_any p l (i+1)]
theorem idxF_step {α:Type} (p:α→Bool) {l:List α} {i:Nat} (h:i<l.length):idxF p (l.drop i) i=if p l[i] then (i:Int) else idxF p (l.drop (i+1)) (i+1):=by
 rw [drop_get h,idxF]
end Go.Proofs
namespace Go.Proofs
open Go.PM Go
def gD (l:List Int) (k:Nat):Int:=l[k]?.getD 0
theorem gD_set {l:List Int} {k j:Nat} {x:Int} (hk:k<l.length):gD (l.set k x) j=if j=k then x else gD l j:=by
 unfold gD
 rw [List.getElem?_set]
 by_cases h:k=j
 ·subst h;simp [hk]
 ·rw [if_neg h,if_neg (fun e=>h e.symm)]
theorem gD_drop {l:List Int} {k:Nat} (hk:k<l.length):((l.map (PV.int .i64)).drop k).head? =some (.int .i64 (gD l k)):=by
 unfold gD
 rw [List.head?_drop,List.getElem?_map,List.getElem?_eq_getElem hk];rfl
theorem gD_set_map {l:List Int} {k:Nat} {x:Int}:(l.map (PV.int .i64)).set k (.int .i64 x)=(l.set k x).map (PV.int .i64):=by rw [List.map_set]
def spL (v:Nat):Nat:=[3,0,3,1,2,3][v]?.getD 0
def g4 (u:Nat):Int:=if u=3 then 5 else 0
theorem spL_get {v:Nat} (h:v≤5):([.int .i64 3,.int .i64 0,.int .i64 3,.int .i64 1,.int .i64 2,.int .i64 3]:List PV)[v]? =some (.int .i64 (spL v))∧spL v<4:=by
 have:v=0∨v=1∨v=2∨v=3∨v=4∨v=5:=Y21
 rcases this with rfl | rfl | rfl | rfl | rfl | rfl<;>exact ⟨rfl,Y22⟩
theorem g4_get {u:Nat} (h:u≤3):([.int .i64 0,.int .i64 0,.int .i64 0,.int .i64 5]:List PV)[u]? =some (.int .i64 (g4 u))∧0≤g4 u∧g4 u≤5:=by
 have:u=0∨u=1∨u=2∨u=3:=Y21
 rcases this with rfl | rfl | rfl | rfl<;>exact ⟨rfl,Y22,Y22⟩
theorem spMeets_far {a b:Sp} (h:b.pos+b.cnt≤a.pos):spMeets a b=false:=by
 have:¬ (max a.pos b.pos<min (a.pos+a.cnt) (b.pos+b.cnt)):=Y21
 simp [spMeets,this]
theorem winsOwnA_snoc (x:Win):∀ (l ahead:List Win),winsOwnA ahead (l++[x])=(winsOwnA ahead l&&(ahead++l).all (fun y=> !winBad x y))
 | [],ahead=>by simp [winsOwnA]
 | y::l,ahead=>by
   rw [List.cons_append,winsOwnA,winsOwnA_snoc x l (ahead++[y]),winsOwnA,Bool.and_assoc,List.append_assoc]
   rfl
structure WInv (i c:Nat) (ws:List Win) (fr vi:List Int):Prop where
 fl:fr.length=4
 vl:vi.length=4
 fb:∀ k,k<4→128*(i:Int)≤gD fr k∧gD fr k≤128*i+20*c
 vb:∀ k,k<4→0≤gD vi k∧gD vi k≤23*c
 len:ws.length=c
 all:∀ w∈ws,∃ k:Nat,k<4∧w.space=k∧1≤w.cnt∧w.cnt≤18∧0≤w.virt∧w.virt+w.cnt≤gD vi k∧128*(i:Int)≤w.phys∧w.phys+w.cnt≤gD fr k
 own:winsOwn ws=true
theorem WInv.first (i:Nat):WInv i 0 [] [128*(i:Int),128*i,128*i,128*i] [0,0,0,0] where
 fl:=rfl
 vl:=rfl
 fb:=fun k hk=>by
  have:k=0∨k=1∨k=2∨k=3:=Y21
  rcases this with rfl | rfl | rfl | rfl<;>simp [gD]
 vb:=fun k hk=>by
  have:k=0∨k=1∨k=2∨k=3:=Y21
  rcases this with rfl | rfl | rfl | rfl<;>simp [gD]
 len:=rfl
 all:=fun w hw=>by cases hw
 own:=rfl
theorem WInv.step {i c:Nat} {ws:List Win} {fr vi:List Int} (h:WInv i c ws fr vi) {k:Nat} (hk:k<4) {g n m:Int} (hg:0≤g∧g≤5) (hn:0≤n∧n≤2) (hm:0≤m∧m≤17) :
  WInv i (c+1) (ws++[⟨k,gD vi k+g,gD fr k+n,1+m⟩]) (fr.set k (gD fr k+n+(1+m))) (vi.set k (gD vi k+g+(1+m))) where
 fl:=by rw [List.length_set];exact h.fl
 vl:=by rw [List.length_set];exact h.vl
 fb:=fun j hj=>by
  rw [gD_set (by rw [h.fl];exact hk)]
  have h1:=h.fb k hk
  have h2:=h.fb j hj
  split<;>omega
 vb:=fun j hj=>by
  rw [gD_set (by rw [h.vl];exact hk)]
  have h1:=h.vb k hk
  have h2:=h.vb j hj
  split<;>omega
 len:=by simp [h.len]
 all:=fun w hw=>by
  have h1:=h.fb k hk
  have h3:=h.vb k hk
  rcases List.mem_append.1 hw with hw | hw
  ·obtain ⟨j,a1,a2,a3,a4,a5,a6,a7,a8⟩:=h.all w hw
   refine ⟨j,a1,a2,a3,a4,a5,?_,a7,?_⟩
   ·rw [gD_set (by rw [h.vl];exact hk)]
    split
    ·rename_i e;subst e;omega
    ·exact a6
   ·rw [gD_set (by rw [h.fl];exact hk)]
    split
    ·rename_i e;subst e;omega
    ·exact a8
  ·rw [List.mem_singleton.1 hw]
   refine ⟨k,hk,rfl,Y72,Y72,Y72,?_,Y72,?_⟩
   ·rw [gD_set (by rw [h.vl];exact hk),if_pos rfl];exact Int.le_refl _
   ·rw [gD_set (by rw [h.fl];exact hk),if_pos rfl];exact Int.le_refl _
 own:=by
  unfold winsOwn
  rw [winsOwnA_snoc,show winsOwnA [] ws=true from h.own,Bool.true_and,List.nil_append,List.all_eq_true]
  intro y hy
  obtain ⟨j,a1,a2,a3,a4,a5,a6,a7,a8⟩:=h.all y hy
  have hb:winBad ⟨k,gD vi k+g,gD fr k+n,1+m⟩ y=false:=by
   by_cases hjk:j=k
   ·subst hjk
    have e1:spMeets (Win.p ⟨j,gD vi j+g,gD fr j+n,1+m⟩) y.p=false:=spMeets_far (by simp only [Win.p];omega)
    have e2:spMeets (Win.v ⟨j,gD vi j+g,gD fr j+n,1+m⟩) y.v=false:=spMeets_far (by simp only [Win.v];omega)
    simp [winBad,winMeet,winMeetV,e1,e2]
   ·have:¬ ((k:Int)=y.space):=Y21
    simp [winBad,winMeet,winMeetV,this]
  simp [hb]
structure WGood (i:Nat) (ws:List Win):Prop where
 len:ws.length≤6
 right:∀ w∈ws,winRight w=true
 lo:∀ w∈ws,128*(i:Int)≤w.phys∧w.phys+w.cnt≤128*i+120
 ok:∀ w∈ws,w.ok
 own:winsOwn ws=true
theorem WInv.good {i c:Nat} {ws:List Win} {fr vi:List Int} (h:WInv i c ws fr vi) (hi:i≤3) (hc:c≤6):WGood i ws where
 len:=by rw [h.len];exact hc
 right:=fun w hw=>by
  obtain ⟨k,a1,a2,a3,a4,a5,a6,a7,a8⟩:=h.all w hw
  have h1:=h.fb k a1
  have h3:=h.vb k a1
  have e1:spRight w.v 65536=true:=spRight_iff.2 (by simp only [Win.v];omega)
  have e2:spRight w.p 512=true:=spRight_iff.2 (by simp only [Win.p];omega)
  simp only [winRight,e1,e2,Bool.and_true,decide_eq_true_eq]
  omega
 lo:=fun w hw=>by
  obtain ⟨k,a1,a2,a3,a4,a5,a6,a7,a8⟩:=h.all w hw
  have h1:=h.fb k a1
  omega
 ok:=fun w hw=>by
  obtain ⟨k,a1,a2,a3,a4,a5,a6,a7,a8⟩:=h.all w hw
  have h1:=h.fb k a1
  have h3:=h.vb k a1
  exact ⟨⟨Y21,Y21⟩,⟨Y21,Y21⟩,⟨Y21,Y21⟩,⟨Y21,Y21⟩⟩
 own:=h.own
end Go.Proofs
namespace Go.Proofs
open Go.PM
def ivar1 (e:Env) (i:Nat):Nat:=match e.get i with
 | .int _ n=>(n+1).toNat
 | _=>0
theorem Tp.val_nat (t:Tp) {n:Nat} (hn:1≤n):∃ u:Nat,u≤n-1∧t.val n=(u:Int):=by
 have:=t.val_bound (n:=(n:Int)) Y21
 exact ⟨(t.val n).toNat,Y21,Y21⟩
end Go.Proofs
namespace Go.PM
theorem ACalls.new_set {P:Program} {f:FuncId} {args:List PV} {s:St} {tp:Nat} {x:Option Blk} {b:Blk} {v:PV} (h:ACalls P f args (s.new b) (fun r s'=>r=v∧s'=(s.new b).set tp x)) (hne:tp≠s.nxt):ACalls P f args (s.new b) (fun r s'=>r=v∧s'=(s.set tp x).new b):=by
 rw [← set_new_ne s b tp x hne];exact h
end Go.PM
namespace Go.PM
theorem Kp.swap {s s':St} {p q:Nat × Blk} {l:List (Nat × Blk)} (h:Kp s s' (p::q::l)):Kp s s' (q::p::l) :=
 ⟨h.fr,fun x hx=>h.all x (by simp only [List.mem_cons] at hx ⊢;rcases hx with h | h | h<;>simp [h])⟩
theorem Kp.tm {a s s':St} {k k':SK} {l:List (Nat × Blk)} (h:Kp a s l) (m:TMoves s s' k k') (hk:∀ t z,k=.tok t z→a.nxt≤t) (hd:∀ p∈l,∀ z,k≠.tok p.1 z):Kp a s' l :=
 ⟨h.fr.tm m hk,fun p hp=>by
  have:=h.all p hp
  exact ⟨Nat.lt_of_lt_of_le this.1 m.nxt,by rw [m.rest p.1 this.1 (hd p hp)];exact this.2⟩⟩
theorem Ret.baseK {P:Program} {fn:Func} {args:List PV} {s0:St} {Q:PV→St→Prop} {e:Env} {s:St} {r r':PV} (id:Nat) (x:Blk) (hid:id<s0.nxt) (hr:retv P fn.results.toList e s=some r) (hr':r'=r.weak) (hb:r'.blw s0.nxt) (hx:x.blw s0.nxt) (hwf:s0.wf)
  (hk:∀ i,i<s0.nxt→s.blk i=(s0.set id (some x)).blk i) (h:Q r' (s0.set id (some x))):Ret P fn args s0 Q e s:=by
 have e1:s.keep s0.nxt (fun i=>decide (i<s0.nxt))=s0.set id (some x):=by
  have e2:∀ a b:St,a.nxt=b.nxt→a.blk=b.blk→a=b:=by
   rintro ⟨n,f⟩ ⟨m,g⟩ h1 h2
   simp only at h1 h2
   rw [h1,h2]
  refine e2 _ _ rfl (funext fun i=>?_)
  show (if decide (i<s0.nxt)=true then s.blk i else none)=_
  by_cases hi:i<s0.nxt
  ·exact Y125
  ·simp only [hi,decide_false,Bool.false_eq_true,if_false]
   show none=if i=id then some x else s0.blk i
   rw [if_neg Y2,hwf i Y2]
 refine Ret.keep s0.nxt (fun i=>decide (i<s0.nxt)) hr hr' (Nat.le_refl _) hb (fun i hi _=>of_decide_eq_true hi) ?_ Y303
 intro i b hi hbi
 rw [hk i (of_decide_eq_true hi)] at hbi
 have hbi:(if i=id then some x else s0.blk i)=some b:=hbi
 split at hbi
 ·cases hbi;exact .inr hx
 ·exact .inl hbi
end Go.PM
namespace Go.Proofs
open Go.PM
theorem blw_wins (n:Nat) (l:List Win):(PV.sl .unk (l.map Win.pv)).blw n:=by
 simp only [PV.blw]
 exact ⟨fun t z e=>Y20,blws_wins _ _⟩
theorem blw_tape (n:Nat) (t:Tp):t.pv.blw n:=by
 simp only [Tp.pv,PV.blw,PV.blws,and_true]
 exact ⟨fun t z e=>Y20,blws_map (PV.int .i64) n (fun a=>by simp only [PV.blw]) _⟩
end Go.Proofs
namespace Go.PM
theorem Kp.trans {a s s2:St} {l l2:List (Nat × Blk)} (h:Kp a s l) (h2:Kp s s2 l2):Kp a s2 (l2++l) :=
 ⟨h.fr.trans h2.fr,fun p hp=>by
  rcases List.mem_append.1 hp with hp | hp
  ·exact h2.all p hp
  ·have:=h.all p hp
   exact ⟨Nat.lt_of_lt_of_le this.1 h2.fr.nxt,by rw [h2.fr.blk p.1 this.1];exact this.2⟩⟩
theorem RunO.wkE {P:Program} {N:Nat} {ops:Array Oper} {l:List Oper} {k:List KI} {e:Env} {s:St} {rt:Env→St→Prop} (i:Nat) {v:PV} (hi:(e.get i).weak=v) (h:RunO P N ops l k ((i,v)::e) s rt):RunO P N ops l k e s rt:=by
 intro ok okk idx hidx g w a hI hE hd hN
 refine h ok okk idx hidx g w a hI (fun j=>?_) hd hN
 simp only [Env.get]
 split
 ·rename_i hj
  rw [hj,← hi]
  exact R_weak _ _ (hE i)
 ·exact hE j
end Go.PM
namespace Go.Proofs
open Go.PM Go
theorem U32_wrap (n:Int):U32 (IntKind.u32.wrap n):=by
 unfold U32
 simp [IntKind.wrap,IntKind.signed,IntKind.bits]
 omega
theorem U32_ibits (op:BinOp) (a b:Int):U32 (ibits op .u32 a b):=by
 unfold ibits
 exact U32_wrap _
end Go.Proofs
namespace Go.Proofs
open Go.PM Go
theorem sltsBadA_snoc (ahead:List Ten) (x:Slt):∀ (l done:List Slt),sltsBadA ahead done (l++[x])=(sltsBadA ahead done l||(sltMeets x (done++l)||ahead.any fun y=>sltMeets x y.slts))
 | [],done=>by simp [sltsBadA]
 | y::l,done=>by
   rw [List.cons_append,sltsBadA,sltsBadA_snoc ahead x l (done++[y]),sltsBadA,Bool.or_assoc,Bool.or_assoc,Bool.or_assoc,List.append_assoc]
   rfl
theorem sltMeet_far {a b:Slt} (h:b.pos+b.len≤a.pos):sltMeet a b=false:=spMeets_far (a:=a.sp) (b:=b.sp) h
structure SInv (lo q:Int) (l:List Slt):Prop where
 all:∀ a∈l,72≤a.len∧a.len≤80∧lo≤a.pos∧a.pos+a.len≤q
 own:∀ ahead:List Ten,(∀ y∈ahead,∀ o∈y.slts,o.pos+o.len≤lo)→sltsBadA ahead [] l=false
 lb:lo≤q
 ub:q≤lo+86*l.length
theorem Y23 {p:Prop} (h:p:=by simp):p:=h
theorem SInv.first (lo:Int):SInv lo lo []:=⟨fun a h=>(by cases h),fun _ _=>rfl,Int.le_refl _,Y23⟩
theorem SInv.step {lo q:Int} {l:List Slt} (h:SInv lo q l) {m n:Int} (hm:0≤m∧m≤8) (hn:0≤n∧n≤6):SInv lo (q+(72+m)+n) (l++[⟨q,72+m⟩]) where
 all:=fun a ha=>by
  rcases List.mem_append.1 ha with ha | ha
  ·have:=h.all a ha;omega
  ·rw [List.mem_singleton.1 ha]
   have:=h.lb
   exact ⟨Y72,Y72,Y72,Y72⟩
 own:=fun ahead ho=>by
  rw [sltsBadA_snoc,h.own ahead ho,Bool.false_or,List.nil_append,Bool.or_eq_false_iff]
  constructor
  ·refine List.any_eq_false.2 fun y hy=>?_
   rw [sltMeet_far (by have:=h.all y hy;simp only;omega)];simp
  ·refine List.any_eq_false.2 fun y hy=>?_
   rw [show sltMeets (⟨q,72+m⟩:Slt) y.slts=false from List.any_eq_false.2 fun o ho'=>by
    rw [sltMeet_far (by have:=ho y hy o ho';have:=h.lb;simp only;omega)];simp]
   simp
 lb:=by have:=h.lb;omega
 ub:=by have:=h.ub;rw [List.length_append];simp only [List.length_cons,List.length_nil];omega
structure XGood (j:Nat) (q:Int) (x:Ten):Prop where
 unit:1≤x.unit∧x.unit≤247
 fns:U32 x.fns
 queue:1≤x.queue∧x.queue≤4
 wins:WGood j x.wins
 slts:∀ a∈x.slts,72≤a.len∧a.len≤80∧0≤a.pos∧a.pos+a.len≤q
 ns:1≤x.slts.length∧x.slts.length≤2
theorem XGood.mono {j:Nat} {q q':Int} {x:Ten} (h:XGood j q x) (hq:q≤q'):XGood j q' x :=
 ⟨h.unit,h.fns,h.queue,h.wins,fun a ha=>by have:=h.slts a ha;omega,h.ns⟩
theorem XGood.why {j:Nat} {q frame:Int} {x:Ten} (h:XGood j q x) (hf:q≤frame):tenWhy x frame=0:=by
 have h1:=h.unit
 have h2:=h.queue
 have h3:=h.ns
 have h4:=h.wins.len
 rw [tenWhy,if_neg Y21,if_neg Y21,if_neg Y21,if_neg,if_neg]
 ·rw [List.any_eq_true]
  rintro ⟨a,ha,hb⟩
  have:=h.slts a ha
  rw [sltRight_eq] at hb
  simp at hb
  omega
 ·simp only [Bool.or_eq_true,List.any_eq_true,Bool.not_eq_true',not_or]
  refine ⟨?_,by rw [h.wins.own];decide⟩
  rintro ⟨w,hw,hb⟩
  rw [h.wins.right w hw] at hb;cases hb
theorem XGood.ok {j:Nat} {q:Int} {x:Ten} (h:XGood j q x) (hq:q≤2000):x.ok where
 unit:=by have:=h.unit;exact ⟨Y21,Y21⟩
 fns:=h.fns
 queue:=by have:=h.queue;exact ⟨Y21,Y21⟩
 wins:=h.wins.ok
 slts:=fun a ha=>by have:=h.slts a ha;exact ⟨⟨Y21,Y21⟩,⟨Y21,Y21⟩⟩
 bw:=by have:=h.wins.len;omega
 bs:=by have:=h.ns;omega
structure TInv (i:Nat) (q:Int) (l:List Ten):Prop where
 len:l.length=i
 lo:0≤q
 hi:q≤4+172*i
 all:∀ j (h:j<l.length),XGood j q l[j]
 beside:∀ j (h:j<l.length),tenBeside l[j] (l.take j)=0
theorem TInv.first {q:Int} (h:0≤q∧q≤4):TInv 0 q []:=⟨rfl,h.1,Y21,fun j h=>by simp at h,fun j h=>by simp at h⟩
theorem TInv.step {i:Nat} {q q':Int} {l:List Ten} {x:Ten} (h:TInv i q l) (hx:XGood i q' x) (hs:SInv q q' x.slts):TInv (i+1) q' (l++[x]) where
 len:=by rw [List.length_append,h.len];rfl
 lo:=by have:=h.lo;have:=hs.lb;omega
 hi:=by have:=h.hi;have:=hs.ub;have:=hx.ns;omega
 all:=fun j hj=>by
  rw [List.length_append] at hj
  simp only [List.length_cons,List.length_nil] at hj
  by_cases e:j<l.length
  ·rw [List.getElem_append_left e]
   exact (h.all j e).mono hs.lb
  ·have e1:j=l.length:=Y21
   subst e1
   rw [List.getElem_append_right (Nat.le_refl _)]
   simp only [Nat.sub_self,List.getElem_cons_zero]
   rw [h.len];exact hx
 beside:=fun j hj=>by
  rw [List.length_append] at hj
  simp only [List.length_cons,List.length_nil] at hj
  by_cases e:j<l.length
  ·rw [List.getElem_append_left e,List.take_append_of_le_length Y21]
   exact h.beside j e
  ·have e1:j=l.length:=Y21
   subst e1
   rw [List.getElem_append_right (Nat.le_refl _),List.take_left]
   simp only [Nat.sub_self,List.getElem_cons_zero]
   rw [tenBeside,if_neg,if_neg]
   ·rw [hs.own l (fun y hy o ho=>?_)]
    ·decide
    ·obtain ⟨j,hj,rfl⟩:=List.getElem_of_mem hy
     exact ((h.all j hj).slts o ho).2.2.2
   ·rw [List.any_eq_true]
    rintro ⟨y,hy,hb⟩
    obtain ⟨j,hj,rfl⟩:=List.getElem_of_mem hy
    simp only [winsMeet,List.any_eq_true] at hb
    obtain ⟨a,ha,b,hb,hm⟩:=hb
    have h1:=(h.all j hj).wins.lo b hb
    have h2:=hx.wins.lo a ha
    have h3:=h.len
    have e1:spMeets a.p b.p=false:=spMeets_far (by simp only [Win.p];omega)
    simp [winMeet,e1] at hm
theorem tabWhereA_ok (frame:Int):∀ (l done:List Ten),(∀ j (h:j<l.length),tenWhy l[j] frame=0∧tenBeside l[j] (done++l.take j)=0)→tabWhereA frame done l=(0,-1)
 | [],done,_=>rfl
 | x::l,done,h=>by
   have h0:=h 0 Y23
   simp only [List.getElem_cons_zero,List.take_zero,List.append_nil] at h0
   rw [tabWhereA,h0.1,h0.2]
   simp only [ne_eq,not_true_eq_false,if_false]
   refine tabWhereA_ok frame l (done++[x]) fun j hj=>?_
   have:=h (j+1) (by simpa using hj)
   simpa [List.append_assoc] using this
theorem TInv.right {i:Nat} {q frame:Int} {l:List Ten} (h:TInv i q l) (hi:1≤i∧i≤4) (hf:q≤frame∧frame≤q+19) (h1:1≤frame):tabRight ⟨frame,l⟩=true∧Tab.ok ⟨frame,l⟩:=by
 have h2:=h.hi
 have h3:=h.len
 constructor
 ·rw [tabRight,tabWhere,if_neg Y72,if_neg Y72,tabWhereA_ok]
  ·rfl
  ·intro j hj
   exact ⟨(h.all j hj).why hf.1,by rw [List.nil_append];exact h.beside j hj⟩
 ·refine ⟨⟨Y72,Y72⟩,fun x hx=>?_,Y72⟩
  obtain ⟨j,hj,rfl⟩:=List.getElem_of_mem hx
  exact (h.all j hj).ok Y21
structure Tab.few (t:Tab) (m:Nat):Prop where
 ok:t.ok
 nt:t.tens.length≤m
 nw:∀ x∈t.tens,x.wins.length≤m
 ns:∀ x∈t.tens,x.slts.length≤m
theorem TInv.few {i:Nat} {q frame:Int} {l:List Ten} (h:TInv i q l) (hi:1≤i∧i≤4) (hf:q≤frame∧frame≤q+19) (h1:1≤frame):Tab.few ⟨frame,l⟩ 6:=by
 refine ⟨(h.right hi hf h1).2,by have:=h.len;simp only;omega,fun x hx=>?_,fun x hx=>?_⟩
 ·obtain ⟨j,hj,rfl⟩:=List.getElem_of_mem hx
  exact (h.all j hj).wins.len
 ·obtain ⟨j,hj,rfl⟩:=List.getElem_of_mem hx
  have:=(h.all j hj).ns
  show l[j].slts.length≤6
  omega
theorem TInv.pos {i:Nat} {q:Int} {l:List Ten} (h:TInv i q l) (hi:1≤i):72≤q:=by
 have h1:=h.len
 have h2:=h.all 0 Y21
 have h3:=h2.ns
 cases hl:(l[0]'Y21).slts with
 | nil=>rw [hl] at h3;simp at h3
 | cons a r =>
   have:=h2.slts a (by rw [hl];exact List.mem_cons_self)
   omega
end Go.Proofs
namespace Go.PM
open Go
theorem blk_new_ne {s:St} {b:Blk} {i:Nat} (h:i≠s.nxt):(s.new b).blk i=s.blk i:=if_neg h
theorem blk_new_eq {s:St} {b:Blk}:(s.new b).blk s.nxt=some b:=if_pos rfl
theorem blk_set_ne {s:St} {b:Option Blk} {i id:Nat} (h:i≠id):(s.set id b).blk i=s.blk i:=if_neg h
attribute [go_sem high] blk_new_ne blk_set_ne blk_new_eq blk_set_self
theorem Kp.hd' {s s':St} {i:Nat} {b:Blk} {l:List (Nat × Blk)} (h:Kp s s' ((i,b)::l)):s'.blk i=some b:=h.hd
theorem Kp.nx {s s':St} {l:List (Nat × Blk)} (h:Kp s s' l):s.nxt≤s'.nxt:=h.fr.nxt
theorem au {p:Prop} (h:p:=by simp (disch:=first | omega |(simp only [nxt_set,nxt_new]<;>omega) | fail) only [go_sem,↓reduceIte,Nat.reduceEqDiff,Nat.reduceLT,Nat.reduceLeDiff,Nat.reduceAdd,Nat.reduceMul,H]<;>rfl):p:=h
@[irreducible] def Lf (_:Nat) (p:Prop):Prop:=p
theorem jO (n:Nat) {p:Prop} (h:Lf n p):p:=by unfold Lf at h;exact h
theorem jI (n:Nat) {p:Prop} (h:p):Lf n p:=by unfold Lf;exact h
theorem ltn {i a:Nat} (h:i<a) (n:Nat):(i=a+n)=False:=eq_false Y2
theorem lte {i a:Nat} (h:i<a):(i=a)=False:=eq_false Y2
theorem aj {p q:Prop} (a:p) (b:q):p∧q:=⟨a,b⟩
def gat:List (Option Nat)→Nat→Option Nat
 | [],_=>none
 | a::_,0=>a
 | _::l,n+1=>gat l n
theorem gat_zero (a:Option Nat) (l:List (Option Nat)):gat (a::l) 0=a:=rfl
theorem gat_succ (a:Option Nat) (l:List (Option Nat)) (n:Nat):gat (a::l) (n+1)=gat l n:=rfl
attribute [go_sem] gat_zero gat_succ
def outK (i:Nat):List KI→Option (List KI)
 | .blk id::k=>if i=id then some k else outK i k
 | _::k=>outK i k
 | []=>none
theorem outK_run {P:Program} {N i:Nat} {e:Env} {s:St} {rt:Env→St→Prop}:∀ {k k':List KI},outK i k=some k'→Run P N k' e s rt→Out P N i k e s rt
 | [],_,h,_=>by cases h
 | .blk id::k,k',h,r=>by
   simp only [outK] at h
   simp only [Out]
   split
   ·rename_i hi;rw [if_pos hi] at h;cases h;exact r
   ·rename_i hi;rw [if_neg hi] at h;exact outK_run h r
 | .code c::k,k',h,r=>outK_run (k:=k) h r
 | .lp I::k,k',h,r=>outK_run (k:=k) h r
section
variable {P:Program} {N:Nat} {kk:List KI} {e e1 e2:Env} {s s1:St} {rt:Env→St→Prop}
theorem rs {a b:Code} (k:Run P N (.code a::.code b::kk) e s rt):Run P N (.code (.seq a b)::kk) e s rt:=.seq k
theorem rk (k:Run P N kk e s rt):Run P N (.code .skip::kk) e s rt:=.skip k
theorem rb {id:Nat} {c:Code} (k:Run P N (.code c::.blk id::kk) e s rt):Run P N (.code (.block id c)::kk) e s rt:=.block k
theorem rB {id:Nat} (k:Run P N kk e s rt):Run P N (.blk id::kk) e s rt:=.blk k
theorem rR (k:rt e s):Run P N (.code .ret::kk) e s rt:=.ret k
theorem rN (k:rt e s):Run P N [] e s rt:=.nil k
theorem rX {i:Nat} {kk':List KI} (ho:outK i kk=some kk':=by rfl) (k:Run P N kk' e s rt):Run P N (.code (.exit i)::kk) e s rt:=.exit (outK_run ho k)
theorem rr {id:Nat} {ops:Array Oper} (k:RunO P N ops ops.toList kk e s rt):Run P N (.code (.region id ops false)::kk) e s rt:=.region k
theorem rc {c:Operand} {x y:Code} {t:Bool} (hc:ev e c=.bool t:=by simp (disch:=first | omega |(simp only [nxt_set,nxt_new]<;>omega) | fail) only [go_sem,↓reduceIte,Nat.reduceEqDiff,Nat.reduceLT,Nat.reduceLeDiff,Nat.reduceAdd,Nat.reduceMul,H]<;>rfl) (ht:t=true→Run P N (.code x::kk) e s rt)
  (hf:t=false→Run P N (.code y::kk) e s rt):Run P N (.code (.cond c x y)::kk) e s rt:=.cond hc ht hf
theorem rl {ops:Array Oper} (l:List Nat) (he:Env.keep l e=e1:=by simp (disch:=first | omega |(simp only [nxt_set,nxt_new]<;>omega) | fail) only [go_sem,↓reduceIte,Nat.reduceEqDiff,Nat.reduceLT,Nat.reduceLeDiff,Nat.reduceAdd,Nat.reduceMul,H]<;>rfl) (k:Run P N kk e1 s rt):RunO P N ops [] kk e s rt:=.live' l he k
theorem ra {ops:Array Oper} {l:List Oper} (h:aops P ops l e s=some (e1,s1):=by simp (disch:=first | omega |(simp only [nxt_set,nxt_new]<;>omega) | fail) only [go_sem,↓reduceIte,Nat.reduceEqDiff,Nat.reduceLT,Nat.reduceLeDiff,Nat.reduceAdd,Nat.reduceMul,H]<;>rfl) (k:RunO P N ops [] kk e1 s1 rt):RunO P N ops l kk e s rt:=.all h k
theorem ro {ops:Array Oper} {pre l:List Oper} (h:aops P ops pre e s=some (e1,s1):=by simp (disch:=first | omega |(simp only [nxt_set,nxt_new]<;>omega) | fail) only [go_sem,↓reduceIte,Nat.reduceEqDiff,Nat.reduceLT,Nat.reduceLeDiff,Nat.reduceAdd,Nat.reduceMul,H]<;>rfl) (k:RunO P N ops l kk e1 s1 rt):RunO P N ops (pre++l) kk e s rt:=.ops h k
theorem rrA {id:Nat} {ops:Array Oper} (lits:List (Option Nat)) (hd:ops.toList.map (·.dst)=lits:=by rfl) (k:∀ ops':Array Oper,(∀ j:Nat,(ops'[j]?).bind (fun o=>o.dst)=gat lits j)→RunO P N ops' ops.toList kk e s rt):Run P N (.code (.region id ops false)::kk) e s rt :=
 .region (k ops fun j=>by
  rw [← hd,← Array.getElem?_toList]
  induction ops.toList generalizing j with
  | nil=>simp [gat]
  | cons a l ih=>cases j with
    | zero=>simp [gat]
    | succ j=>simpa [gat] using ih j)
theorem rg {id:Nat} {ops:Array Oper} (l:List Nat) (h:aops P ops ops.toList e s=some (e1,s1):=by simp (disch:=first | omega |(simp only [nxt_set,nxt_new]<;>omega) | fail) only [go_sem,↓reduceIte,Nat.reduceEqDiff,Nat.reduceLT,Nat.reduceLeDiff,Nat.reduceAdd,Nat.reduceMul,H]<;>rfl) (he:Env.keep l e1=e2:=by simp (disch:=first | omega |(simp only [nxt_set,nxt_new]<;>omega) | fail) only [go_sem,↓reduceIte,Nat.reduceEqDiff,Nat.reduceLT,Nat.reduceLeDiff,Nat.reduceAdd,Nat.reduceMul,H]<;>rfl) (k:Run P N kk e2 s1 rt):Run P N (.code (.region id ops false)::kk) e s rt :=
 .region (.all h (.live' l he k))
theorem rh {ops:Array Oper} {l:List Oper} (v:List Nat) (h:aops P ops l e s=some (e1,s1):=by simp (disch:=first | omega |(simp only [nxt_set,nxt_new]<;>omega) | fail) only [go_sem,↓reduceIte,Nat.reduceEqDiff,Nat.reduceLT,Nat.reduceLeDiff,Nat.reduceAdd,Nat.reduceMul,H]<;>rfl) (he:Env.keep v e1=e2:=by simp (disch:=first | omega |(simp only [nxt_set,nxt_new]<;>omega) | fail) only [go_sem,↓reduceIte,Nat.reduceEqDiff,Nat.reduceLT,Nat.reduceLeDiff,Nat.reduceAdd,Nat.reduceMul,H]<;>rfl) (k:Run P N kk e2 s1 rt):RunO P N ops l kk e s rt :=
 .all h (.live' v he k)
theorem rC {ops:Array Oper} {d:Option Nat} {c:Call} {t:TypeId} {pos:String} {af:Array Edge} {gd:Option (Nat × Bool)} {l:List Oper} {f:FuncId} {args args':List PV} {v:PV} (hg:guard? ops ⟨d,.call c,t,pos,af,gd⟩ e=some true:=by simp (disch:=first | omega |(simp only [nxt_set,nxt_new]<;>omega) | fail) only [go_sem,↓reduceIte,Nat.reduceEqDiff,Nat.reduceLT,Nat.reduceLeDiff,Nat.reduceAdd,Nat.reduceMul,H]<;>rfl) (ha:acall c e=some (f,args):=by simp (disch:=first | omega |(simp only [nxt_set,nxt_new]<;>omega) | fail) only [go_sem,↓reduceIte,Nat.reduceEqDiff,Nat.reduceLT,Nat.reduceLeDiff,Nat.reduceAdd,Nat.reduceMul,H]<;>rfl) (hw:PV.weaks args=args':=by simp (disch:=first | omega |(simp only [nxt_set,nxt_new]<;>omega) | fail) only [go_sem,↓reduceIte,Nat.reduceEqDiff,Nat.reduceLT,Nat.reduceLeDiff,Nat.reduceAdd,Nat.reduceMul,H]<;>rfl) (hc:callable P f=true:=by kernel_rfl)
  (h:ACalls P f args' s fun r s'=>r=v∧s'=s) (k:RunO P N ops l kk (e.put d v) s rt):RunO P N ops (⟨d,.call c,t,pos,af,gd⟩::l) kk e s rt :=
 .callw hg ha hw hc (h.mono fun r s' ⟨e1,e2⟩=>by subst e1;subst e2;exact k)
theorem rG {ops:Array Oper} {d:Option Nat} {c:Call} {t:TypeId} {pos:String} {af:Array Edge} {j n:Nat} {want b:Bool} {l:List Oper} {f:FuncId} {args args':List PV} {v:PV} (hg:gcond ops j want e=some (n,b):=by simp (disch:=first | omega |(simp only [nxt_set,nxt_new]<;>omega) | fail) only [go_sem,↓reduceIte,Nat.reduceEqDiff,Nat.reduceLT,Nat.reduceLeDiff,Nat.reduceAdd,Nat.reduceMul,H]<;>rfl) (ha:acallU n b c e=some (f,args):=by simp (disch:=first | omega |(simp only [nxt_set,nxt_new]<;>omega) | fail) only [go_sem,↓reduceIte,Nat.reduceEqDiff,Nat.reduceLT,Nat.reduceLeDiff,Nat.reduceAdd,Nat.reduceMul,H]<;>rfl) (hw:PV.weaks args=args':=by simp (disch:=first | omega |(simp only [nxt_set,nxt_new]<;>omega) | fail) only [go_sem,↓reduceIte,Nat.reduceEqDiff,Nat.reduceLT,Nat.reduceLeDiff,Nat.reduceAdd,Nat.reduceMul,H]<;>rfl) (hc:callable P f=true:=by kernel_rfl)
  (h:b=true→ACalls P f args' s fun r s'=>r=v∧s'=s) (k:RunO P N ops l kk (e.put d (.gd n b v)) s rt):RunO P N ops (⟨d,.call c,t,pos,af,some (j,want)⟩::l) kk e s rt :=
 .callwG hg ha hw hc h k
theorem rg0 {ops:Array Oper} {o:Oper} {l:List Oper} (hg:guard? ops o e=some false:=by simp (disch:=first | omega |(simp only [nxt_set,nxt_new]<;>omega) | fail) only [go_sem,↓reduceIte,Nat.reduceEqDiff,Nat.reduceLT,Nat.reduceLeDiff,Nat.reduceAdd,Nat.reduceMul,H]<;>rfl) (k:RunO P N ops l kk (e.put o.dst (.tuple [])) s rt):RunO P N ops (o::l) kk e s rt:=.gskip' hg k
theorem rgU {ops:Array Oper} {o:Oper} {l:List Oper} (hg:gundef ops o e=true:=by simp (disch:=first | omega |(simp only [nxt_set,nxt_new]<;>omega) | fail) only [go_sem,↓reduceIte,Nat.reduceEqDiff,Nat.reduceLT,Nat.reduceLeDiff,Nat.reduceAdd,Nat.reduceMul,H]<;>rfl) (k:RunO P N ops l kk (e.put o.dst (.tuple [])) s rt):RunO P N ops (o::l) kk e s rt:=.gskipU hg k
theorem rg1 {ops:Array Oper} {o:Oper} {l:List Oper} {v:PV} (hg:guard? ops o e=some true:=by simp (disch:=first | omega |(simp only [nxt_set,nxt_new]<;>omega) | fail) only [go_sem,↓reduceIte,Nat.reduceEqDiff,Nat.reduceLT,Nat.reduceLeDiff,Nat.reduceAdd,Nat.reduceMul,H]<;>rfl) (he:acore P o.op (ev e) s=some (v,s1):=by simp (disch:=first | omega |(simp only [nxt_set,nxt_new]<;>omega) | fail) only [go_sem,↓reduceIte,Nat.reduceEqDiff,Nat.reduceLT,Nat.reduceLeDiff,Nat.reduceAdd,Nat.reduceMul,H]<;>rfl) (k:RunO P N ops l kk (e.put o.dst v) s1 rt):RunO P N ops (o::l) kk e s rt:=.gdo hg he k
theorem rO {ops:Array Oper} {d:Option Nat} {t ty:TypeId} {len:Nat} {parts:Array (Nat × Operand)} {pos:String} {af:Array Edge} {gd:Option (Nat × Bool)} {l:List Oper} {els:List PV}
  (hg:guard? ops ⟨d,.buildSlice t len parts,ty,pos,af,gd⟩ e=some true:=by simp (disch:=first | omega |(simp only [nxt_set,nxt_new]<;>omega) | fail) only [go_sem,↓reduceIte,Nat.reduceEqDiff,Nat.reduceLT,Nat.reduceLeDiff,Nat.reduceAdd,Nat.reduceMul,H]<;>rfl) (hb:aBuildSlice P t len parts.toList (ev e)=some els:=by simp (disch:=first | omega |(simp only [nxt_set,nxt_new]<;>omega) | fail) only [go_sem,↓reduceIte,Nat.reduceEqDiff,Nat.reduceLT,Nat.reduceLeDiff,Nat.reduceAdd,Nat.reduceMul,H]<;>rfl) (k:RunO P N ops l kk (e.put d (.sl .clip els)) s rt) :
  RunO P N ops (⟨d,.buildSlice t len parts,ty,pos,af,gd⟩::l) kk e s rt:=.lit hg hb k
theorem rQ {ops:Array Oper} {l:List Oper} {b:Bool} (i:Nat) (hi:e.get i=.bool b:=by simp (disch:=first | omega |(simp only [nxt_set,nxt_new]<;>omega) | fail) only [go_sem,↓reduceIte,Nat.reduceEqDiff,Nat.reduceLT,Nat.reduceLeDiff,Nat.reduceAdd,Nat.reduceMul,H]<;>rfl) (ht:b=true→RunO P N ops l kk ((i,.bool true)::e) s rt) (hf:b=false→RunO P N ops l kk ((i,.bool false)::e) s rt):RunO P N ops l kk e s rt:=.bcase i hi ht hf
theorem rp {c:Code} (l:List Nat) (he:Env.keep l e=e1:=by simp (disch:=first | omega |(simp only [nxt_set,nxt_new]<;>omega) | fail) only [go_sem,↓reduceIte,Nat.reduceEqDiff,Nat.reduceLT,Nat.reduceLeDiff,Nat.reduceAdd,Nat.reduceMul,H]<;>rfl) (k:Run P N (.code c::kk) e1 s rt):Run P N (.code c::kk) e s rt:=.prune l he k
theorem re (he:e=e1:=by simp (disch:=first | omega |(simp only [nxt_set,nxt_new]<;>omega) | fail) only [go_sem,↓reduceIte,Nat.reduceEqDiff,Nat.reduceLT,Nat.reduceLeDiff,Nat.reduceAdd,Nat.reduceMul,H]<;>rfl) (k:Run P N kk e1 s rt):Run P N kk e s rt:=.envEq' he k
end
theorem go {P:Program} {f:FuncId} {fn:Func} {c:Code} {args:List PV} {s:St} {Q:PV→St→Prop} (hf:P.funcs[f]? =some fn) (hb:fn.body=some c:=by rfl) (hn:Nat.ble args.length fn.ntmps=true:=by rfl)
  (hok:okC fn.ntmps c=true:=by rfl) (k:s.wf→True→Run P fn.ntmps [.code c] (argEnv 0 args) s (Ret P fn args s Q)):ACalls P f args s Q :=
 .body hf hb (Nat.le_of_ble_eq_true hn) hok fun w=>k w trivial
theorem rP {P:Program} {fn:Func} {args:List PV} {s0:St} {Q:PV→St→Prop} {e:Env} {s:St} {r r':PV} (hr:retv P fn.results.toList e s=some r) (hwf:s0.wf) (k:Q r' s0)
  (hr':r'=r.weak:=by rfl) (hb:r'.blw s0.nxt:=by simp only [go_sem,reduceCtorEq,false_implies,implies_true])
  (hk:∀ i,i<s0.nxt→s.blk i=s0.blk i:=by first |(intro i hi;rfl) |(intro i hi;have h0:=ltn hi;have h1:=lte hi;simp only [go_sem,Nat.add_assoc,Nat.reduceAdd,↓reduceIte,h0,h1])):Ret P fn args s0 Q e s :=
 .pure hr hr' hb hwf hk k
end Go.PM
namespace Go.Proofs
open Go.PM
attribute [go_sem] Int.sub_zero List.drop_zero Int.toNat_zero Nat.mul_one Option.isSome_some List.not_mem_nil false_implies implies_true true_or and_self Int.toNat_natCast Tab.pv Ten.pv Win.pv Sp.pv Slt.pv
end Go.Proofs
namespace Go.PM
open Go
section
variable {P:Program} {N:Nat} {k:List KI} {e:Env} {s:St} {rt:Env→St→Prop}
end
end Go.PM
namespace Go.PM
open Go
theorem okEls_map {α:Type} {f:α→PV} {n:Nat} (h:∀ x,(f x).ok=true∧(f x).cells.length=n) (l:List α):okEls n (l.map f)=True:=eq_true (by
 intro el hel
 obtain ⟨x,_,rfl⟩:=List.mem_map.1 hel
 exact h x)
end Go.PM
namespace Go.Proofs
open Go.PM Go
abbrev U8 (n:Int):Prop:=0≤n∧n≤255
abbrev U16 (n:Int):Prop:=0≤n∧n≤65535
def OkB (l:List Int):Prop:=∀ x∈l,U8 x
theorem Y73 {p:Prop} (h:p:=by simp [IntKind.wrap,IntKind.signed,IntKind.bits]):p:=h
theorem u8_wrap (n:Int):IntKind.u8.wrap n=n%256:=Y73
theorem u16_wrap (n:Int):IntKind.u16.wrap n=n%65536:=Y73
theorem u64_wrap (n:Int):IntKind.u64.wrap n=n%18446744073709551616:=Y73
theorem weaks_u8 (l:List Int):PV.weaks (l.map (PV.int .u8))=l.map (PV.int .u8):=weaks_map_id (PV.int .u8) (fun _=>rfl) l
theorem weaks_i64 (l:List Int):PV.weaks (l.map (PV.int .i64))=l.map (PV.int .i64):=weaks_map_id (PV.int .i64) (fun _=>rfl) l
theorem weaks_u16 (l:List Int):PV.weaks (l.map (PV.int .u16))=l.map (PV.int .u16):=weaks_map_id (PV.int .u16) (fun _=>rfl) l
theorem Y309 {p:Prop} (h:p:=by exact (fun a=>by simp [PV.blw])):p:=h
theorem blws_u8 (n:Nat) (l:List Int):PV.blws n (l.map (PV.int .u8)):=blws_map (PV.int .u8) n Y309 l
theorem blws_u16 (n:Nat) (l:List Int):PV.blws n (l.map (PV.int .u16)):=blws_map (PV.int .u16) n Y309 l
theorem blws_i64 (n:Nat) (l:List Int):PV.blws n (l.map (PV.int .i64)):=blws_map (PV.int .i64) n Y309 l
attribute [go_sem] weaks_u8 weaks_i64 weaks_u16 u8_wrap
def num2 (n:Int):List Int:=[n/256%256,n%256]
theorem num2_ok (n:Int):OkB (num2 n):=by
 intro x hx
 simp only [num2,List.mem_cons,List.not_mem_nil,or_false] at hx
 rcases hx with rfl | rfl<;>constructor<;>omega
theorem OkB.append {a b:List Int} (h:OkB a) (k:OkB b):OkB (a++b):=fun x hx=>(List.mem_append.1 hx).elim (h x) (k x)
theorem OkB.take {a:List Int} (h:OkB a) (n:Nat):OkB (a.take n):=fun x hx=>h x (List.mem_of_mem_take hx)
theorem OkB.drop {a:List Int} (h:OkB a) (n:Nat):OkB (a.drop n):=fun x hx=>h x (List.mem_of_mem_drop hx)
theorem u8_hi (n:Int):n.fdiv 256%256=n/256%256:=by rw [Int.fdiv_eq_ediv_of_nonneg _ Y22]
def get2 (l:List Int) (at_:Int):Option Int:=if 0≤at_∧at_+2≤l.length then some (256*(l[at_.toNat]?.getD 0)+l[at_.toNat+1]?.getD 0) else none
theorem get2_bound {l:List Int} (h:OkB l) {a n:Int} (hn:get2 l a=some n):U16 n:=by
 unfold get2 at hn
 split at hn
 ·rename_i hc
  cases hn
  have h1:=h (l[a.toNat]'Y21) (List.getElem_mem _)
  have h2:=h (l[a.toNat+1]'Y21) (List.getElem_mem _)
  rw [List.getElem?_eq_getElem (show a.toNat<l.length from Y21),List.getElem?_eq_getElem (show a.toNat+1<l.length from Y21)]
  simp only [Option.getD_some]
  constructor<;>omega
 ·cases hn
def bitS (n:Int):Int:=if ibits .and .u16 n 1=1 then ibits .xor .u16 (n/2) 40961 else n/2
def bitN:Nat→Int→Int
 | 0,n=>n
 | k+1,n=>bitN k (bitS n)
def crcB (n x:Int):Int:=bitN 8 (ibits .xor .u16 n x)
def crcOf (l:List Int):Int:=l.foldl crcB 65535
def sealB (l:List Int):List Int:=l++[crcOf l%256,crcOf l/256]
theorem ibits_u16 (op:BinOp) (a b:Int):U16 (ibits op .u16 a b):=by
 unfold ibits
 rw [u16_wrap]
 constructor<;>omega
theorem bitS_ok {n:Int} (h:U16 n):U16 (bitS n):=by
 unfold bitS
 split
 ·exact ibits_u16 _ _ _
 ·constructor<;>omega
theorem bitN_ok:∀ (k:Nat) {n:Int},U16 n→U16 (bitN k n)
 | 0,_,h=>h
 | k+1,_,h=>bitN_ok k (bitS_ok h)
theorem crcB_ok (n x:Int):U16 (crcB n x):=bitN_ok 8 (ibits_u16 _ _ _)
theorem foldl_crcB_ok:∀ (l:List Int) {n:Int},U16 n→U16 (l.foldl crcB n)
 | [],_,h=>h
 | x::l,n,_=>foldl_crcB_ok l (crcB_ok n x)
theorem Y24 {p:Prop} (h:p:=by constructor<;>decide):p:=h
theorem crcOf_ok (l:List Int):U16 (crcOf l):=foldl_crcB_ok l Y24
theorem sealB_ok {l:List Int} (h:OkB l):OkB (sealB l):=by
 have:=crcOf_ok l
 refine h.append ?_
 intro x hx
 simp only [List.mem_cons,List.not_mem_nil,or_false] at hx
 rcases hx with rfl | rfl<;>constructor<;>omega
theorem sealB_len (l:List Int):(sealB l).length=l.length+2:=by simp [sealB]
def openB (l:List Int):Option (List Int):=if 2≤l.length∧sealB (l.take (l.length-2))=l then some (l.take (l.length-2)) else none
structure Fresh (s s':St) (r:PV) (els:List PV) (z:Nat):Prop where
 fr:Fr s s'
 kk:∃ kk,r=.sl kk els∧Grows s' kk els.length z∧∀ t z,kk=.tok t z→s.nxt≤t∧t<s'.nxt
theorem Fresh.ret {P:Program} {fn:Func} {args els:List PV} {s0 s:St} {e:Env} {kk:SK} {z:Nat} (hr:retv P fn.results.toList e s=some (.sl kk els)) (hF:Fr s0 s) (hg:Grows s kk els.length z)
  (ht:∀ t z,kk=.tok t z→s0.nxt≤t∧t<s.nxt):Ret P fn args s0 (fun r s'=>Fresh s0 s' r els z) e s:=Ret.all hr ⟨hF,kk,rfl,hg,ht⟩
theorem Fresh.ret0 {P:Program} {fn:Func} {args:List PV} {s0 s:St} {e:Env} {z:Nat} (hr:retv P fn.results.toList e s=some (.sl .nil [])) (hF:Fr s0 s):Ret P fn args s0 (fun r s'=>Fresh s0 s' r [] z) e s :=
 Ret.all hr ⟨hF,.nil,rfl,.inl ⟨rfl,rfl⟩,fun _ _ e=>Y20⟩
end Go.Proofs
namespace Go.Proofs
open Go.PM Go
theorem crc_hi (l:List Int):(crcOf l).fdiv 256%256=crcOf l/256:=by
 have:=crcOf_ok l
 rw [Int.fdiv_eq_ediv_of_nonneg _ Y22]
 unfold U16 at this
 omega
theorem ibits_or2 {x y:Int} (hx:U8 x) (hy:U8 y):ibits .or .i64 (x*256) y=256*x+y:=by
 obtain ⟨a,rfl⟩:∃ a:Nat,x=a:=⟨x.toNat,(Int.toNat_of_nonneg hx.1).symm⟩
 obtain ⟨b,rfl⟩:∃ b:Nat,y=b:=⟨y.toNat,(Int.toNat_of_nonneg hy.1).symm⟩
 have ha:a<256:=by unfold U8 at hx;omega
 have hb:b<256:=by unfold U8 at hy;omega
 have e:(BitVec.ofInt 64 ((a:Int)*256) ||| BitVec.ofInt 64 (b:Int)).toNat=256*a+b:=by
  rw [BitVec.toNat_or,show ((a:Int)*256)=((a*256:Nat):Int) from Y21,BitVec.ofInt_natCast,BitVec.ofInt_natCast,BitVec.toNat_ofNat,BitVec.toNat_ofNat,Nat.mod_eq_of_lt Y21,Nat.mod_eq_of_lt Y21]
  have:=Nat.two_pow_add_eq_or_of_lt (i:=8) (b:=b) Y21 a
  rw [show a*256=2 ^ 8*a from Y21,← this]
 unfold ibits
 show IntKind.i64.wrap (((BitVec.ofInt 64 ((a:Int)*256) ||| BitVec.ofInt 64 (b:Int)).toNat:Int))=_
 rw [e,wrap_i64 Y21]
 omega
end Go.Proofs
namespace Go.Proofs
open Go.PM Go
theorem hi_u64' {n:Int}:n%18446744073709551616/256%256=n/256%256:=Y21
theorem crc_hi' (l:List Int):crcOf l/256%256=crcOf l/256:=by
 have:=crcOf_ok l
 unfold U16 at this
 omega
theorem blws_u8T (n:Nat) (l:List Int):PV.blws n (l.map (PV.int .u8))=True:=eq_true (blws_u8 n l)
theorem blws_u16T (n:Nat) (l:List Int):PV.blws n (l.map (PV.int .u16))=True:=eq_true (blws_u16 n l)
theorem blws_i64T (n:Nat) (l:List Int):PV.blws n (l.map (PV.int .i64))=True:=eq_true (blws_i64 n l)
theorem blws_winsT (n:Nat) (l:List Win):PV.blws n (l.map Win.pv)=True:=eq_true (blws_wins n l)
theorem blws_sltsT (n:Nat) (l:List Slt):PV.blws n (l.map Slt.pv)=True:=eq_true (blws_slts n l)
theorem blws_tensT (n:Nat) (l:List Ten):PV.blws n (l.map Ten.pv)=True:=eq_true (blws_tens n l)
theorem okEls_win (l:List Win):okEls 4 (l.map Win.pv)=True:=okEls_map (f:=Win.pv) (fun _=>⟨rfl,rfl⟩) l
theorem okEls_slt (l:List Slt):okEls 2 (l.map Slt.pv)=True:=okEls_map (f:=Slt.pv) (fun _=>⟨rfl,rfl⟩) l
theorem okEls_ten (l:List Ten):okEls 5 (l.map Ten.pv)=True:=okEls_map (f:=Ten.pv) (fun _=>⟨rfl,rfl⟩) l
attribute [go_sem] okEls_win okEls_slt okEls_ten blws_u8T blws_u16T blws_i64T blws_winsT blws_sltsT blws_tensT
end Go.Proofs
namespace Go.PM
open Go
theorem le_i1:((0:Int)≤1)=True:=by decide
theorem le_i8:((0:Int)≤8)=True:=by decide
theorem le_i16:((0:Int)≤16)=True:=by decide
theorem le_i4:((0:Int)≤4)=True:=by decide
theorem p1_16:(2:Int) ^ min (Int.toNat 1) 16=2:=by decide
theorem p8_8:(2:Int) ^ min (Int.toNat 8) 8=256:=by decide
theorem p8_16:(2:Int) ^ min (Int.toNat 8) 16=256:=by decide
theorem p8_32:(2:Int) ^ min (Int.toNat 8) 32=256:=by decide
theorem p8_64:(2:Int) ^ min (Int.toNat 8) 64=256:=by decide
theorem p16_32:(2:Int) ^ min (Int.toNat 16) 32=65536:=by decide
theorem p16_64:(2:Int) ^ min (Int.toNat 16) 64=65536:=by decide
attribute [go_sem] le_i1 le_i8 le_i16 le_i4 p1_16 p8_8 p8_16 p8_32 p8_64 p16_32 p16_64
end Go.PM
namespace Go.Proofs
open Go.PM Go
def toB (n:Int):UInt8:=UInt8.ofNat n.toNat
theorem mapM_byt:∀ (l:List Int),(l.map (PV.int .u8)).mapM Go.PM.byteOf=some (l.map toB)
 | []=>rfl
 | x::l=>by
   rw [List.map_cons,List.mapM_cons,mapM_byt l];rfl
def strB (l:List Int):ByteArray:=⟨(l.map toB).toArray⟩
theorem strB_mk (l:List Int):ByteArray.mk (l.map toB).toArray=strB l:=rfl
attribute [go_sem] mapM_byt strB_mk
end Go.Proofs
namespace Go.Proofs
theorem flat2_len (l:List Int):(l.flatMap num2).length=2*l.length:=by
 induction l with
 | nil=>rfl
 | cons x l ih=>simp [ih,num2];omega
end Go.Proofs
namespace Go.PM
open Go
theorem okEls_int (k:IntKind) (l:List Int):okEls 1 (l.map (PV.int k))=True:=okEls_map (f:=PV.int k) (fun _=>⟨rfl,rfl⟩) l
attribute [go_sem] okEls_int or_true
end Go.PM
namespace Go.Proofs
open Go.PM Go
structure Rr where
 b:List Int
 fell:Bool
abbrev Rr.pv (r:Rr):PV:=.agg [.sl .unk (r.b.map (PV.int .u8)),.bool r.fell]
def Rr.num (r:Rr):Int:=if r.fell=true then 0 else (get2 r.b 0).getD 0
def Rr.nx (r:Rr):Rr:=if r.fell=true∨get2 r.b 0=none then ⟨r.b,true⟩ else ⟨r.b.drop 2,false⟩
structure Rr.ok (r:Rr):Prop where
 b:OkB r.b
 n:r.b.length≤1000
theorem Rr.ok.nx {r:Rr} (h:r.ok):r.nx.ok:=by
 unfold Rr.nx
 split
 ·exact ⟨h.b,h.n⟩
 ·exact ⟨h.b.drop 2,by have:=h.n;simp only [List.length_drop];omega⟩
structure Dr where
 b:List Int
 pos:Nat
 bad:Bool
abbrev Dr.pv (r:Dr):PV:=.agg [.sl .unk (r.b.map (PV.int .u8)),.int .i64 r.pos,.bool r.bad]
def Dr.num (r:Dr):Int:=if r.bad=true then 0 else (get2 r.b r.pos).getD 0
def Dr.nx (r:Dr):Dr:=if r.bad=true∨get2 r.b r.pos=none then ⟨r.b,r.pos,true⟩ else ⟨r.b,r.pos+2,false⟩
structure Dr.ok (r:Dr):Prop where
 b:OkB r.b
 n:r.b.length≤1000
 pos:r.pos≤r.b.length
theorem get2_some {l:List Int} {n:Nat} (h:¬ get2 l n=none):n+2≤l.length:=by
 unfold get2 at h
 split at h
 ·omega
 ·exact absurd rfl h
theorem Dr.ok.nx {r:Dr} (h:r.ok):r.nx.ok:=by
 unfold Dr.nx
 split
 ·exact ⟨h.b,h.n,h.pos⟩
 ·rename_i hc
  have:=get2_some (fun e=>hc (.inr e))
  exact ⟨h.b,h.n,by simpa using this⟩
def Dr.over (r:Dr):Prop:=(r.nx.b.length:Int)-r.nx.pos<r.num
instance (r:Dr):Decidable r.over:=by unfold Dr.over;exact inferInstance
def Dr.cnt (r:Dr):Int:=if r.over then 0 else r.num
def Dr.cx (r:Dr):Dr:=if r.over then ⟨r.nx.b,r.nx.pos,true⟩ else r.nx
theorem Dr.ok.cx {r:Dr} (h:r.ok):r.cx.ok:=by
 unfold Dr.cx
 split
 ·exact ⟨h.nx.b,h.nx.n,h.nx.pos⟩
 ·exact h.nx
def Rr.nx4 (r:Rr):Rr:=r.nx.nx.nx.nx
def Rr.win (r:Rr):Win:=⟨r.num,r.nx.num,r.nx.nx.num,r.nx.nx.nx.num⟩
def Rr.slt (r:Rr):Slt:=⟨r.num,r.nx.num⟩
def Rr.many {α:Type} (f:Rr→α × Rr):Nat→Rr→List α→List α × Rr
 | 0,r,l=>(l,r)
 | n+1,r,l=>if r.fell=true then (l,r) else Rr.many f n (f r).2 (l++[(f r).1])
def Rr.wins (r:Rr):List Win × Rr:=Rr.many (fun r=>(r.win,r.nx4)) r.num.toNat r.nx []
def Rr.slts (r:Rr):List Slt × Rr:=Rr.many (fun r=>(r.slt,r.nx.nx)) r.num.toNat r.nx []
def fns2 (hi lo:Int):Int:=ibits .or .u32 (IntKind.u32.wrap (IntKind.u32.wrap hi*65536)) (IntKind.u32.wrap lo)
def Rr.ten (r:Rr):Ten × Rr :=
 (⟨r.num,fns2 r.nx.num r.nx.nx.num,r.nx.nx.nx.num,r.nx4.wins.1,r.nx4.wins.2.slts.1⟩,r.nx4.wins.2.slts.2)
def Rr.tens (r:Rr):List Ten × Rr:=Rr.many Rr.ten r.num.toNat r.nx []
def Dr.nx4 (r:Dr):Dr:=r.nx.nx.nx.nx
def Dr.win (r:Dr):Win:=⟨r.num,r.nx.num,r.nx.nx.num,r.nx.nx.nx.num⟩
def Dr.slt (r:Dr):Slt:=⟨r.num,r.nx.num⟩
def Dr.many {α:Type} (f:Dr→α × Dr):Nat→Dr→List α→List α × Dr
 | 0,r,l=>(l,r)
 | n+1,r,l=>Dr.many f n (f r).2 (l++[(f r).1])
def Dr.wins (r:Dr):List Win × Dr:=Dr.many (fun r=>(r.win,r.nx4)) r.cnt.toNat r.cx []
def Dr.slts (r:Dr):List Slt × Dr:=Dr.many (fun r=>(r.slt,r.nx.nx)) r.cnt.toNat r.cx []
def Dr.ten (r:Dr):Ten × Dr :=
 (⟨r.num,fns2 r.nx.num r.nx.nx.num,r.nx.nx.nx.num,r.nx4.wins.1,r.nx4.wins.2.slts.1⟩,r.nx4.wins.2.slts.2)
def Dr.tens (r:Dr):List Ten × Dr:=Dr.many Dr.ten r.cnt.toNat r.cx []
attribute [go_sem] Rr.pv Dr.pv
end Go.Proofs
namespace Go.PM
open Go
end Go.PM
namespace Go.Proofs
open Go.PM Go
theorem Rr.many_step {α:Type} {f:Rr→α × Rr} {m:Nat} {r:Rr} {l:List α} (hm:0<m) (hf:r.fell=false):Rr.many f m r l=Rr.many f (m-1) (f r).2 (l++[(f r).1]):=by
 cases m with
 | zero=>omega
 | succ m=>rw [Rr.many,if_neg (by rw [hf];simp)];rfl
theorem Rr.many_stop {α:Type} {f:Rr→α × Rr} {m:Nat} {r:Rr} {l:List α} (h:m=0∨r.fell=true):Rr.many f m r l=(l,r):=by
 cases m with
 | zero=>rfl
 | succ m =>
   rcases h with h | h
   ·omega
   ·rw [Rr.many,if_pos h]
theorem Dr.many_step {α:Type} {f:Dr→α × Dr} {m:Nat} {r:Dr} {l:List α} (hm:0<m):Dr.many f m r l=Dr.many f (m-1) (f r).2 (l++[(f r).1]):=by
 cases m with
 | zero=>omega
 | succ m=>rfl
end Go.Proofs
namespace Go.PM
open Go
end Go.PM
namespace Go.Proofs
open Go.PM Go
end Go.Proofs
namespace Go.Proofs
open Go.PM Go
theorem tabWhereA_all {frame:Int}:∀ {l done:List Ten},(tabWhereA frame done l).1=0→∀ x∈l,tenWhy x frame=0
 | [],_,_,x,hx=>by cases hx
 | y::l,done,h,x,hx=>by
   unfold tabWhereA at h
   split at h
   ·rename_i hc;exact absurd h hc
   ·rename_i hc
    split at h
    ·rename_i hc2;exact absurd h hc2
    ·rcases List.mem_cons.1 hx with rfl | hx
     ·simpa using hc
     ·exact tabWhereA_all h x hx
theorem tenWhy_few {x:Ten} {f:Int} (h:tenWhy x f=0):x.wins.length≤6∧x.slts.length≤3∧1≤x.slts.length∧(1≤x.unit∧x.unit≤247)∧(1≤x.queue∧x.queue≤6)∧(∀ w∈x.wins,winRight w=true)∧∀ s∈x.slts,sltRight f s=true:=by
 unfold tenWhy at h
 split at h
 ·cases h
 split at h
 ·cases h
 split at h
 ·cases h
 split at h
 ·cases h
 split at h
 ·cases h
 rename_i h1 h2 h3 h4 h5
 simp only [Bool.or_eq_true,List.any_eq_true,Bool.not_eq_true',not_or,not_exists,not_and,Bool.not_eq_false] at h4 h5
 exact ⟨Y21,Y21,Y21,Y21,Y21,fun w hw=>h4.1 w hw,fun s hs=>h5 s hs⟩
theorem tabWhere_few {t:Tab} (h:(tabWhere t).1=0):(1≤t.frame∧t.frame≤2000)∧(1≤t.tens.length∧t.tens.length≤4)∧∀ x∈t.tens,tenWhy x t.frame=0:=by
 unfold tabWhere at h
 split at h
 ·cases h
 split at h
 ·cases h
 rename_i h1 h2
 exact ⟨Y21,Y21,tabWhereA_all h⟩
end Go.Proofs
namespace Go.Proofs
open Go.PM Go
theorem OkB.flatMap {α:Type} {f:α→List Int} {l:List α} (h:∀ x∈l,OkB (f x)):OkB (l.flatMap f):=fun y hy=>by
 obtain ⟨x,hx,hy⟩:=List.mem_flatMap.1 hy
 exact h x hx y hy
end Go.Proofs
namespace Go.Proofs
open Go.PM Go
structure Sim (d:Dr) (r:Rr):Prop where
 e:d.bad=r.fell
 p:d.pos≤d.b.length
 s:d.bad=false→r.b=d.b.drop d.pos
theorem get2_drop {l:List Int} {p:Nat} (h:p≤l.length):get2 (l.drop p) 0=get2 l p:=by
 unfold get2
 by_cases hc:p+2≤l.length
 ·rw [if_pos (by simp only [List.length_drop];omega),if_pos Y21]
  simp only [Int.toNat_natCast,List.getElem?_drop,Int.toNat_zero,Nat.add_zero,Nat.zero_add]
 ·rw [if_neg (by simp only [List.length_drop];omega),if_neg Y21]
theorem Sim.get {d:Dr} {r:Rr} (h:Sim d r) (hb:d.bad=false):get2 r.b 0=get2 d.b d.pos:=by rw [h.s hb,get2_drop h.p]
theorem Sim.num {d:Dr} {r:Rr} (h:Sim d r):d.num=r.num:=by
 unfold Dr.num Rr.num
 rw [← h.e]
 split
 ·rfl
 ·rename_i hb
  rw [h.get (by simpa using hb)]
theorem Sim.nx {d:Dr} {r:Rr} (h:Sim d r):Sim d.nx r.nx:=by
 by_cases hb:d.bad=true
 ·have h1:d.nx=⟨d.b,d.pos,true⟩:=by unfold Dr.nx;rw [if_pos (.inl hb)]
  have h2:r.nx=⟨r.b,true⟩:=by unfold Rr.nx;rw [if_pos (.inl (by rw [← h.e];exact hb))]
  rw [h1,h2]
  exact ⟨rfl,h.p,fun e=>Y20⟩
 ·have hb':d.bad=false:=by simpa using hb
  have hg:=h.get hb'
  unfold Dr.nx Rr.nx
  rw [hg,← h.e]
  split
  ·exact ⟨rfl,h.p,fun e=>Y20⟩
  ·rename_i hc
   have:=get2_some (fun e=>hc (.inr e))
   exact ⟨rfl,this,fun _=>by simp only;rw [h.s hb',List.drop_drop]⟩
structure SimF {α:Type} (fd:Dr→α × Dr) (fr:Rr→α × Rr):Prop where
 sim:∀ d r,Sim d r→Sim (fd d).2 (fr r).2∧((fd d).2.bad=false→(fd d).1=(fr r).1)
 bad:∀ d,d.bad=true→(fd d).2.bad=true
 fell:∀ r,r.fell=true→(fr r).2.fell=true
 len:∀ r,(fr r).2.b.length≤r.b.length
 use:∀ r,r.fell=false→(fr r).2.fell=true∨(fr r).2.b.length+1≤r.b.length
 b:∀ d,(fd d).2.b=d.b
section
variable {α:Type} {fd:Dr→α × Dr} {fr:Rr→α × Rr}
theorem Dr.many_bad (h:∀ d,d.bad=true→(fd d).2.bad=true):∀ (n:Nat) (d:Dr) (l:List α),d.bad=true→(Dr.many fd n d l).2.bad=true
 | 0,d,l,hd=>hd
 | n+1,d,l,hd=>Dr.many_bad h n _ _ (h d hd)
theorem Rr.many_fell:∀ (n:Nat) (r:Rr) (l:List α),r.fell=true→Rr.many fr n r l=(l,r):=fun n r l h=>Rr.many_stop (.inr h)
theorem SimF.many (h:SimF fd fr):∀ (n:Nat) (d:Dr) (r:Rr) (l m:List α),Sim d r→(d.bad=false→l=m)→Sim (Dr.many fd n d l).2 (Rr.many fr n r m).2∧((Dr.many fd n d l).2.bad=false→(Dr.many fd n d l).1=(Rr.many fr n r m).1)
 | 0,d,r,l,m,hs,hl=>⟨hs,hl⟩
 | n+1,d,r,l,m,hs,hl=>by
   by_cases hb:d.bad=true
   ·have hf:r.fell=true:=by rw [← hs.e];exact hb
    have h1:=Dr.many_bad h.bad (n+1) d l hb
    rw [Rr.many_fell _ _ _ hf]
    refine ⟨⟨by rw [h1,hf],?_,fun e=>by rw [h1] at e;cases e⟩,fun e=>by rw [h1] at e;cases e⟩
    have hp:∀ (n:Nat) (d:Dr) (r:Rr) (l:List α),Sim d r→d.bad=true→(Dr.many fd n d l).2.pos≤(Dr.many fd n d l).2.b.length:=by
     intro n
     induction n with
     | zero=>exact fun d r l hs _=>hs.p
     | succ n ih=>exact fun d r l hs hb=>ih _ _ _ (h.sim d r hs).1 (h.bad d hb)
    exact hp (n+1) d r l hs hb
   ·have hb':d.bad=false:=by simpa using hb
    have hf:r.fell=false:=by rw [← hs.e];exact hb'
    rw [Rr.many_step (Nat.succ_pos n) hf,Dr.many_step (Nat.succ_pos n)]
    obtain ⟨h1,h2⟩:=h.sim d r hs
    exact SimF.many h n _ _ _ _ h1 (fun e=>by rw [hl hb',h2 e])
theorem SimF.over (h:SimF fd fr):∀ (n:Nat) (r:Rr) (l:List α),r.b.length<n→(Rr.many fr n r l).2.fell=true
 | 0,r,l,hn=>Y21
 | n+1,r,l,hn=>by
   by_cases hf:r.fell=true
   ·rw [Rr.many_fell _ _ _ hf];exact hf
   ·have hf':r.fell=false:=by simpa using hf
    rw [Rr.many_step (Nat.succ_pos n) hf']
    rcases h.use r hf' with h1 | h1
    ·rw [Rr.many_fell _ _ _ h1];exact h1
    ·exact SimF.over h n _ _ Y21
theorem SimF.counted (h:SimF fd fr) {d:Dr} {r:Rr} (hs:Sim d r):Sim (Dr.many fd d.cnt.toNat d.cx []).2 (Rr.many fr r.num.toNat r.nx []).2∧((Dr.many fd d.cnt.toNat d.cx []).2.bad=false→(Dr.many fd d.cnt.toNat d.cx []).1=(Rr.many fr r.num.toNat r.nx []).1):=by
 have hx:=hs.nx
 have hn:=hs.num
 by_cases ho:d.over
 ·have hb:d.bad=false:=by
   cases hb:d.bad with
   | false=>rfl
   | true =>
     have h0:d.num=0:=by unfold Dr.num;rw [if_pos hb]
     have:=hx.p
     unfold Dr.over at ho
     omega
  have hnb:d.nx.bad=false:=by
   cases hc:d.nx.bad with
   | false=>rfl
   | true =>
     have h0:d.num=0:=by
      unfold Dr.num
      unfold Dr.nx at hc
      split at hc
      ·rename_i h1
       rcases h1 with h1 | h1
       ·rw [hb] at h1;cases h1
       ·rw [h1];split<;>rfl
      ·cases hc
     have:=hx.p
     unfold Dr.over at ho
     omega
  have e1:d.cnt=0:=by unfold Dr.cnt;rw [if_pos ho]
  have e2:d.cx=⟨d.nx.b,d.nx.pos,true⟩:=by unfold Dr.cx;rw [if_pos ho]
  rw [e1,e2]
  have hlen:r.nx.b.length<r.num.toNat:=by
   rw [hx.s hnb,List.length_drop,← hn]
   have:=hx.p
   unfold Dr.over at ho
   omega
  have hfe:=SimF.over h _ r.nx [] hlen
  exact ⟨⟨by rw [hfe];rfl,hx.p,fun e=>Y20⟩,fun e=>Y20⟩
 ·have e1:d.cnt=d.num:=by unfold Dr.cnt;rw [if_neg ho]
  have e2:d.cx=d.nx:=by unfold Dr.cx;rw [if_neg ho]
  rw [e1,e2,hn]
  exact h.many _ _ _ _ _ hx (fun _=>rfl)
end
end Go.Proofs
namespace Go.Proofs
open Go.PM Go
structure Win.u (w:Win):Prop where
 a:U16 w.space
 b:U16 w.virt
 c:U16 w.phys
 d:U16 w.cnt
structure Slt.u (s:Slt):Prop where
 a:U16 s.pos
 b:U16 s.len
structure Ten.u (t:Ten):Prop where
 unit:U16 t.unit
 fns:U32 t.fns
 queue:U16 t.queue
 wins:∀ w∈t.wins,w.u
 slts:∀ s∈t.slts,s.u
 nw:t.wins.length≤6
 ns:t.slts.length≤3
structure Tab.u (t:Tab):Prop where
 frame:U16 t.frame
 tens:∀ x∈t.tens,x.u
 n:t.tens.length≤4
theorem spRight_b {s:Sp} {m:Int} (h:spRight s m=true):0≤s.pos∧1≤s.cnt∧s.pos≤m∧s.cnt≤m-s.pos:=spRight_iff.1 h
end Go.Proofs
namespace Go.Proofs
open Go.PM Go
end Go.Proofs
namespace Go.Proofs
open Go.PM Go
theorem xor16 {a b:Nat} (ha:a<65536) (hb:b<65536):ibits .xor .u16 (a:Int) (b:Int)=((a ^^^ b:Nat):Int):=by
 have hx:a ^^^ b<65536:=Nat.xor_lt_two_pow (n:=16) ha hb
 have e:(BitVec.ofInt 16 (a:Int) ^^^ BitVec.ofInt 16 (b:Int)).toNat=a ^^^ b:=by
  rw [BitVec.toNat_xor,BitVec.ofInt_natCast,BitVec.ofInt_natCast,BitVec.toNat_ofNat,BitVec.toNat_ofNat,Nat.mod_eq_of_lt ha,Nat.mod_eq_of_lt hb]
 unfold ibits
 show IntKind.u16.wrap (((BitVec.ofInt 16 (a:Int) ^^^ BitVec.ofInt 16 (b:Int)).toNat:Int))=_
 rw [e,u16_wrap];omega
theorem and16 {a:Nat} (ha:a<65536):ibits .and .u16 (a:Int) 1=((a%2:Nat):Int):=by
 have e:(BitVec.ofInt 16 (a:Int) &&& BitVec.ofInt 16 (1:Int)).toNat=a%2:=by
  rw [BitVec.toNat_and,BitVec.ofInt_natCast,show ((1:Int))=((1:Nat):Int) from rfl,BitVec.ofInt_natCast,BitVec.toNat_ofNat,BitVec.toNat_ofNat,Nat.mod_eq_of_lt ha,Nat.mod_eq_of_lt Y22]
  exact Nat.and_two_pow_sub_one_eq_mod a 1
 unfold ibits
 show IntKind.u16.wrap (((BitVec.ofInt 16 (a:Int) &&& BitVec.ofInt 16 (1:Int)).toNat:Int))=_
 rw [e,u16_wrap];omega
theorem xor_cancel {a b c:Nat} (h:a ^^^ c=b ^^^ c):a=b:=by
 have:=congrArg (· ^^^ c) h
 simpa [Nat.xor_assoc,Nat.xor_self] using this
theorem xor_cancel_l {a b c:Nat} (h:c ^^^ a=c ^^^ b):a=b:=by
 rw [Nat.xor_comm c a,Nat.xor_comm c b] at h
 exact xor_cancel h
theorem bitS_nat {a:Nat} (ha:a<65536):bitS (a:Int)=((if a%2=1 then (a/2) ^^^ 40961 else a/2:Nat):Int):=by
 unfold bitS
 rw [and16 ha]
 by_cases h:a%2=1
 ·rw [if_pos (by rw [h];rfl),if_pos h,show (a:Int)/2=((a/2:Nat):Int) from Y21,show (40961:Int)=((40961:Nat):Int) from rfl,xor16 Y21 Y22]
 ·rw [if_neg Y21,if_neg h];omega
theorem bit15 {m:Nat} (h:m<32768):(m ^^^ 40961).testBit 15=true:=by
 rw [Nat.testBit_xor,Nat.testBit_lt_two_pow (x:=m) (i:=15) h]
 decide
theorem bitS_inj {a b:Int} (ha:U16 a) (hb:U16 b) (h:bitS a=bitS b):a=b:=by
 obtain ⟨x,rfl⟩:∃ x:Nat,a=x:=⟨a.toNat,(Int.toNat_of_nonneg ha.1).symm⟩
 obtain ⟨y,rfl⟩:∃ y:Nat,b=y:=⟨b.toNat,(Int.toNat_of_nonneg hb.1).symm⟩
 have hx:x<65536:=by unfold U16 at ha;omega
 have hy:y<65536:=by unfold U16 at hb;omega
 rw [bitS_nat hx,bitS_nat hy] at h
 have h:=Int.ofNat.inj h
 by_cases h1:x%2=1<;>by_cases h2:y%2=1
 ·rw [if_pos h1,if_pos h2] at h
  have:=xor_cancel h
  omega
 ·rw [if_pos h1,if_neg h2] at h
  have t:=bit15 (m:=x/2) Y21
  rw [h,Nat.testBit_lt_two_pow (x:=y/2) (i:=15) Y21] at t
  cases t
 ·rw [if_neg h1,if_pos h2] at h
  have t:=bit15 (m:=y/2) Y21
  rw [← h,Nat.testBit_lt_two_pow (x:=x/2) (i:=15) Y21] at t
  cases t
 ·rw [if_neg h1,if_neg h2] at h
  omega
theorem bitN_inj:∀ (k:Nat) {a b:Int},U16 a→U16 b→bitN k a=bitN k b→a=b
 | 0,_,_,_,_,h=>h
 | k+1,_,_,ha,hb,h=>bitS_inj ha hb (bitN_inj k (bitS_ok ha) (bitS_ok hb) h)
theorem crcB_inj {n m x:Int} (hn:U16 n) (hm:U16 m) (hx:U8 x) (h:crcB n x=crcB m x):n=m:=by
 have h:=bitN_inj 8 (ibits_u16 _ _ _) (ibits_u16 _ _ _) h
 obtain ⟨a,rfl⟩:∃ a:Nat,n=a:=⟨n.toNat,(Int.toNat_of_nonneg hn.1).symm⟩
 obtain ⟨b,rfl⟩:∃ b:Nat,m=b:=⟨m.toNat,(Int.toNat_of_nonneg hm.1).symm⟩
 obtain ⟨c,rfl⟩:∃ c:Nat,x=c:=⟨x.toNat,(Int.toNat_of_nonneg hx.1).symm⟩
 unfold U16 at hn hm
 unfold U8 at hx
 rw [xor16 Y21 Y21,xor16 Y21 Y21] at h
 rw [xor_cancel (Int.ofNat.inj h)]
theorem crcB_inj2 {n x y:Int} (hn:U16 n) (hx:U8 x) (hy:U8 y) (h:crcB n x=crcB n y):x=y:=by
 have h:=bitN_inj 8 (ibits_u16 _ _ _) (ibits_u16 _ _ _) h
 obtain ⟨a,rfl⟩:∃ a:Nat,n=a:=⟨n.toNat,(Int.toNat_of_nonneg hn.1).symm⟩
 obtain ⟨b,rfl⟩:∃ b:Nat,x=b:=⟨x.toNat,(Int.toNat_of_nonneg hx.1).symm⟩
 obtain ⟨c,rfl⟩:∃ c:Nat,y=c:=⟨y.toNat,(Int.toNat_of_nonneg hy.1).symm⟩
 unfold U16 at hn
 unfold U8 at hx hy
 rw [xor16 Y21 Y21,xor16 Y21 Y21] at h
 rw [xor_cancel_l (Int.ofNat.inj h)]
theorem Y310 {p:Prop} (h:p:=by simp [hy]):p:=h
theorem foldl_inj:∀ {l:List Int} {n m:Int},OkB l→U16 n→U16 m→l.foldl crcB n=l.foldl crcB m→n=m
 | [],_,_,_,_,_,h=>h
 | x::l,n,m,hl,hn,hm,h=>crcB_inj hn hm (hl x Y23) (foldl_inj (fun y hy=>hl y Y310) (crcB_ok _ _) (crcB_ok _ _) h)
theorem crc_set {l:List Int} (hl:OkB l) {k:Nat} (hk:k<l.length) {x:Int} (hx:U8 x) (h:crcOf (l.set k x)=crcOf l):x=l[k]:=by
 unfold crcOf at h
 have e1:l.set k x=l.take k++x::l.drop (k+1):=by rw [List.set_eq_take_append_cons_drop,if_pos hk]
 have e2:l=l.take k++l[k]::l.drop (k+1):=by
  conv=>lhs;rw [← List.take_append_drop k l]
  rw [List.drop_eq_getElem_cons hk]
 rw [e1] at h
 conv at h=>rhs;rw [e2]
 rw [List.foldl_append,List.foldl_append,List.foldl_cons,List.foldl_cons] at h
 have hn:U16 ((l.take k).foldl crcB 65535):=foldl_crcB_ok _ Y24
 have:=foldl_inj (hl.drop (k+1)) (crcB_ok _ _) (crcB_ok _ _) h
 exact crcB_inj2 hn hx (hl _ (List.getElem_mem hk)) this
theorem openB_turned {l:List Int} (hl:OkB l) {k:Nat} (hk:k<(sealB l).length) {x:Int} (hx:U8 x) (hne:x≠(sealB l)[k]):openB ((sealB l).set k x)=none:=by
 unfold openB
 rw [if_neg]
 rintro ⟨_,h⟩
 rw [List.length_set,sealB_len,Nat.add_sub_cancel] at h
 have hk2:=hk
 rw [sealB_len] at hk2
 by_cases hkl:k<l.length
 ·have e1:(sealB l).set k x=l.set k x++[crcOf l%256,crcOf l/256]:=by unfold sealB;rw [List.set_append_left _ _ hkl]
  rw [e1,List.take_left' (by rw [List.length_set])] at h
  have h2:=List.append_cancel_left h
  simp only [List.cons.injEq,and_true] at h2
  have c1:=crcOf_ok l
  have c2:=crcOf_ok (l.set k x)
  have:crcOf (l.set k x)=crcOf l:=Y21
  have:=crc_set hl hkl hx this
  apply hne
  rw [this]
  simp only [sealB,List.getElem_append_left hkl]
 ·have e1:((sealB l).set k x).take l.length=l:=by
   rw [List.take_set,List.set_eq_of_length_le (by rw [List.length_take,sealB_len];omega)]
   unfold sealB
   rw [List.take_left']
   rfl
  rw [e1] at h
  apply hne
  have hk':k<((sealB l).set k x).length:=by rw [List.length_set];exact hk
  have:((sealB l).set k x)[k]=(sealB l)[k]:=by
   congr 1
   exact h.symm
  rw [List.getElem_set_self] at this
  exact this
end Go.Proofs
namespace Go.Proofs
open Go.PM Go
theorem ibits_u8 (op:BinOp) (a b:Int):U8 (ibits op .u8 a b):=by
 unfold ibits
 rw [u8_wrap]
 constructor<;>omega
end Go.Proofs
namespace Go.Proofs
open Go.PM Go
def holds (k:Int) (s:Slt):Bool:=decide (s.pos≤k)&&decide (k<s.pos+s.len)
structure NextOk (t:Tab) (u after k:Int):Prop where
 r:tabRight t=true
 u0:0≤u
 u1:u<t.tens.length
 a0:0≤after
 a1:after≤1099511627776
 k0:0≤k
 k1:k≤65536
instance (t:Tab) (u after k:Int):Decidable (NextOk t u after k):=decidable_of_iff (tabRight t=true∧0≤u∧u<t.tens.length∧0≤after∧after≤1099511627776∧0≤k∧k≤65536)
 ⟨fun ⟨a,b,c,d,e,f,g⟩=>⟨a,b,c,d,e,f,g⟩,fun ⟨a,b,c,d,e,f,g⟩=>⟨a,b,c,d,e,f,g⟩⟩
structure Tab.rt (t:Tab):Prop where
 f:1≤t.frame∧t.frame≤2000
 n:1≤t.tens.length∧t.tens.length≤4
 s:∀ x∈t.tens,1≤x.slts.length∧x.slts.length≤3
 p:∀ x∈t.tens,∀ s∈x.slts,0≤s.pos∧72≤s.len∧s.pos+s.len≤t.frame
theorem right_rt {t:Tab} (h:tabRight t=true):t.rt:=by
 have h:(tabWhere t).1=0:=by simpa [tabRight] using h
 obtain ⟨hf,hn,hal⟩:=tabWhere_few h
 refine ⟨hf,hn,fun x hx=>?_,fun x hx s hs=>?_⟩
 ·obtain ⟨h1,h2,h3,h4,h5,h6,h7⟩:=tenWhy_few (hal x hx)
  exact ⟨h3,h2⟩
 ·obtain ⟨h1,h2,h3,h4,h5,h6,h7⟩:=tenWhy_few (hal x hx)
  have:=h7 s hs
  simp only [sltRight,Bool.and_eq_true,decide_eq_true_eq] at this
  have h8:=spRight_b this.2
  simp only [Slt.sp] at h8
  omega
theorem tmod_pos {a b:Int} (h:0≤a):a.tmod b=a%b:=Int.tmod_eq_emod_of_nonneg h
theorem tdiv_pos {a b:Int} (h:0≤a):a.tdiv b=a/b:=Int.tdiv_eq_ediv_of_nonneg h
end Go.Proofs
namespace Go.Proofs
open Go.PM Go
def bitV (e:Nat):Int:=1*2 ^ min e 8%256
def setBit (out:List Int) (i:Nat):List Int:=out.set (i/8) (ibits .or .u8 (out[i/8]?.getD 0) (bitV (i%8)))
def packI (l:List Bool):Nat→List Int
 | 0=>List.replicate ((l.length+7)/8) 0
 | i+1=>if l[i]?.getD false then setBit (packI l i) i else packI l i
def packB (l:List Bool):List Int:=packI l l.length
theorem packI_len (l:List Bool):∀ i,(packI l i).length=(l.length+7)/8
 | 0=>by simp [packI]
 | i+1=>by
   unfold packI
   split
   ·unfold setBit;rw [List.length_set];exact packI_len l i
   ·exact packI_len l i
theorem setBit_ok {out:List Int} (h:OkB out) (i:Nat):OkB (setBit out i):=fun y hy=>by
 unfold setBit at hy
 rcases List.mem_or_eq_of_mem_set hy with h1 | h1
 ·exact h y h1
 ·rw [h1];exact ibits_u8 _ _ _
theorem packI_ok (l:List Bool):∀ i,OkB (packI l i)
 | 0=>fun y hy=>by
   unfold packI at hy
   rw [(List.mem_replicate.1 hy).2];decide
 | i+1=>by
   unfold packI
   split
   ·exact setBit_ok (packI_ok l i) i
   ·exact packI_ok l i
theorem packB_ok (l:List Bool):OkB (packB l):=packI_ok l _
theorem packB_len (l:List Bool):(packB l).length=(l.length+7)/8:=packI_len l _
theorem frz_own_t {s:St} {q:Nat→Bool} {id n:Nat} {t:TypeId} {ik:IntKind} {l:List Int} (hn:n=l.length) (hq:q id=false) (hb:s.blk id=some (.row t (l.map (PV.int ik)))):PV.frz true s q 2 (.own id 0 n)=.sl .unk (l.map (PV.int ik)):=by
 subst hn
 unfold PV.frz
 rw [if_neg (by rw [hq];simp),hb]
 simp only [Nat.zero_add,List.length_map,Nat.le_refl,if_true,List.drop_zero,List.take_length]
 rw [show (l.map (PV.int ik)).take l.length=l.map (PV.int ik) by rw [← List.length_map (f:=PV.int ik),List.take_length],List.map_map]
 congr 1
def bitAt (b:List Int) (i:Nat):Bool:=decide (ibits .and .u8 ((b[i/8]?.getD 0).fdiv (2 ^ min (i%8) 8)) 1=1)
def openBits (b:List Int) (n:Nat):List Bool:=(List.range n).map (bitAt b)
def openN (b:List Int) (n:Int):Option (List Bool):=if 0≤n∧n≤8*b.length∧(n+7)/8=b.length∧packB (openBits b n.toNat)=b then some (openBits b n.toNat) else none
theorem and8 {a:Nat} (ha:a<256):ibits .and .u8 (a:Int) 1=((a%2:Nat):Int):=by
 unfold ibits
 show IntKind.u8.wrap (((BitVec.ofInt 8 (a:Int) &&& BitVec.ofInt 8 ((1:Nat):Int)).toNat:Int))=_
 rw [BitVec.toNat_and,BitVec.ofInt_natCast,BitVec.ofInt_natCast,BitVec.toNat_ofNat,BitVec.toNat_ofNat,Nat.mod_eq_of_lt Y21,Nat.mod_eq_of_lt Y21,Nat.and_one_is_mod,u8_wrap]
 omega
theorem or8 {a b:Nat} (ha:a<256) (hb:b<256):ibits .or .u8 (a:Int) (b:Int)=((a ||| b:Nat):Int):=by
 have:=Nat.or_lt_two_pow (n:=8) ha hb
 unfold ibits
 show IntKind.u8.wrap (((BitVec.ofInt 8 (a:Int) ||| BitVec.ofInt 8 (b:Int)).toNat:Int))=_
 rw [BitVec.toNat_or,BitVec.ofInt_natCast,BitVec.ofInt_natCast,BitVec.toNat_ofNat,BitVec.toNat_ofNat,Nat.mod_eq_of_lt Y21,Nat.mod_eq_of_lt Y21,u8_wrap]
 omega
theorem bitV_eq {e:Nat} (he:e<8):bitV e=((2 ^ e:Nat):Int)∧2 ^ e<256:=by
 have:e=0∨e=1∨e=2∨e=3∨e=4∨e=5∨e=6∨e=7:=Y21
 rcases this with rfl | rfl | rfl | rfl | rfl | rfl | rfl | rfl<;>exact ⟨Y22,Y22⟩
def byteN (b:List Int) (j:Nat):Nat:=(b[j]?.getD 0).toNat
theorem Y190 {p:Prop} (h:p:=by
 rw [List.getElem?_eq_getElem h]
 have:=hb _ (List.getElem_mem h)
 unfold U8 at this
 simp only [Option.getD_some]
 omega):p:=h
theorem byteN_lt {b:List Int} (hb:OkB b) (j:Nat):byteN b j<256:=by
 unfold byteN
 by_cases h:j<b.length
 ·exact Y190
 ·rw [List.getElem?_eq_none Y21];decide
theorem byteN_eq {b:List Int} (hb:OkB b) (j:Nat):b[j]?.getD 0=(byteN b j:Int):=by
 unfold byteN
 by_cases h:j<b.length
 ·exact Y190
 ·rw [List.getElem?_eq_none Y21];decide
theorem bitAt_test {b:List Int} (hb:OkB b) (i:Nat):bitAt b i=(byteN b (i/8)).testBit (i%8):=by
 have hlt:=byteN_lt hb (i/8)
 have hm:min (i%8) 8=i%8:=Y21
 have hd:byteN b (i/8)/2 ^ (i%8)<256:=Nat.lt_of_le_of_lt (Nat.div_le_self _ _) hlt
 unfold bitAt
 rw [byteN_eq hb,hm,show ((byteN b (i/8):Int)).fdiv (2 ^ (i%8))=((byteN b (i/8)/2 ^ (i%8):Nat):Int) from by
  rw [Int.fdiv_eq_ediv_of_nonneg _ (by exact_mod_cast Nat.zero_le _)];push_cast;rfl,and8 hd,Nat.testBit_eq_decide_div_mod_eq]
 simp only [decide_eq_decide]
 omega
theorem packI_test (l:List Bool):∀ (i:Nat),i≤l.length→∀ (j e:Nat),e<8→(byteN (packI l i) j).testBit e=(decide (8*j+e<i)&&l[8*j+e]?.getD false)
 | 0,_,j,e,he=>by
   have:byteN (packI l 0) j=0:=by
    unfold byteN packI
    rw [List.getElem?_replicate]
    split<;>rfl
   rw [this]
   simp
 | i+1,hi,j,e,he=>by
   have ih:=packI_test l i Y21 j e he
   unfold packI
   split
   ·rename_i hx
    have hdl:i/8<(packI l i).length:=by rw [packI_len];omega
    have hok:=packI_ok l i
    have hv:=bitV_eq (e:=i%8) Y21
    have hb:=byteN_lt hok (i/8)
    unfold setBit
    rw [byteN_eq hok,hv.1,or8 hb hv.2]
    by_cases hj:j=i/8
    ·subst hj
     have:byteN ((packI l i).set (i/8) ((byteN (packI l i) (i/8) ||| 2 ^ (i%8):Nat):Int)) (i/8)=byteN (packI l i) (i/8) ||| 2 ^ (i%8):=by
      conv=>lhs;unfold byteN
      rw [List.getElem?_set_self hdl]
      simp only [Option.getD_some,Int.toNat_natCast]
      rfl
     rw [this,Nat.testBit_or,ih,Nat.testBit_two_pow]
     by_cases h1:i%8=e
     ·have h2:8*(i/8)+e=i:=Y21
      rw [h2,hx];simp [h1]
     ·have h2:(8*(i/8)+e<i+1)↔(8*(i/8)+e<i):=Y21
      simp [h1,h2]
    ·have:byteN ((packI l i).set (i/8) ((byteN (packI l i) (i/8) ||| 2 ^ (i%8):Nat):Int)) j=byteN (packI l i) j:=by
      conv=>lhs;unfold byteN
      rw [List.getElem?_set_ne (fun h=>hj h.symm)];rfl
     have h2:(8*j+e<i+1)↔(8*j+e<i):=Y21
     rw [this,ih]
     simp [h2]
   ·rename_i hx
    rw [ih]
    by_cases h1:8*j+e=i
    ·have hx':l[i]?.getD false=false:=by simpa using hx
     rw [h1,hx'];simp
    ·have h2:(8*j+e<i+1)↔(8*j+e<i):=Y21
     simp [h2]
def openRow (b:List Int) (m i:Nat):List Bool:=(List.range m).map fun q=>decide (q<i)&&bitAt b q
theorem openRow_zero (b:List Int) (m:Nat):openRow b m 0=List.replicate m false:=by
 refine List.ext_getElem (by simp [openRow]) fun j h1 h2=>?_
 simp [openRow]
theorem openRow_all (b:List Int) (m:Nat):openRow b m m=openBits b m:=by
 refine List.ext_getElem (by simp [openRow,openBits]) fun j h1 h2=>?_
 simp only [openRow,List.length_map,List.length_range] at h1
 simp [openRow,openBits,h1]
theorem openRow_set (b:List Int) {m i:Nat} (h:i<m):(openRow b m i).set i (bitAt b i)=openRow b m (i+1):=by
 refine List.ext_getElem (by simp [openRow]) fun j h1 h2=>?_
 rw [List.getElem_set]
 by_cases hj:i=j
 ·subst hj;simp [openRow]
 ·have h3:(j<i+1)↔(j<i):=Y21
  rw [if_neg hj]
  simp [openRow,h3]
theorem frz_own_bools {s:St} {q:Nat→Bool} {id n:Nat} {t:TypeId} {l:List Bool} (hn:n=l.length) (hq:q id=false) (hb:s.blk id=some (.row t (l.map PV.bool))):PV.frz false s q 2 (.own id 0 n)=.sl .unk (l.map PV.bool):=by
 subst hn
 unfold PV.frz
 rw [if_neg (by rw [hq];simp),hb]
 simp only [Nat.zero_add,List.length_map,Nat.le_refl,if_true,List.drop_zero,List.take_length]
 rw [show (l.map PV.bool).take l.length=l.map PV.bool by rw [← List.length_map (f:=PV.bool),List.take_length],List.map_map]
 congr 1
theorem weaks_bools (l:List Bool):PV.weaks (l.map PV.bool)=l.map PV.bool:=weaks_map_id PV.bool (fun _=>rfl) l
theorem blws_bools (n:Nat) (l:List Bool):PV.blws n (l.map PV.bool):=blws_map PV.bool n Y309 l
theorem blws_boolsT (n:Nat) (l:List Bool):PV.blws n (l.map PV.bool)=True:=eq_true (blws_bools n l)
end Go.Proofs

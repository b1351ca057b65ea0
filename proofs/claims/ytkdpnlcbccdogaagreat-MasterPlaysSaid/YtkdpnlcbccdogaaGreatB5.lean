import Derived.Test.YtkdpnlcbccdogaaGreatB4
import Derived.Test.YtkdpnlcbccdogaaGreatB2
import Derived.Test.YtkdpnlcbccdogaaGreatB3
import Derived.Test.YtkdpnlcbccdogaaGreatB1
set_option linter.unusedVariables false
set_option linter.unusedSimpArgs false
namespace Go.Proofs
open Go.PM
set_option maxHeartbeats 2000000
def TkB (s:St) (z:Nat) (els:List PV) (c:Nat) (x:PV):Option Nat→Prop
 | none=>(x=.sl .nil []∨x=.sl .clip [])∧els=[]
 | some t=>x=.sl (.tok t z) els∧s.blk t=some (.tok els.length)∧c≤t∧t<s.nxt
theorem TkB.keep {s s':St} {z:Nat} {els:List PV} {c:Nat} {x:PV} {n:Option Nat} (h:TkB s z els c x n) (hb:∀ t,n=some t→s'.blk t=s.blk t) (hx:s.nxt≤s'.nxt):TkB s' z els c x n:=by
 cases n with
 | none=>exact h
 | some t=>exact ⟨h.1,by rw [hb t rfl];exact h.2.1,h.2.2.1,Nat.lt_of_lt_of_le h.2.2.2 hx⟩
theorem TkB.sl {s:St} {z:Nat} {els:List PV} {c:Nat} {x:PV} {n:Option Nat} (h:TkB s z els c x n):∃ k,x=.sl k els:=by
 cases n with
 | none=>obtain ⟨h1 | h1,rfl⟩:=h<;>exact ⟨_,h1⟩
 | some t=>exact ⟨_,h.1⟩
def upF {α:Type} (F:Nat→α) (k:Nat) (L:α):Nat→α:=fun i=>if i=k then L else F i
theorem upF_at {α:Type} {F:Nat→α} {k:Nat} {L:α}:upF F k L k=L:=if_pos rfl
theorem upF_ne {α:Type} {F:Nat→α} {k i:Nat} {L:α} (h:i≠k):upF F k L i=F i:=if_neg h
structure Ln4 (ty d ln c:Nat) (FS:Nat→List Int) (l:List Snt) (ns:Nat→Option Nat) (s:St):Prop where
 row:∃ xs st,s.blk ln=some (lnR ty d xs st)∧xs.length=4∧(∀ T,T<4→∃ x,xs[T]? =some x∧TkB s 1 ((FS T).map (PV.int .i64)) c x (ns T))∧TkAt s 3 (l.map Snt.pv) c st (ns 4)
 inj:∀ i j t,ns i=some t→ns j=some t→i=j
 own:∀ i t,ns i=some t→c≤t∧t<s.nxt
 hc:ln<c
 nx:c≤s.nxt
 top:∀ i,4<i→ns i=none
structure Fr4 (b n ln:Nat) (ns ns':Nat→Option Nat) (s s':St):Prop where
 nx:s.nxt≤s'.nxt
 same:∀ j,j<s.nxt→j≠ln→¬ (b≤j∧j<n)→(∀ i,ns i≠some j)→s'.blk j=s.blk j
 new:∀ i t,ns' i=some t→(∃ i',ns i'=some t)∨s.nxt≤t
theorem Fr4.refl (b n ln:Nat) (ns:Nat→Option Nat) (s:St):Fr4 b n ln ns ns s s:=⟨Nat.le_refl _,fun _ _ _ _ _=>rfl,fun i t h=>.inl ⟨i,h⟩⟩
theorem Fr4.wide {n ln:Nat} {ns ns':Nat→Option Nat} {s s':St} (h:Fr4 0 0 ln ns ns' s s') (b:Nat):Fr4 b n ln ns ns' s s':=⟨h.nx,fun j h1 h2 _ h4=>h.same j h1 h2 Y14 h4,h.new⟩
theorem Fr4.trans {b n ln:Nat} {ns n1 n2:Nat→Option Nat} {s s1 s2:St} (h:Fr4 b n ln ns n1 s s1) (k:Fr4 b n ln n1 n2 s1 s2):Fr4 b n ln ns n2 s s2:=by
 refine ⟨Nat.le_trans h.nx k.nx,fun j h1 h2 h3 h4=>?_,fun i t ht=>?_⟩
 ·rw [k.same j (Nat.lt_of_lt_of_le h1 h.nx) h2 h3 fun i hi=>?_]
  ·exact h.same j h1 h2 h3 h4
  ·rcases h.new i j hi with ⟨i',h'⟩ | h'
   ·exact h4 i' h'
   ·omega
 ·rcases k.new i t ht with ⟨i',h'⟩ | h'
  ·exact h.new i' t h'
  ·exact .inr (Nat.le_trans h.nx h')
theorem Ln4.keep {ty d ln c:Nat} {FS:Nat→List Int} {l:List Snt} {ns:Nat→Option Nat} {s s':St} (h:Ln4 ty d ln c FS l ns s) (hn:s.nxt≤s'.nxt) (he:∀ j,j<s.nxt→(j=ln∨∃ i,ns i=some j)→s'.blk j=s.blk j):Ln4 ty d ln c FS l ns s':=by
 obtain ⟨xs,st,h1,h2,h3,h4⟩:=h.row
 have hc:=h.hc
 have hx:=h.nx
 refine ⟨⟨xs,st,by rw [he ln Y14 (.inl rfl)];exact h1,h2,fun T hT=>?_,h4.keep (fun t e _=>he t (h.own _ _ e).2 (.inr ⟨_,e⟩)) hn⟩,h.inj,fun i t e=>⟨(h.own i t e).1,Nat.lt_of_lt_of_le (h.own i t e).2 hn⟩,hc,Nat.le_trans hx hn,h.top⟩
 obtain ⟨x,k1,k2⟩:=h3 T hT
 exact ⟨x,k1,k2.keep (fun t e=>he t (h.own _ _ e).2 (.inr ⟨_,e⟩)) hn⟩
theorem Ln4.nw {ty d ln c:Nat} {FS:Nat→List Int} {l:List Snt} {ns:Nat→Option Nat} {s:St} (h:Ln4 ty d ln c FS l ns s) (x:Blk):Ln4 ty d ln c FS l ns (s.new x) :=
 h.keep (Nat.le_succ _) fun j hj _=>blk_new_ne Y14
theorem Y335 {p:Prop} (h:p:=by
 by_cases g4:i=4
 ·rw [← g4,hi] at h4
  exact ⟨_,h4.2.1⟩
 ·rw [h.top i Y14] at hi;cases hi):p:=h
theorem Ln4.notrow {ty d ln c i j t:Nat} {vs:List PV} {FS:Nat→List Int} {l:List Snt} {ns:Nat→Option Nat} {s:St} (h:Ln4 ty d ln c FS l ns s) (hi:ns i=some j):s.blk j≠some (.row t vs):=by
 obtain ⟨xs,st,h1,h2,h3,h4⟩:=h.row
 have e:∃ L,s.blk j=some (.tok L):=by
  by_cases g:i<4
  ·obtain ⟨x,_,k⟩:=h3 i g
   rw [hi] at k
   exact ⟨_,k.2.1⟩
  ·exact Y335
 obtain ⟨L,e⟩:=e
 rw [e]
 intro q;cases q
theorem Y225 {p:Prop} (h:p:=by
 rw [e',upF_at] at hj
 rw [upF_ne e] at hi
 rcases hfr t hj with q | q
 ·rw [e'];exact h.inj _ _ _ hi q
 ·have:=(h.own _ _ hi).2;omega):p:=h
theorem Y280 {p:Prop} (h:p:=by
 rw [e,upF_at] at hi
 rw [upF_ne e'] at hj
 rcases hfr t hi with q | q
 ·rw [e];exact h.inj _ _ _ q hj
 ·have:=(h.own _ _ hj).2;omega):p:=h
theorem Y390 {p:Prop} (h:p:=by
 rw [upF_ne e'] at e
 exact ⟨(h.own _ _ e).1,Nat.lt_of_lt_of_le (h.own _ _ e).2 hn⟩):p:=h
theorem Ln4.chT {ty d ln c k:Nat} {FS:Nat→List Int} {l:List Snt} {ns:Nat→Option Nat} {s s':St} (h:Ln4 ty d ln c FS l ns s) (hk:k<4) {xs:List PV} {st x':PV} {L':List Int} {n':Option Nat} (hr:s.blk ln=some (lnR ty d xs st))
  (hb:s'.blk ln=some (lnR ty d (xs.set k x') st)) (hx':TkB s' 1 (L'.map (PV.int .i64)) c x' n') (hn:s.nxt≤s'.nxt) (hsame:∀ j,j<s.nxt→j≠ln→ns k≠some j→s'.blk j=s.blk j) (hfr:∀ t,n'=some t→ns k=some t∨s.nxt≤t) :
  Ln4 ty d ln c (upF FS k L') l (upF ns k n') s'∧Fr4 0 0 ln ns (upF ns k n') s s':=by
 obtain ⟨ys,st2,h1,h2,h3,h4⟩:=h.row
 rw [hr] at h1
 have e1:=Option.some.inj h1
 unfold lnR at e1
 have e2:=(PV.agg.inj (List.cons.inj (Blk.row.inj e1).2).1)
 have e3:=(List.cons.inj e2).2
 obtain ⟨rfl,e4⟩:=List.append_inj' e3 rfl
 have e5:=(List.cons.inj e4).1
 subst e5
 have hc:=h.hc
 have hx:=h.nx
 have hln:∀ i t,ns i=some t→t≠ln:=fun i t e=>by have:=(h.own i t e).1;omega
 refine ⟨⟨⟨xs.set k x',st,hb,by rw [List.length_set];exact h2,fun T hT=>?_,?_⟩,fun i j t hi hj=>?_,fun i t e=>?_,hc,Nat.le_trans hx hn,fun i hi=>by rw [upF_ne Y14];exact h.top i hi⟩,hn,fun j q1 q2 _ q3=>hsame j q1 q2 (q3 k),fun i t e=>?_⟩
 ·by_cases e:T=k
  ·subst e
   exact ⟨x',List.getElem?_set_self Y14,by rw [upF_at,upF_at];exact hx'⟩
  ·obtain ⟨x,k1,k2⟩:=h3 T hT
   refine ⟨x,by rw [List.getElem?_set_ne (Ne.symm e)];exact k1,?_⟩
   rw [upF_ne e,upF_ne e]
   exact k2.keep (fun t q=>hsame t (h.own _ _ q).2 (hln _ _ q) fun q'=>e (h.inj _ _ _ q q')) hn
 ·rw [upF_ne Y14]
  exact h4.keep (fun t q _=>hsame t (h.own _ _ q).2 (hln _ _ q) fun q'=>absurd (h.inj _ _ _ q q') Y14) hn
 ·by_cases e:i=k<;>by_cases e':j=k
  ·rw [e,e']
  ·exact Y280
  ·exact Y225
  ·rw [upF_ne e] at hi
   rw [upF_ne e'] at hj
   exact h.inj _ _ _ hi hj
 ·by_cases e':i=k
  ·rw [e',upF_at] at e
   subst e
   exact ⟨hx'.2.2.1,hx'.2.2.2⟩
  ·exact Y390
 ·by_cases e':i=k
  ·rw [e',upF_at] at e
   exact (hfr t e).imp (fun q=>⟨k,q⟩) id
  ·rw [upF_ne e'] at e
   exact .inl ⟨i,e⟩
theorem Ln4.chS {ty d ln c:Nat} {FS:Nat→List Int} {l l':List Snt} {ns:Nat→Option Nat} {s s':St} (h:Ln4 ty d ln c FS l ns s) {xs:List PV} {st x':PV} {n':Option Nat} (hr:s.blk ln=some (lnR ty d xs st))
  (hb:s'.blk ln=some (lnR ty d xs x')) (hx':TkAt s' 3 (l'.map Snt.pv) c x' n') (hn:s.nxt≤s'.nxt) (hsame:∀ j,j<s.nxt→j≠ln→ns 4≠some j→s'.blk j=s.blk j) (hfr:∀ t,n'=some t→ns 4=some t∨s.nxt≤t) :
  Ln4 ty d ln c FS l' (upF ns 4 n') s'∧Fr4 0 0 ln ns (upF ns 4 n') s s':=by
 obtain ⟨ys,st2,h1,h2,h3,h4⟩:=h.row
 rw [hr] at h1
 have e1:=Option.some.inj h1
 unfold lnR at e1
 have e2:=(PV.agg.inj (List.cons.inj (Blk.row.inj e1).2).1)
 have e3:=(List.cons.inj e2).2
 obtain ⟨rfl,e4⟩:=List.append_inj' e3 rfl
 have hc:=h.hc
 have hx:=h.nx
 have hln:∀ i t,ns i=some t→t≠ln:=fun i t e=>by have:=(h.own i t e).1;omega
 refine ⟨⟨⟨xs,x',hb,h2,fun T hT=>?_,by rw [upF_at];exact hx'⟩,fun i j t hi hj=>?_,fun i t e=>?_,hc,Nat.le_trans hx hn,fun i hi=>by rw [upF_ne Y14];exact h.top i hi⟩,hn,fun j q1 q2 _ q3=>hsame j q1 q2 (q3 4),fun i t e=>?_⟩
 ·obtain ⟨x,k1,k2⟩:=h3 T hT
  refine ⟨x,k1,?_⟩
  rw [upF_ne Y14]
  exact k2.keep (fun t q=>hsame t (h.own _ _ q).2 (hln _ _ q) fun q'=>absurd (h.inj _ _ _ q q') Y14) hn
 ·by_cases e:i=4<;>by_cases e':j=4
  ·rw [e,e']
  ·exact Y280
  ·exact Y225
  ·rw [upF_ne e] at hi
   rw [upF_ne e'] at hj
   exact h.inj _ _ _ hi hj
 ·by_cases e':i=4
  ·rw [e',upF_at] at e
   subst e
   exact ⟨hx'.2.2.1,hx'.2.2.2⟩
  ·exact Y390
 ·by_cases e':i=4
  ·rw [e',upF_at] at e
   exact (hfr t e).imp (fun q=>⟨4,q⟩) id
  ·rw [upF_ne e'] at e
   exact .inl ⟨i,e⟩
def hurtB (FS:Nat→List Int) (tn F:Int):Bool:=decide ((0≤tn∧tn<4)∧(0≤F∧F≤4)∧(FS tn.toNat).length<1000)
def hurtFS (FS:Nat→List Int) (tn F:Int):Nat→List Int:=if hurtB FS tn F=true then upF FS tn.toNat (FS tn.toNat++[F]) else FS
def takeQ (FS:Nat→List Int) (tn:Int):Int:=if 0≤tn∧tn<4 then (FS tn.toNat).headD 0 else 0
def takeFS (FS:Nat→List Int) (tn:Int):Nat→List Int:=if 0≤tn∧tn<4 then upF FS tn.toNat (FS tn.toNat).tail else FS
theorem Y336 {p:Prop} (h:p:=by rw [blk_set_ne q2,blk_set_ne (fun e=>q3 (by rw [hn,e]))]):p:=h
theorem line_HurtM {d ln c:Nat} {FS:Nat→List Int} {l:List Snt} {ns:Nat→Option Nat} {s:St} (h:Ln4 59 d ln c FS l ns s) (tn F:Int) :
  ∃ S9 ns',ACalls Tryz.prog 11 [.ptr ln 0 0,.int .i64 tn,.int .i64 F] s (fun r s'=>r=.bool (hurtB FS tn F)∧s'=S9)∧Ln4 59 d ln c (hurtFS FS tn F) l ns' S9∧Fr4 0 0 ln ns ns' s S9:=by
 have hno:hurtB FS tn F=false→ACalls Tryz.prog 11 [.ptr ln 0 0,.int .i64 tn,.int .i64 F] s (fun r s'=>r=.bool false∧s'=s)→∃ S9 ns',ACalls Tryz.prog 11 [.ptr ln 0 0,.int .i64 tn,.int .i64 F] s (fun r s'=>r=.bool (hurtB FS tn F)∧s'=S9)∧Ln4 59 d ln c (hurtFS FS tn F) l ns' S9∧Fr4 0 0 ln ns ns' s S9:=fun e q=>by
  refine ⟨s,ns,by rw [e];exact q,?_,Fr4.refl _ _ _ _ _⟩
  unfold hurtFS
  rw [e]
  exact h
 have hc:=h.hc
 have hx:=h.nx
 by_cases g1:0≤tn∧tn<4
 case neg=>exact hno (decide_eq_false fun q=>g1 q.1) (line_HurtB1 g1)
 by_cases g2:0≤F∧F≤4
 case neg =>
  refine hno (decide_eq_false fun q=>g2 q.2.1) ?_
  by_cases g3:F<0
  ·exact line_HurtB2 g1 g3
  ·exact line_HurtB3 g1 Y14
 obtain ⟨T,rfl⟩:∃ T:Nat,tn=T:=⟨tn.toNat,Y14⟩
 have hT:T<4:=Y14
 obtain ⟨xs,st,h1,h2,h3,h4⟩:=h.row
 obtain ⟨x,hxx,hk⟩:=h3 T hT
 by_cases g4:(FS T).length<1000
 case neg =>
  obtain ⟨k,rfl⟩:=hk.sl
  exact hno (decide_eq_false fun q=>g4 q.2.2) (line_HurtB4 hT g2 h2 Y14 hxx h1)
 have e:hurtB FS (T:Int) F=true:=decide_eq_true ⟨g1,g2,g4⟩
 have e2:hurtFS FS (T:Int) F=upF FS T (FS T++[F]):=by unfold hurtFS;rw [if_pos e];rfl
 rw [e,e2]
 have hown:=h.own T
 revert hk hown
 obtain ⟨n,hn⟩:∃ n,ns T=n:=⟨_,rfl⟩
 rw [hn]
 intro hk hown
 cases n with
 | none =>
   obtain ⟨hk1,hk2⟩:=hk
   have hL:FS T=[]:=by simpa using hk2
   rw [hL]
   obtain ⟨k,rfl,hkk⟩:∃ k,x=.sl k []∧(k=.nil∨k=.clip):=by rcases hk1 with q | q<;>exact ⟨_,q,Y66⟩
   refine ⟨_,_,line_HurtGN (L:=[]) hT g2 h2 hkk hxx h1,h.chT hT h1 (blk_set_self _ _ _) (n':=some s.nxt) ⟨rfl,?_,hx,Nat.lt_succ_self _⟩ (Nat.le_succ _) (fun j q1 q2 _=>?_) (fun t q=>?_)⟩
   ·rw [blk_set_ne Y14];exact blk_new_eq
   ·exact Y331
   ·cases q;exact .inr (Nat.le_refl _)
 | some t =>
   obtain ⟨rfl,k2,k3,k4⟩:=hk
   rw [List.length_map] at k2
   refine ⟨_,_,line_HurtGT (k:=.nil) hT g2 h2 g4 hxx h1 k2 Y14,h.chT hT h1 (blk_set_self _ _ _) (n':=some t) ⟨rfl,?_,k3,k4⟩ (Nat.le_refl _) (fun j q1 q2 q3=>?_) (fun t' q=>?_)⟩
   ·exact Y163
   ·exact Y336
   ·cases q;exact .inl hn
theorem ref17_HurtM {d ln c:Nat} {FS:Nat→List Int} {l:List Snt} {ns:Nat→Option Nat} {s:St} (h:Ln4 76 d ln c FS l ns s) (tn F:Int) :
  ∃ S9 ns',ACalls Tryz.prog 32 [.ptr ln 0 0,.int .i64 tn,.int .i64 F] s (fun r s'=>r=.bool (hurtB FS tn F)∧s'=S9)∧Ln4 76 d ln c (hurtFS FS tn F) l ns' S9∧Fr4 0 0 ln ns ns' s S9:=by
 have hno:hurtB FS tn F=false→ACalls Tryz.prog 32 [.ptr ln 0 0,.int .i64 tn,.int .i64 F] s (fun r s'=>r=.bool false∧s'=s)→∃ S9 ns',ACalls Tryz.prog 32 [.ptr ln 0 0,.int .i64 tn,.int .i64 F] s (fun r s'=>r=.bool (hurtB FS tn F)∧s'=S9)∧Ln4 76 d ln c (hurtFS FS tn F) l ns' S9∧Fr4 0 0 ln ns ns' s S9:=fun e q=>by
  refine ⟨s,ns,by rw [e];exact q,?_,Fr4.refl _ _ _ _ _⟩
  unfold hurtFS
  rw [e]
  exact h
 have hc:=h.hc
 have hx:=h.nx
 by_cases g1:0≤tn∧tn<4
 case neg=>exact hno (decide_eq_false fun q=>g1 q.1) (if q:tn<0 then ref17_HurtB1a q else ref17_HurtB1b Y14)
 by_cases g2:0≤F∧F≤4
 case neg =>
  refine hno (decide_eq_false fun q=>g2 q.2.1) ?_
  by_cases g3:F<0
  ·exact ref17_HurtB2 g1 g3
  ·exact ref17_HurtB3 g1 Y14
 obtain ⟨T,rfl⟩:∃ T:Nat,tn=T:=⟨tn.toNat,Y14⟩
 have hT:T<4:=Y14
 obtain ⟨xs,st,h1,h2,h3,h4⟩:=h.row
 obtain ⟨x,hxx,hk⟩:=h3 T hT
 by_cases g4:(FS T).length<1000
 case neg =>
  obtain ⟨k,rfl⟩:=hk.sl
  exact hno (decide_eq_false fun q=>g4 q.2.2) (ref17_HurtB4 hT g2 h2 Y14 hxx h1)
 have e:hurtB FS (T:Int) F=true:=decide_eq_true ⟨g1,g2,g4⟩
 have e2:hurtFS FS (T:Int) F=upF FS T (FS T++[F]):=by unfold hurtFS;rw [if_pos e];rfl
 rw [e,e2]
 have hown:=h.own T
 revert hk hown
 obtain ⟨n,hn⟩:∃ n,ns T=n:=⟨_,rfl⟩
 rw [hn]
 intro hk hown
 cases n with
 | none =>
   obtain ⟨hk1,hk2⟩:=hk
   have hL:FS T=[]:=by simpa using hk2
   rw [hL]
   obtain ⟨k,rfl,hkk⟩:∃ k,x=.sl k []∧(k=.nil∨k=.clip):=by rcases hk1 with q | q<;>exact ⟨_,q,Y66⟩
   refine ⟨_,_,ref17_HurtGN (L:=[]) hT g2 h2 hkk hxx h1,h.chT hT h1 (blk_set_self _ _ _) (n':=some s.nxt) ⟨rfl,?_,hx,Nat.lt_succ_self _⟩ (Nat.le_succ _) (fun j q1 q2 _=>?_) (fun t q=>?_)⟩
   ·rw [blk_set_ne Y14];exact blk_new_eq
   ·exact Y331
   ·cases q;exact .inr (Nat.le_refl _)
 | some t =>
   obtain ⟨rfl,k2,k3,k4⟩:=hk
   rw [List.length_map] at k2
   refine ⟨_,_,ref17_HurtGT (k:=.nil) hT g2 h2 g4 hxx h1 k2 Y14,h.chT hT h1 (blk_set_self _ _ _) (n':=some t) ⟨rfl,?_,k3,k4⟩ (Nat.le_refl _) (fun j q1 q2 q3=>?_) (fun t' q=>?_)⟩
   ·exact Y163
   ·exact Y336
   ·cases q;exact .inl hn
def FOk (FS:Nat→List Int):Prop:=∀ T,(FS T).length≤1000∧∀ f∈FS T,0≤f∧f≤4
theorem FOk.hurt {FS:Nat→List Int} (h:FOk FS) (tn F:Int):FOk (hurtFS FS tn F):=by
 unfold hurtFS
 split
 ·rename_i e
  have e:=of_decide_eq_true e
  intro T
  by_cases g:T=tn.toNat
  ·subst g
   rw [upF_at]
   refine ⟨Y107,fun f hf=>?_⟩
   rcases List.mem_append.1 hf with hf | hf
   ·exact (h _).2 f hf
   ·rw [List.mem_singleton.1 hf];exact e.2.1
  ·rw [upF_ne g];exact h T
 ·exact h
theorem FOk.take {FS:Nat→List Int} (h:FOk FS) (tn:Int):FOk (takeFS FS tn):=by
 unfold takeFS
 split
 ·intro T
  by_cases g:T=tn.toNat
  ·subst g
   rw [upF_at]
   exact ⟨by rw [List.length_tail];have:=(h tn.toNat).1;omega,fun f hf=>(h _).2 f (List.mem_of_mem_tail hf)⟩
  ·rw [upF_ne g];exact h T
 ·exact h
theorem FOk.q {FS:Nat→List Int} (h:FOk FS) (tn:Int):0≤takeQ FS tn∧takeQ FS tn≤4:=by
 unfold takeQ
 split
 ·cases hl:FS tn.toNat with
  | nil=>decide
  | cons f L=>exact (h tn.toNat).2 f (by rw [hl];simp)
 ·decide
end Go.Proofs
namespace Go.Proofs
open Go.PM
set_option maxHeartbeats 2000000
theorem Y391 {p:Prop} (h:p:=by rw [e _ Y14 Y14];exact h.st):p:=h
theorem Y392 {p:Prop} (h:p:=by rw [e _ Y14 Y14];exact h.c0):p:=h
theorem Y393 {p:Prop} (h:p:=by rw [e _ Y14 Y14];exact h.c1):p:=h
theorem Y394 {p:Prop} (h:p:=by rw [e _ Y14 Y14];exact h.v0):p:=h
theorem Y395 {p:Prop} (h:p:=by rw [e _ Y14 Y14];exact h.v1):p:=h
theorem Y396 {p:Prop} (h:p:=by rw [e _ Y14 Y14];exact h.dv):p:=h
theorem DevAt.eq4 {b ln c ty d:Nat} {FS:Nat→List Int} {l:List Snt} {ns ns':Nat→Option Nat} {D:Dev} {s s':St} (h:DevAt b D s) (hl:Ln4 ty d ln c FS l ns s) (hb:b+5<ln) (f:Fr4 0 0 ln ns ns' s s'):DevAt b D s':=by
 have hc:=hl.hc
 have hx:=hl.nx
 have e:∀ j,b≤j→j≤b+5→s'.blk j=s.blk j:=fun j h1 h2=>f.same j Y14 Y14 Y14 fun i hi=>by have:=(hl.own i j hi).1;omega
 exact ⟨Y391,Y392,Y393,Y394,Y395,Y396⟩
theorem RefAt.eq4 {b ln c ty d:Nat} {FS:Nat→List Int} {l:List Snt} {ns ns':Nat→Option Nat} {D:Dev} {s s':St} (h:RefAt b D s) (hl:Ln4 ty d ln c FS l ns s) (hb:b+5<ln) (f:Fr4 0 0 ln ns ns' s s'):RefAt b D s':=by
 have hc:=hl.hc
 have hx:=hl.nx
 have e:∀ j,b≤j→j≤b+5→s'.blk j=s.blk j:=fun j h1 h2=>f.same j Y14 Y14 Y14 fun i hi=>by have:=(hl.own i j hi).1;omega
 exact ⟨Y391,Y392,Y393,Y394,Y395,Y396⟩
theorem Ln4.putDev {b ln c ty d:Nat} {FS:Nat→List Int} {l:List Snt} {ns:Nat→Option Nat} {D:Dev} {s:St} (hl:Ln4 ty d ln c FS l ns s) (hb:b+5<ln):Ln4 ty d ln c FS l ns (putDev b D s)∧Fr4 b (b+6) ln ns ns s (putDev b D s):=by
 have hc:=hl.hc
 refine ⟨hl.keep (Nat.le_refl _) fun j _ h=>?_,Nat.le_refl _,fun j q1 q2 q3 _=>?_,fun i t h=>.inl ⟨i,h⟩⟩
 ·rcases h with rfl | ⟨i,h⟩
  ·exact putDev_hi Y14
  ·exact putDev_hi (by have:=(hl.own i j h).1;omega)
 ·by_cases h:j<b
  ·exact putDev_lo Y14
  ·exact putDev_hi Y14
theorem Ln4.putRef {b ln c ty d:Nat} {FS:Nat→List Int} {l:List Snt} {ns:Nat→Option Nat} {D:Dev} {s:St} (hl:Ln4 ty d ln c FS l ns s) (hb:b+5<ln):Ln4 ty d ln c FS l ns (putRef b D s)∧Fr4 b (b+6) ln ns ns s (putRef b D s):=by
 have hc:=hl.hc
 refine ⟨hl.keep (Nat.le_refl _) fun j _ h=>?_,Nat.le_refl _,fun j q1 q2 q3 _=>?_,fun i t h=>.inl ⟨i,h⟩⟩
 ·rcases h with rfl | ⟨i,h⟩
  ·exact putRef_hi Y14
  ·exact putRef_hi (by have:=(hl.own i j h).1;omega)
 ·by_cases h:j<b
  ·exact putRef_lo Y14
  ·exact putRef_hi Y14
theorem Y337 {p:Prop} (h:p:=by exact (fun t' q=>by cases q;exact .inr (Nat.le_refl _))):p:=h
theorem ref17_SendM {b ln c:Nat} {FS:Nat→List Int} {l:List Snt} {ns:Nat→Option Nat} {D:Dev} {s:St} (h:Ln4 76 (b+5) ln c FS l ns s) (hA:RefAt b D s) (hD:D.ok) (hbl:b+5<ln) (hF:FOk FS) (hll:l.length≤100000) {fr:List Int} (hfo:OkB fr) (hfl:fr.length≤140737488350000) {tick tn:Int}
  {B:List Int} {D':Dev} (hs:sendF (takeQ FS tn) D fr=(B,D')) (hlen:D'.c0.length=D.c0.length) :
  ∃ S9 ns',ACalls Tryz.prog 48 [.ptr ln 0 0,.int .i64 tn,.int .i64 tick,.sl .unk (fr.map (PV.int .u8))] s (fun r s'=>r=.sl .unk (B.map (PV.int .u8))∧s'=S9)∧Ln4 76 (b+5) ln c (takeFS FS tn) (l++[(⟨tick,tn,fr⟩:Snt)]) ns' S9∧RefAt b D' S9∧Fr4 b (b+6) ln ns ns' s S9:=by
 have hc:=h.hc
 have hx:=h.nx
 have hq:=hF.q tn
 obtain ⟨xs,st,h1,h2,h3,h4⟩:=h.row
 obtain ⟨k0,kv,ev,S1,rfl,hap,h1l,n1,f1⟩:∃ (k0 kv:SK) (ev:List PV) (S1:St),st=.sl k0 (l.map Snt.pv)∧aAppend Tryz.prog 54 k0 (l.map Snt.pv) [Snt.pv (⟨tick,tn,fr⟩:Snt)] s=some (.sl kv ev,S1)∧S1.blk ln=s.blk ln∧Ln4 76 (b+5) ln c FS (l++[(⟨tick,tn,fr⟩:Snt)]) (upF ns 4 (match ns 4 with | some t=>some t | none=>some s.nxt)) (S1.set ln (some (lnR 76 (b+5) xs (.sl kv ev))))∧Fr4 0 0 ln ns (upF ns 4 (match ns 4 with | some t=>some t | none=>some s.nxt)) s (S1.set ln (some (lnR 76 (b+5) xs (.sl kv ev)))):=by
  have hown:=h.own 4
  revert h4 hown
  obtain ⟨n,hn⟩:∃ n,ns 4=n:=⟨_,rfl⟩
  rw [hn]
  intro h4 hown
  cases n with
  | none =>
    obtain ⟨rfl,hl0⟩:=h4
    have hl0:l=[]:=by simpa using hl0
    subst hl0
    refine ⟨.nil,.tok s.nxt 3,[(⟨tick,tn,fr⟩:Snt)].map Snt.pv,(s.new (.tok [(⟨tick,tn,fr⟩:Snt)].length)),rfl,aAppend_nilL (f:=Snt.pv) (ys:=[(⟨tick,tn,fr⟩:Snt)]) Y66 (by rw [Tryz.cz54]),blk_new_ne Y14,h.chS h1 (blk_set_self _ _ _) (n':=some s.nxt) ⟨rfl,?_,hx,Nat.lt_succ_self _⟩ (Nat.le_succ _) (fun j q1 q2 q3=>?_) (fun t' q=>?_)⟩
    ·rw [blk_set_ne Y14];exact blk_new_eq
    ·exact Y331
    ·cases q;exact .inr (Nat.le_refl _)
  | some t =>
    obtain ⟨rfl,k2,k3,k4⟩:=h4
    rw [List.length_map] at k2
    refine ⟨.tok t 3,.tok t 3,(l++[(⟨tick,tn,fr⟩:Snt)]).map Snt.pv,(s.set t (some (.tok (l++[(⟨tick,tn,fr⟩:Snt)]).length))),rfl,aAppend_tokL (f:=Snt.pv) (xs:=l) (ys:=[(⟨tick,tn,fr⟩:Snt)]) rfl Y66 k2 rfl (by rw [Tryz.cz54]),blk_set_ne Y14,h.chS h1 (blk_set_self _ _ _) (n':=some t) ⟨rfl,?_,k3,k4⟩ (Nat.le_refl _) (fun j q1 q2 q3=>?_) (fun t' q=>?_)⟩
    ·exact Y163
    ·exact Y336
    ·cases q;exact .inl hn
 obtain ⟨m1,hm1⟩:∃ m,upF ns 4 (match ns 4 with | some t=>some t | none=>some s.nxt)=m:=⟨_,rfl⟩
 rw [hm1] at n1 f1
 have hA1:=hA.eq4 h hbl f1
 have hx1:=n1.nx
 obtain ⟨f,hfe⟩:∃ y,takeQ FS tn=y:=⟨_,rfl⟩
 have hcase:∃ S3 m3,((f=0∧S3=S1.set ln (some (lnR 76 (b+5) xs (.sl kv ev)))∧(¬ (0≤tn∧tn<4)∨∃ (k:SK) (T:Nat),tn=(T:Int)∧T<4∧xs[T]? =some (.sl k []))) ∨
   ∃ (T t:Nat) (L:List Int) (kw:SK) (ew:List PV) (S2:St),tn=(T:Int)∧T<4∧xs[T]? =some (.sl (.tok t 1) ((f::L).map (PV.int .i64)))∧L.length≤1000∧aAppend Tryz.prog 3 .clip [] (L.map (PV.int .i64)) (S1.set ln (some (lnR 76 (b+5) xs (.sl kv ev))))=some (.sl kw ew,S2)∧S2.blk ln=some (lnR 76 (b+5) xs (.sl kv ev))∧S3=S2.set ln (some (lnR 76 (b+5) (xs.set T (.sl kw ew)) (.sl kv ev)))) ∧
   (∃ xs3:List PV,xs3.length=4∧S3.blk ln=some (lnR 76 (b+5) xs3 (.sl kv ev)))∧Ln4 76 (b+5) ln c (takeFS FS tn) (l++[(⟨tick,tn,fr⟩:Snt)]) m3 S3∧Fr4 0 0 ln m1 m3 (S1.set ln (some (lnR 76 (b+5) xs (.sl kv ev)))) S3:=by
  unfold takeQ at hfe
  unfold takeFS
  by_cases g1:0≤tn∧tn<4
  case neg =>
   rw [if_neg g1] at hfe
   rw [if_neg g1]
   exact ⟨_,m1,.inl ⟨hfe.symm,rfl,.inl g1⟩,⟨xs,h2,blk_set_self _ _ _⟩,n1,Fr4.refl _ _ _ _ _⟩
  rw [if_pos g1] at hfe
  rw [if_pos g1]
  obtain ⟨T,rfl⟩:∃ T:Nat,tn=T:=⟨tn.toNat,Y14⟩
  have hT:T<4:=Y14
  have hl1:=(hF T).1
  have hfe:(FS T).headD 0=f:=hfe
  show ∃ S3 m3,_∧_∧Ln4 _ _ ln c (upF FS T (FS T).tail) _ m3 S3∧_
  obtain ⟨x,hxx,hk⟩:=h3 T hT
  cases hL:FS T with
  | nil =>
    rw [hL] at hk hfe
    obtain ⟨k,rfl⟩:=hk.sl
    refine ⟨_,m1,.inl ⟨hfe.symm,rfl,.inr ⟨k,T,rfl,hT,hxx⟩⟩,⟨xs,h2,blk_set_self _ _ _⟩,?_,Fr4.refl _ _ _ _ _⟩
    have e:upF FS T ([]:List Int).tail=FS:=by
     funext i
     by_cases e:i=T
     ·rw [e,upF_at,hL];rfl
     ·exact upF_ne e
    rw [e]
    exact n1
  | cons g L =>
    rw [hL] at hk hl1 hfe
    obtain rfl:g=f:=hfe
    cases hn:ns T with
    | none=>rw [hn] at hk;exact absurd hk.2 Y66
    | some t =>
      rw [hn] at hk
      obtain ⟨rfl,k2,k3,k4⟩:=hk
      show ∃ S3 m3,_∧_∧Ln4 _ _ ln c (upF FS T L) _ m3 S3∧_
      by_cases hL0:L=[]
      ·subst hL0
       obtain ⟨r1,r2⟩:=n1.chT (x':=.sl .clip []) (L':=[]) (n':=none) (s':=(S1.set ln (some (lnR 76 (b+5) xs (.sl kv ev)))).set ln (some (lnR 76 (b+5) (xs.set T (.sl .clip [])) (.sl kv ev)))) hT (blk_set_self _ _ _) (blk_set_self _ _ _) ⟨.inr rfl,rfl⟩ (Nat.le_refl _) (fun j q1 q2 q3=>blk_set_ne q2) (fun t' q=>by cases q)
       exact ⟨_,_,.inr ⟨T,t,[],.clip,[],_,rfl,hT,hxx,Y66,by unfold aAppend;exact if_pos rfl,blk_set_self _ _ _,rfl⟩,⟨_,by rw [List.length_set];exact h2,blk_set_self _ _ _⟩,r1,r2⟩
      ·obtain ⟨r1,r2⟩:=n1.chT (x':=.sl (.tok S1.nxt 1) (L.map (PV.int .i64))) (L':=L) (n':=some S1.nxt) (s':=((S1.set ln (some (lnR 76 (b+5) xs (.sl kv ev)))).new (.tok L.length)).set ln (some (lnR 76 (b+5) (xs.set T (.sl (.tok S1.nxt 1) (L.map (PV.int .i64)))) (.sl kv ev)))) hT (blk_set_self _ _ _) (blk_set_self _ _ _) ⟨rfl,by rw [blk_set_ne (show S1.nxt≠ln by have:c≤S1.nxt:=hx1;omega),List.length_map];exact blk_new_eq,hx1,Nat.lt_succ_self _⟩ (Nat.le_succ _) (fun j q1 q2 q3=>by rw [blk_set_ne q2,blk_new_ne Y14]) Y337
       exact ⟨_,_,.inr ⟨T,t,L,.tok S1.nxt 1,L.map (PV.int .i64),_,rfl,hT,hxx,by simp at hl1;omega,app_new (f:=PV.int .i64) (.inr rfl) hL0 (by rw [Tryz.cz3]),by rw [blk_new_ne (by have:c≤S1.nxt:=hx1;show ln≠S1.nxt;omega)];exact blk_set_self _ _ _,rfl⟩,⟨_,by rw [List.length_set];exact h2,blk_set_self _ _ _⟩,r1,r2⟩
 obtain ⟨S3,m3,hcase,hl3,n3,f3⟩:=hcase
 have hA3:=hA1.eq4 n1 hbl f3
 rw [hfe] at hs hq
 have hx3:=n3.nx
 have hc3:=n3.hc
 by_cases hO:f=3∧((rtuF fr).2=0∧(rtuF fr).1.1=17)∧(pduF D (rtuF fr).1.2).1≠[]∧(pduF D (rtuF fr).1.2).1.length≤253
 ·obtain ⟨q1,q2,q3,q4⟩:=hO
  have hs':sendF f D fr=(flipL (frameF (pduF D (rtuF fr).1.2).1),(pduF D (rtuF fr).1.2).2):=by
   unfold sendF
   rw [if_pos q2,q1]
   rfl
  rw [hs'] at hs
  obtain ⟨e1,e2⟩:=Prod.mk.inj hs
  obtain ⟨p1,p2⟩:=n3.putRef (D:=D') hbl
  have hkp:∀ j,j<S3.nxt→((sealS (17::(pduF D (rtuF fr).1.2).1) ((putRef b D' S3).new (.tok (17::(pduF D (rtuF fr).1.2).1).length))).set (S3.nxt+2) none).blk j=(putRef b D' S3).blk j:=fun j hj=>by
   unfold sealS
   rw [blk_set_ne Y14,blk_new_ne (by show j≠S3.nxt+2;omega),blk_set_ne (by show j≠S3.nxt+1;omega),blk_new_ne (by show j≠S3.nxt+1;omega),blk_new_ne (by show j≠S3.nxt;omega)]
  have hnx:S3.nxt≤((sealS (17::(pduF D (rtuF fr).1.2).1) ((putRef b D' S3).new (.tok (17::(pduF D (rtuF fr).1.2).1).length))).set (S3.nxt+2) none).nxt:=by show S3.nxt≤S3.nxt+1+1+1;omega
  have hA9:=hA3.put (D':=D') hlen
  refine ⟨_,m3,(ref17_SendO hq hfo hfl hll h2 h1 hD hap (h1l.trans h1) hcase hl3 hA3 q1 q2 q3 q4).mono fun y s' ⟨z1,z2⟩=>⟨by rw [z1,hs',e1],by rw [z2,e2]⟩,p1.keep hnx fun j hj _=>hkp j hj,?_,?_⟩
  ·have e:∀ j,b≤j→j≤b+5→_:=fun j h1 h2=>hkp j Y14
   exact ⟨by rw [e _ Y14 Y14];exact hA9.st,by rw [e _ Y14 Y14];exact hA9.c0,by rw [e _ Y14 Y14];exact hA9.c1,by rw [e _ Y14 Y14];exact hA9.v0,by rw [e _ Y14 Y14];exact hA9.v1,by rw [e _ Y14 Y14];exact hA9.dv⟩
  ·refine ((f1.trans f3).wide b).trans (p2.trans ⟨hnx,fun j w1 _ _ _=>hkp j w1,fun i t h=>.inl ⟨i,h⟩⟩)
 ·have hv:f=3→(rtuF fr).2=0→(rtuF fr).1.1=17→frameF (pduF D (rtuF fr).1.2).1=[]:=fun q1 q2 q3=>by
   by_cases q4:(pduF D (rtuF fr).1.2).1=[]
   ·rw [q4];rfl
   ·have q5:¬ (pduF D (rtuF fr).1.2).1.length≤253:=fun q5=>hO ⟨q1,⟨q2,q3⟩,q4,q5⟩
    unfold frameF frameA
    rw [if_neg Y15,if_neg q4,if_pos Y14]
  obtain ⟨p1,p2⟩:=n3.putRef (D:=D') hbl
  have e1:(sendF f D fr).1=B:=by rw [hs]
  have e2:(sendF f D fr).2=D':=by rw [hs]
  exact ⟨_,m3,(ref17_SendW hq hfo hfl hll h2 h1 hD hap (h1l.trans h1) hcase hl3 hA3 hv).mono fun y s' ⟨z1,z2⟩=>⟨by rw [z1,e1],by rw [z2,e2]⟩,p1,hA3.put hlen,((f1.trans f3).wide b).trans p2⟩
end Go.Proofs
namespace Go.Proofs
open Go.PM
set_option maxHeartbeats 2000000
theorem DevAt.eqv5 {b:Nat} {D:Dev} {s s':St} (h:DevAt b D s) (e:∀ j,b≤j→j≤b+5→s'.blk j=s.blk j):DevAt b D s' :=
 ⟨Y391,Y392,Y393,Y394,Y395,Y396⟩
theorem RefAt.eqv5 {b:Nat} {D:Dev} {s s':St} (h:RefAt b D s) (e:∀ j,b≤j→j≤b+5→s'.blk j=s.blk j):RefAt b D s' :=
 ⟨Y391,Y392,Y393,Y394,Y395,Y396⟩
structure L2 (s0:St) (DA DW:Dev) (FA FW:Nat→List Int) (lA lW:List Snt) (nA nW:Nat→Option Nat) (S:St):Prop where
 A:Ln4 59 (s0.nxt+5) (s0.nxt+6) (s0.nxt+14) FA lA nA S
 W:Ln4 76 (s0.nxt+7+5) (s0.nxt+13) (s0.nxt+14) FW lW nW S
 dA:DevAt s0.nxt DA S
 dW:RefAt (s0.nxt+7) DW S
 dj:∀ i j t,nA i=some t→nW j≠some t
 low:∀ j,j<s0.nxt→S.blk j=s0.blk j
theorem L2.opA {s0 S S':St} {DA DA' DW:Dev} {FA FA' FW:Nat→List Int} {lA lA' lW:List Snt} {nA nA' nW:Nat→Option Nat} (h:L2 s0 DA DW FA FW lA lW nA nW S) (hA:Ln4 59 (s0.nxt+5) (s0.nxt+6) (s0.nxt+14) FA' lA' nA' S') (hd:DevAt s0.nxt DA' S') (f:Fr4 s0.nxt (s0.nxt+6) (s0.nxt+6) nA nA' S S'):L2 s0 DA' DW FA' FW lA' lW nA' nW S':=by
 have hx:=h.A.nx
 have own:∀ j,j<s0.nxt+14→∀ i,nA i≠some j:=fun j hj i hi=>by have:=(h.A.own i j hi).1;omega
 refine ⟨hA,h.W.keep f.nx fun j hj hc=>?_,hd,h.dW.eqv5 fun j h1 h2=>f.same j Y14 Y14 Y14 (own j Y14),fun i j t h1 h2=>?_,fun j hj=>?_⟩
 ·rcases hc with rfl | ⟨i,hi⟩
  ·exact f.same _ hj Y14 Y14 (own _ Y14)
  ·have:=(h.W.own i j hi).1
   exact f.same _ hj Y14 Y14 fun k hk=>h.dj k i j hk hi
 ·rcases f.new i t h1 with ⟨i',h'⟩ | h'
  ·exact h.dj i' j t h' h2
  ·have:=(h.W.own j t h2).2;omega
 ·rw [f.same j Y14 Y14 Y14 (own j Y14)];exact h.low j hj
theorem L2.opW {s0 S S':St} {DA DW DW':Dev} {FA FW FW':Nat→List Int} {lA lW lW':List Snt} {nA nW nW':Nat→Option Nat} (h:L2 s0 DA DW FA FW lA lW nA nW S) (hW:Ln4 76 (s0.nxt+7+5) (s0.nxt+13) (s0.nxt+14) FW' lW' nW' S') (hd:RefAt (s0.nxt+7) DW' S') (f:Fr4 (s0.nxt+7) (s0.nxt+7+6) (s0.nxt+13) nW nW' S S'):L2 s0 DA DW' FA FW' lA lW' nA nW' S':=by
 have hx:=h.W.nx
 have own:∀ j,j<s0.nxt+14→∀ i,nW i≠some j:=fun j hj i hi=>by have:=(h.W.own i j hi).1;omega
 refine ⟨h.A.keep f.nx fun j hj hc=>?_,hW,h.dA.eqv5 fun j h1 h2=>f.same j Y14 Y14 Y14 (own j Y14),hd,fun i j t h1 h2=>?_,fun j hj=>?_⟩
 ·rcases hc with rfl | ⟨i,hi⟩
  ·exact f.same _ hj Y14 Y14 (own _ Y14)
  ·have:=(h.A.own i j hi).1
   exact f.same _ hj Y14 Y14 fun k hk=>h.dj i k j hi hk
 ·rcases f.new j t h2 with ⟨i',h'⟩ | h'
  ·exact h.dj i i' t h1 h'
  ·have:=(h.A.own i t h1).2;omega
 ·rw [f.same j Y14 Y14 Y14 (own j Y14)];exact h.low j hj
theorem L2.keep {s0 S S':St} {DA DW:Dev} {FA FW:Nat→List Int} {lA lW:List Snt} {nA nW:Nat→Option Nat} (h:L2 s0 DA DW FA FW lA lW nA nW S) (hn:S.nxt≤S'.nxt) (e:∀ j,j<S.nxt→(j<s0.nxt+14∨(∃ i,nA i=some j)∨∃ i,nW i=some j)→S'.blk j=S.blk j):L2 s0 DA DW FA FW lA lW nA nW S':=by
 have hx:=h.A.nx
 exact ⟨h.A.keep hn fun j hj hc=>e j hj (hc.elim (fun q=>.inl Y14) fun q=>.inr (.inl q)),h.W.keep hn fun j hj hc=>e j hj (hc.elim (fun q=>.inl Y14) fun q=>.inr (.inr q)),h.dA.eqv5 fun j h1 h2=>e j Y14 (.inl Y14),h.dW.eqv5 fun j h1 h2=>e j Y14 (.inl Y14),h.dj,fun j hj=>by rw [e j Y14 (.inl Y14)];exact h.low j hj⟩
theorem L2.nw {s0 S:St} {DA DW:Dev} {FA FW:Nat→List Int} {lA lW:List Snt} {nA nW:Nat→Option Nat} (h:L2 s0 DA DW FA FW lA lW nA nW S) (x:Blk):L2 s0 DA DW FA FW lA lW nA nW (S.new x) :=
 h.keep (Nat.le_succ _) fun j hj _=>blk_new_ne Y14
theorem L2.frA {s0 S S':St} {DA DW:Dev} {FA FW:Nat→List Int} {lA lW:List Snt} {nA nA' nW:Nat→Option Nat} (h:L2 s0 DA DW FA FW lA lW nA nW S) (f:Fr4 s0.nxt (s0.nxt+6) (s0.nxt+6) nA nA' S S') {j t:Nat} {vs:List PV} (hj:S.blk j=some (.row t vs)) (h1:s0.nxt+14≤j) (h2:j<S.nxt):S'.blk j=some (.row t vs):=by
 rw [f.same j h2 Y14 Y14 fun i hi=>?_];exact hj
 exact absurd hj (h.A.notrow hi)
theorem L2.frW {s0 S S':St} {DA DW:Dev} {FA FW:Nat→List Int} {lA lW:List Snt} {nA nW nW':Nat→Option Nat} (h:L2 s0 DA DW FA FW lA lW nA nW S) (f:Fr4 (s0.nxt+7) (s0.nxt+7+6) (s0.nxt+13) nW nW' S S') {j t:Nat} {vs:List PV} (hj:S.blk j=some (.row t vs)) (h1:s0.nxt+14≤j) (h2:j<S.nxt):S'.blk j=some (.row t vs):=by
 rw [f.same j h2 Y14 Y14 fun i hi=>?_];exact hj
 exact absurd hj (h.W.notrow hi)
end Go.Proofs
namespace Go.Proofs
open Go.PM
set_option maxHeartbeats 2000000
theorem line_DevM {d ln c:Nat} {FS:Nat→List Int} {l:List Snt} {ns:Nat→Option Nat} {s:St} (h:Ln4 59 d ln c FS l ns s):ACalls Tryz.prog 31 [.ptr ln 0 0] s (fun r s'=>r=.ptr d 0 0∧s'=s):=by
 obtain ⟨xs,st,h1,h2,_⟩:=h.row
 match xs,h2,h1 with
 | [a0,a1,a2,a3],_,h1=>exact line_Device (a0:=a0) (a1:=a1) (a2:=a2) (a3:=a3) (st:=st) h1
theorem line_SentM {d ln c:Nat} {FS:Nat→List Int} {l:List Snt} {ns:Nat→Option Nat} {s:St} (h:Ln4 59 d ln c FS l ns s) (hll:l.length≤100000) (hld:∀ x∈l,x.data.length≤140737488350000):ACalls Tryz.prog 17 [.ptr ln 0 0] s (fun r s'=>r=.sl .unk (l.map Snt.pv)∧s'=s):=by
 obtain ⟨xs,st,h1,h2,_,h4⟩:=h.row
 obtain ⟨k,rfl⟩:∃ k,st=.sl k (l.map Snt.pv):=by
  cases hn:ns 4 with
  | none=>rw [hn] at h4;exact ⟨_,by rw [h4.1,h4.2]⟩
  | some t=>rw [hn] at h4;exact ⟨_,h4.1⟩
 match xs,h2,h1 with
 | [a0,a1,a2,a3],_,h1=>exact line_Sent hll hld (a0:=a0) (a1:=a1) (a2:=a2) (a3:=a3) h1
theorem TkB.nres {s:St} {z:Nat} {els:List PV} {c:Nat} {x:PV} {t r:Nat} (h:TkB s z els c x (some t)) (hr:s.blk r=some .res):t≠r:=by
 rintro rfl
 rw [h.2.1] at hr;cases hr
theorem line_takeMV {d ln c r:Nat} {FS:Nat→List Int} {l:List Snt} {ns:Nat→Option Nat} {s:St} (h:Ln4 59 d ln c FS l ns s) (hF:FOk FS) (tn:Int) (hr:c≤r) (hrx:r<s.nxt) (hrb:s.blk r=some .res) :
  ∃ S9 ns',(∀ v,ACalls Tryz.prog 44 [.ptr ln 0 0,.int .i64 tn] (s.set r v) (fun x s'=>x=.int .i64 (takeQ FS tn)∧s'=S9.set r v))∧Ln4 59 d ln c (takeFS FS tn) l ns' S9∧Fr4 0 0 ln ns ns' s S9∧S9.blk r=some .res:=by
 have hc:=h.hc
 have hx:=h.nx
 unfold takeQ takeFS
 by_cases g1:0≤tn∧tn<4
 case neg=>rw [if_neg g1,if_neg g1];exact ⟨s,ns,fun v=>line_takeB g1,h,Fr4.refl _ _ _ _ _,hrb⟩
 rw [if_pos g1,if_pos g1]
 obtain ⟨T,rfl⟩:∃ T:Nat,tn=T:=⟨tn.toNat,Y14⟩
 have hT:T<4:=Y14
 show ∃ S9 ns',(∀ v,ACalls _ _ _ _ (fun r' s'=>r'=.int .i64 ((FS T).headD 0)∧s'=S9.set r v))∧Ln4 _ d ln c (upF FS T (FS T).tail) l ns' S9∧_
 obtain ⟨xs,st,h1,h2,h3,h4⟩:=h.row
 obtain ⟨x,hxx,hk⟩:=h3 T hT
 have h1':∀ v,(s.set r v).blk ln=some (lnR 59 d xs st):=fun v=>by rw [blk_set_ne Y14];exact h1
 have hl1:=(hF T).1
 cases hL:FS T with
 | nil =>
   obtain ⟨k,rfl⟩:=hk.sl
   refine ⟨s,ns,fun v=>line_takeG0 hT h2 hxx (h1' v) hL,?_,Fr4.refl _ _ _ _ _,hrb⟩
   have e:upF FS T ([]:List Int).tail=FS:=by
    funext i
    by_cases e:i=T
    ·rw [e,upF_at,hL];rfl
    ·exact upF_ne e
   rw [e]
   exact h
 | cons f L =>
   rw [hL] at hk hl1
   revert hk
   obtain ⟨n,hn⟩:∃ n,ns T=n:=⟨_,rfl⟩
   rw [hn]
   intro hk
   cases n with
   | none=>exact absurd hk.2 Y66
   | some t =>
     have htr:=hk.nres hrb
     obtain ⟨rfl,k2,k3,k4⟩:=hk
     rw [List.length_map] at k2
     obtain ⟨p1,p2⟩:=h.chT (L':=L) (x':=.sl (.tok s.nxt 1) (L.map (PV.int .i64))) (s':=((s.set t none).new (.tok L.length)).set ln (some (lnR 59 d (xs.set T (.sl (.tok s.nxt 1) (L.map (PV.int .i64)))) st))) hT h1 (blk_set_self _ _ _) (n':=some s.nxt) ⟨rfl,by rw [blk_set_ne Y14,List.length_map];exact blk_new_eq,hx,Nat.lt_succ_self _⟩ (Nat.le_succ _) (fun j q1 q2 q3=>by rw [blk_set_ne q2,blk_new_ne (by show j≠s.nxt;omega),blk_set_ne (fun e=>q3 (by rw [hn,e]))]) Y337
     refine ⟨_,_,fun v=>?_,p1,p2,Y334⟩
     refine (line_takeGC hT h2 hxx (by simp at hl1;omega) (h1' v) (by rw [blk_set_ne htr];exact k2) Y14).mono fun y s' ⟨e1,e2⟩=>⟨e1,?_⟩
     rw [e2,set_comm _ (Ne.symm htr),new_set (by show r<s.nxt;omega),set_comm _ (show r≠ln from Y14)]
     first | done | rfl
theorem line_SendMV {b ln c r:Nat} {FS:Nat→List Int} {l:List Snt} {ns:Nat→Option Nat} {D:Dev} {s:St} (h:Ln4 59 (b+5) ln c FS l ns s) (hA:DevAt b D s) (hD:D.ok) (hbl:b+5<ln) (hF:FOk FS) (hll:l.length≤100000) {fr:List Int} (hfo:OkB fr) (hfl:fr.length≤140737488350000) {tick tn:Int}
  (hr:c≤r) (hrx:r<s.nxt) (hrb:s.blk r=some .res) {B:List Int} {D':Dev} (hs:sendF (takeQ FS tn) D fr=(B,D')) (hlen:D'.c0.length=D.c0.length) :
  ∃ S9 ns',(∀ v,ACalls Tryz.prog 27 [.ptr ln 0 0,.int .i64 tn,.int .i64 tick,.sl .unk (fr.map (PV.int .u8))] (s.set r v) (fun x s'=>x=.sl .unk (B.map (PV.int .u8))∧s'=S9.set r v))∧Ln4 59 (b+5) ln c (takeFS FS tn) (l++[(⟨tick,tn,fr⟩:Snt)]) ns' S9∧DevAt b D' S9∧Fr4 b (b+6) ln ns ns' s S9∧S9.blk r=some .res:=by
 have hc:=h.hc
 have hx:=h.nx
 have hq:=hF.q tn
 have e1:(sendF (takeQ FS tn) D fr).1=B:=by rw [hs]
 have e2:(sendF (takeQ FS tn) D fr).2=D':=by rw [hs]
 have hdv:∀ v,DevAt b D (s.set r v):=fun v=>hA.sv Y14 _
 obtain ⟨xs,st,h1,h2,h3,h4⟩:=h.row
 revert h4
 obtain ⟨n,hn⟩:∃ n,ns 4=n:=⟨_,rfl⟩
 rw [hn]
 intro h4
 match xs,h2 with
 | [a0,a1,a2,a3],_ =>
 cases n with
 | none =>
   obtain ⟨rfl,hl0⟩:=h4
   have hl0:l=[]:=by simpa using hl0
   subst hl0
   obtain ⟨n1,f1⟩:=h.chS (l':=[(⟨tick,tn,fr⟩:Snt)]) (s':=(s.new (.tok [(⟨tick,tn,fr⟩:Snt)].length)).set ln (some (lnR 59 (b+5) [a0,a1,a2,a3] (.sl (.tok s.nxt 3) ([(⟨tick,tn,fr⟩:Snt)].map Snt.pv))))) (x':=(.sl (.tok s.nxt 3) ([(⟨tick,tn,fr⟩:Snt)].map Snt.pv))) (n':=some s.nxt) h1 (blk_set_self _ _ _) ⟨rfl,by rw [blk_set_ne Y14];exact blk_new_eq,hx,Nat.lt_succ_self _⟩ (Nat.le_succ _) (fun j q1 q2 q3=>by rw [blk_set_ne q2,blk_new_ne Y14]) Y337
   obtain ⟨S9,ns9,t1,t2,t3,t4⟩:=line_takeMV n1 hF tn hr (Nat.lt_succ_of_lt hrx) (by rw [blk_set_ne Y14,blk_new_ne Y14];exact hrb)
   have hA9:=(hA.eq4 h hbl f1).eq4 n1 hbl t3
   obtain ⟨ys,st9,r1,r2,_⟩:=t2.row
   obtain ⟨p1,p2⟩:=t2.putDev (D:=D') hbl
   have h9:=t2.nx
   match ys,r2,r1 with
   | [c0,c1,c2,c3],_,r1 =>
   refine ⟨_,ns9,fun v=>?_,p1,hA9.put hlen,((f1.trans t3).wide b).trans p2,Y388⟩
   have ht:=t1 v
   rw [← set_comm _ (show r≠ln from Y14),← new_set hrx] at ht
   refine (line_SendXN hq hfo hfl (by rw [blk_set_ne Y14];exact h1) (hdv v) hD hbl ht Y162 (hA9.sv Y14 _) Y444).mono fun y s' ⟨q1,q2⟩=>⟨by rw [q1,e1],?_⟩
   rw [q2,e2]
   exact putDev_set Y14 v
 | some t =>
   obtain ⟨rfl,k2,k3,k4⟩:=h4
   rw [List.length_map] at k2
   have htr:t≠r:=by rintro rfl;rw [hrb] at k2;cases k2
   obtain ⟨n1,f1⟩:=h.chS (l':=(l++[(⟨tick,tn,fr⟩:Snt)])) (s':=(s.set t (some (.tok (l++[(⟨tick,tn,fr⟩:Snt)]).length))).set ln (some (lnR 59 (b+5) [a0,a1,a2,a3] (.sl (.tok t 3) ((l++[(⟨tick,tn,fr⟩:Snt)]).map Snt.pv))))) (x':=(.sl (.tok t 3) ((l++[(⟨tick,tn,fr⟩:Snt)]).map Snt.pv))) (n':=some t) h1 (blk_set_self _ _ _) ⟨rfl,by rw [blk_set_ne Y14,List.length_map];exact blk_set_self _ _ _,k3,k4⟩ (Nat.le_refl _) (fun j q1 q2 q3=>by rw [blk_set_ne q2,blk_set_ne (fun e=>q3 (by rw [hn,e]))]) (fun t' q=>by cases q;exact .inl hn)
   obtain ⟨S9,ns9,t1,t2,t3,t4⟩:=line_takeMV n1 hF tn hr (hrx) (by rw [blk_set_ne Y14,blk_set_ne (Ne.symm htr)];exact hrb)
   have hA9:=(hA.eq4 h hbl f1).eq4 n1 hbl t3
   obtain ⟨ys,st9,r1,r2,_⟩:=t2.row
   obtain ⟨p1,p2⟩:=t2.putDev (D:=D') hbl
   have h9:=t2.nx
   match ys,r2,r1 with
   | [c0,c1,c2,c3],_,r1 =>
   refine ⟨_,ns9,fun v=>?_,p1,hA9.put hlen,((f1.trans t3).wide b).trans p2,Y388⟩
   have ht:=t1 v
   rw [← set_comm _ (show r≠ln from Y14),← set_comm _ (Ne.symm htr)] at ht
   refine (line_SendXT hq hfo hfl hll (by rw [blk_set_ne Y14];exact h1) (hdv v) hD hbl (by rw [blk_set_ne htr];exact k2) Y14 Y14 ht Y162 (hA9.sv Y14 _) Y444).mono fun y s' ⟨q1,q2⟩=>⟨by rw [q1,e1],?_⟩
   rw [q2,e2]
   exact putDev_set Y14 v
end Go.Proofs
namespace Go.Proofs
open Go.PM
set_option maxHeartbeats 2000000
def triesF (q:Req):Nat→List Int→Dev→Rep × Nat × Dev × List Int
 | 0,F,D=>(refuseP q.fn 11,0,D,F)
 | k+1,F,D=>if F.headD 0=0 then ((doF D q).1,0,(doF D q).2,F.tail) else if F.headD 0=4 then (refuseP q.fn 4,0,D,F.tail)
   else ((triesF q k F.tail (if F.headD 0=1 then D else (doF D q).2)).1,(triesF q k F.tail (if F.headD 0=1 then D else (doF D q).2)).2.1+1,(triesF q k F.tail (if F.headD 0=1 then D else (doF D q).2)).2.2)
structure Tried (q:Req) (D:Dev) (f:Int) (B:List Int) (D':Dev) (g:Option Rep):Prop where
 snd:sendF f D (frameF (bytesF q))=(B,D')
 ok:D'.ok
 len:D'.c0.length=D.c0.length
 b:OkB B
 bl:B.length≤256
 g:(g=none∧¬ (rtuF B).2=0∧¬ f=0∧¬ f=4∧D'=if f=1 then D else (doF D q).2)∨(∃ R,g=some R∧Fits R q∧R.ok∧B=frameF (repF R)∧(repF R).length≤253∧(f=0∧R=(doF D q).1∧D'=(doF D q).2∨f=4∧R=refuseP q.fn 4∧D'=D))
theorem right_bytes {q:Req} (hr:rightF q=0):bytesF q=writeF q:=if_pos hr
theorem pack_len2 (l:List Bool):(packB l).length≤(l.length+7)/8:=by
 have:=packB_len l
 omega
theorem do_len {D:Dev} (hD:D.ok) {q:Req} (hq:q.ok) (hr:rightF q=0):(repF (doF D q).1).length≤253:=by
 have hf:=do_fits hD hq hr
 have hcc:(doF D q).1.code=0→countF q=true:=fun h0=>by
  cases hc:countF q with
  | true=>rfl
  | false =>
    exfalso
    have hh:¬ hasF q.fn=false:=by rw [(right0 hr).has];decide
    unfold doF at h0
    dsimp only at h0
    rw [if_neg hh,if_pos (.inr hc)] at h0
    exact absurd h0 (by show ¬ (3:Int)%256=0;decide)
 obtain ⟨R,hR⟩:∃ R,(doF D q).1=R:=⟨_,rfl⟩
 rw [hR] at hf hcc ⊢
 have hfn:=hf.fn
 have e2:∀ n,(num2 n).length=2:=fun _=>rfl
 have fl:∀ l:List Int,(l.flatMap num2).length=2*l.length:=fun l=>by
  induction l with
  | nil=>rfl
  | cons x l ih=>rw [List.flatMap_cons,List.length_append,ih,e2,List.length_cons];omega
 unfold repF
 rw [if_pos hf.good]
 unfold layF
 by_cases hc:R.code=0
 ·rw [if_neg (fun n=>n hc)]
  have hcnt:=hf.cnt hc
  have hg:=good0 hf.good hc
  have hk:=(of_decide_eq_true (hcc hc)).2
  have h6:=hg.v6
  have hmd:=hg.md
  simp only [List.length_cons]
  split
  ·rename_i e
   rw [if_pos Y14] at hk
   have hb:(R.bits.length:Int)=q.count:=Y14
   have:=pack_len2 R.bits
   simp only [List.length_cons];omega
  split
  ·rename_i n1 e
   rw [if_neg Y14] at hk
   have hv:(R.vals.length:Int)=q.count:=Y14
   have hq125:q.count≤125:=by
    by_cases e34:q.fn=3∨q.fn=4
    ·rw [if_pos e34] at hk;exact hk.2
    ·rw [if_neg e34,if_neg Y14,if_neg Y14,if_pos Y14] at hk;exact hk.2.1
   simp only [List.length_cons,fl];omega
  repeat' split
  all_goals simp only [List.length_append,List.length_cons,e2,fl]
  all_goals first | omega |(have:=h6 Y14;omega)
 ·rw [if_pos hc];show 2≤253;decide
theorem req_len {q:Req} (hr:rightF q=0) (hb:q.bits.length≤30) (hv:q.vals.length≤30):(writeF q).length≤253:=by
 have e2:∀ n,(num2 n).length=2:=fun _=>rfl
 have fl:∀ l:List Int,(l.flatMap num2).length=2*l.length:=fun l=>by
  induction l with
  | nil=>rfl
  | cons x l ih=>rw [List.flatMap_cons,List.length_append,ih,e2,List.length_cons];omega
 have:=pack_len2 q.bits
 unfold writeF
 repeat' split
 all_goals simp only [List.length_append,List.length_cons,List.length_nil,e2,fl]
 all_goals omega
theorem try_law {q:Req} (hq:q.ok) (hr:rightF q=0) {D:Dev} (hD:D.ok) {f:Int} (hf:0≤f∧f≤4) (hln:(writeF q).length≤253):∃ B D' g,Tried q D f B D' g:=by
 have hne:writeF q≠[]:=List.cons_ne_nil _ _
 have e:∀ f,sendF f D (frameF (bytesF q))=lineF f D (writeF q):=fun f=>by
  rw [right_bytes hr]
  unfold sendF
  rw [rtu_frame hne hln]
  exact if_pos ⟨rfl,rfl⟩
 have hp:=pdu_write (D:=D) hq hr
 have hdk:=doF_ok hD hq
 have hft:=do_fits hD hq hr
 have h127:=has127 hr
 have hbo:OkB (repF (doF D q).1):=repF_ok (doF_rep hD hq)
 have hbl:(repF (doF D q).1).length≤253:=do_len hD hq hr
 have hbn:repF (doF D q).1≠[]:=by
  obtain ⟨x,l,h,_⟩:=fit_head hft h127
  rw [h];exact List.cons_ne_nil _ _
 obtain rfl | rfl | rfl | rfl | rfl:f=0∨f=1∨f=2∨f=3∨f=4:=Y14
 ·exact ⟨frameF (repF (doF D q).1),(doF D q).2,some (doF D q).1,by rw [e];show (frameF (pduF _ _).1,(pduF _ _).2)=_;rw [hp],hdk.1,hdk.2,frameF_ok hbo,frameF_len _,.inr ⟨_,rfl,hft,doF_rep hD hq,rfl,hbl,.inl ⟨rfl,rfl,rfl⟩⟩⟩
 ·exact ⟨[],D,none,by rw [e];rfl,hD,rfl,OkB.nil,Y15,.inl ⟨rfl,Y15,Y15,Y15,rfl⟩⟩
 ·exact ⟨[],(doF D q).2,none,by rw [e];show ([],(pduF _ _).2)=_;rw [hp],hdk.1,hdk.2,OkB.nil,Y15,.inl ⟨rfl,Y15,Y15,Y15,rfl⟩⟩
 ·exact ⟨flipL (frameF (repF (doF D q).1)),(doF D q).2,none,by rw [e];show (flipL (frameF (pduF _ _).1),(pduF _ _).2)=_;rw [hp],hdk.1,hdk.2,flip_ok (frameF_ok hbo),by rw [flip_len];exact frameF_len _,.inl ⟨rfl,by rw [rtu_broken hbo hbn hbl];decide,Y15,Y15,rfl⟩⟩
 ·have hfr:Fits (refuseP q.fn 4) q:=fits_refuse h127 Y15
  obtain ⟨x,l,hx,_⟩:=fit_head hfr h127
  have hlen:(repF (refuseP q.fn 4)).length≤253:=by
   unfold repF
   rw [if_pos hfr.good]
   unfold layF
   rw [if_pos (by show ¬ (4:Int)%256=0;decide)]
   show 2≤253
   decide
  exact ⟨frameF (repF (refuseP q.fn 4)),D,some (refuseP q.fn 4),by rw [e];rfl,hD,rfl,frameF_ok (repF_ok (refuseP_ok _ _)),frameF_len _,.inr ⟨_,rfl,hfr,refuseP_ok _ _,rfl,hlen,.inr ⟨rfl,rfl,rfl⟩⟩⟩
end Go.Proofs
namespace Go.Proofs
open Go.PM
set_option maxHeartbeats 2000000
theorem reply_num {b:List Int} (hb:OkB b) (hl:b.length≤140737488351232) {i:Int} {a:Int} (ha:1+2*i=a) (hi:0≤i∧i≤100) {s:St}:ACalls Tryz.prog 97 [.sl .unk (b.map (PV.int .u8)),.int .i64 i] s (fun r s'=>r=.int .i64 (num1 b a)∧s'=s):=by
 refine go Tryz.func97 (k:=fun hwf H=>?_)
 have hw1:IntKind.i64.wrap (2*i)=2*i:=wrap_i64 Y14
 have hw2:IntKind.i64.wrap (1+2*i)=a:=by rw [wrap_i64 Y14,ha]
 have H:=aj hw1 (aj hw2 H)
 refine rs (k:=rg [0,1] (k:=rs (k:=rr (k:=ro (pre:=[_,_,_,_]) (k:=rC (h:=octet_Get hb (a:=a) Y197 Y14) (k:=rh [5] (k:=rs (k:=rg [4] (k:=rR (k:=rP (by simp only [Tryz.f97,go_sem];rfl) hwf ⟨?_,rfl⟩))))))))))
 rfl
attribute [local go_sem] weaks_bools Req.pv Rep.pv
set_option maxRecDepth 100000 in
theorem reply_guess {b:List Int} (hb:OkB b) (hl:b.length≤10000000) {x:Int} (hx:b[0]? =some x) {q:Req} (hq:I64 q.count) {s:St}:ACalls Tryz.prog 60 [.sl .unk (b.map (PV.int .u8)),q.pv] s (fun r s'=>r=(gessF b q).pv∧s'=s):=by
 refine go Tryz.func60 (k:=fun hwf H=>?_)
 have hlt:0<b.length:=Y313
 have hxx:(b.map (PV.int .u8))[0]? =some (.int .u8 x):=Y141
 have hlT:(0<b.length)=True:=eq_true hlt
 have hx8:U8 x:=hb x (List.mem_of_getElem? hx)
 have hxw:IntKind.i64.wrap x=x:=wrap_i64 Y142
 have hxs:IntKind.i64.wrap (x-128)=x-128:=wrap_i64 Y142
 have hn3:IntKind.u16.wrap (num1 b 3)=num1 b 3:=Y251
 have hn5:IntKind.u16.wrap (num1 b 5)=num1 b 5:=Y252
 have hg0:(b[0]?).getD 0=x:=Y253
 have hbl:b.length≤140737488351232:=Y14
 have H:=aj hxx (aj hlT (aj hxw (aj hxs (aj hn3 (aj hn5 H)))))
 refine rs (k:=rg [0,3,4] (k:=rs (k:=rg [0,3,4] (k:=rs (k:=rs (k:=rg [0,3,4,13] (k:=rc (ht:=fun hc0=>?_) (hf:=fun hc0=>?_))))))))
 refine rs (k:=rg [0,4] (k:=rs (k:=rs (k:=rg [0,4,20] (k:=rc (ht:=fun hc1=>?_) (hf:=fun hc1=>?_))))))
 have hl1:1<b.length:=Y69
 obtain ⟨y,hy⟩:∃ y,b[1]? =some y:=⟨b[1],List.getElem?_eq_getElem hl1⟩
 have hyy:(b.map (PV.int .u8))[Int.toNat 1]? =some (.int .u8 y):=Y431
 have hlT1:((1:Int)<(b.length:Int))=True:=eq_true Y14
 have hy8:U8 y:=hb y (List.mem_of_getElem? hy)
 have hyw:IntKind.i64.wrap y=y:=wrap_i64 Y432
 have hy0:(b[1]?).getD 0=y:=by rw [hy];rfl
 have H:=aj hyy (aj hlT1 (aj hyw H))
 refine rg [4] (k:=rs (k:=rg [4] (k:=rR (k:=?_))))
 refine jO 1 ?_;rotate_left
 refine rk (k:=rs (k:=rg [4] (k:=rR (k:=?_))))
 refine jO 1 ?_;rotate_left
 refine rk (k:=rs (k:=?_))
 obtain ⟨m,hm,hmle,hmd⟩:∃ m:Nat,(if (2:Int)<(b.length:Int) then (2:Int) else (b.length:Int))=(m:Int)∧m≤b.length∧b.drop m=b.drop 2:=by
  by_cases h:(2:Int)<(b.length:Int)
  ·exact ⟨2,by rw [if_pos h];rfl,Y14,rfl⟩
  ·exact ⟨b.length,by rw [if_neg h],Nat.le_refl _,by rw [List.drop_eq_nil_of_le (Nat.le_refl _),List.drop_eq_nil_of_le Y14]⟩
 have hd1:((m:Int)≤(b.length:Int))=True:=eq_true Y14
 have hd2:((0:Int)≤(m:Int))=True:=eq_true Y14
 have htk:((b.length:Int)-(m:Int)).toNat=b.length-m:=Y14
 have hlm:((b.map (PV.int .u8)).drop m).take (b.length-m)=((b.drop 2).map (PV.int .u8)):=by rw [← hmd,List.map_drop,List.take_of_length_le Y66]
 have H:=aj hm (aj hd1 (aj hd2 (aj htk (aj hlm H))))
 refine rg [0,3,4,5] (k:=rs (k:=rs (k:=rg [0,3,4,5,33] (k:=rb (k:=rs (k:=rs (k:=rg [0,3,4,5,33,34] (k:=rc (ht:=fun hc2=>?_) (hf:=fun hc2=>?_)))))))))
 refine rk (k:=rc (ht:=fun hc3=>?_) (hf:=fun hc3=>?_))
 refine jO 2 ?_;rotate_left
 ·exact Y195
 refine rg [0,3,4,5,33,34] (k:=rc (ht:=fun hc3=>?_) (hf:=fun hc3=>?_))
 refine jO 2 ?_;rotate_left
 refine rs (k:=rs (k:=rg [0,4,5,33,45] (k:=rc (ht:=fun hc4=>?_) (hf:=fun hc4=>?_))))
 refine rk (k:=rc (ht:=fun hc6=>?_) (hf:=fun hc6=>?_))
 refine jO 3 ?_;rotate_left
 ·exact Bool.noConfusion (hc4.symm.trans hc6)
 refine rs (k:=rg [0,4,5,33,45] (k:=rc (ht:=fun hc5=>?_) (hf:=fun hc5=>?_)))
 refine rk (k:=rc (ht:=fun hc6=>?_) (hf:=fun hc6=>?_))
 refine jO 3 ?_;rotate_left
 ·exact Y315
 refine rg [0,4,5,33,45] (k:=rc (ht:=fun hc6=>?_) (hf:=fun hc6=>?_))
 refine jO 3 ?_;rotate_left
 refine rs (k:=rg [0,4,5,33,55] (k:=rc (ht:=fun hc7=>?_) (hf:=fun hc7=>?_)))
 refine jO 4 ?_;rotate_left
 refine rs (k:=rg [0,4,5,33,65] (k:=rc (ht:=fun hc8=>?_) (hf:=fun hc8=>?_)))
 refine jO 4 ?_;rotate_left
 refine rs (k:=rg [0,4,5,33,75] (k:=rc (ht:=fun hc9=>?_) (hf:=fun hc9=>?_)))
 refine jO 4 ?_;rotate_left
 refine rs (k:=rs (k:=rg [0,4,5,33,85] (k:=rc (ht:=fun hc10=>?_) (hf:=fun hc10=>?_))))
 refine rk (k:=rc (ht:=fun hc11=>?_) (hf:=fun hc11=>?_))
 refine jO 5 ?_;rotate_left
 ·exact Y370
 refine rg [0,4,5,33,85] (k:=rc (ht:=fun hc11=>?_) (hf:=fun hc11=>?_))
 refine jO 5 ?_;rotate_left
 refine rs (k:=rg [0,4,5,33,94] (k:=rc (ht:=fun hc12=>?_) (hf:=fun hc12=>?_)))
 refine rr (k:=ro (pre:=[_]) (k:=rC (h:=reply_num (b:=b) hb hbl (i:=0) (a:=1) Y15 Y15) (k:=ro (pre:=[_]) (k:=rC (h:=reply_num (b:=b) hb hbl (i:=1) (a:=3) Y15 Y15) (k:=ro (pre:=[_,_]) (k:=rC (h:=reply_num (b:=b) hb hbl (i:=2) (a:=5) Y15 Y15) (k:=rh [4] (k:=rB (k:=rs (k:=rr (k:=?_)))))))))))
 refine rh [4] (k:=rR (k:=?_))
 refine jO 1 ?_;rotate_left
 refine rs (k:=rg [4,5,107] (k:=rc (ht:=fun hc13=>?_) (hf:=fun hc13=>?_)))
 refine rr (k:=ro (pre:=[_]) (k:=rC (h:=clone_u8 (xs:=b.drop 2) Y131) (k:=rh [4] (k:=rB (k:=rs (k:=rg [4] (k:=rR (k:=?_))))))))
 refine jO 1 ?_;rotate_left
 refine rk (k:=rB (k:=rs (k:=rg [4] (k:=rR (k:=?_)))))
 refine jO 1 ?_;rotate_left
 any_goals
  refine jI 4 ?_
  refine rr (k:=ro (pre:=[_]) (k:=rC (h:=reply_num (b:=b) hb hbl (i:=0) (a:=1) Y15 Y15) (k:=ro (pre:=[_]) (k:=rC (h:=reply_num (b:=b) hb hbl (i:=1) (a:=3) Y15 Y15) (k:=ro (pre:=[_]) (k:=rO (k:=rh [4] (k:=rB (k:=rs (k:=rg [4] (k:=rR (k:=?_))))))))))))
  refine jO 1 ?_;rotate_left
 any_goals
  refine jI 5 ?_
  refine rr (k:=ro (pre:=[_]) (k:=rC (h:=reply_num (b:=b) hb hbl (i:=0) (a:=1) Y15 Y15) (k:=ro (pre:=[_]) (k:=rC (h:=reply_num (b:=b) hb hbl (i:=1) (a:=3) Y15 Y15) (k:=rh [4] (k:=rB (k:=rs (k:=rg [4] (k:=rR (k:=?_))))))))))
  refine jO 1 ?_;rotate_left
 any_goals
  refine jI 2 ?_
  refine rr (k:=ro (pre:=[_,_,_]) (k:=rC (h:=octet_Open (b:=b.drop 2) (hb.drop 2) Y131 hq (.inr Y131)) (k:=rh [4] (k:=rB (k:=rs (k:=rg [4] (k:=rR (k:=?_))))))))
  refine jO 1 ?_;rotate_left
 any_goals
  refine jI 3 ?_
  refine rr (k:=ro (pre:=[_]) (k:=rC (h:=octet_Words (b:=b.drop 2) (hb.drop 2) Y131) (k:=rh [4] (k:=rB (k:=rs (k:=rg [4] (k:=rR (k:=?_))))))))
  refine jO 1 ?_;rotate_left
 any_goals
  refine jI 1 ?_
  refine Ret.pure (r':=(gessF b q).pv) (by simp only [Tryz.f60,go_sem,↓reduceIte]<;>rfl) ?_ (blw_rep _ _) hwf Y26 ⟨rfl,rfl⟩
  refine jO 6 ?_;rotate_left
 any_goals
  refine jI 6 ?_
  simp only [PV.weak,PV.weaks,weaks_u16,weaks_bools,weaks_u8]
  refine jO 7 ?_;rotate_left
 any_goals
  refine jI 7 ?_
  clear hxx hlT hxw hxs hn3 hn5 H hwf hb hl hbl hx8 hx
  refine jO 8 ?_;rotate_left
 any_goals
  refine jI 8 ?_
  simp only [decide_eq_true_eq,decide_eq_false_iff_not] at *
  refine jO 9 ?_;rotate_left
 any_goals
  refine jI 9 ?_
  first
   |(exfalso;omega)
   |(simp only [gessF,hg0,Rep.pv,hy0,if_pos hc0,if_pos hl1];rfl)
   |(simp only [gessF,hg0,Rep.pv];simp [*,wordsO];done)
   |(have n0:¬ 128≤x:=by omega
     simp only [gessF,hg0,Rep.pv];simp [*,wordsO];done)
   |(have n1:1<b.length:=by omega
     simp only [gessF,hg0,Rep.pv];simp [*,wordsO];done)
   |(have n1:¬ 1<b.length:=by omega
     simp only [gessF,hg0,Rep.pv];simp [*,wordsO];done)
   | skip
attribute [local go_sem] weaks_bools Req.pv Rep.pv
set_option maxRecDepth 100000 in
theorem reply_asked {R:Rep} {q:Req} (hA:R.code=0→¬ (R.fn≤2∧¬ (R.bits.length:Int)=q.count∨(R.fn=3∨R.fn=4∨R.fn=23)∧¬ (R.vals.length:Int)=q.count)) {s:St}:ACalls Tryz.prog 63 [R.pv,q.pv] s (fun r s'=>r=.bool true∧s'=s):=by
 refine go Tryz.func63 (k:=fun hwf H=>?_)
 refine rs (k:=rg [2,3] (k:=rs (k:=rs (k:=rg [2,3,7] (k:=rc (ht:=fun hc0=>?_) (hf:=fun hc0=>?_))))))
 refine jO 1 ?_;rotate_left
 refine rk (k:=rs (k:=rs (k:=rg [2,3,9] (k:=rb (k:=rs (k:=rs (k:=rg [2,3,9,10] (k:=rc (ht:=fun hc1=>?_) (hf:=fun hc1=>?_)))))))))
 refine rk (k:=rc (ht:=fun hc2=>?_) (hf:=fun hc2=>?_))
 refine jO 1 ?_;rotate_left
 ·exact Y196
 refine rg [2,3,9,10] (k:=rc (ht:=fun hc2=>?_) (hf:=fun hc2=>?_))
 refine jO 1 ?_;rotate_left
 refine rs (k:=rs (k:=rg [2,3,9,19] (k:=rc (ht:=fun hc3=>?_) (hf:=fun hc3=>?_))))
 refine rk (k:=rc (ht:=fun hc5=>?_) (hf:=fun hc5=>?_))
 refine jO 1 ?_;rotate_left
 ·exact Bool.noConfusion (hc3.symm.trans hc5)
 refine rs (k:=rg [2,3,9,19] (k:=rc (ht:=fun hc4=>?_) (hf:=fun hc4=>?_)))
 refine rk (k:=rc (ht:=fun hc5=>?_) (hf:=fun hc5=>?_))
 refine jO 1 ?_;rotate_left
 ·exact Y430
 refine rg [2,3,19] (k:=rc (ht:=fun hc5=>?_) (hf:=fun hc5=>?_))
 refine jO 1 ?_;rotate_left
 refine rk (k:=rB (k:=rs (k:=rg [4] (k:=rR (k:=rP (by simp only [Tryz.f63,go_sem];rfl) hwf ⟨?_,rfl⟩)))))
 refine jO 2 ?_;rotate_left
 any_goals
  refine jI 1 ?_
  refine rs (k:=rg [4] (k:=rR (k:=rP (by simp only [Tryz.f63,go_sem];rfl) hwf ⟨?_,rfl⟩)))
  refine jO 2 ?_;rotate_left
 any_goals
  refine jI 2 ?_
  refine congrArg PV.bool ?_
  refine jO 3 ?_;rotate_left
 any_goals
  refine jI 3 ?_
  first
   | rfl
   |(simp only [Bool.not_eq_true',Bool.not_eq_false',Bool.or_eq_true,Bool.or_eq_false_iff,decide_eq_true_eq,decide_eq_false_iff_not] at *
     have:=hA Y14
     first
     | omega
     |(clear H;omega))
attribute [local go_sem] weaks_bools Req.pv
theorem Y111 {p:Prop} (h:p:=by simp only [PV.weak,PV.weaks,Rep.pv,weaks_u16,weaks_bools,weaks_u8]):p:=h
set_option maxRecDepth 100000 in
theorem reply_ReadFits {R:Rep} {q:Req} (hf:Fits R q) (h127:1≤q.fn∧q.fn≤127) (hR:R.ok) (hq:q.ok) {s:St}:ACalls Tryz.prog 42 [.sl .unk ((repF R).map (PV.int .u8)),q.pv] s (fun r s'=>r=.tuple [R.pv,.int .i64 0]∧s'=s):=by
 refine go Tryz.func42 (k:=fun hwf H=>?_)
 have hgd:=hf.good
 have hbe:repF R=layF R:=if_pos hgd
 have hgs:gessF (repF R) q=R:=by rw [hbe];exact gess_lay hf h127 hR.vals
 have hbo:OkB (repF R):=repF_ok hR
 have hbl:(repF R).length≤300:=by rw [hbe];exact layF_len hgd
 obtain ⟨x,l,hxl,_,_⟩:=fit_head hf h127
 have hx0:(repF R)[0]? =some x:=by rw [hxl];rfl
 have hxh:x=if ¬ R.code=0 then R.fn+128 else R.fn:=by have:=lay_head (R:=R);rw [← hbe,hx0] at this;exact this
 have hfn:=hf.fn
 have hlt:0<(repF R).length:=by rw [hxl];simp
 have hxx:((repF R).map (PV.int .u8))[0]? =some (.int .u8 x):=by rw [List.getElem?_map,hx0];rfl
 have hlT:(0<(repF R).length)=True:=eq_true hlt
 have hx8:U8 x:=hbo x (List.mem_of_getElem? hx0)
 have hxw:IntKind.i64.wrap x=x:=wrap_i64 Y142
 have hxs:IntKind.i64.wrap (x-128)=x-128:=wrap_i64 Y142
 have hl0:decide (((repF R).length:Int)=0)=false:=decide_eq_false Y14
 have hf0:decide (q.fn<0)=false:=decide_eq_false Y14
 have hgz:decide (goodF R=0)=true:=decide_eq_true hgd
 have hbl2:(repF R).length<140737488355328:=Y14
 have H:=aj hxx (aj hlT (aj hxw (aj hxs (aj hl0 (aj hf0 (aj hgz H))))))
 refine rs (k:=rg [0,3,4] (k:=rs (k:=rb (k:=rs (k:=rg [0,3,4,9] (k:=rc (ht:=fun hc0=>?_) (hf:=fun hc0=>?_)))))))
 ·cases hc0
 refine rs (k:=?_)
 refine Run.drawC [] [0,3,4,14] Tryz.mixed Y19 ?_
 refine DetC.pre (pre:=[_,_,_,_]) au ?_
 refine DetC.gdo au au ?_
 refine DetC.gdo au au ?_
 refine DetC.gdo au au ?_
 refine DetC.gdo au au ?_
 refine DetC.gdo au au ?_
 refine DetC.gdo au au ?_
 refine DetC.gdo au au ?_
 refine DetC.gdo au au ?_
 rcases hd11:(!decide (x=q.fn)) with _ | _
 have H:=aj hd11 H
 refine DetC.gskip' au ?_
 refine DetC.gskip' au ?_
 refine DetC.gskip' au ?_
 refine DetC.gskip' au ?_
 refine DetC.gskip' au ?_
 refine DetC.gskip' au ?_
 refine DetC.gskip' au ?_
 refine DetC.gskip' au ?_
 refine jO 1 ?_;rotate_left
 have H:=aj hd11 H
 have hx1:decide (x-128=q.fn)=true:=decide_eq_true (by have h0:¬ x=q.fn:=(by simpa using hd11);split at hxh<;>omega)
 have H:=aj hx1 H
 refine DetC.gdo au au ?_
 refine DetC.gdo au au ?_
 refine DetC.gdo au au ?_
 refine DetC.gdo au au ?_
 refine DetC.gdo au au ?_
 refine DetC.gdo au au ?_
 refine DetC.gdo au au ?_
 refine DetC.gdo au au ?_
 refine jO 1 ?_;rotate_left
 any_goals
  refine jI 1 ?_
  refine DetC.gdo au au ?_
  refine jO 2 ?_;rotate_left
 any_goals
  refine jI 2 ?_
  refine DetC.all au ?_
  refine jO 3 ?_;rotate_left
 any_goals
  refine jI 3 ?_
  refine re (k:=rc (ht:=fun hc1=>?_) (hf:=fun hc1=>?_))
  ·cases hc1
  refine jO 4 ?_;rotate_left
 any_goals
  refine jI 4 ?_
  refine rk (k:=rB (k:=rs (k:=rr (k:=ro (pre:=[_,_]) (k:=?_)))))
  refine jO 5 ?_;rotate_left
 any_goals
  refine jI 5 ?_
  refine RunO.callw au au au Y19 ((reply_guess hbo Y14 hx0 hq.count).mono ?_)
  refine jO 6 ?_;rotate_left
 any_goals
  refine jI 6 ?_
  rintro r s9 ⟨rfl,hs⟩
  refine jO 7 ?_;rotate_left
 any_goals
  refine jI 7 ?_
  subst s9
  refine jO 8 ?_;rotate_left
 any_goals
  refine jI 8 ?_
  rw [hgs]
  refine jO 9 ?_;rotate_left
 any_goals
  refine jI 9 ?_
  refine rh [0,3,4,6] (k:=rs (k:=rs (k:=rr (k:=ro (pre:=[_]) (k:=rC (h:=reply_Bytes hR) (k:=rh [0,3,4,6,7,8] (k:=rs (k:=rr (k:=ro (pre:=[_,_,_]) (k:=rg1 (k:=rg1 (k:=rC (h:=equal_u8 (xs:=repF R) (ys:=repF R) hbl2) (k:=rg1 (k:=ro (pre:=[_,_]) (k:=rg1 (k:=rg1 (k:=rC (h:=reply_asked hf.cnt) (k:=rg1 (k:=?_)))))))))))))))))))
  refine jO 10 ?_;rotate_left
 any_goals
  refine jI 10 ?_
  refine rh [4,6,59] (k:=rc (ht:=fun hc2=>?_) (hf:=fun hc2=>?_))
  ·cases hc2
  refine jO 11 ?_;rotate_left
 any_goals
  refine jI 11 ?_
  refine rk (k:=rs (k:=rg [4,5] (k:=rR (k:=?_))))
  refine jO 12 ?_;rotate_left
 any_goals
  refine jI 12 ?_
  exact Ret.pure (r':=.tuple [R.pv,.int .i64 0]) (by simp only [Tryz.f42,go_sem,↓reduceIte]<;>rfl) Y111 Y85 hwf Y26 ⟨rfl,rfl⟩
end Go.Proofs
namespace Go.Proofs
open Go.PM
set_option maxHeartbeats 2000000
attribute [local go_sem] weaks_bools Req.pv
theorem master_Frame {q:Req} (hq:q.ok) {s:St}:ACalls Tryz.prog 19 [q.pv] s (fun r s'=>r=.sl .unk ((frameF (bytesF q)).map (PV.int .u8))∧s'=s):=by
 refine go Tryz.func19 (k:=fun hwf H=>?_)
 have hbo:OkB (bytesF q):=Y441
 have hbl:(bytesF q).length≤140737488350000:=by
  unfold bytesF
  split
  ·have:=writeF_len ‹_›;omega
  ·simp
 refine rs (k:=rg [1] (k:=rs (k:=rr (k:=ro (pre:=[_]) (k:=rC (h:=pdu_Bytes hq) (k:=rh [3] (k:=rs (k:=rr (k:=ro (pre:=[_]) (k:=rC (h:=rtu_Frame (a:=17) hbo hbl) (k:=rh [5] (k:=rs (k:=rg [2] (k:=rR (k:=?_)))))))))))))))
 refine Ret.pure (r':=.sl .unk ((frameF (bytesF q)).map (PV.int .u8))) (by simp only [Tryz.f19,go_sem,↓reduceIte]<;>rfl) ?_ Y20 hwf Y26 ⟨rfl,rfl⟩
 simp only [PV.weak,weaks_u8]
 rfl
attribute [local go_sem] weaks_bools Req.pv Rep.pv
theorem Y338 {p:Prop} (h:p:=by simp only [PV.weak,PV.weaks,Rep.pv,zeroP,List.map_nil,weaks_u16,weaks_bools,weaks_u8]<;>rfl):p:=h
theorem master_goodN {B:List Int} (hB:OkB B) (hl:B.length≤256) {q:Req} (h:¬ (rtuF B).2=0) {s:St}:ACalls Tryz.prog 26 [.sl .unk (B.map (PV.int .u8)),q.pv] s (fun r s'=>r=.tuple [zeroP.pv,.bool false]∧s'=s):=by
 refine go Tryz.func26 (k:=fun hwf H=>?_)
 have h0:decide ((rtuF B).2=0)=false:=decide_eq_false h
 have H:=aj h0 H
 refine rs (k:=rg [0,3,4] (k:=rs (k:=rr (k:=ro (pre:=[_]) (k:=rC (h:=rtu_Read hB Y14) (k:=rh [3,4,6,7,8] (k:=rs (k:=rs (k:=rr (k:=ro (pre:=[_,_,_]) (k:=rg0 (k:=rg0 (k:=rh [3,4,7,22] (k:=rc (ht:=fun hc0=>?_) (hf:=fun hc0=>?_)))))))))))))))
 ·refine rs (k:=rg [4,5] (k:=rR (k:=?_)))
  exact Ret.pure (r':=.tuple [zeroP.pv,.bool false]) (by simp only [Tryz.f26,go_sem,↓reduceIte]<;>rfl) Y338 Y85 hwf Y26 ⟨rfl,rfl⟩
 ·cases hc0
attribute [local go_sem] weaks_bools Req.pv Rep.pv
theorem master_goodY {R:Rep} {q:Req} (hf:Fits R q) (h127:1≤q.fn∧q.fn≤127) (hR:R.ok) (hq:q.ok) (hl:(repF R).length≤253) {s:St}:ACalls Tryz.prog 26 [.sl .unk ((frameF (repF R)).map (PV.int .u8)),q.pv] s (fun r s'=>r=.tuple [R.pv,.bool true]∧s'=s):=by
 refine go Tryz.func26 (k:=fun hwf H=>?_)
 have hbn:repF R≠[]:=by
  obtain ⟨x,l,h,_⟩:=fit_head hf h127
  rw [h];exact List.cons_ne_nil _ _
 have hrt:rtuF (frameF (repF R))=((17,repF R),0):=rtu_frame hbn hl
 have hB:OkB (frameF (repF R)):=frameF_ok (repF_ok hR)
 have hBl:=frameF_len (repF R)
 refine rs (k:=rg [0,3,4] (k:=rs (k:=rr (k:=ro (pre:=[_]) (k:=?_)))))
 refine RunO.callw au au au Y19 ((rtu_Read hB Y14).mono ?_)
 rintro r s9 ⟨rfl,hs⟩
 subst s9
 rw [hrt]
 refine rh [3,4,6,7,8] (k:=rs (k:=rs (k:=rr (k:=ro (pre:=[_,_,_]) (k:=rg1 (k:=rg1 (k:=rh [3,4,7,22] (k:=rc (ht:=fun hc0=>?_) (hf:=fun hc0=>?_)))))))))
 ·cases hc0
 ·refine rk (k:=rs (k:=rr (k:=ro (pre:=[_,_]) (k:=rC (h:=reply_ReadFits hf h127 hR hq) (k:=rh [4,9,10] (k:=rs (k:=rg [4,5] (k:=rR (k:=?_)))))))))
  exact Ret.pure (r':=.tuple [R.pv,.bool true]) (by simp only [Tryz.f26,go_sem,↓reduceIte]<;>rfl) Y338 Y85 hwf Y26 ⟨rfl,rfl⟩
theorem master_good {q:Req} (h127:1≤q.fn∧q.fn≤127) (hq:q.ok) {D D':Dev} {f:Int} {B:List Int} {g:Option Rep} (h:Tried q D f B D' g) {s:St}:ACalls Tryz.prog 26 [.sl .unk (B.map (PV.int .u8)),q.pv] s (fun r s'=>r=.tuple [(g.getD zeroP).pv,.bool g.isSome]∧s'=s):=by
 rcases h.g with ⟨rfl,h1,_⟩ | ⟨R,rfl,h1,h2,h4,h3,_⟩
 ·exact master_goodN h.b h.bl h1
 ·rw [h4]
  exact master_goodY h1 h127 h2 hq h3
def sentF (fr:List Int) (tick:Int) (i k:Nat):List Snt:=(List.range' i k).map fun (j:Nat)=>⟨tick+4*(j:Int),0,fr⟩
theorem sentF_snoc (fr:List Int) (tick:Int) (k:Nat):sentF fr tick 0 (k+1)=sentF fr tick 0 k++[⟨tick+4*(k:Int),0,fr⟩]:=by
 unfold sentF
 rw [List.range'_concat,List.map_append,Nat.zero_add,Nat.one_mul]
 rfl
theorem triesF_ok {q:Req} (hq:q.ok) (hr:rightF q=0):∀ (k:Nat) (F:List Int) (D:Dev),D.ok→(triesF q k F D).2.2.1.ok∧(triesF q k F D).2.2.1.c0.length=D.c0.length∧(triesF q k F D).1.ok
 | 0,F,D,h=>⟨h,rfl,refuseP_ok _ _⟩
 | k+1,F,D,h=>by
   have hd:=doF_ok h hq
   unfold triesF
   split
   ·exact ⟨hd.1,hd.2,doF_rep h hq⟩
   ·split
    ·exact ⟨h,rfl,refuseP_ok _ _⟩
    ·split
     ·exact triesF_ok hq hr k F.tail D h
     ·have:=triesF_ok hq hr k F.tail (doF D q).2 hd.1
      exact ⟨this.1,this.2.1.trans hd.2,this.2.2⟩
structure Trying (q:Req) (F0:List Int) (D0:Dev) (i:Nat) (F:List Int) (D:Dev):Prop where
 le:i≤3
 ok:D.ok
 ff:∀ f∈F,0≤f∧f≤4
 ln:F.length≤1000
 rep:(triesF q 3 F0 D0).1=(triesF q (3-i) F D).1
 bad:(triesF q 3 F0 D0).2.1=(triesF q (3-i) F D).2.1+i
 dev:(triesF q 3 F0 D0).2.2=(triesF q (3-i) F D).2.2
 len:D.c0.length=D0.c0.length
theorem headD_ff {F:List Int} (h:∀ f∈F,0≤f∧f≤4):0≤F.headD 0∧F.headD 0≤4:=by
 cases F with
 | nil=>decide
 | cons f L=>exact h f Y66
theorem Trying.next {q:Req} {F0:List Int} {D0:Dev} {i:Nat} {F:List Int} {D:Dev} (h:Trying q F0 D0 i F D) (hi:i<3) {B:List Int} {D':Dev} {g:Option Rep} (ht:Tried q D (F.headD 0) B D' g) :
  (g=none→Trying q F0 D0 (i+1) F.tail D')∧(∀ R,g=some R→(triesF q 3 F0 D0)=(R,i,D',F.tail)):=by
 obtain ⟨k,hk⟩:∃ k,3-i=k+1:=⟨2-i,Y14⟩
 have h1:=h.rep
 have h2:=h.bad
 have h3:=h.dev
 rw [hk] at h1 h2 h3
 have hff:∀ f∈F.tail,0≤f∧f≤4:=fun f hf=>h.ff f (List.mem_of_mem_tail hf)
 have hln:F.tail.length≤1000:=by rw [List.length_tail];have:=h.ln;omega
 rcases ht.g with ⟨rfl,_,e0,e4,hD'⟩ | ⟨R,rfl,_,_,_,_,hc⟩
 ·refine ⟨fun _=>?_,fun R e=>Y65⟩
  have e:triesF q (k+1) F D=((triesF q k F.tail D').1,(triesF q k F.tail D').2.1+1,(triesF q k F.tail D').2.2):=by
   show (if F.headD 0=0 then _ else if F.headD 0=4 then _ else _)=_
   rw [if_neg e0,if_neg e4,← hD']
  rw [e] at h1 h2 h3
  have hk2:3-(i+1)=k:=Y14
  exact ⟨Y14,ht.ok,hff,hln,by rw [hk2];exact h1,by rw [hk2];rw [h2];dsimp only;omega,by rw [hk2];exact h3,ht.len.trans h.len⟩
 ·refine ⟨fun e=>Y65,fun R' e=>?_⟩
  cases e
  have e:triesF q (k+1) F D=(R,0,D',F.tail):=by
   show (if F.headD 0=0 then _ else if F.headD 0=4 then _ else _)=_
   rcases hc with ⟨c1,c2,c3⟩ | ⟨c1,c2,c3⟩
   ·rw [if_pos c1,c2,c3]
   ·rw [if_neg (by rw [c1];decide),if_pos c1,c2,c3]
  rw [e] at h1 h2 h3
  exact Prod.ext h1 (Prod.ext (by rw [h2];dsimp only;omega) h3)
attribute [local go_sem] weaks_bools set_set Rep.pv
theorem Y167 {p:Prop} (h:p:=by simp only [Tryz.f13,go_sem,↓reduceIte]<;>rfl):p:=h
theorem Y281 {p:Prop} (h:p:=by intro q hq;simp only [List.mem_cons,List.not_mem_nil,or_false] at hq;rcases hq with rfl | rfl;exact hsn0;exact hsnd _):p:=h
theorem Y282 {p:Prop} (h:p:=by intro q hq;simp only [List.mem_cons,List.not_mem_nil,or_false] at hq;rcases hq with rfl | rfl<;>exact ⟨by assumption,rfl⟩):p:=h
theorem Y339 {p:Prop} (h:p:=by rw [hbw,frameF_eq hne hln,sealB_len];omega):p:=h
theorem Y340 {p:Prop} (h:p:=by rw [hgR];simp only [Option.getD_some,PV.weak,PV.weaks,Rep.pv,weaks_u16,weaks_bools,weaks_u8]):p:=h
theorem Y397 {p:Prop} (h:p:=by rw [hr99];intro e;cases e):p:=h
theorem Y398 {p:Prop} (h:p:=by exact (fun L=>by rw [hz0];intro e;cases e)):p:=h
theorem Y446 {p:Prop} (h:p:=by rw [hbw];exact writeF_ok hq hr):p:=h
theorem Y447 {p:Prop} (h:p:=by cases g with | none=>simp at hc2 | some R=>exact ⟨R,rfl⟩):p:=h
set_option maxRecDepth 100000 in
theorem master_Ask {b ln c:Nat} {D:Dev} {F:List Int} {l:List Snt} {a1 a2 a3:PV} {s:St} (h:LnAt b ln c D F l a1 a2 a3 s) (hD:D.ok) (hF:F.length≤1000) (hff:∀ f∈F,0≤f∧f≤4) (hl:l.length≤90000) {q:Req} (hq:q.ok) (hr:rightF q=0) (hln:(writeF q).length≤253) {tick:Int} (ht:0≤tick∧tick≤1099511627776) :
  ACalls Tryz.prog 13 [.ptr ln 0 0,.int .i64 0,.int .i64 tick,q.pv] s (fun r s'=>r=.tuple [(triesF q 3 F D).1.pv,.int .i64 (triesF q 3 F D).2.1]∧LnAt b ln c (triesF q 3 F D).2.2.1 (triesF q 3 F D).2.2.2 (l++sentF (frameF (bytesF q)) tick 0 (min ((triesF q 3 F D).2.1+1) 3)) a1 a2 a3 s'∧Out b ln c s s'):=by
 refine go Tryz.func13 (k:=fun hwf H=>?_)
 have hne:writeF q≠[]:=List.cons_ne_nil _ _
 have hbw:bytesF q=writeF q:=right_bytes hr
 have hfo:OkB (frameF (bytesF q)):=frameF_ok Y446
 have hfl:=frameF_len (bytesF q)
 have hfp:0<(frameF (bytesF q)).length:=Y339
 obtain ⟨fr,hfr⟩:∃ y,frameF (bytesF q)=y:=⟨_,rfl⟩
 rw [hfr] at hfo hfl hfp
 have h127:=has127 hr
 have hz:decide ((fr.length:Int)=0)=false:=decide_eq_false Y14
 have hc1:=h.hc
 have hc2:=h.nx
 have hc3:=h.lt
 have H:=aj hz H
 refine rs (k:=rg [0,1,2,7,8] (k:=rs (k:=rr (k:=ro (pre:=[_]) (k:=?_)))))
 refine RunO.callw au au au Y19 ((master_Frame hq).mono ?_)
 rintro r s9 ⟨rfl,hs⟩
 subst s9
 rw [hfr]
 refine rh [0,1,2,7,8,10] (k:=rs (k:=rs (k:=rr (k:=ro (pre:=[_,_,_]) (k:=rg1 (k:=rg1 (k:=rg1 (k:=rh [0,1,2,7,8,10,22] (k:=rc (ht:=fun hc0=>?_) (hf:=fun hc0=>?_))))))))))
 ·cases hc0
 ·have hc:=hc0
  refine rk (k:=rs (k:=rs (k:=rg [0,1,2,7,8,10,26] (k:=rb (k:=?_)))))
  refine Run.loop (fun e s'=>∃ (i:Nat) (D1:Dev) (F1:List Int) (l1:List Snt),e=[(0,.ptr ln 0 0),(1,.int .i64 0),(2,.int .i64 tick),(7,.ptr s.nxt 0 0),(8,.ptr (s.nxt+1) 0 0),(10,.sl .unk (fr.map (PV.int .u8))),(26,.int .i64 (i:Int))]∧Trying q F D i F1 D1∧l1=l++sentF fr tick 0 i∧LnAt b ln c D1 F1 l1 a1 a2 a3 s'∧Out b ln c s s'∧s.nxt+2≤s'.nxt∧s'.blk s.nxt=some (.row 31 [q.pv])∧s'.blk (s.nxt+1)=some (.row 41 [.agg [.int .i64 0,.int .i64 0,.int .i64 0,.int .i64 0,.int .i64 0,.sl .nil [],.sl .nil [],.int .u16 0,.int .u16 0,.sl .nil []]])) (fun e s'=>3-ivar e 26) ?_ ?_
  ·exact ⟨0,D,F,_,rfl,⟨Y15,hD,hff,hF,rfl,rfl,rfl,rfl⟩,(List.append_nil _).symm,(h.nw _).nw _,(Out.refl _ _ _ _).nw _ |>.nw _,Nat.le_refl _,Y30,Y30⟩
  rintro e S0 ⟨i,D1,F1,l1,rfl,hTr,hl1,hL,hO,hx0,hq0,hz0⟩
  have hll1:l1.length=l.length+i:=by rw [hl1,List.length_append];simp [sentF]
  have hi3':=hTr.le
  have H:=aj hq0 (aj hz0 H)
  refine rs (k:=rg [0,1,2,7,8,10,26,27] (k:=rs (k:=rc (ht:=fun hc1=>?_) (hf:=fun hc1=>?_))))
  ·have hc:=hc1
   refine rk (k:=rs (k:=rb (k:=rs (k:=rg [0,1,2,7,8,10,11,26] (k:=rs (k:=?_))))))
   have hi3:i<3:=Y69
   obtain ⟨B,D',g,hT⟩:=try_law hq hr hTr.ok (headD_ff hTr.ff) hln
   have hN:=hTr.next hi3 hT
   have hsd:=hT.snd
   rw [hfr] at hsd
   have hw4:IntKind.i64.wrap ((i:Int)*4)=(i:Int)*4:=wrap_i64 Y14
   have hwt:IntKind.i64.wrap (tick+(i:Int)*4)=tick+4*(i:Int):=Y21
   have hwi:IntKind.i64.wrap ((i:Int)+1)=((i+1:Nat):Int):=Y21
   refine Run.reserve ?_
   obtain ⟨r9,hr9⟩:∃ r,r=S0.nxt:=⟨_,rfl⟩
   obtain ⟨S,hS⟩:∃ S,S=S0.new .res:=⟨_,rfl⟩
   have hSr:S.blk r9=some .res:=by rw [hS,hr9];exact blk_new_eq
   have hSx:S.nxt=r9+1:=by rw [hS,hr9];rfl
   have hSL:LnAt b ln c D1 F1 l1 a1 a2 a3 S:=by rw [hS];exact hL.nw _
   have hSO:Out b ln c s S:=by rw [hS];exact hO.nw _
   have hSq:S.blk s.nxt=some (.row 31 [q.pv]):=by rw [hS,blk_new_ne Y14];exact hq0
   have hSz:S.blk (s.nxt+1)=some (.row 41 [.agg [.int .i64 0,.int .i64 0,.int .i64 0,.int .i64 0,.int .i64 0,.sl .nil [],.sl .nil [],.int .u16 0,.int .u16 0,.sl .nil []]]):=by rw [hS,blk_new_ne Y14];exact hz0
   rw [← hS]
   clear hS
   obtain ⟨S9,hsnd,hL9,hO9,hr99⟩:=line_SendV (r:=r9) (tick:=tick+4*(i:Int)) hSL hTr.ok hTr.ln (headD_ff hTr.ff) Y14 hfo Y14 Y14 Y14 hSr hsd hT.len
   have h9x:=hO9.nx
   have h9q:S9.blk s.nxt=some (.row 31 [q.pv]):=by rw [hO9.same _ Y14 (.inr fun L=>by rw [hSq];intro e;cases e) Y14 Y14];exact hSq
   have h9z:S9.blk (s.nxt+1)=some (.row 41 [.agg [.int .i64 0,.int .i64 0,.int .i64 0,.int .i64 0,.int .i64 0,.sl .nil [],.sl .nil [],.int .u16 0,.int .u16 0,.sl .nil []]]):=by rw [hO9.same _ Y14 (.inr fun L=>by rw [hSz];intro e;cases e) Y14 Y14];exact hSz
   have hsn0:=hsnd (some .res)
   rw [set_same hSr,set_same hr99] at hsn0
   have nr1:(s.nxt=r9)=False:=eq_false Y14
   have nr2:(s.nxt+1=r9)=False:=eq_false Y14
   have nr3:(r9=s.nxt+1)=False:=eq_false Y14
   have H:=aj hw4 (aj hwt (aj hwi (aj hSq (aj hSz (aj h9q (aj h9z (aj nr1 (aj nr2 (aj nr3 H)))))))))
   refine rH 16 [7,13,14] [[false,false,false],[true,false,false],[false,true,false],[true,true,false],[true,true,true]] [S,S9,(S.set r9 (some (.row 41 [.agg [.int .i64 0,.int .i64 0,.int .i64 0,.int .i64 0,.int .i64 0,.sl .nil [],.sl .nil [],.int .u16 0,.int .u16 0,.sl .nil []]]))),(S9.set r9 (some (.row 41 [.agg [.int .i64 0,.int .i64 0,.int .i64 0,.int .i64 0,.int .i64 0,.sl .nil [],.sl .nil [],.int .u16 0,.int .u16 0,.sl .nil []]]))),(S9.set r9 (some (.row 41 [(g.getD zeroP).pv])))] Tryz.mixed (k:=?_)
   refine dP [0,2] (pre:=[_,_,_,_,_,_,_]) (k:=?_)
   refine dX (v:=.sl .unk (B.map (PV.int .u8))) [(0,1),(2,3)] (h:=Y281) (k:=?_)
   refine dP [0,1,2,3] (pre:=[_]) (k:=?_)
   refine dC [1,3] (h:=fun s _=>master_good h127 hq hT) (k:=?_)
   refine dP [1,3,4] (pre:=[_,_,_]) (k:=?_)
   refine DetHC.resAlloc (id:=r9) [(0,2),(1,3)] _ Y19 pq au rfl (by rw [Tryz.zp41]<;>rfl) Y282 ?_
   refine dE [(3,4)] (k:=?_)
   refine dA [4] (k:=rl [0,1,2,7,8,10,11,12,13,26] (k:=rs (k:=rg [0,1,2,7,8,10,11,12,26,42] (k:=rc (ht:=fun hc2=>?_) (hf:=fun hc2=>?_)))))
   ·have hc:=hc2
    refine rs (k:=rg [8,9] (k:=rR (k:=?_)))
    obtain ⟨R,hgR⟩:∃ R,g=some R:=Y447
    have hN2:=hN.2 R hgR
    have hm3:min (i+1) 3=i+1:=Y14
    have n9:∀ L,S9.blk r9≠some (.tok L):=fun L=>Y397
    refine Ret.allW (r':=.tuple [R.pv,.int .i64 (i:Int)]) Y167 Y340 ⟨by rw [hN2],?_,?_⟩
    ·rw [hN2]
     dsimp only
     rw [hm3,sentF_snoc,← List.append_assoc,← hl1]
     exact (hL9.hi Y14 n9 _).hi Y14 (fun L=>by rw [blk_set_ne Y14,h9z];intro e;cases e) _
    ·exact ((hSO.trans hO9).hi Y14 _).hi Y14 _
   ·have hc:=hc2
    refine rk (k:=rB (k:=rg [0,1,2,7,8,10,26] (k:=?_)))
    have hgn:g=none:=by cases g with | none=>rfl | some R=>simp at hc2
    refine Run.lp ⟨⟨i+1,D',F1.tail,_,rfl,hN.1 hgn,by rw [sentF_snoc,← List.append_assoc,← hl1],(hL9.hi Y14 (fun L=>Y397) _),((hSO.trans hO9).hi Y14 _),by show s.nxt+2≤S9.nxt;omega,?_,?_⟩,?_⟩
    ·rw [blk_set_ne Y14];exact h9q
    ·rw [blk_set_ne Y14];exact h9z
    ·exact Y74
  ·have hc:=hc1
   refine rX (k:=rs (k:=rr (k:=ro (pre:=[_,_]) (k:=rC (h:=reply_Refuse hq.fn Y16) (k:=rh [8,9] (k:=rR (k:=?_)))))))
   obtain rfl:i=3:=Y73
   have k1:(triesF q 3 F D).1=refuseP q.fn 11:=hTr.rep
   have k2:(triesF q 3 F D).2.1=0+3:=hTr.bad
   have k3:(triesF q 3 F D).2.2=(D1,F1):=hTr.dev
   refine Ret.allW (r':=.tuple [(refuseP q.fn 11).pv,.int .i64 3]) Y167 Y111 ⟨by rw [k1,k2];rfl,?_,?_⟩
   ·rw [k2,k3]
    dsimp only
    rw [show min (0+3+1) 3=3 from rfl,← hl1]
    exact hL.hi Y14 Y398 _
   ·exact hO.hi Y14 _
end Go.Proofs
namespace Go.Proofs
open Go.PM
set_option maxHeartbeats 2000000
attribute [local go_sem] weaks_bools set_set Req.pv Rep.pv
theorem Y112 {p:Prop} (h:p:=by
 refine rs (k:=rr (k:=ro (pre:=[_,_]) (k:=rC (h:=reply_Refuse hq.fn Y16) (k:=rh [8,9] (k:=rR (k:=?_))))))
 exact Ret.pure (r':=.tuple [(refuseP q.fn 3).pv,.int .i64 0]) Y167 Y111 Y85 hwf Y26 ⟨rfl,rfl⟩):p:=h
set_option maxRecDepth 100000 in
theorem master_AskNil {q:Req} (hq:q.ok) {s:St}:ACalls Tryz.prog 13 [.nilp,.int .i64 0,.int .i64 0,q.pv] s (fun r s'=>r=.tuple [(refuseP q.fn 3).pv,.int .i64 0]∧s'=s):=by
 refine go Tryz.func13 (k:=fun hwf H=>?_)
 refine rs (k:=rg [0,1,2,7,8] (k:=rs (k:=rr (k:=ro (pre:=[_]) (k:=?_)))))
 refine RunO.callw au au au Y19 ((master_Frame hq).mono ?_)
 rintro r s9 ⟨rfl,hs⟩
 subst s9
 refine rh [0,1,2,7,8,10] (k:=rs (k:=rs (k:=rr (k:=ro (pre:=[_,_,_]) (k:=rg0 (k:=rg0 (k:=rg0 (k:=rh [0,1,2,7,8,10,22] (k:=rc (ht:=fun hc0=>?_) (hf:=fun hc0=>?_))))))))))
 ·exact Y112
 ·cases hc0
attribute [local go_sem] weaks_bools set_set Req.pv Rep.pv
set_option maxRecDepth 100000 in
theorem master_AskBad {q:Req} (hq:q.ok) (hb:frameF (bytesF q)=[]) {ln:Nat} {s:St}:ACalls Tryz.prog 13 [.ptr ln 0 0,.int .i64 0,.int .i64 0,q.pv] s (fun r s'=>r=.tuple [(refuseP q.fn 3).pv,.int .i64 0]∧s'=s):=by
 refine go Tryz.func13 (k:=fun hwf H=>?_)
 refine rs (k:=rg [0,1,2,7,8] (k:=rs (k:=rr (k:=ro (pre:=[_]) (k:=?_)))))
 refine RunO.callw au au au Y19 ((master_Frame hq).mono ?_)
 rintro r s9 ⟨rfl,hs⟩
 subst s9
 rw [hb]
 refine rh [0,1,2,7,8,10] (k:=rs (k:=rs (k:=rr (k:=ro (pre:=[_,_,_]) (k:=rg1 (k:=rg1 (k:=rg1 (k:=rh [0,1,2,7,8,10,22] (k:=rc (ht:=fun hc0=>?_) (hf:=fun hc0=>?_))))))))))
 ·exact Y112
 ·cases hc0
def k17F:List Int:=frameF [6,0,1,0,9]
def k17E (D:Dev):Dev:={ D.up with v1:=overF D.v1 1 [9] }
theorem k17_do {D:Dev} (h:D.c0.length=8):doF D (⟨6,1,0,0,0,[],[9],0,0⟩:Req)=((⟨6,0,1,0,0,[],[9],0,0,[]⟩:Rep),k17E D):=by
 have h1:countF (⟨6,1,0,0,0,[],[9],0,0⟩:Req)=true:=Y15
 exact do_6 (D:=D) (q:=(⟨6,1,0,0,0,[],[9],0,0⟩:Req)) h1 rfl (by rw [h];decide)
theorem k17_ok {D:Dev} (hD:D.ok) (h:D.c0.length=8):(k17E D).ok∧(k17E D).c0.length=8:=by
 have hq:((⟨6,1,0,0,0,[],[9],0,0⟩:Req):Req).ok:=req_okT Y15 Y16 Y16 Y16 Y16 (OkW.one Y16) Y16 Y16 Y15 Y15
 have:=doF_ok hD hq
 rw [k17_do h] at this
 exact ⟨this.1,by rw [← h];exact this.2⟩
theorem k17F_ok:OkB k17F∧k17F.length≤140737488350000:=⟨frameF_ok (by intro x hx;simp only [List.mem_cons,List.not_mem_nil,or_false] at hx;rcases hx with rfl | rfl | rfl | rfl | rfl<;>constructor<;>decide),Nat.le_trans (frameF_len _) Y15⟩
theorem Out.row {b ln c j t:Nat} {vs:List PV} {s s':St} (h:Out b ln c s s') (hb:s.blk j=some (.row t vs)) (hj:j<s.nxt) (h2:ln<j) (h3:b+5<j):s'.blk j=some (.row t vs):=by
 rw [h.same j hj (.inr fun L=>by rw [hb];intro e;cases e) Y14 Y14];exact hb
structure K18 (s0:St) (D:Dev) (F:List Int) (l:List Snt) (S:St):Prop where
 ln:LnAt s0.nxt (s0.nxt+6) (s0.nxt+8) D F l (.sl .nil []) (.sl .nil []) (.sl .nil []) S
 q:S.blk (s0.nxt+7)=some (.row 31 [.agg [.int .i64 6,.int .i64 1,.int .i64 0,.int .i64 0,.int .i64 0,.sl .nil [],.sl .clip [.int .u16 9],.int .u16 0,.int .u16 0]])
 low:∀ j,j<s0.nxt→S.blk j=s0.blk j
theorem K18.out {s0 S S':St} {D D':Dev} {F F':List Int} {l l':List Snt} (h:K18 s0 D F l S) (h1:LnAt s0.nxt (s0.nxt+6) (s0.nxt+8) D' F' l' (.sl .nil []) (.sl .nil []) (.sl .nil []) S') (h2:Out s0.nxt (s0.nxt+6) (s0.nxt+8) S S'):K18 s0 D' F' l' S':=by
 have hn:=h.ln.nx
 exact ⟨h1,h2.row h.q Y14 Y14 Y14,fun j hj=>by rw [h2.same j Y14 (.inl Y14) Y14 Y14];exact h.low j hj⟩
theorem K18.nw {s0 S:St} {D:Dev} {F:List Int} {l:List Snt} (h:K18 s0 D F l S) (x:Blk):K18 s0 D F l (S.new x):=by
 have hn:=h.ln.nx
 exact ⟨h.ln.nw _,by rw [blk_new_ne Y14];exact h.q,fun j hj=>by rw [blk_new_ne Y14];exact h.low j hj⟩
theorem K18.al {s0 S:St} {D:Dev} {F:List Int} {l:List Snt} (h:K18 s0 D F l S) {t t':Nat} {vs vs':List PV}:K18 s0 D F l ((S.new (.row t vs)).set S.nxt (some (.row t' vs'))):=by
 have hn:=h.ln.nx
 have h':=h.nw (.row t vs)
 exact ⟨h'.ln.hi Y14 (fun L=>by rw [blk_new_eq];intro e;cases e) _,by rw [blk_set_ne Y14];exact h'.q,fun j hj=>by rw [blk_set_ne Y14];exact h'.low j hj⟩
theorem row_nw {S:St} {j:Nat} {b x:Blk} (h:S.blk j=some b) (hj:j<S.nxt):(S.new x).blk j=some b:=by
 rw [blk_new_ne Y14];exact h
theorem k18_do {D:Dev} (hD:D.ok) (h:D.c0.length=8):∃ E,doF D (⟨6,1,0,0,0,[],[9],0,0⟩:Req)=((⟨6,0,1,0,0,[],[9],0,0,[]⟩:Rep),E)∧E.ok∧E.c0.length=8 :=
 ⟨_,k17_do h,(k17_ok hD h).1,(k17_ok hD h).2⟩
theorem k18_t1 {D:Dev} (hD:D.ok) (h:D.c0.length=8):∃ E,triesF (⟨6,1,0,0,0,[],[9],0,0⟩:Req) 3 [1,2] D=((⟨6,0,1,0,0,[],[9],0,0,[]⟩:Rep),2,E,[])∧E.ok∧E.c0.length=8:=by
 obtain ⟨E1,a1,a2,a3⟩:=k18_do hD h
 obtain ⟨E2,b1,b2,b3⟩:=k18_do a2 a3
 refine ⟨E2,?_,b2,b3⟩
 have c1:triesF (⟨6,1,0,0,0,[],[9],0,0⟩:Req) 1 [] E1=((⟨6,0,1,0,0,[],[9],0,0,[]⟩:Rep),0,E2,[]):=by
  show ((doF E1 (⟨6,1,0,0,0,[],[9],0,0⟩:Req)).1,0,(doF E1 (⟨6,1,0,0,0,[],[9],0,0⟩:Req)).2,[])=_
  rw [b1]
 have c2:triesF (⟨6,1,0,0,0,[],[9],0,0⟩:Req) 2 [2] D=((⟨6,0,1,0,0,[],[9],0,0,[]⟩:Rep),1,E2,[]):=by
  show ((triesF (⟨6,1,0,0,0,[],[9],0,0⟩:Req) 1 [] (doF D (⟨6,1,0,0,0,[],[9],0,0⟩:Req)).2).1,(triesF (⟨6,1,0,0,0,[],[9],0,0⟩:Req) 1 [] (doF D (⟨6,1,0,0,0,[],[9],0,0⟩:Req)).2).2.1+1,(triesF (⟨6,1,0,0,0,[],[9],0,0⟩:Req) 1 [] (doF D (⟨6,1,0,0,0,[],[9],0,0⟩:Req)).2).2.2)=_
  rw [a1,c1]
 show ((triesF (⟨6,1,0,0,0,[],[9],0,0⟩:Req) 2 [2] D).1,(triesF (⟨6,1,0,0,0,[],[9],0,0⟩:Req) 2 [2] D).2.1+1,(triesF (⟨6,1,0,0,0,[],[9],0,0⟩:Req) 2 [2] D).2.2)=_
 rw [c2]
theorem k18_t2 {D:Dev} (hD:D.ok) (h:D.c0.length=8):∃ E,triesF (⟨6,1,0,0,0,[],[9],0,0⟩:Req) 3 [3,3,3] D=(refuseP 6 11,3,E,[])∧E.ok∧E.c0.length=8:=by
 obtain ⟨E1,a1,a2,a3⟩:=k18_do hD h
 obtain ⟨E2,b1,b2,b3⟩:=k18_do a2 a3
 obtain ⟨E3,c1,c2,c3⟩:=k18_do b2 b3
 refine ⟨E3,?_,c2,c3⟩
 have d1:triesF (⟨6,1,0,0,0,[],[9],0,0⟩:Req) 1 [3] E2=(refuseP 6 11,1,E3,[]):=by
  show (refuseP 6 11,0+1,(doF E2 (⟨6,1,0,0,0,[],[9],0,0⟩:Req)).2,[])=_
  rw [c1]
 have d2:triesF (⟨6,1,0,0,0,[],[9],0,0⟩:Req) 2 [3,3] E1=(refuseP 6 11,2,E3,[]):=by
  show ((triesF (⟨6,1,0,0,0,[],[9],0,0⟩:Req) 1 [3] (doF E1 (⟨6,1,0,0,0,[],[9],0,0⟩:Req)).2).1,(triesF (⟨6,1,0,0,0,[],[9],0,0⟩:Req) 1 [3] (doF E1 (⟨6,1,0,0,0,[],[9],0,0⟩:Req)).2).2.1+1,(triesF (⟨6,1,0,0,0,[],[9],0,0⟩:Req) 1 [3] (doF E1 (⟨6,1,0,0,0,[],[9],0,0⟩:Req)).2).2.2)=_
  rw [b1,d1]
 show ((triesF (⟨6,1,0,0,0,[],[9],0,0⟩:Req) 2 [3,3] (doF D (⟨6,1,0,0,0,[],[9],0,0⟩:Req)).2).1,(triesF (⟨6,1,0,0,0,[],[9],0,0⟩:Req) 2 [3,3] (doF D (⟨6,1,0,0,0,[],[9],0,0⟩:Req)).2).2.1+1,(triesF (⟨6,1,0,0,0,[],[9],0,0⟩:Req) 2 [3,3] (doF D (⟨6,1,0,0,0,[],[9],0,0⟩:Req)).2).2.2)=_
 rw [a1,d2]
theorem k18_t3 {D:Dev}:triesF (⟨6,1,0,0,0,[],[9],0,0⟩:Req) 3 [4] D=(refuseP 6 4,0,D,[]):=rfl
def k18L:List Snt:=[⟨100,0,k17F⟩,⟨104,0,k17F⟩,⟨108,0,k17F⟩,⟨200,0,k17F⟩,⟨204,0,k17F⟩,⟨208,0,k17F⟩,⟨300,0,k17F⟩]
attribute [local go_sem] set_set weaks_bools Req.pv Rep.pv
theorem Y283 {p:Prop} (h:p:=by rw [hS];exact blk_new_eq):p:=h
set_option maxRecDepth 100000 in
theorem law18_known {s:St}:ACalls Tryz.prog 10 [] s (fun r s'=>r=.bool true∧s'=s):=by
 refine go Tryz.func10 (k:=fun hwf H=>?_)
 have hq6:((⟨6,1,0,0,0,[],[9],0,0⟩:Req)).ok:=req_okT Y15 Y16 Y16 Y16 Y16 (OkW.one Y16) Y16 Y16 Y15 Y15
 have hq9:((⟨9,0,0,0,0,[],[],0,0⟩:Req)).ok:=req_okT Y15 Y16 Y16 Y16 Y16 (fun x hx=>(List.not_mem_nil hx).elim) Y16 Y16 Y15 Y15
 have hqz:((⟨0,0,0,0,0,[],[],0,0⟩:Req)).ok:=req_okT Y15 Y16 Y16 Y16 Y16 (fun x hx=>(List.not_mem_nil hx).elim) Y16 Y16 Y15 Y15
 have hr6:rightF (⟨6,1,0,0,0,[],[9],0,0⟩:Req)=0:=Y15
 have hln6:(writeF (⟨6,1,0,0,0,[],[9],0,0⟩:Req)).length≤253:=Y15
 have hbF:frameF (bytesF (⟨6,1,0,0,0,[],[9],0,0⟩:Req))=k17F:=by
  unfold k17F
  rw [show bytesF (⟨6,1,0,0,0,[],[9],0,0⟩:Req)=[6,0,1,0,9] from Y15]
 have hb9:frameF (bytesF (⟨9,0,0,0,0,[],[],0,0⟩:Req))=[]:=by rw [show bytesF (⟨9,0,0,0,0,[],[],0,0⟩:Req)=[] from Y15];rfl
 have hbz:frameF (bytesF (⟨0,0,0,0,0,[],[],0,0⟩:Req))=[]:=by rw [show bytesF (⟨0,0,0,0,0,[],[],0,0⟩:Req)=[] from Y15];rfl
 have o0:(Dev.zero 8).ok:=Dev.zero_ok Y15 Y15
 have l0:(Dev.zero 8).c0.length=8:=Y15
 refine rs (k:=rg [] (k:=rs (k:=rr (k:=?_))))
 refine RunO.callw au au au Y19 ((device_New (n:=8) Y15 Y15).mono ?_)
 rintro r s1 ⟨rfl,hA0,hlo0,hnx0⟩
 have H:=aj hnx0 H
 refine RunO.callw au au au Y19 ((line_New).mono ?_)
 rintro r s2 ⟨rfl,hs⟩
 have hr2:s2.blk (s.nxt+6)=some (lnRow (s.nxt+5) (.sl .nil []) (.sl .nil []) (.sl .nil []) (.sl .nil []) (.sl .nil [])):=by rw [hs,← hnx0];exact blk_new_eq
 have hx2:s2.nxt=s.nxt+7:=by rw [hs];simp only [nxt_new,hnx0]
 have hA2:DevAt s.nxt (Dev.zero 8) s2:=by rw [hs];exact hA0.nw Y14 _
 have hlo2:∀ j,j<s.nxt→s2.blk j=s.blk j:=fun j hj=>by rw [hs,blk_new_ne Y14];exact hlo0 j hj
 clear hs
 have H:=aj hx2 H
 refine rh [1] (k:=rs (k:=rs (k:=rg [1,18] (k:=rc (ht:=fun hc0=>?_) (hf:=fun hc0=>?_)))))
 ·cases hc0
 ·refine rk (k:=rs (k:=rr (k:=rO (k:=rh [1,2] (k:=rs (k:=?_))))))
  refine Run.genS fun S0 hS=>?_
  have hK0:K18 s (Dev.zero 8) [] [] S0:=by
   rw [hS]
   exact ⟨⟨⟨.sl .nil [],.sl .nil [],none,none,by rw [blk_set_ne Y14,blk_new_ne Y14];exact hr2,⟨rfl,rfl⟩,⟨rfl,rfl⟩,.inl rfl⟩,(hA2.nw Y14 _).sv Y14 _,Y14,Y14,by show s.nxt+8≤s2.nxt+1;omega⟩,blk_set_self _ _ _,fun j hj=>by rw [blk_set_ne Y14,blk_new_ne Y14];exact hlo2 j hj⟩
  clear hS
  refine rr (k:=ro (pre:=[_]) (k:=?_))
  refine RunO.callw au au au Y19 ((line_HurtX hK0.ln (f:=1) Y15 Y15).mono ?_)
  rintro r S1 ⟨rfl,hL1,hO1⟩
  have hK1:=hK0.out hL1 hO1
  refine rl [1,2] (k:=rs (k:=rr (k:=ro (pre:=[_]) (k:=?_))))
  refine RunO.callw au au au Y19 ((line_HurtX hK1.ln (f:=2) Y15 Y15).mono ?_)
  rintro r S2 ⟨rfl,hL2,hO2⟩
  have hK2:=hK1.out hL2 hO2
  have H:=aj hK2.q H
  refine rl [1,2] (k:=rs (k:=rr (k:=ro (pre:=[_,_]) (k:=?_))))
  refine RunO.callw au au au Y19 ((master_Ask hK2.ln o0 Y15 Y15 Y15 hq6 hr6 hln6 (tick:=100) Y16).mono ?_)
  rintro r S3 ⟨rfl,hL3,hO3⟩
  obtain ⟨D3,e3,o3,l3⟩:=k18_t1 o0 l0
  rw [show ([]:List Int)++[1]++[2]=[1,2] from rfl,e3] at hL3 ⊢
  rw [hbF] at hL3
  dsimp only at hL3 ⊢
  have hK3:=hK2.out hL3 hO3
  have hn3:=hK3.ln.nx
  refine rh [1,2,3,4] (k:=rs (k:=rs (k:=rg [1,2,3,4,5] (k:=rb (k:=?_)))))
  refine Run.loop (fun e s'=>∃ (i:Nat),e=[(1,.ptr (s.nxt+6) 0 0),(2,.ptr (s.nxt+7) 0 0),(3,.ptr S3.nxt 0 0),(4,.int .i64 2),(5,.int .i64 (i:Int))]∧i≤3∧K18 s D3 (List.replicate i 3) ([]++sentF k17F 100 0 (min (2+1) 3)) s'∧s'.blk S3.nxt=some (.row 41 [(⟨6,0,1,0,0,[],[9],0,0,[]⟩:Rep).pv])∧S3.nxt<s'.nxt) (fun e s'=>3-ivar e 5) ?_ ?_
  ·exact ⟨0,rfl,Y15,hK3.nw _,blk_new_eq,Nat.lt_succ_self _⟩
  rintro e S ⟨i,rfl,hi,hK,ha,hp⟩
  refine rs (k:=rs (k:=?_))
  have hw:i<3→IntKind.i64.wrap ((i:Int)+1)=((i+1:Nat):Int):=fun h=>Y21
  refine rg [1,2,3,4,5,32] (k:=rc (ht:=fun hc1=>?_) (hf:=fun hc1=>?_))
  ·refine rk (k:=rs (k:=rb (k:=?_)))
   have hi3:i<3:=Y69
   have hw1:=hw hi3
   have H:=aj hw1 H
   refine rr (k:=ro (pre:=[_]) (k:=?_))
   refine RunO.callw au au au Y19 ((line_HurtX hK.ln (f:=3) Y15 (by rw [List.length_replicate];omega)).mono ?_)
   rintro r S4 ⟨rfl,hL4,hO4⟩
   have hK4:=hK.out hL4 hO4
   have a4:=hO4.row ha hp Y14 Y14
   have hx4:=hO4.nx
   refine rl [1,2,3,4,5] (k:=rB (k:=rg [1,2,3,4,5] (k:=?_)))
   refine Run.lp ⟨⟨i+1,rfl,Y14,by rw [List.replicate_succ'];exact hK4,a4,Y14⟩,?_⟩
   simp only [ivar,go_sem,↓reduceIte,Nat.reduceEqDiff]
   omega
  ·refine rX (k:=rs (k:=?_))
   obtain rfl:i=3:=Y73
   have hKq:=hK.q
   have H:=aj hKq H
   refine rr (k:=ro (pre:=[_,_]) (k:=?_))
   refine RunO.callw au au au Y19 ((master_Ask hK.ln o3 Y15 Y15 Y15 hq6 hr6 hln6 (tick:=200) Y16).mono ?_)
   rintro r S5 ⟨rfl,hL5,hO5⟩
   obtain ⟨D5,e5,o5,l5⟩:=k18_t2 o3 l3
   rw [show List.replicate 3 (3:Int)=[3,3,3] from rfl,e5] at hL5 ⊢
   rw [hbF] at hL5
   dsimp only at hL5 ⊢
   have hK5:=hK.out hL5 hO5
   have a5:=hO5.row ha hp Y14 Y14
   have hn5:=hK5.ln.nx
   have hx5:=hO5.nx
   refine rh [1,2,3,4,6,7] (k:=rs (k:=?_))
   refine Run.genS fun Sn5 hS=>?_
   have hKn5:K18 s D5 [] ([]++sentF k17F 100 0 (min (2+1) 3)++sentF k17F 200 0 (min (3+1) 3)) Sn5:=by rw [hS];exact hK5.nw _
   have an5:Sn5.blk S3.nxt=some (.row 41 [(⟨6,0,1,0,0,[],[9],0,0,[]⟩:Rep).pv]):=by rw [hS];exact row_nw a5 Y14
   have bn5:Sn5.blk S5.nxt=some (.row 41 [(refuseP 6 11).pv]):=Y283
   have hxn5:Sn5.nxt=S5.nxt+1:=Y267
   clear hS
   refine rr (k:=ro (pre:=[_]) (k:=?_))
   refine RunO.callw au au au Y19 ((line_HurtX hKn5.ln (f:=4) Y15 Y15).mono ?_)
   rintro r S6 ⟨rfl,hL6,hO6⟩
   have hK6:=hKn5.out hL6 hO6
   have a6:=hO6.row an5 Y14 Y14 Y14
   have b6:=hO6.row bn5 Y14 Y14 Y14
   have hx6:=hO6.nx
   have H:=aj hK6.q H
   refine rl [1,2,3,4,6,7] (k:=rs (k:=rr (k:=ro (pre:=[_,_]) (k:=?_))))
   refine RunO.callw au au au Y19 ((master_Ask hK6.ln o5 Y15 Y15 Y15 hq6 hr6 hln6 (tick:=300) Y16).mono ?_)
   rintro r S7 ⟨rfl,hL7,hO7⟩
   rw [show ([]:List Int)++[4]=[4] from rfl,k18_t3] at hL7 ⊢
   rw [hbF] at hL7
   dsimp only at hL7 ⊢
   have hK7:=hK6.out hL7 hO7
   have a7:=hO7.row a6 Y14 Y14 Y14
   have b7:=hO7.row b6 Y14 Y14 Y14
   have hx7:=hO7.nx
   have H:=aj hK7.q (aj a7 (aj b7 H))
   refine rh [1,2,3,4,6,7,8,9] (k:=rs (k:=?_))
   refine Run.genS fun S8 hS=>?_
   have hK8:K18 s D5 [] ([]++sentF k17F 100 0 (min (2+1) 3)++sentF k17F 200 0 (min (3+1) 3)++sentF k17F 300 0 (min (0+1) 3)) S8:=by rw [hS];exact hK7.nw _
   have a8:S8.blk S3.nxt=some (.row 41 [(⟨6,0,1,0,0,[],[9],0,0,[]⟩:Rep).pv]):=by rw [hS];exact row_nw a7 Y14
   have b8:S8.blk S5.nxt=some (.row 41 [(refuseP 6 11).pv]):=by rw [hS];exact row_nw b7 Y14
   have c8:S8.blk S7.nxt=some (.row 41 [(refuseP 6 4).pv]):=Y283
   have hx8:S8.nxt=S7.nxt+1:=Y267
   have q8:=hK8.q
   clear hS
   have H:=aj q8 (aj a8 (aj b8 (aj c8 H)))
   refine rr (k:=ro (pre:=[_]) (k:=rC (h:=master_AskNil hq6) (k:=rh [1,2,3,4,6,7,8,9,10,11] (k:=rs (k:=?_)))))
   refine Run.genS fun S9 hS=>?_
   have hK9:K18 s D5 [] ([]++sentF k17F 100 0 (min (2+1) 3)++sentF k17F 200 0 (min (3+1) 3)++sentF k17F 300 0 (min (0+1) 3)) S9:=by rw [hS];exact hK8.nw _
   have a9:S9.blk S3.nxt=some (.row 41 [(⟨6,0,1,0,0,[],[9],0,0,[]⟩:Rep).pv]):=by rw [hS];exact row_nw a8 Y14
   have b9:S9.blk S5.nxt=some (.row 41 [(refuseP 6 11).pv]):=by rw [hS];exact row_nw b8 Y14
   have c9:S9.blk S7.nxt=some (.row 41 [(refuseP 6 4).pv]):=by rw [hS];exact row_nw c8 Y14
   have d9:S9.blk S8.nxt=some (.row 41 [(refuseP 6 3).pv]):=Y283
   have hx9:S9.nxt=S8.nxt+1:=Y267
   have q9:=hK9.q
   clear hS
   have H:=aj q9 (aj a9 (aj b9 (aj c9 (aj d9 H))))
   refine rr (k:=ro (pre:=[_,_]) (k:=rC (h:=master_AskBad hq9 hb9) (k:=rh [1,2,3,4,6,7,8,9,10,11,12,13] (k:=rs (k:=?_)))))
   refine Run.genS fun S10 hS=>?_
   have hK10:K18 s D5 [] ([]++sentF k17F 100 0 (min (2+1) 3)++sentF k17F 200 0 (min (3+1) 3)++sentF k17F 300 0 (min (0+1) 3)) S10:=by rw [hS];exact hK9.nw _
   have a10:S10.blk S3.nxt=some (.row 41 [(⟨6,0,1,0,0,[],[9],0,0,[]⟩:Rep).pv]):=by rw [hS];exact row_nw a9 Y14
   have b10:S10.blk S5.nxt=some (.row 41 [(refuseP 6 11).pv]):=by rw [hS];exact row_nw b9 Y14
   have c10:S10.blk S7.nxt=some (.row 41 [(refuseP 6 4).pv]):=by rw [hS];exact row_nw c9 Y14
   have d10:S10.blk S8.nxt=some (.row 41 [(refuseP 6 3).pv]):=by rw [hS];exact row_nw d9 Y14
   have e10:S10.blk S9.nxt=some (.row 41 [(refuseP 9 3).pv]):=Y283
   have hx10:S10.nxt=S9.nxt+1:=Y267
   have q10:=hK10.q
   clear hS
   have H:=aj q10 (aj a10 (aj b10 (aj c10 (aj d10 (aj e10 H)))))
   refine rr (k:=ro (pre:=[_]) (k:=?_))
   refine RunO.callw au au au Y19 ((line_SentX hK10.ln Y15 (by intro x hx;simp only [List.mem_append,sentF,List.mem_map] at hx;rcases hx with ((hx | ⟨_,_,rfl⟩) | ⟨_,_,rfl⟩) | ⟨_,_,rfl⟩;cases hx;all_goals exact k17F_ok.2)).mono ?_)
   rintro r s9 ⟨rfl,hs⟩
   subst s9
   rw [show ([]++sentF k17F 100 0 (min (2+1) 3)++sentF k17F 200 0 (min (3+1) 3)++sentF k17F 300 0 (min (0+1) 3):List Snt)=k18L from rfl]
   refine rh [2,3,4,6,7,8,9,10,11,12,13,14] (k:=rs (k:=?_))
   have hbs:∀ l:List UInt8,(l==l)=true:=fun l=>beq_self_eq_true l
   have hal:decide ((⟨6,0,1,0,0,[],[9],0,0,[]⟩:Rep)=(⟨6,0,1,0,0,[],[9],0,0,[]⟩:Rep))=true:=Y15
   have hR6:((⟨6,0,1,0,0,[],[9],0,0,[]⟩:Rep)).ok:=by have:=(k17_do (D:=Dev.zero 8) l0);have h2:=doF_rep o0 hq6;rw [this] at h2;exact h2
   have H:=aj hbs (aj hal (aj hbz H))
   refine Run.drawC [] [0] Tryz.mixed Y19 ?_
   refine DetC.pre (pre:=[_,_,_]) au ?_
   refine DetC.call au au au Y19 (ref3_Alike (a:=(⟨6,0,1,0,0,[],[9],0,0,[]⟩:Rep)) (b:=(⟨6,0,1,0,0,[],[9],0,0,[]⟩:Rep)) hR6 hR6) ?_
   refine DetC.pre (pre:=[_]) au ?_
   refine DetC.gdo au au ?_
   refine DetC.gdo au au ?_
   refine DetC.pre (pre:=[_,_]) au ?_
   refine DetC.gdo au au ?_
   refine DetC.gdo au au ?_
   refine DetC.gdo au au ?_
   refine DetC.pre (pre:=[_,_]) au ?_
   refine DetC.gdo au au ?_
   refine DetC.gdo au au ?_
   refine DetC.pre (pre:=[_,_]) au ?_
   refine DetC.gdo au au ?_
   refine DetC.gdo au au ?_
   refine DetC.gdo au au ?_
   refine DetC.pre (pre:=[_,_]) au ?_
   refine DetC.gdo au au ?_
   refine DetC.gdo au au ?_
   refine DetC.pre (pre:=[_,_]) au ?_
   refine DetC.gdo au au ?_
   refine DetC.gdo au au ?_
   refine DetC.gdo au au ?_
   refine DetC.pre (pre:=[_,_]) au ?_
   refine DetC.gdo au au ?_
   refine DetC.gdo au au ?_
   refine DetC.pre (pre:=[_,_]) au ?_
   refine DetC.gdo au au ?_
   refine DetC.gdo au au ?_
   refine DetC.gdo au au ?_
   refine DetC.pre (pre:=[_,_]) au ?_
   refine DetC.gdo au au ?_
   refine DetC.gdo au au ?_
   refine DetC.pre (pre:=[_,_]) au ?_
   refine DetC.gdo au au ?_
   refine DetC.gdo au au ?_
   refine DetC.gdo au au ?_
   refine DetC.pre (pre:=[_,_]) au ?_
   refine DetC.gdo au au ?_
   refine DetC.gdo au au ?_
   refine DetC.gdo au au ?_
   refine DetC.gdo au au ?_
   refine DetC.gdo au au ?_
   refine DetC.pre (pre:=[_,_]) au ?_
   refine DetC.gdo au au ?_
   refine DetC.gdo au au ?_
   refine DetC.gdo au au ?_
   refine DetC.gdo au au ?_
   refine DetC.gdo au au ?_
   refine DetC.pre (pre:=[_,_]) au ?_
   refine DetC.gdo au au ?_
   refine DetC.call au au au Y19 (master_Frame hq6) ?_
   refine DetC.gdo au au ?_
   refine DetC.gdo au au ?_
   refine DetC.call au au au Y19 (ref17_Frame hq6) ?_
   refine DetC.gdo au au ?_
   refine DetC.gdo au au ?_
   refine DetC.pre (pre:=[_,_]) au ?_
   refine DetC.gdo au au ?_
   refine DetC.call au au au Y19 (master_Frame hqz) ?_
   refine DetC.gdo au au ?_
   refine DetC.gdo au au ?_
   refine DetC.all au ?_
   refine re (k:=rR (k:=?_))
   exact Ret.pure (r':=.bool true) (by simp only [Tryz.f10,go_sem,↓reduceIte]<;>rfl) rfl Y359 hwf (fun i hi=>hK10.low i hi) ⟨rfl,rfl⟩
end Go.Proofs
namespace Go.Proofs
open Go.PM
set_option maxHeartbeats 2000000
def sentG (fr:List Int) (tn tick:Int) (i k:Nat):List Snt:=(List.range' i k).map fun (j:Nat)=>⟨tick+4*(j:Int),tn,fr⟩
theorem sentG_snoc (fr:List Int) (tn tick:Int) (k:Nat):sentG fr tn tick 0 (k+1)=sentG fr tn tick 0 k++[⟨tick+4*(k:Int),tn,fr⟩]:=by
 unfold sentG
 rw [List.range'_concat,List.map_append,Nat.zero_add,Nat.one_mul]
 rfl
theorem sentG_len (fr:List Int) (tn tick:Int) (k:Nat):(sentG fr tn tick 0 k).length=k:=by simp [sentG]
theorem sentG_data {fr:List Int} {tn tick:Int} {k:Nat} {x:Snt} (h:x∈sentG fr tn tick 0 k):x.data=fr:=by
 simp only [sentG,List.mem_map] at h
 obtain ⟨_,_,rfl⟩:=h
 rfl
theorem Fr4.nw {b n ln:Nat} {ns ns':Nat→Option Nat} {s s':St} (h:Fr4 b n ln ns ns' s s') (x:Blk):Fr4 b n ln ns ns' s (s'.new x):=by
 have:=h.nx
 exact ⟨Nat.le_succ_of_le h.nx,fun j q1 q2 q3 q4=>by rw [blk_new_ne Y14];exact h.same j q1 q2 q3 q4,h.new⟩
theorem Fr4.hi {b n ln r:Nat} {ns ns':Nat→Option Nat} {s s':St} (h:Fr4 b n ln ns ns' s s') (hr:s.nxt≤r) (x:Option Blk):Fr4 b n ln ns ns' s (s'.set r x) :=
 ⟨h.nx,fun j q1 q2 q3 q4=>by rw [blk_set_ne Y14];exact h.same j q1 q2 q3 q4,h.new⟩
theorem Ln4.istok {ty d ln c i j:Nat} {FS:Nat→List Int} {l:List Snt} {ns:Nat→Option Nat} {s:St} (h:Ln4 ty d ln c FS l ns s) (hi:ns i=some j):∃ L,s.blk j=some (.tok L):=by
 obtain ⟨xs,st,h1,h2,h3,h4⟩:=h.row
 by_cases g:i<4
 ·obtain ⟨x,_,k⟩:=h3 i g
  rw [hi] at k
  exact ⟨_,k.2.1⟩
 ·exact Y335
theorem Ln4.hi {ty d ln c r:Nat} {FS:Nat→List Int} {l:List Snt} {ns:Nat→Option Nat} {s:St} (h:Ln4 ty d ln c FS l ns s) (hr:c≤r) (hb:∀ L,s.blk r≠some (.tok L)) (x:Option Blk):Ln4 ty d ln c FS l ns (s.set r x) :=
 h.keep (Nat.le_refl _) fun j _ hj=>blk_set_ne (by
  have:=h.hc
  rcases hj with rfl | ⟨i,hi⟩
  ·omega
  ·rintro rfl
   obtain ⟨L,e⟩:=h.istok hi
   exact hb L e)
theorem Ln4.other {ty d ln c b n j t:Nat} {vs:List PV} {FS:Nat→List Int} {l:List Snt} {ns n':Nat→Option Nat} {s s':St} (h:Ln4 ty d ln c FS l ns s) (f:Fr4 b n ln ns n' s s') (hb:s.blk j=some (.row t vs)) (h1:j<s.nxt) (h2:j≠ln) (h3:¬ (b≤j∧j<n)):s'.blk j=some (.row t vs):=by
 rw [f.same j h1 h2 h3 fun i hi=>absurd hb (h.notrow hi)];exact hb
theorem upF_self {α:Type} (F:Nat→α) (k:Nat):upF F k (F k)=F:=by
 funext i
 by_cases e:i=k
 ·rw [e,upF_at]
 ·exact upF_ne e
theorem takeQ_up {FS:Nat→List Int} {T:Nat} (hT:T<4) (F:List Int):takeQ (upF FS T F) (T:Int)=F.headD 0:=by
 unfold takeQ
 rw [if_pos Y14]
 show (upF FS T F T).headD 0=_
 rw [upF_at]
theorem takeFS_up {FS:Nat→List Int} {T:Nat} (hT:T<4) (F:List Int):takeFS (upF FS T F) (T:Int)=upF FS T F.tail:=by
 unfold takeFS
 rw [if_pos Y14]
 show upF (upF FS T F) T (upF FS T F T).tail=_
 rw [upF_at]
 funext i
 by_cases e:i=T
 ·rw [e,upF_at,upF_at]
 ·rw [upF_ne e,upF_ne e,upF_ne e]
theorem FOk.up {FS:Nat→List Int} (h:FOk FS) (T:Nat) {F:List Int} (h1:F.length≤1000) (h2:∀ f∈F,0≤f∧f≤4):FOk (upF FS T F):=by
 intro i
 by_cases e:i=T
 ·rw [e,upF_at];exact ⟨h1,h2⟩
 ·rw [upF_ne e];exact h i
def askX (q:Req) (FS:Nat→List Int) (T:Nat) (l:List Snt) (tick:Int) (D:Dev):Rep × Nat × Dev × (Nat→List Int) × List Snt :=
 if rightF q=0 then ((triesF q 3 (FS T) D).1,(triesF q 3 (FS T) D).2.1,(triesF q 3 (FS T) D).2.2.1,upF FS T (triesF q 3 (FS T) D).2.2.2,l++sentG (frameF (bytesF q)) T tick 0 (min ((triesF q 3 (FS T) D).2.1+1) 3)) else (refuseP q.fn 3,0,D,FS,l)
attribute [local go_sem] weaks_bools set_set Req.pv Rep.pv
theorem Y168 {p:Prop} (h:p:=by exact ⟨0,D,FS T,_,ns,rfl,⟨Y15,hD,hFT.2,hFT.1,rfl,rfl,rfl,rfl⟩,(List.append_nil _).symm,by rw [upF_self];exact (h.nw _).nw _,(hA.nw Y14 _).nw Y89 _,((Fr4.refl _ _ _ _ _).nw _).nw _,Nat.le_refl _,Y30,Y30⟩):p:=h
set_option maxRecDepth 100000 in
theorem master_AskM {b ln c T:Nat} {FS:Nat→List Int} {l:List Snt} {ns:Nat→Option Nat} {D:Dev} {s:St} (h:Ln4 59 (b+5) ln c FS l ns s) (hA:DevAt b D s) (hD:D.ok) (hbl:b+5<ln) (hF:FOk FS) (hT4:T<4) (hl:l.length≤90000) {q:Req} (hq:q.ok) (hr:rightF q=0) (hln:(writeF q).length≤253) {tick:Int} (ht:0≤tick∧tick≤1099511627776) :
  ACalls Tryz.prog 13 [.ptr ln 0 0,.int .i64 (T:Int),.int .i64 tick,q.pv] s (fun r s'=>r=.tuple [(askX q FS T l tick D).1.pv,.int .i64 (askX q FS T l tick D).2.1]∧∃ ns',Ln4 59 (b+5) ln c (askX q FS T l tick D).2.2.2.1 (askX q FS T l tick D).2.2.2.2 ns' s'∧DevAt b (askX q FS T l tick D).2.2.1 s'∧Fr4 b (b+6) ln ns ns' s s'):=by
 refine go Tryz.func13 (k:=fun hwf H=>?_)
 have hne:writeF q≠[]:=List.cons_ne_nil _ _
 have hbw:bytesF q=writeF q:=right_bytes hr
 have hfo:OkB (frameF (bytesF q)):=frameF_ok Y446
 have hfl:=frameF_len (bytesF q)
 have hfp:0<(frameF (bytesF q)).length:=Y339
 obtain ⟨fr,hfr⟩:∃ y,frameF (bytesF q)=y:=⟨_,rfl⟩
 rw [hfr] at hfo hfl hfp
 have h127:=has127 hr
 have hz:decide ((fr.length:Int)=0)=false:=decide_eq_false Y14
 have hc1:=h.hc
 have hc2:=h.nx
 have hFT:=hF T
 have H:=aj hz H
 refine rs (k:=rg [0,1,2,7,8] (k:=rs (k:=rr (k:=ro (pre:=[_]) (k:=?_)))))
 refine RunO.callw au au au Y19 ((master_Frame hq).mono ?_)
 rintro r s9 ⟨rfl,hs⟩
 subst s9
 rw [hfr]
 refine rh [0,1,2,7,8,10] (k:=rs (k:=rs (k:=rr (k:=ro (pre:=[_,_,_]) (k:=rg1 (k:=rg1 (k:=rg1 (k:=rh [0,1,2,7,8,10,22] (k:=rc (ht:=fun hc0=>?_) (hf:=fun hc0=>?_))))))))))
 ·cases hc0
 ·have hc:=hc0
  refine rk (k:=rs (k:=rs (k:=rg [0,1,2,7,8,10,26] (k:=rb (k:=?_)))))
  refine Run.loop (fun e s'=>∃ (i:Nat) (D1:Dev) (F1:List Int) (l1:List Snt) (n1:Nat→Option Nat),e=[(0,.ptr ln 0 0),(1,.int .i64 (T:Int)),(2,.int .i64 tick),(7,.ptr s.nxt 0 0),(8,.ptr (s.nxt+1) 0 0),(10,.sl .unk (fr.map (PV.int .u8))),(26,.int .i64 (i:Int))]∧Trying q (FS T) D i F1 D1∧l1=l++sentG fr T tick 0 i∧Ln4 59 (b+5) ln c (upF FS T F1) l1 n1 s'∧DevAt b D1 s'∧Fr4 b (b+6) ln ns n1 s s'∧s.nxt+2≤s'.nxt∧s'.blk s.nxt=some (.row 31 [q.pv])∧s'.blk (s.nxt+1)=some (.row 41 [.agg [.int .i64 0,.int .i64 0,.int .i64 0,.int .i64 0,.int .i64 0,.sl .nil [],.sl .nil [],.int .u16 0,.int .u16 0,.sl .nil []]])) (fun e s'=>3-ivar e 26) ?_ ?_
  ·exact Y168
  rintro e S0 ⟨i,D1,F1,l1,n1,rfl,hTr,hl1,hL,hA1,hO,hx0,hq0,hz0⟩
  have hll1:l1.length=l.length+i:=by rw [hl1,List.length_append,sentG_len]
  have hi3':=hTr.le
  have hF1:=hF.up T hTr.ln hTr.ff
  have H:=aj hq0 (aj hz0 H)
  refine rs (k:=rg [0,1,2,7,8,10,26,27] (k:=rs (k:=rc (ht:=fun hc1=>?_) (hf:=fun hc1=>?_))))
  ·have hc:=hc1
   refine rk (k:=rs (k:=rb (k:=rs (k:=rg [0,1,2,7,8,10,11,26] (k:=rs (k:=?_))))))
   have hi3:i<3:=Y69
   obtain ⟨B,D',g,hT⟩:=try_law hq hr hTr.ok (headD_ff hTr.ff) hln
   have hN:=hTr.next hi3 hT
   have hsd:=hT.snd
   rw [hfr,← takeQ_up (FS:=FS) hT4] at hsd
   have hw4:IntKind.i64.wrap ((i:Int)*4)=(i:Int)*4:=wrap_i64 Y14
   have hwt:IntKind.i64.wrap (tick+(i:Int)*4)=tick+4*(i:Int):=Y21
   have hwi:IntKind.i64.wrap ((i:Int)+1)=((i+1:Nat):Int):=Y21
   refine Run.reserve ?_
   obtain ⟨r9,hr9⟩:∃ r,r=S0.nxt:=⟨_,rfl⟩
   obtain ⟨S,hS⟩:∃ S,S=S0.new .res:=⟨_,rfl⟩
   have hSr:S.blk r9=some .res:=by rw [hS,hr9];exact blk_new_eq
   have hSx:S.nxt=r9+1:=by rw [hS,hr9];rfl
   have hSL:Ln4 59 (b+5) ln c (upF FS T F1) l1 n1 S:=by rw [hS];exact hL.nw _
   have hSD:DevAt b D1 S:=by rw [hS];exact hA1.nw Y14 _
   have hSO:Fr4 b (b+6) ln ns n1 s S:=by rw [hS];exact hO.nw _
   have hSq:S.blk s.nxt=some (.row 31 [q.pv]):=by rw [hS,blk_new_ne Y14];exact hq0
   have hSz:S.blk (s.nxt+1)=some (.row 41 [.agg [.int .i64 0,.int .i64 0,.int .i64 0,.int .i64 0,.int .i64 0,.sl .nil [],.sl .nil [],.int .u16 0,.int .u16 0,.sl .nil []]]):=by rw [hS,blk_new_ne Y14];exact hz0
   rw [← hS]
   clear hS
   obtain ⟨S9,n9',hsnd,hL9,hD9,hO9,hr99⟩:=line_SendMV (r:=r9) (tick:=tick+4*(i:Int)) hSL hSD hTr.ok hbl hF1 Y14 hfo Y14 Y14 Y14 hSr hsd hT.len
   rw [takeFS_up hT4] at hL9
   have h9x:=hO9.nx
   have h9q:=hSL.other hO9 hSq Y14 Y14 Y14
   have h9z:=hSL.other hO9 hSz Y14 Y14 Y14
   have hsn0:=hsnd (some .res)
   rw [set_same hSr,set_same hr99] at hsn0
   have nr1:(s.nxt=r9)=False:=eq_false Y14
   have nr2:(s.nxt+1=r9)=False:=eq_false Y14
   have nr3:(r9=s.nxt+1)=False:=eq_false Y14
   have H:=aj hw4 (aj hwt (aj hwi (aj hSq (aj hSz (aj h9q (aj h9z (aj nr1 (aj nr2 (aj nr3 H)))))))))
   refine rH 16 [7,13,14] [[false,false,false],[true,false,false],[false,true,false],[true,true,false],[true,true,true]] [S,S9,(S.set r9 (some (.row 41 [.agg [.int .i64 0,.int .i64 0,.int .i64 0,.int .i64 0,.int .i64 0,.sl .nil [],.sl .nil [],.int .u16 0,.int .u16 0,.sl .nil []]]))),(S9.set r9 (some (.row 41 [.agg [.int .i64 0,.int .i64 0,.int .i64 0,.int .i64 0,.int .i64 0,.sl .nil [],.sl .nil [],.int .u16 0,.int .u16 0,.sl .nil []]]))),(S9.set r9 (some (.row 41 [(g.getD zeroP).pv])))] Tryz.mixed (k:=?_)
   refine dP [0,2] (pre:=[_,_,_,_,_,_,_]) (k:=?_)
   refine dX (v:=.sl .unk (B.map (PV.int .u8))) [(0,1),(2,3)] (h:=Y281) (k:=?_)
   refine dP [0,1,2,3] (pre:=[_]) (k:=?_)
   refine dC [1,3] (h:=fun s _=>master_good h127 hq hT) (k:=?_)
   refine dP [1,3,4] (pre:=[_,_,_]) (k:=?_)
   refine DetHC.resAlloc (id:=r9) [(0,2),(1,3)] _ Y19 pq au rfl (by rw [Tryz.zp41]<;>rfl) Y282 ?_
   refine dE [(3,4)] (k:=?_)
   refine dA [4] (k:=rl [0,1,2,7,8,10,11,12,13,26] (k:=rs (k:=rg [0,1,2,7,8,10,11,12,26,42] (k:=rc (ht:=fun hc2=>?_) (hf:=fun hc2=>?_)))))
   ·have hc:=hc2
    refine rs (k:=rg [8,9] (k:=rR (k:=?_)))
    obtain ⟨R,hgR⟩:∃ R,g=some R:=Y447
    have hN2:=hN.2 R hgR
    have hm3:min (i+1) 3=i+1:=Y14
    have n9:∀ L,S9.blk r9≠some (.tok L):=fun L=>Y397
    refine Ret.allW (r':=.tuple [R.pv,.int .i64 (i:Int)]) Y167 Y340 ?_
    unfold askX
    rw [if_pos hr,hN2]
    dsimp only
    refine ⟨rfl,n9',?_,(hD9.sv Y14 _).sv Y14 _,((hSO.trans hO9).hi Y14 _).hi Y14 _⟩
    rw [hm3,sentG_snoc,← List.append_assoc,hfr,← hl1]
    exact (hL9.hi Y14 n9 _).hi Y14 (fun L=>by rw [blk_set_ne Y14,h9z];intro e;cases e) _
   ·have hc:=hc2
    refine rk (k:=rB (k:=rg [0,1,2,7,8,10,26] (k:=?_)))
    have hgn:g=none:=by cases g with | none=>rfl | some R=>simp at hc2
    refine Run.lp ⟨⟨i+1,D',F1.tail,_,n9',rfl,hN.1 hgn,by rw [sentG_snoc,← List.append_assoc,← hl1],(hL9.hi Y14 (fun L=>Y397) _),hD9.sv Y14 _,((hSO.trans hO9).hi Y14 _),by show s.nxt+2≤S9.nxt;omega,?_,?_⟩,?_⟩
    ·rw [blk_set_ne Y14];exact h9q
    ·rw [blk_set_ne Y14];exact h9z
    ·exact Y74
  ·have hc:=hc1
   refine rX (k:=rs (k:=rr (k:=ro (pre:=[_,_]) (k:=rC (h:=reply_Refuse hq.fn Y16) (k:=rh [8,9] (k:=rR (k:=?_)))))))
   obtain rfl:i=3:=Y73
   have k1:(triesF q 3 (FS T) D).1=refuseP q.fn 11:=hTr.rep
   have k2:(triesF q 3 (FS T) D).2.1=0+3:=hTr.bad
   have k3:(triesF q 3 (FS T) D).2.2=(D1,F1):=hTr.dev
   refine Ret.allW (r':=.tuple [(refuseP q.fn 11).pv,.int .i64 3]) Y167 Y111 ?_
   unfold askX
   rw [if_pos hr,k1,k2,k3]
   dsimp only
   refine ⟨rfl,n1,?_,hA1.sv Y14 _,hO.hi Y14 _⟩
   rw [show min (0+3+1) 3=3 from rfl,hfr,← hl1]
   exact hL.hi Y14 Y398 _
attribute [local go_sem] weaks_bools set_set Req.pv Rep.pv
set_option maxRecDepth 100000 in
theorem master_AskO {b ln c T:Nat} {FS:Nat→List Int} {l:List Snt} {ns:Nat→Option Nat} {D:Dev} {s:St} (h:Ln4 59 (b+5) ln c FS l ns s) (hA:DevAt b D s) (hD:D.ok) (hbl:b+5<ln) (hF:FOk FS) (hT4:T<4) (hl:l.length≤90000) {q:Req} (hq:q.ok) (hr:¬ rightF q=0) {tick:Int} (ht:0≤tick∧tick≤1099511627776) :
  ACalls Tryz.prog 13 [.ptr ln 0 0,.int .i64 (T:Int),.int .i64 tick,q.pv] s (fun r s'=>r=.tuple [(askX q FS T l tick D).1.pv,.int .i64 (askX q FS T l tick D).2.1]∧∃ ns',Ln4 59 (b+5) ln c (askX q FS T l tick D).2.2.2.1 (askX q FS T l tick D).2.2.2.2 ns' s'∧DevAt b (askX q FS T l tick D).2.2.1 s'∧Fr4 b (b+6) ln ns ns' s s'):=by
 refine go Tryz.func13 (k:=fun hwf H=>?_)
 have hb:frameF (bytesF q)=[]:=by rw [show bytesF q=[] from if_neg hr];rfl
 have hc1:=h.hc
 have hc2:=h.nx
 refine rs (k:=rg [0,1,2,7,8] (k:=rs (k:=rr (k:=ro (pre:=[_]) (k:=?_)))))
 refine RunO.callw au au au Y19 ((master_Frame hq).mono ?_)
 rintro r s9 ⟨rfl,hs⟩
 subst s9
 rw [hb]
 refine rh [0,1,2,7,8,10] (k:=rs (k:=rs (k:=rr (k:=ro (pre:=[_,_,_]) (k:=rg1 (k:=rg1 (k:=rg1 (k:=rh [0,1,2,7,8,10,22] (k:=rc (ht:=fun hc0=>?_) (hf:=fun hc0=>?_))))))))))
 ·have hc:=hc0
  refine rs (k:=rr (k:=ro (pre:=[_,_]) (k:=rC (h:=reply_Refuse hq.fn Y16) (k:=rh [8,9] (k:=rR (k:=?_))))))
  refine Ret.pure (r':=.tuple [(refuseP q.fn 3).pv,.int .i64 0]) Y167 Y111 Y85 hwf Y26 ?_
  unfold askX
  rw [if_neg hr]
  exact ⟨rfl,ns,h,hA,Fr4.refl _ _ _ _ _⟩
 ·cases hc0
attribute [local go_sem] weaks_bools set_set Req.pv Rep.pv
theorem Y341 {p:Prop} (h:p:=by simp only [Tryz.f33,go_sem,↓reduceIte]<;>rfl):p:=h
set_option maxRecDepth 100000 in
theorem ref17_AskO {b ln c T:Nat} {FS:Nat→List Int} {l:List Snt} {ns:Nat→Option Nat} {D:Dev} {s:St} (h:Ln4 76 (b+5) ln c FS l ns s) (hA:RefAt b D s) (hD:D.ok) (hbl:b+5<ln) (hF:FOk FS) (hT4:T<4) (hl:l.length≤90000) {q:Req} (hq:q.ok) (hr:¬ rightF q=0) {tick:Int} (ht:0≤tick∧tick≤1099511627776) :
  ACalls Tryz.prog 33 [.ptr ln 0 0,.int .i64 (T:Int),.int .i64 tick,q.pv] s (fun r s'=>r=.tuple [(askX q FS T l tick D).1.pv,.int .i64 (askX q FS T l tick D).2.1]∧∃ ns',Ln4 76 (b+5) ln c (askX q FS T l tick D).2.2.2.1 (askX q FS T l tick D).2.2.2.2 ns' s'∧RefAt b (askX q FS T l tick D).2.2.1 s'∧Fr4 b (b+6) ln ns ns' s s'):=by
 refine go Tryz.func33 (k:=fun hwf H=>?_)
 have hb:frameF (bytesF q)=[]:=by rw [show bytesF q=[] from if_neg hr];rfl
 have hc1:=h.hc
 have hc2:=h.nx
 refine rs (k:=rg [0,1,2,7,8] (k:=rs (k:=rr (k:=ro (pre:=[_]) (k:=?_)))))
 refine RunO.callw au au au Y19 ((ref17_Frame hq).mono ?_)
 rintro r s9 ⟨rfl,hs⟩
 subst s9
 rw [hb]
 refine rh [0,1,2,7,8,10] (k:=rs (k:=rs (k:=rg [0,1,2,7,8,10,21] (k:=rc (ht:=fun hc0=>?_) (hf:=fun hc0=>?_)))))
 ·have hc:=hc0
  refine rs (k:=rr (k:=ro (pre:=[_,_]) (k:=rC (h:=ref3_Refuse (fn:=q.fn) (code:=3)) (k:=rh [8,9] (k:=rR (k:=?_))))))
  refine Ret.pure (r':=.tuple [(refuseP q.fn 3).pv,.int .i64 0]) Y341 Y111 Y85 hwf Y26 ?_
  unfold askX
  rw [if_neg hr]
  exact ⟨rfl,ns,h,hA,Fr4.refl _ _ _ _ _⟩
 ·cases hc0
attribute [local go_sem] weaks_bools set_set Req.pv Rep.pv
set_option maxRecDepth 100000 in
theorem ref17_AskM {b ln c T:Nat} {FS:Nat→List Int} {l:List Snt} {ns:Nat→Option Nat} {D:Dev} {s:St} (h:Ln4 76 (b+5) ln c FS l ns s) (hA:RefAt b D s) (hD:D.ok) (hbl:b+5<ln) (hF:FOk FS) (hT4:T<4) (hl:l.length≤90000) {q:Req} (hq:q.ok) (hr:rightF q=0) (hln:(writeF q).length≤253) {tick:Int} (ht:0≤tick∧tick≤1099511627776) :
  ACalls Tryz.prog 33 [.ptr ln 0 0,.int .i64 (T:Int),.int .i64 tick,q.pv] s (fun r s'=>r=.tuple [(askX q FS T l tick D).1.pv,.int .i64 (askX q FS T l tick D).2.1]∧∃ ns',Ln4 76 (b+5) ln c (askX q FS T l tick D).2.2.2.1 (askX q FS T l tick D).2.2.2.2 ns' s'∧RefAt b (askX q FS T l tick D).2.2.1 s'∧Fr4 b (b+6) ln ns ns' s s'):=by
 refine go Tryz.func33 (k:=fun hwf H=>?_)
 have hne:writeF q≠[]:=List.cons_ne_nil _ _
 have hbw:bytesF q=writeF q:=right_bytes hr
 have hfo:OkB (frameF (bytesF q)):=frameF_ok Y446
 have hfl:=frameF_len (bytesF q)
 have hfp:0<(frameF (bytesF q)).length:=Y339
 obtain ⟨fr,hfr⟩:∃ y,frameF (bytesF q)=y:=⟨_,rfl⟩
 rw [hfr] at hfo hfl hfp
 have h127:=has127 hr
 have hz:decide ((fr.length:Int)=0)=false:=decide_eq_false Y14
 have hc1:=h.hc
 have hc2:=h.nx
 have hFT:=hF T
 have H:=aj hz H
 refine rs (k:=rg [0,1,2,7,8] (k:=rs (k:=rr (k:=ro (pre:=[_]) (k:=?_)))))
 refine RunO.callw au au au Y19 ((ref17_Frame hq).mono ?_)
 rintro r s9 ⟨rfl,hs⟩
 subst s9
 rw [hfr]
 refine rh [0,1,2,7,8,10] (k:=rs (k:=rs (k:=rg [0,1,2,7,8,10,21] (k:=rc (ht:=fun hc0=>?_) (hf:=fun hc0=>?_)))))
 ·cases hc0
 ·have hc:=hc0
  refine rk (k:=rs (k:=rs (k:=rg [0,1,2,7,8,10,11] (k:=rb (k:=?_)))))
  refine Run.loop (fun e s'=>∃ (i:Nat) (D1:Dev) (F1:List Int) (l1:List Snt) (n1:Nat→Option Nat),e=[(0,.ptr ln 0 0),(1,.int .i64 (T:Int)),(2,.int .i64 tick),(7,.ptr s.nxt 0 0),(8,.ptr (s.nxt+1) 0 0),(10,.sl .unk (fr.map (PV.int .u8))),(11,.int .i64 (i:Int))]∧Trying q (FS T) D i F1 D1∧l1=l++sentG fr T tick 0 i∧Ln4 76 (b+5) ln c (upF FS T F1) l1 n1 s'∧RefAt b D1 s'∧Fr4 b (b+6) ln ns n1 s s'∧s.nxt+2≤s'.nxt∧s'.blk s.nxt=some (.row 31 [q.pv])∧s'.blk (s.nxt+1)=some (.row 41 [.agg [.int .i64 0,.int .i64 0,.int .i64 0,.int .i64 0,.int .i64 0,.sl .nil [],.sl .nil [],.int .u16 0,.int .u16 0,.sl .nil []]])) (fun e s'=>3-ivar e 11) ?_ ?_
  ·exact Y168
  rintro e S0 ⟨i,D1,F1,l1,n1,rfl,hTr,hl1,hL,hA1,hO,hx0,hq0,hz0⟩
  have hll1:l1.length=l.length+i:=by rw [hl1,List.length_append,sentG_len]
  have hi3':=hTr.le
  have hF1:=hF.up T hTr.ln hTr.ff
  have H:=aj hq0 (aj hz0 H)
  obtain ⟨hi3,B,D',hT⟩ | ⟨hi3,B,D',R,hT⟩ | hi3:(i<3∧∃ B D',Tried q D1 (F1.headD 0) B D' none)∨(i<3∧∃ B D' R,Tried q D1 (F1.headD 0) B D' (some R))∨i=3:=by
   by_cases h:i<3
   ·obtain ⟨B,D',g,hT⟩:=try_law hq hr hTr.ok (headD_ff hTr.ff) hln
    cases g with
    | none=>exact .inl ⟨h,B,D',hT⟩
    | some R=>exact .inr (.inl ⟨h,B,D',R,hT⟩)
   ·exact .inr (.inr Y14)
  ·have hd3:decide ((i:Int)<3)=true:=decide_eq_true Y14
   have H:=aj hd3 H
   refine rs (k:=rs (k:=rg [0,1,2,7,8,10,11,26] (k:=rc (ht:=fun hc1=>?_) (hf:=fun hc1=>?_))))
   ·have hc:=hc1
    refine rk (k:=rs (k:=rb (k:=rs (k:=?_))))
    have hN:=hTr.next hi3 hT
    have hsd:=hT.snd
    rw [hfr,← takeQ_up (FS:=FS) hT4] at hsd
    have hw4:IntKind.i64.wrap ((i:Int)*4)=(i:Int)*4:=wrap_i64 Y14
    have hwt:IntKind.i64.wrap (tick+(i:Int)*4)=tick+4*(i:Int):=Y21
    have hwi:IntKind.i64.wrap ((i:Int)+1)=((i+1:Nat):Int):=Y21
    obtain ⟨S9,n9',hsnd,hL9,hD9,hO9⟩:=ref17_SendM (tick:=tick+4*(i:Int)) hL hA1 hTr.ok hbl hF1 Y14 hfo Y14 hsd hT.len
    rw [takeFS_up hT4] at hL9
    have h9x:=hO9.nx
    have h9q:=hL.other hO9 hq0 Y14 Y14 Y14
    have h9z:=hL.other hO9 hz0 Y14 Y14 Y14
    have hgb:¬ (rtuF B).2=0:=by rcases hT.g with ⟨_,h1,_⟩ | ⟨R,h,_⟩;exact h1;cases h
    have hgd:decide ((rtuF B).2=0)=false:=decide_eq_false hgb
    have H:=aj hw4 (aj hwt (aj hwi (aj h9q (aj h9z (aj hgd H)))))
    refine rr (k:=ro (pre:=[_,_,_,_,_,_,_]) (k:=?_))
    refine RunO.callw au au au Y19 ((hsnd).mono ?_)
    rintro r s9 ⟨rfl,hs⟩
    subst s9
    refine RunO.callw au au au Y19 ((ref5_Read hT.b (by have:=hT.bl;omega)).mono ?_)
    rintro r s9 ⟨rfl,hs⟩
    subst s9
    refine rh [0,1,2,7,8,10,11,12,13,14] (k:=rs (k:=rs (k:=rg [0,1,2,7,8,10,11,13,47] (k:=rc (ht:=fun hc2=>?_) (hf:=fun hc2=>?_)))))
    ·have hc:=hc2
     refine rX (k:=rg [0,1,2,7,8,10,11] (k:=?_))
     refine Run.lp ⟨⟨i+1,D',F1.tail,_,n9',rfl,hN.1 rfl,by rw [sentG_snoc,← List.append_assoc,← hl1],hL9,hD9,hO.trans hO9,Y14,h9q,h9z⟩,?_⟩
     simp only [ivar,go_sem,↓reduceIte,Nat.reduceEqDiff]
     omega
    ·cases hc2
   ·cases hc1
  ·have hd3:decide ((i:Int)<3)=true:=decide_eq_true Y14
   have H:=aj hd3 H
   refine rs (k:=rs (k:=rg [0,1,2,7,8,10,11,26] (k:=rc (ht:=fun hc1=>?_) (hf:=fun hc1=>?_))))
   ·have hc:=hc1
    refine rk (k:=rs (k:=rb (k:=rs (k:=?_))))
    have hN:=hTr.next hi3 hT
    have hsd:=hT.snd
    rw [hfr,← takeQ_up (FS:=FS) hT4] at hsd
    have hw4:IntKind.i64.wrap ((i:Int)*4)=(i:Int)*4:=wrap_i64 Y14
    have hwt:IntKind.i64.wrap (tick+(i:Int)*4)=tick+4*(i:Int):=Y21
    have hwi:IntKind.i64.wrap ((i:Int)+1)=((i+1:Nat):Int):=Y21
    obtain ⟨S9,n9',hsnd,hL9,hD9,hO9⟩:=ref17_SendM (tick:=tick+4*(i:Int)) hL hA1 hTr.ok hbl hF1 Y14 hfo Y14 hsd hT.len
    rw [takeFS_up hT4] at hL9
    have h9x:=hO9.nx
    have h9q:=hL.other hO9 hq0 Y14 Y14 Y14
    have h9z:=hL.other hO9 hz0 Y14 Y14 Y14
    obtain ⟨hfit,hRo,hBe,hRl⟩:Fits R q∧R.ok∧B=frameF (repF R)∧(repF R).length≤253:=by
     rcases hT.g with ⟨h1,_⟩ | ⟨R',h,h1,h2,h3,h4,_⟩
     ·cases h1
     ·cases h;exact ⟨h1,h2,h3,h4⟩
    have hN2:=hN.2 R rfl
    have hbn:repF R≠[]:=by
     obtain ⟨x,l,h,_⟩:=fit_head hfit h127
     rw [h];exact List.cons_ne_nil _ _
    have hrt:rtuF B=((17,repF R),0):=by rw [hBe];exact rtu_frame hbn hRl
    have hRb:OkB (repF R):=repF_ok hRo
    have htk:=hfit.take h127
    have hgd:decide ((0:Int)=0)=true:=Y15
    have n2:(s.nxt+1=S9.nxt)=False:=eq_false Y14
    have n3:(S9.nxt=s.nxt+1)=False:=eq_false Y14
    have H:=aj hw4 (aj hwt (aj hwi (aj h9q (aj h9z (aj hgd (aj n2 (aj n3 H)))))))
    refine rr (k:=ro (pre:=[_,_,_,_,_,_,_]) (k:=?_))
    refine RunO.callw au au au Y19 ((hsnd).mono ?_)
    rintro r s9 ⟨rfl,hs⟩
    subst s9
    refine RunO.callw au au au Y19 ((ref5_Read hT.b (by have:=hT.bl;omega)).mono ?_)
    rintro r s9 ⟨rfl,hs⟩
    subst s9
    rw [hrt]
    refine rh [0,1,2,7,8,10,11,12,13,14] (k:=rs (k:=rs (k:=rg [0,1,2,7,8,10,11,13,47] (k:=rc (ht:=fun hc2=>?_) (hf:=fun hc2=>?_)))))
    ·cases hc2
    ·have hc:=hc2
     refine rk (k:=rs (k:=rr (k:=ro (pre:=[_,_]) (k:=?_))))
     refine RunO.callw au au au Y19 ((ref3_Take (b:=repF R) hRb Y14 hq).mono ?_)
     rintro r s9 ⟨rfl,hs⟩
     subst s9
     rw [htk]
     refine rh [0,1,2,7,8,10,11,15,16] (k:=rs (k:=rg [0,1,2,7,8,10,11,15,55] (k:=rc (ht:=fun hc3=>?_) (hf:=fun hc3=>?_))))
     ·have hc:=hc3
      refine rs (k:=rg [8,9] (k:=rR (k:=?_)))
      have hm3:min (i+1) 3=i+1:=Y14
      refine Ret.allW (r':=.tuple [R.pv,.int .i64 (i:Int)]) Y341 Y111 ?_
      unfold askX
      rw [if_pos hr,hN2]
      dsimp only
      refine ⟨rfl,n9',?_,?_,?_⟩
      ·rw [hm3,sentG_snoc,← List.append_assoc,hfr,← hl1]
       exact (hL9.nw _).hi Y14 (fun L=>by rw [blk_new_ne Y14,h9z];intro e;cases e) _
      ·exact (hD9.nw Y14 _).sv Y14 _
      ·exact ((hO.trans hO9).nw _).hi Y14 _
     ·cases hc3
   ·cases hc1
  ·have hd3:decide ((i:Int)<3)=false:=decide_eq_false Y14
   have H:=aj hd3 H
   refine rs (k:=rs (k:=rg [0,1,2,7,8,10,11,26] (k:=rc (ht:=fun hc1=>?_) (hf:=fun hc1=>?_))))
   ·cases hc1
   ·have hc:=hc1
    refine rX (k:=rs (k:=rr (k:=ro (pre:=[_,_]) (k:=rC (h:=ref3_Refuse (fn:=q.fn) (code:=11)) (k:=rh [8,9] (k:=rR (k:=?_)))))))
    subst hi3
    have k1:(triesF q 3 (FS T) D).1=refuseP q.fn 11:=hTr.rep
    have k2:(triesF q 3 (FS T) D).2.1=0+3:=hTr.bad
    have k3:(triesF q 3 (FS T) D).2.2=(D1,F1):=hTr.dev
    refine Ret.allW (r':=.tuple [(refuseP q.fn 11).pv,.int .i64 3]) Y341 Y111 ?_
    unfold askX
    rw [if_pos hr,k1,k2,k3]
    dsimp only
    refine ⟨rfl,n1,?_,hA1.sv Y14 _,hO.hi Y14 _⟩
    rw [show min (0+3+1) 3=3 from rfl,hfr,← hl1]
    exact hL.hi Y14 Y398 _
theorem master_AskX {b ln c T:Nat} {FS:Nat→List Int} {l:List Snt} {ns:Nat→Option Nat} {D:Dev} {s:St} (h:Ln4 59 (b+5) ln c FS l ns s) (hA:DevAt b D s) (hD:D.ok) (hbl:b+5<ln) (hF:FOk FS) (hT4:T<4) (hl:l.length≤90000) {q:Req} (hq:q.ok) (hb:q.bits.length≤30) (hv:q.vals.length≤30) {tick:Int} (ht:0≤tick∧tick≤1099511627776) :
  ACalls Tryz.prog 13 [.ptr ln 0 0,.int .i64 (T:Int),.int .i64 tick,q.pv] s (fun r s'=>r=.tuple [(askX q FS T l tick D).1.pv,.int .i64 (askX q FS T l tick D).2.1]∧∃ ns',Ln4 59 (b+5) ln c (askX q FS T l tick D).2.2.2.1 (askX q FS T l tick D).2.2.2.2 ns' s'∧DevAt b (askX q FS T l tick D).2.2.1 s'∧Fr4 b (b+6) ln ns ns' s s'):=by
 by_cases hr:rightF q=0
 ·exact master_AskM h hA hD hbl hF hT4 hl hq hr (req_len hr hb hv) ht
 ·exact master_AskO h hA hD hbl hF hT4 hl hq hr ht
theorem ref17_AskX {b ln c T:Nat} {FS:Nat→List Int} {l:List Snt} {ns:Nat→Option Nat} {D:Dev} {s:St} (h:Ln4 76 (b+5) ln c FS l ns s) (hA:RefAt b D s) (hD:D.ok) (hbl:b+5<ln) (hF:FOk FS) (hT4:T<4) (hl:l.length≤90000) {q:Req} (hq:q.ok) (hb:q.bits.length≤30) (hv:q.vals.length≤30) {tick:Int} (ht:0≤tick∧tick≤1099511627776) :
  ACalls Tryz.prog 33 [.ptr ln 0 0,.int .i64 (T:Int),.int .i64 tick,q.pv] s (fun r s'=>r=.tuple [(askX q FS T l tick D).1.pv,.int .i64 (askX q FS T l tick D).2.1]∧∃ ns',Ln4 76 (b+5) ln c (askX q FS T l tick D).2.2.2.1 (askX q FS T l tick D).2.2.2.2 ns' s'∧RefAt b (askX q FS T l tick D).2.2.1 s'∧Fr4 b (b+6) ln ns ns' s s'):=by
 by_cases hr:rightF q=0
 ·exact ref17_AskM h hA hD hbl hF hT4 hl hq hr (req_len hr hb hv) ht
 ·exact ref17_AskO h hA hD hbl hF hT4 hl hq hr ht
end Go.Proofs
namespace Go.Proofs
open Go.PM
set_option maxHeartbeats 2000000
theorem triesF_sub (q:Req):∀ (k:Nat) (F:List Int) (D:Dev),(∀ f∈(triesF q k F D).2.2.2,f∈F)∧(triesF q k F D).2.2.2.length≤F.length
 | 0,F,D=>⟨fun f h=>h,Nat.le_refl _⟩
 | k+1,F,D=>by
   have ht:F.tail.length≤F.length:=by rw [List.length_tail];omega
   unfold triesF
   split
   ·exact ⟨fun f h=>List.mem_of_mem_tail h,ht⟩
   split
   ·exact ⟨fun f h=>List.mem_of_mem_tail h,ht⟩
   ·obtain ⟨h1,h2⟩:=triesF_sub q k F.tail (if F.headD 0=1 then D else (doF D q).2)
    exact ⟨fun f h=>List.mem_of_mem_tail (h1 f h),Nat.le_trans h2 ht⟩
theorem askX_ok {q:Req} (hq:q.ok) {FS:Nat→List Int} (hF:FOk FS) (T:Nat) {l:List Snt} (hl:∀ x∈l,x.data.length≤1000) (tick:Int) {D:Dev} (hD:D.ok) :
  (askX q FS T l tick D).1.ok∧(askX q FS T l tick D).2.2.1.ok∧FOk (askX q FS T l tick D).2.2.2.1∧(askX q FS T l tick D).2.2.2.2.length≤l.length+3∧∀ x∈(askX q FS T l tick D).2.2.2.2,x.data.length≤1000:=by
 unfold askX
 split
 ·rename_i hr
  obtain ⟨h1,h2,h3⟩:=triesF_ok hq hr 3 (FS T) D hD
  obtain ⟨h4,h5⟩:=triesF_sub q 3 (FS T) D
  refine ⟨h3,h1,hF.up T (Nat.le_trans h5 (hF T).1) (fun f hf=>(hF T).2 f (h4 f hf)),?_,fun x hx=>?_⟩
  ·show (l++sentG _ _ _ 0 _).length≤_
   rw [List.length_append,sentG_len]
   omega
  ·rcases List.mem_append.1 hx with hx | hx
   ·exact hl x hx
   ·rw [sentG_data hx];have:=frameF_len (bytesF q);omega
 ·exact ⟨refuseP_ok _ _,hD,hF,by show l.length≤_;omega,hl⟩
theorem L2.hi {s0 S:St} {DA DW:Dev} {FA FW:Nat→List Int} {lA lW:List Snt} {nA nW:Nat→Option Nat} (h:L2 s0 DA DW FA FW lA lW nA nW S) {r:Nat} (hr:s0.nxt+14≤r) (hb:∀ L,S.blk r≠some (.tok L)) (x:Option Blk):L2 s0 DA DW FA FW lA lW nA nW (S.set r x) :=
 h.keep (Nat.le_refl _) fun j _ hj=>blk_set_ne (by
  rcases hj with hj | ⟨i,hi⟩ | ⟨i,hi⟩
  ·omega
  ·rintro rfl
   obtain ⟨L,e⟩:=h.A.istok hi
   exact hb L e
  ·rintro rfl
   obtain ⟨L,e⟩:=h.W.istok hi
   exact hb L e)
def cut30 (q:Req):Req:={ q with bits:=q.bits.take (min q.bits.length 30),vals:=q.vals.take (min q.vals.length 30) }
theorem cut30_ok {q:Req} (h:q.ok):(cut30 q).ok∧(cut30 q).bits.length≤30∧(cut30 q).vals.length≤30:=by
 have h1:(q.bits.take (min q.bits.length 30)).length≤30:=Y226
 have h2:(q.vals.take (min q.vals.length 30)).length≤30:=Y226
 have h3:(q.bits.take (min q.bits.length 30)).length≤q.bits.length:=Y226
 have h4:(q.vals.take (min q.vals.length 30)).length≤q.vals.length:=Y226
 obtain ⟨a1,a2,a3,a4,a5,a6,a7,a8,a9,a10⟩:=h
 exact ⟨⟨a1,a2,a3,a4,a5,fun x hx=>a6 x (List.mem_of_mem_take hx),a7,a8,Nat.le_trans h3 a9,by show (q.vals.take _).length*2≤_;omega⟩,h1,h2⟩
attribute [local go_sem] set_set weaks_bools Req.pv Rep.pv
set_option maxRecDepth 100000 in
theorem law18_play {tl:List Int} (htl:tl.length*8≤140737488351232) {fl:List Int} (hfl:fl.length<140737488355328) {tk:List Int} (htk:tk.length<140737488355328) {rw_:List Req} (hrw:rw_.length<140737488355328) (hro:∀ q∈rw_,q.ok) {s:St}:ACalls Tryz.prog 15 [.sl .unk (tl.map (PV.int .i64)),.sl .unk (fl.map (PV.int .i64)),.sl .unk (tk.map (PV.int .i64)),.sl .unk (rw_.map Req.pv)] s (fun r s'=>r=.bool true∧s'=s):=by
 refine go Tryz.func15 (k:=fun hwf H=>?_)
 have o0:(Dev.zero 60).ok:=Dev.zero_ok Y15 Y15
 have hT0:Tp.ok ⟨tl,0⟩:=⟨htl,Nat.zero_le _⟩
 refine rs (k:=rg [0,1,2,3] (k:=rs (k:=rr (k:=?_))))
 refine RunO.callw au au au Y19 ((device_New (n:=60) Y15 Y15).mono ?_)
 rintro r s1 ⟨rfl,hA1,hlo1,hx1⟩
 have H:=aj hx1 H
 refine RunO.callw au au au Y19 ((line_New).mono ?_)
 rintro r s2 ⟨rfl,hs⟩
 have hr2:s2.blk (s.nxt+6)=some (lnRow (s.nxt+5) (.sl .nil []) (.sl .nil []) (.sl .nil []) (.sl .nil []) (.sl .nil [])):=by rw [hs,← hx1];exact blk_new_eq
 have hx2:s2.nxt=s.nxt+7:=by rw [hs];simp only [nxt_new,hx1]
 have hA2:DevAt s.nxt (Dev.zero 60) s2:=by rw [hs];exact hA1.nw Y14 _
 have hlo2:∀ j,j<s.nxt→s2.blk j=s.blk j:=fun j hj=>by rw [hs,blk_new_ne Y14];exact hlo1 j hj
 clear hs
 have H:=aj hx2 H
 refine RunO.callw au au au Y19 ((ref8_NewDevice (n:=60) Y15 Y15).mono ?_)
 rintro r s3 ⟨rfl,hA3,hlo3,hx3⟩
 rw [hx2] at hA3 hlo3 hx3 ⊢
 have hx3:s3.nxt=s.nxt+13:=Y14
 have hx3':s3.nxt+1=s.nxt+14:=Y14
 have H:=aj hx3 (aj hx3' H)
 refine rh [0,1,2,3,9,10] (k:=rs (k:=rg [1,2,3,9,10,11] (k:=rs (k:=rs (k:=rg [1,2,3,9,10,11,12] (k:=rb (k:=?_)))))))
 refine Run.loop (fun e s'=>∃ (i:Nat) (D:Dev) (FS:Nat→List Int) (l:List Snt) (nA nW:Nat→Option Nat) (T:Tp),e=[(1,.sl .unk (fl.map (PV.int .i64))),(2,.sl .unk (tk.map (PV.int .i64))),(3,.sl .unk (rw_.map Req.pv)),(9,.ptr (s.nxt+6) 0 0),(10,.ptr (s.nxt+13) 0 0),(11,.ptr (s.nxt+14) 0 0),(12,.int .i64 (i:Int))]∧i≤25∧D.ok∧FOk FS∧l.length≤3*i∧(∀ x∈l,x.data.length≤1000)∧T.ok∧s'.blk (s.nxt+14)=some (.row 34 [Tp.pv T])∧s.nxt+15≤s'.nxt∧L2 s D D FS FS l l nA nW s') (fun e s'=>25-ivar e 12) ?_ ?_
 ·refine ⟨0,Dev.zero 60,fun _=>[],[],fun _=>none,fun _=>none,⟨tl,0⟩,rfl,Nat.zero_le _,o0,fun T=>⟨Y66,fun f hf=>(by cases hf)⟩,Nat.le_refl _,fun x hx=>(by cases hx),hT0,?_,?_,?_⟩
  ·rw [← hx3'];exact blk_new_eq
  ·show s.nxt+15≤s3.nxt+1+1;omega
  refine L2.nw ?_ _
  have hT:∀ (s':St) (T:Nat),T<4→∃ x,[PV.sl .nil [],PV.sl .nil [],PV.sl .nil [],PV.sl .nil []][T]? =some x∧TkB s' 1 (([]:List Int).map (PV.int .i64)) (s.nxt+14) x none:=fun s' T hT=>by
   obtain rfl | rfl | rfl | rfl:T=0∨T=1∨T=2∨T=3:=Y14
   all_goals exact ⟨_,rfl,.inl rfl,rfl⟩
  refine ⟨⟨⟨[_,_,_,_],.sl .nil [],?_,rfl,hT _,rfl,rfl⟩,fun i j t h=>(by cases h),fun i t h=>(by cases h),Y14,?_,fun _ _=>rfl⟩,⟨⟨[_,_,_,_],.sl .nil [],?_,rfl,hT _,rfl,rfl⟩,fun i j t h=>(by cases h),fun i t h=>(by cases h),Y14,?_,fun _ _=>rfl⟩,?_,?_,fun i j t h=>(by cases h),fun j hj=>?_⟩
  ·rw [blk_new_ne Y14,hlo3 _ Y14];exact hr2
  ·show s.nxt+14≤s3.nxt+1;omega
  ·rw [← hx3];exact blk_new_eq
  ·show s.nxt+14≤s3.nxt+1;omega
  ·exact hA2.eqv5 fun j h1 h2=>by rw [blk_new_ne Y14,hlo3 _ Y14]
  ·exact hA3.eqv5 fun j h1 h2=>by rw [blk_new_ne Y14]
  ·rw [blk_new_ne Y14,hlo3 _ Y14];exact hlo2 j hj
 rintro e S0 ⟨i,D,FS,l,nA,nW,T,rfl,hi,oD,hF,hll,hld,hT,htp,hnx,hP⟩
 refine rs (k:=rs (k:=rg [1,2,3,9,10,11,12,33] (k:=rc (ht:=fun hc0=>?_) (hf:=fun hc0=>?_))))
 refine rk (k:=rs (k:=rb (k:=rs (k:=rs (k:=rr (k:=ro (pre:=[_,_,_]) (k:=rg1 (k:=rC (h:=line_DevM hP.A) (k:=rg1 (k:=rh [1,2,3,9,10,11,12,42] (k:=rc (ht:=fun hc1=>?_) (hf:=fun hc1=>?_))))))))))))
 ·cases hc1
 refine rk (k:=rs (k:=?_))
 refine Run.join (fun e s'=>∃ (FS:Nat→List Int) (nA nW:Nat→Option Nat),e=[(1,.sl .unk (fl.map (PV.int .i64))),(2,.sl .unk (tk.map (PV.int .i64))),(3,.sl .unk (rw_.map Req.pv)),(9,.ptr (s.nxt+6) 0 0),(10,.ptr (s.nxt+13) 0 0),(11,.ptr (s.nxt+14) 0 0),(12,.int .i64 (i:Int))]∧FOk FS∧s'.blk (s.nxt+14)=some (.row 34 [Tp.pv T])∧s.nxt+15≤s'.nxt∧L2 s D D FS FS l l nA nW s') ?_ ?_
 clear hF htp hnx hP
 rintro e S1 ⟨FS,nA,nW,rfl,hF,htp,hnx,hP⟩
 refine rs (k:=rr (k:=ro (pre:=[_]) (k:=?_)))
 refine RunO.callw au au au Y19 ((tape_RequestL hT htp).mono ?_)
 rintro r S2 ⟨q,T2,rfl,hs,hT2,hqo,_,hqb,hqv⟩
 have hP2:L2 s D D FS FS l l nA nW S2:=by rw [hs];exact hP.hi Y14 (fun L=>by rw [htp];intro e;cases e) _
 have ht2:S2.blk (s.nxt+14)=some (.row 34 [Tp.pv T2]):=by rw [hs];exact blk_set_self _ _ _
 have hx4:S2.nxt=S1.nxt:=by rw [hs];rfl
 clear hs
 refine rh [1,2,3,9,10,11,12,14] (k:=rs (k:=?_))
 refine Run.join (fun e s'=>∃ q:Req,e=[(1,.sl .unk (fl.map (PV.int .i64))),(2,.sl .unk (tk.map (PV.int .i64))),(3,.sl .unk (rw_.map Req.pv)),(9,.ptr (s.nxt+6) 0 0),(10,.ptr (s.nxt+13) 0 0),(11,.ptr (s.nxt+14) 0 0),(12,.int .i64 (i:Int)),(14,.ptr S2.nxt 0 0)]∧q.ok∧q.bits.length≤30∧q.vals.length≤30∧s'.blk S2.nxt=some (.row 31 [q.pv])∧S2.nxt<s'.nxt∧s'.blk (s.nxt+14)=some (.row 34 [Tp.pv T2])∧s.nxt+15≤s'.nxt∧L2 s D D FS FS l l nA nW s') ?_ ?_
 obtain ⟨p14,hp14⟩:∃ p,p=S2.nxt:=⟨_,rfl⟩
 have hp15:s.nxt+15≤p14:=Y14
 clear hqo hqb hqv hP htp hnx hT
 rw [← hp14]
 obtain ⟨T,hTe⟩:∃ T,T=T2:=⟨_,rfl⟩
 rw [← hTe] at hT2 ⊢
 have hT:=hT2
 rintro e S3 ⟨q,rfl,hqo,hqb,hqv,hq3,hpx,htp,hnx,hP⟩
 refine rs (k:=?_)
 have hw50:IntKind.i64.wrap ((i:Int)*50)=(i:Int)*50:=wrap_i64 Y14
 have H:=aj hw50 H
 refine rg [1,2,3,9,10,11,12,14,15] (k:=rs (k:=?_))
 refine Run.join (fun e s'=>s'=S3∧∃ tick:Int,e=[(1,.sl .unk (fl.map (PV.int .i64))),(2,.sl .unk (tk.map (PV.int .i64))),(3,.sl .unk (rw_.map Req.pv)),(9,.ptr (s.nxt+6) 0 0),(10,.ptr (s.nxt+13) 0 0),(11,.ptr (s.nxt+14) 0 0),(12,.int .i64 (i:Int)),(14,.ptr p14 0 0),(15,.int .i64 tick)]∧0≤tick∧tick≤1099511627776) ?_ ?_
 ·rintro e S9 ⟨hS9,tick,rfl,htick1,htick2⟩
  subst hS9
  have htick:0≤tick∧tick≤1099511627776:=⟨htick1,htick2⟩
  have H:=aj hq3 H
  refine rs (k:=?_)
  have d3:((3:Int)=0)=False:=eq_false Y15
  obtain ⟨T3,hT3⟩:∃ T3:Nat,Int.tmod (i:Int) 3=(T3:Int):=⟨(Int.tmod (i:Int) 3).toNat,by have:=Int.tmod_nonneg 3 (show 0≤(i:Int) from Y14);omega⟩
  have hT34:T3<4:=by have:=Int.tmod_lt_of_pos (i:Int) (show (0:Int)<3 from Y15);omega
  have H:=aj d3 (aj hT3 H)
  refine rr (k:=ro (pre:=[_,_,_,_,_]) (k:=?_))
  refine RunO.callw au au au Y19 ((master_AskX hP.A hP.dA oD Y14 hF hT34 Y14 hqo hqb hqv htick).mono ?_)
  rintro r S4 ⟨rfl,n4,hL4,hD4,hO4⟩
  have hok:=askX_ok hqo hF T3 hld tick oD
  obtain ⟨⟨R,n,D',FS',l'⟩,hX⟩:∃ Z,askX q FS T3 l tick D=Z:=⟨_,rfl⟩
  rw [hX] at hL4 hD4 hok ⊢
  dsimp only at hL4 hD4 hok ⊢
  obtain ⟨hRo,oD',hF',hll',hld'⟩:=hok
  have hP4:=hP.opA hL4 hD4 hO4
  have ht4:=hP.frA hO4 htp Y14 Y14
  have hq4:=hP.frA hO4 hq3 Y14 Y14
  have hx4:=hO4.nx
  refine rh [1,2,3,9,10,11,12,14,15,16,17] (k:=rs (k:=?_))
  refine Run.genS fun S5 hS=>?_
  have hP5:L2 s D' D FS' FS l' l n4 nW S5:=by rw [hS];exact hP4.nw _
  have ht5:S5.blk (s.nxt+14)=some (.row 34 [Tp.pv T]):=by rw [hS,blk_new_ne Y14];exact ht4
  have hq5:S5.blk p14=some (.row 31 [q.pv]):=by rw [hS,blk_new_ne Y14];exact hq4
  have hr5:S5.blk S4.nxt=some (.row 41 [R.pv]):=Y283
  have hx5:S5.nxt=S4.nxt+1:=Y267
  clear hS
  have H:=aj hq5 H
  refine rr (k:=ro (pre:=[_,_,_,_,_]) (k:=?_))
  refine RunO.callw au au au Y19 ((ref17_AskX hP5.W hP5.dW oD Y14 hF hT34 Y14 hqo hqb hqv htick).mono ?_)
  rintro r S6 ⟨rfl,n6,hL6,hD6,hO6⟩
  rw [hX] at hL6 hD6 ⊢
  dsimp only at hL6 hD6 ⊢
  have hP6:=hP5.opW hL6 hD6 hO6
  have ht6:=hP5.frW hO6 ht5 Y14 Y14
  have hq6:=hP5.frW hO6 hq5 Y14 Y14
  have hr6:=hP5.frW hO6 hr5 Y14 Y14
  have hx6:=hO6.nx
  refine rh [1,2,3,9,10,11,12,14,16,17,18,19] (k:=rs (k:=?_))
  refine Run.genS fun S7 hS=>?_
  have hP7:L2 s D' D' FS' FS' l' l' n4 n6 S7:=by rw [hS];exact hP6.nw _
  have ht7:S7.blk (s.nxt+14)=some (.row 34 [Tp.pv T]):=by rw [hS,blk_new_ne Y14];exact ht6
  have hq7:S7.blk p14=some (.row 31 [q.pv]):=by rw [hS,blk_new_ne Y14];exact hq6
  have hr7:S7.blk S4.nxt=some (.row 41 [R.pv]):=by rw [hS,blk_new_ne Y14];exact hr6
  have hr8:S7.blk S6.nxt=some (.row 41 [R.pv]):=Y283
  have hx7:S7.nxt=S6.nxt+1:=Y267
  clear hS
  have hal:decide (R=R)=true:=decide_eq_true rfl
  have hbs:∀ l:List UInt8,(l==l)=true:=fun l=>beq_self_eq_true l
  have hw:IntKind.i64.wrap ((i:Int)+1)=((i+1:Nat):Int):=Y21
  have H:=aj hq7 (aj hr7 (aj hr8 (aj hal (aj hbs (aj hw H)))))
  refine Run.drawC [] [1,2,3,9,10,11,12,134] Tryz.mixed Y19 ?_
  refine DetC.pre (pre:=[_,_]) au ?_
  refine DetC.call au au au Y19 (ref3_Alike hRo hRo) ?_
  refine DetC.pre (pre:=[_,_]) au ?_
  refine DetC.gdo au au ?_
  refine DetC.gdo au au ?_
  refine DetC.gdo au au ?_
  refine DetC.pre (pre:=[_,_]) au ?_
  refine DetC.gdo au au ?_
  refine DetC.call au au au Y19 (master_Frame hqo) ?_
  refine DetC.gdo au au ?_
  refine DetC.gdo au au ?_
  refine DetC.call au au au Y19 (ref17_Frame hqo) ?_
  refine DetC.gdo au au ?_
  refine DetC.gdo au au ?_
  refine DetC.all au ?_
  refine re (k:=rc (ht:=fun hc5=>?_) (hf:=fun hc5=>?_))
  ·cases hc5
  ·refine rk (k:=rB (k:=rg [1,2,3,9,10,11,12] (k:=?_)))
   have hi25:(i:Int)<25:=of_decide_eq_true hc0
   refine Run.lp ⟨⟨i+1,D',FS',l',n4,n6,T,rfl,Y14,oD',hF',Y14,hld',hT,ht7,Y14,hP7⟩,?_⟩
   simp only [ivar,go_sem,↓reduceIte,Nat.reduceEqDiff]
   omega
 intro hJs17
 refine rs (k:=rg [1,2,3,9,10,11,12,14,15,93] (k:=rc (ht:=fun hc4=>?_) (hf:=fun hc4=>?_)))
 have hil:i<tk.length:=by have:=of_decide_eq_true hc4;omega
 obtain ⟨x,hxe⟩:∃ z_,tk[i]'hil=z_:=⟨_,rfl⟩
 have hxx:(tk.map (PV.int .i64))[i]? =some (.int .i64 x):=Y135
 have hilT:(i<tk.length)=True:=eq_true hil
 have hmk:ibits .and .i64 x 4294967295=x%4294967296:=ibits_and_mask x 32 Y15
 have H:=aj hxx (aj hilT (aj hmk H))
 refine rg [1,2,3,9,10,11,12,14,15] (k:=?_)
 refine jO 1 ?_;rotate_left
 refine rk (k:=?_)
 refine jO 1 ?_;rotate_left
 intro hJs13
 refine rs (k:=?_)
 refine Run.genS fun S3 hS=>?_
 obtain ⟨p14,hp14⟩:∃ p,p=S2.nxt:=⟨_,rfl⟩
 rw [← hp14]
 have hP3:L2 s D D FS FS l l nA nW S3:=by rw [hS];exact hP2.nw _
 have hq3:S3.blk p14=some (.row 31 [q.pv]):=by rw [hS,hp14];exact blk_new_eq
 have ht3:S3.blk (s.nxt+14)=some (.row 34 [Tp.pv T2]):=by rw [hS,blk_new_ne Y14];exact ht2
 have hx3:S3.nxt=p14+1:=by rw [hS,hp14];rfl
 have hp15:s.nxt+15≤p14:=Y14
 clear hS
 have H:=aj hq3 H
 refine rg [1,2,3,9,10,11,12,14,67] (k:=rc (ht:=fun hc3=>?_) (hf:=fun hc3=>?_))
 ·refine rs (k:=?_)
  have hil:i<rw_.length:=by have:=of_decide_eq_true hc3;omega
  obtain ⟨r,hre⟩:∃ z_,rw_[i]'hil=z_:=⟨_,rfl⟩
  have hxx:(rw_.map Req.pv)[i]? =some (.agg [.int .i64 r.fn,.int .i64 r.at_,.int .i64 r.count,.int .i64 r.wat,.int .i64 r.sub,.sl .unk (r.bits.map PV.bool),.sl .unk (r.vals.map (PV.int .u16)),.int .u16 r.and_,.int .u16 r.or_]):=by rw [map_get hil,hre];rfl
  have hro1:=hro r (by rw [← hre];exact List.getElem_mem _)
  have hilT:(i<rw_.length)=True:=eq_true hil
  have hm1:(if (30:Int)<(r.bits.length:Int) then (30:Int) else (r.bits.length:Int))=((min r.bits.length 30:Nat):Int):=by split<;>omega
  have hm2:(if (r.bits.length:Int)<30 then (r.bits.length:Int) else (30:Int))=((min r.bits.length 30:Nat):Int):=by split<;>omega
  have hm3:(if (30:Int)<(r.vals.length:Int) then (30:Int) else (r.vals.length:Int))=((min r.vals.length 30:Nat):Int):=by split<;>omega
  have hm4:(if (r.vals.length:Int)<30 then (r.vals.length:Int) else (30:Int))=((min r.vals.length 30:Nat):Int):=by split<;>omega
  have hm5:((0:Int)≤((min r.bits.length 30:Nat):Int))=True:=eq_true Y14
  have hm6:((0:Int)≤((min r.vals.length 30:Nat):Int))=True:=eq_true Y14
  have hm7:(((min r.bits.length 30:Nat):Int)≤(r.bits.length:Int))=True:=eq_true Y14
  have hm8:(((min r.vals.length 30:Nat):Int)≤(r.vals.length:Int))=True:=eq_true Y14
  have ht1:(r.bits.map PV.bool).take (min r.bits.length 30)=(r.bits.take (min r.bits.length 30)).map PV.bool:=by rw [List.map_take]
  have ht2':(r.vals.map (PV.int .u16)).take (min r.vals.length 30)=(r.vals.take (min r.vals.length 30)).map (PV.int .u16):=by rw [List.map_take]
  have H:=aj hxx (aj hilT (aj hm1 (aj hm2 (aj hm3 (aj hm4 (aj hm5 (aj hm6 (aj hm7 (aj hm8 (aj ht1 (aj ht2' H)))))))))))
  refine rg [1,2,3,9,10,11,12,14] (k:=?_)
  refine Run.genS fun S8 hS8=>?_
  have hq8:S8.blk p14=some (.row 31 [.agg [.int .i64 r.fn,.int .i64 r.at_,.int .i64 r.count,.int .i64 r.wat,.int .i64 r.sub,.sl .unk (r.bits.map PV.bool),.sl .unk (r.vals.map (PV.int .u16)),.int .u16 r.and_,.int .u16 r.or_]]):=by rw [hS8];exact blk_set_self _ _ _
  have H:=aj hq8 H
  refine rH 18 [15,17] [[false,false],[true,false],[true,true]] [S8,(S8.set p14 (some (.row 31 [.agg [.int .i64 r.fn,.int .i64 r.at_,.int .i64 r.count,.int .i64 r.wat,.int .i64 r.sub,.sl .unk ((r.bits.take (min r.bits.length 30)).map PV.bool),.sl .unk (r.vals.map (PV.int .u16)),.int .u16 r.and_,.int .u16 r.or_]]))),(S8.set p14 (some (.row 31 [.agg [.int .i64 r.fn,.int .i64 r.at_,.int .i64 r.count,.int .i64 r.wat,.int .i64 r.sub,.sl .unk ((r.bits.take (min r.bits.length 30)).map PV.bool),.sl .unk ((r.vals.take (min r.vals.length 30)).map (PV.int .u16)),.int .u16 r.and_,.int .u16 r.or_]])))] Tryz.mixed (k:=?_)
  refine dP [0] (pre:=[_,_,_,_]) (k:=?_)
  refine dP [0] (pre:=[_,_,_,_]) (k:=?_)
  refine dP [0] (pre:=[_,_,_]) (k:=?_)
  refine dP [0,1] (pre:=[_,_,_]) (k:=?_)
  refine dP [0] (pre:=[_]) (k:=?_)
  refine dE [(0,1)] (k:=?_)
  refine dP [1] (pre:=[_]) (k:=?_)
  refine dE [(1,2)] (k:=?_)
  refine DetHC.nil ?_
  refine rl [1,2,3,9,10,11,12,14] (k:=?_)
  subst hp14
  refine Run.prune [1,2,3,9,10,11,12,14] rfl ?_
  exact hJs13 _ _ ⟨cut30 r,rfl,(cut30_ok hro1).1,(cut30_ok hro1).2.1,(cut30_ok hro1).2.2,blk_set_self _ _ _,by rw [hS8];show S2.nxt<S3.nxt;omega,by rw [hS8,blk_set_ne Y14,blk_set_ne Y14];exact ht3,by rw [hS8];show s.nxt+15≤S3.nxt;omega,by rw [hS8];exact (hP3.hi Y14 (fun L=>by rw [hq3];intro e;cases e) _).hi Y14 (fun L=>by rw [blk_set_self];intro e;cases e) _⟩
 ·refine rk (k:=?_)
  subst hp14
  refine Run.prune [1,2,3,9,10,11,12,14] rfl ?_
  exact hJs13 _ _ ⟨q,rfl,hqo,hqb,hqv,hq3,Y14,ht3,Y14,hP3⟩
 intro hJs8
 refine rs (k:=rg [1,2,3,9,10,11,12,46] (k:=rc (ht:=fun hc2=>?_) (hf:=fun hc2=>?_)))
 ·refine rs (k:=?_)
  have hil:i<fl.length:=by have:=of_decide_eq_true hc2;omega
  obtain ⟨x,hxe⟩:∃ z_,fl[i]'hil=z_:=⟨_,rfl⟩
  have hxx:(fl.map (PV.int .i64))[i]? =some (.int .i64 x):=Y135
  have hilT:(i<fl.length)=True:=eq_true hil
  obtain ⟨f,hfe⟩:∃ y,withinI x 0 4=y:=⟨_,rfl⟩
  have H:=aj hxx (aj hilT (aj hfe H))
  refine rr (k:=ro (pre:=[_,_,_,_]) (k:=rC (h:=within_ (lo:=0) (hi:=4) Y15 Y15 Y15) (k:=rh [1,2,3,9,10,11,12,13] (k:=rs (k:=?_)))))
  have d2:((2:Int)=0)=False:=eq_false Y15
  obtain ⟨SA,nA',cA,hA',fA⟩:=line_HurtM hP.A (Int.tmod (i:Int) 2) f
  have hPA:=hP.opA hA' (hP.dA.eq4 hP.A Y14 fA) (fA.wide _)
  have htA:=hP.frA (fA.wide _) htp Y14 Y14
  have hnA:=fA.nx
  have H:=aj d2 H
  refine rr (k:=ro (pre:=[_,_,_,_]) (k:=?_))
  refine RunO.callw au au au Y19 ((cA).mono ?_)
  rintro r s9 ⟨rfl,hs⟩
  subst s9
  refine rl [1,2,3,9,10,11,12,13] (k:=?_)
  obtain ⟨SW,nW',cW,hW',fW⟩:=ref17_HurtM hPA.W (Int.tmod (i:Int) 2) f
  have hPW:=hPA.opW hW' (hPA.dW.eq4 hPA.W Y14 fW) (fW.wide _)
  have htW:=hPA.frW (fW.wide _) htA Y14 Y14
  have hnW:=fW.nx
  refine rr (k:=ro (pre:=[_,_,_,_]) (k:=?_))
  refine RunO.callw au au au Y19 ((cW).mono ?_)
  rintro r s9 ⟨rfl,hs⟩
  subst s9
  refine rl [1,2,3,9,10,11,12] (k:=?_)
  exact hJs8 _ _ ⟨_,_,_,rfl,hF.hurt _ _,htW,Y14,hPW⟩
 ·refine rk (k:=?_)
  refine Run.prune [1,2,3,9,10,11,12] rfl ?_
  exact hJs8 _ _ ⟨FS,nA,nW,rfl,hF,htp,hnx,hP⟩
 ·refine rX (k:=rs (k:=rr (k:=ro (pre:=[_]) (k:=rC (h:=line_SentM hP.A Y14 (fun x hx=>by have:=hld x hx;omega)) (k:=rh [9,10,20] (k:=rs (k:=rs (k:=?_))))))))
  obtain ⟨xs,st0,hr0,hxl,_,hst0⟩:=hP.W.row
  unfold lnR at hr0
  obtain ⟨k0,rfl⟩:∃ k0,st0=.sl k0 (l.map Snt.pv):=by
   cases hn:nW 4 with
   | none=>rw [hn] at hst0;exact ⟨_,by rw [hst0.1,hst0.2]⟩
   | some t=>rw [hn] at hst0;exact ⟨_,hst0.1⟩
  have n5:∀ v:PV,List.drop 5 (PV.ptr (s.nxt+7+5) 0 0::(xs++[v]))=[v]:=fun v=>Y165
  have hdv9:=hP.dW.dv
  unfold refRow at hdv9
  have hb9:decide ((l.length:Int)=(l.length:Int))=true:=decide_eq_true rfl
  have H:=aj hr0 (aj n5 (aj hb9 H))
  refine rg [9,10,20,144] (k:=rc (ht:=fun hc6=>?_) (hf:=fun hc6=>?_))
  ·cases hc6
  ·refine rk (k:=rs (k:=rs (k:=rg [9,10,20,146,147] (k:=rb (k:=?_)))))
   refine Run.loop (fun e s'=>s'=S0∧∃ j:Nat,e=[(9,.ptr (s.nxt+6) 0 0),(10,.ptr (s.nxt+13) 0 0),(20,.sl .unk (l.map Snt.pv)),(146,.int .i64 (l.length:Int)),(147,.int .i64 (j:Int))]∧j≤l.length) (fun e s'=>l.length-ivar e 147) ?_ ?_
   ·exact ⟨rfl,0,rfl,Nat.zero_le _⟩
   rintro e s8 ⟨hs8,j,rfl,hj⟩
   subst s8
   refine rs (k:=rg [9,10,20,146,147,148] (k:=rs (k:=rc (ht:=fun hc7=>?_) (hf:=fun hc7=>?_))))
   ·refine rk (k:=rs (k:=rb (k:=rs (k:=rg [9,10,20,21,146,147] (k:=rs (k:=?_))))))
    have hjl:j<l.length:=Y377
    obtain ⟨x,hxe⟩:∃ z_,l[j]'hjl=z_:=⟨_,rfl⟩
    have hxx:(l.map Snt.pv)[j]? =some (.agg [.int .i64 x.tick,.int .i64 x.tenant,.sl .unk (x.data.map (PV.int .u8))]):=by rw [map_get hjl,hxe];rfl
    have hjT:(j<l.length)=True:=eq_true hjl
    have hbs:∀ l:List UInt8,(l==l)=true:=fun l=>beq_self_eq_true l
    have hwj:IntKind.i64.wrap ((j:Int)+1)=((j+1:Nat):Int):=Y21
    have H:=aj hxx (aj hjT (aj hbs (aj hwj H)))
    refine Run.drawC [] [9,10,20,146,147,197] Tryz.mixed Y19 ?_
    refine DetC.pre (pre:=[_,_,_,_,_,_,_,_,_,_,_,_,_,_,_]) au ?_
    refine DetC.gdo au au ?_
    refine DetC.gdo au au ?_
    refine DetC.gdo au au ?_
    refine DetC.gdo au au ?_
    refine DetC.gdo au au ?_
    refine DetC.gdo au au ?_
    refine DetC.gdo au au ?_
    refine DetC.gdo au au ?_
    refine DetC.gdo au au ?_
    refine DetC.gdo au au ?_
    refine DetC.gdo au au ?_
    refine DetC.gdo au au ?_
    refine DetC.gdo au au ?_
    refine DetC.gdo au au ?_
    refine DetC.pre (pre:=[_,_]) au ?_
    refine DetC.gdo au au ?_
    refine DetC.gdo au au ?_
    refine DetC.gdo au au ?_
    refine DetC.gdo au au ?_
    refine DetC.gdo au au ?_
    refine DetC.gdo au au ?_
    refine DetC.gdo au au ?_
    refine DetC.gdo au au ?_
    refine DetC.gdo au au ?_
    refine DetC.gdo au au ?_
    refine DetC.gdo au au ?_
    refine DetC.gdo au au ?_
    refine DetC.gdo au au ?_
    refine DetC.gdo au au ?_
    refine DetC.gdo au au ?_
    refine DetC.gdo au au ?_
    refine DetC.all au ?_
    refine re (k:=rc (ht:=fun hc8=>?_) (hf:=fun hc8=>?_))
    ·cases hc8
    ·refine rk (k:=rB (k:=rg [9,10,20,146,147] (k:=?_)))
     refine Run.lp ⟨⟨rfl,j+1,rfl,Y14⟩,?_⟩
     simp only [ivar,go_sem,↓reduceIte,Nat.reduceEqDiff]
     omega
   ·refine rX (k:=rs (k:=?_))
    have hP9:=hP
    refine rr (k:=ro (pre:=[_]) (k:=rC (h:=line_DevM hP9.A) (k:=rC (h:=device_Counts hP9.dA) (k:=rh [10,22,23] (k:=rs (k:=?_))))))
    have hb8:∀ n:Int,decide (n=n)=true:=fun n=>decide_eq_true rfl
    have H:=aj hdv9 (aj hb8 H)
    refine rr (k:=ro (pre:=[_,_,_,_,_,_,_,_,_,_]) (k:=rg1 (k:=rg1 (k:=rg1 (k:=rg1 (k:=rg1 (k:=rg1 (k:=rg1 (k:=rg1 (k:=rg1 (k:=rh [8] (k:=rR (k:=?_)))))))))))))
    exact Ret.pure (r':=.bool true) (by simp only [Tryz.f15,go_sem,↓reduceIte]<;>rfl) rfl Y359 hwf (fun i hi=>hP.low i hi) ⟨rfl,rfl⟩
 any_goals
  refine jI 1 ?_
  refine Run.prune [1,2,3,9,10,11,12,14,15] rfl ?_
  exact hJs17 _ _ ⟨rfl,_,rfl,Y14,Y14⟩
end Go.Proofs
namespace Go.Proofs
open Go.PM
set_option maxHeartbeats 2000000
theorem law18_Plays {tl:List Int} (htl:tl.length*8≤140737488351232) {fl:List Int} (hfl:fl.length<140737488355328) {tk:List Int} (htk:tk.length<140737488355328) {rw_:List Req} (hrw:rw_.length<140737488355328) (hro:∀ q∈rw_,q.ok) {s:St}:ACalls Tryz.prog 5 [.sl .unk (tl.map (PV.int .i64)),.sl .unk (fl.map (PV.int .i64)),.sl .unk (tk.map (PV.int .i64)),.sl .unk (rw_.map Req.pv)] s (fun r s'=>r=.bool true∧s'=s):=by
 refine go Tryz.func5 (k:=fun hwf H=>?_)
 have hwq:PV.weaks (rw_.map Req.pv)=rw_.map Req.pv:=weaks_map_id Req.pv (fun q=>Y437) rw_
 have H:=aj hwq H
 refine rs (k:=rg [0,1,2,3] (k:=rs (k:=rr (k:=ro (pre:=[_,_,_]) (k:=rC (h:=law18_play htl hfl htk (rw_:=[]) Y15 (fun q hq=>(List.not_mem_nil hq).elim)) (k:=ro (pre:=[_]) (k:=rg1 (k:=rg1 (k:=rg1 (k:=rC (h:=law18_play htl hfl (tk:=[]) Y15 hrw hro) (k:=ro (pre:=[_,_]) (k:=rC (h:=law18_known) (k:=ra (k:=?_))))))))))))))
 refine rl [8] (k:=rR (k:=?_))
 exact Ret.pure (r':=.bool true) (by simp only [Tryz.f5,go_sem,↓reduceIte]<;>rfl) rfl Y359 hwf (fun _ _=>rfl) ⟨rfl,rfl⟩
end Go.Proofs
namespace Go.Proofs
open Go.PM
set_option maxHeartbeats 2000000
theorem rd_req:Rd Tryz.prog 31 true fun p=>∃ q:Req,p=q.pv∧q.ok :=
 Rd.mono (rd_struct (fs:=[(0,3,1),(1,3,1),(2,3,1),(3,3,1),(4,3,1),(5,27,1),(6,28,1),(7,29,1),(8,29,1)]) Y19 (.cons (rd_int Y19) (.cons (rd_int Y19) (.cons (rd_int Y19) (.cons (rd_int Y19) (.cons (rd_int Y19)
  (.cons (rd_slice (e:=4) Y19 (by rw [Tryz.cz4];decide) (rd_bool Y19)) (.cons (rd_slice (e:=29) Y19 (by rw [Tryz.cz29];decide) (rd_int (k:=.u16) Y19)) (.cons (rd_int Y19) (.cons (rd_int Y19) (.nil _))))))))))) (by
  rintro p ⟨ps,rfl,_,_,rfl,⟨a,rfl,ha⟩,_,_,rfl,⟨b,rfl,hb⟩,_,_,rfl,⟨c,rfl,hc⟩,_,_,rfl,⟨d,rfl,hd⟩,_,_,rfl,⟨e,rfl,he⟩,_,_,rfl,⟨bs,rfl,hbs,bb⟩,_,_,rfl,⟨vs,rfl,hvs,bv⟩,_,_,rfl,⟨f,rfl,hf⟩,_,_,rfl,⟨g,rfl,hg⟩,rfl⟩
  obtain ⟨lb,rfl,kb⟩:=choose_list (f:=PV.bool) (q:=fun _=>True) (l:=bs) fun x hx=>by
   obtain ⟨y,rfl⟩:=hbs x hx
   exact ⟨y,rfl,trivial⟩
  obtain ⟨lv,rfl,kv⟩:=choose_list (f:=PV.int .u16) (q:=fun n=>U16 n) (l:=vs) fun x hx=>by
   obtain ⟨y,rfl,hy⟩:=hvs x hx
   exact ⟨y,rfl,wf_u16 hy⟩
  rw [List.length_map,Tryz.by4] at bb
  rw [List.length_map,Tryz.by29] at bv
  have hr:reachBytes=140737488351232:=rfl
  exact ⟨⟨a,b,c,d,e,lb,lv,f,g⟩,rfl,wf_i64 ha,wf_i64 hb,wf_i64 hc,wf_i64 hd,wf_i64 he,kv,wf_u16 hf,wf_u16 hg,by show lb.length≤_;omega,by show lv.length*2≤_;omega⟩)
theorem rd_reqs:Rd Tryz.prog 49 false fun p=>∃ qs:List Req,p=.sl .unk (qs.map Req.pv)∧qs.length<140737488355328∧∀ q∈qs,q.ok :=
 Rd.mono (rd_slice (e:=31) Y19 (by rw [Tryz.cz31];decide) rd_req) (by
  rintro p ⟨els,rfl,h,hb⟩
  obtain ⟨qs,rfl,k⟩:=choose_list (f:=Req.pv) (q:=Req.ok) h
  rw [List.length_map,Tryz.by31] at hb
  have hr:reachBytes=140737488351232:=rfl
  exact ⟨qs,rfl,Y14,k⟩)
end Go.Proofs

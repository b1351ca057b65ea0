import Derived.Test.YtdeiiaohdcpecaaGreatB3
import Derived.Test.YtdeiiaohdcpecaaGreatB1
import Derived.Test.YtdeiiaohdcpecaaGreatB2
set_option linter.unusedVariables false
set_option linter.unusedSimpArgs false
namespace Go.Proofs
open Go.PM
set_option maxHeartbeats 2000000
theorem zdH {q:Req} (hr:zD q=0):1≤q.fn∧q.fn≤127:=by
 have:=yM (vF hr).has
 omega
theorem zjK {D:Dev} (hD:D.ok) {q:Req} (hq:q.ok) (hr:zD q=0) (hc:yu q=true):Yn (zF D q).1 q:=by
 have hR:=vF hr
 have wa:=Zq hR.wa
 have wsb:=Zq hR.ws
 have wc:=Zq hR.wc
 have hcc:=(of_decide_eq_true hc).2
 have h127:=zdH hr
 have no:Yn (yz q) q:=wO h127 Y19
 have h3:=hD.c1;have h4:=hD.v0;have h5:=hD.v1
 have hv0:U16 ((q.vals[0]?).getD 0):=zav hq.vals
 unfold zF
 by_cases e1:q.fn=1
 ·rw [if_pos (.inl e1)] at hcc
  rw [if_pos e1]
  split
  ·rename_i ht
   have:=Yl D.c0 ht
   exact zdm (.inl e1) this Y18
  ·exact no
 rw [if_neg e1]
 by_cases e2:q.fn=2
 ·rw [if_pos (.inr e2)] at hcc
  rw [if_pos e2]
  split
  ·rename_i ht
   have:=Yl D.c1 (by rw [h3];exact ht)
   exact zdm (.inr e2) this Y18
  ·exact no
 rw [if_neg e2]
 rw [if_neg Y18] at hcc
 by_cases e3:q.fn=3
 ·rw [if_pos (.inl e3)] at hcc
  rw [if_pos e3]
  split
  ·rename_i ht
   have:=Yl D.v1 (by rw [h5];exact ht)
   exact Yj (.inl e3) (Wk hD.w1 _ _) this Y18
  ·exact no
 rw [if_neg e3]
 by_cases e4:q.fn=4
 ·rw [if_pos (.inr e4)] at hcc
  rw [if_pos e4]
  split
  ·rename_i ht
   have:=Yl D.v0 (by rw [h4];exact ht)
   exact Yj (.inr (.inl e4)) (Wk hD.w0 _ _) this Y18
  ·exact no
 rw [if_neg e4]
 rw [if_neg Y18] at hcc
 by_cases e5:q.fn=5∨q.fn=15
 ·rw [if_pos e5]
  split
  ·by_cases e15:q.fn=15
   ·rw [if_pos e15];exact zaw (.inl e15) wa wc
   ·rw [if_neg e15];exact znE Y18 wa _
  ·exact no
 rw [if_neg e5]
 by_cases e6:q.fn=6∨q.fn=16
 ·rw [if_pos e6]
  split
  ·by_cases e15:q.fn=16
   ·rw [if_pos e15];exact zaw (.inr e15) wa wc
   ·rw [if_neg e15];exact znq Y18 wa hv0
  ·exact no
 rw [if_neg e6]
 by_cases e8:q.fn=8
 ·rw [if_pos e8]
  unfold WD
  dsimp only
  split
  ·exact zg4 e8 wsb hv0
  ·split
   ·exact zg4 e8 wsb hv0
   ·split
    ·split
     ·exact wO h127 Y19
     ·exact zg4 e8 wsb (UL _)
    ·exact wO h127 Y19
 rw [if_neg e8]
 by_cases e17:q.fn=17
 ·rw [if_pos e17];exact zmZ e17 _ _
 rw [if_neg e17]
 by_cases e22:q.fn=22
 ·rw [if_pos e22]
  split
  ·exact zmu e22 wa hq.and_ hq.or_
  ·exact no
 rw [if_neg e22]
 have e23:q.fn=23:=by have:=yM hR.has;omega
 rw [if_neg Y18,if_neg Y18,if_pos e23] at hcc
 split
 ·rename_i ht
  have hl:=YA ht.2
  have:=Yl (yi D.v1 q.wat.toNat q.vals) (a:=q.at_) (m:=q.count) (by rw [wT Y18,h5];exact ht.1)
  exact Yj (.inr (.inr e23)) (Wk (zaW hD.w1 hq.vals _) _ _) this Y18
 ·exact no
theorem zin {D:Dev} (hD:D.ok) {q:Req} (hq:q.ok) (hr:zD q=0):Yn (doF D q).1 q:=by
 have h127:=zdH hr
 cases hc:yu q with
 | false =>
   have hh:¬ xO q.fn=false:=by rw [(vF hr).has];decide
   unfold doF
   dsimp only
   rw [if_neg hh,if_pos (.inr hc)]
   exact wO h127 Y19
 | true =>
   rw [zks hr hc]
   have hb:=zjK (Xt hD) hq hr hc
   split
   ·rename_i hne
    have hg:=zaP hb.good hne
    exact wO h127 ⟨hg.1,hg.2.1⟩
   ·exact hb
theorem ziN {D:Dev} {q:Req} (hq:q.ok) (hr:zD q=0):xq D (yF q)=(yO (doF D q).1,(doF D q).2):=by
 unfold xq
 rw [zaT hq hr]
 rfl
theorem zgz {a:Int} (h:U8 a):zR .and .u8 a 127=a%128:=by
 obtain ⟨n,rfl⟩:∃ n:Nat,a=n:=⟨a.toNat,(Int.toNat_of_nonneg h.1).symm⟩
 have hn:n<256:=by unfold U8 at h;omega
 have:∀ m:Fin 256,zR .and .u8 ((m.val:Nat):Int) 127=((m.val:Nat):Int)%128:=by decide +kernel
 exact this ⟨n,hn⟩
theorem zm6 {R:Rep} (h:yg R=0):2≤(yK R).length:=by
 unfold yK
 split
 ·exact Nat.le_refl _
 ·repeat' split
  all_goals simp only [List.length_cons,List.length_append,show ∀ n,(zx n).length=2 from fun _=>rfl];omega
theorem VF {R:Rep} {q:Req} (h:Yn R q) (hq:1≤q.fn∧q.fn≤127):∃ x l,yO R=x::l∧1≤l.length∧x%128=q.fn:=by
 unfold yO
 rw [if_pos h.good]
 have h2:=zm6 h.good
 have h3:=Vo (R:=R)
 have h4:=h.fn
 cases hl:yK R with
 | nil=>rw [hl] at h2;simp at h2
 | cons x l =>
   rw [hl] at h2 h3
   simp only [List.length_cons] at h2
   refine ⟨x,l,rfl,Y18,?_⟩
   have h3:x=if ¬ R.code=0 then R.fn+128 else R.fn:=h3
   rw [h3]
   split<;>omega
end Go.Proofs
namespace Go.Proofs
open Go.PM
set_option maxHeartbeats 2000000
end Go.Proofs
namespace Go.Proofs
open Go.PM
set_option maxHeartbeats 2000000
end Go.Proofs
namespace Go.Proofs
open Go.PM
set_option maxHeartbeats 2000000
end Go.Proofs
namespace Go.Proofs
open Go.PM
set_option maxHeartbeats 2000000
end Go.Proofs
namespace Go.Proofs
open Go.PM
set_option maxHeartbeats 2000000
theorem zm9 {p:Prop} (h:p:=by rw [List.length_map,List.length_drop];omega):p:=h
theorem zoz {p:Prop} (h:p:=by simp only [PV.blw,PV.blws,and_true,true_and];exact ⟨fun t z e=>Y17,Vh _ _⟩):p:=h
theorem Vy {b:List Int} (hb:OkB b) (hl:b.length≤140737488350000) {s:St}:za Tryz.prog 132 [.sl .unk (b.map (PV.int .u8))] s (fun r s'=>r=.tuple [.int .i64 (wb b).1.1,.sl .unk ((wb b).1.2.map (PV.int .u8)),.int .i64 (wb b).2]∧s'=s):=by
 refine go Tryz.func132 (k:=fun hwf H=>?_)
 refine rs (k:=rg [0] (k:=rs (k:=rr (k:=ro (pre:=[_]) (k:=rC (h:=zkp hb hl) (k:=rh [0,5,6] (k:=rs (k:=rb (k:=rs (k:=rg [0,5,6,12] (k:=rc (ht:=fun hc0=>?_) (hf:=fun hc0=>?_))))))))))))
 refine jO 1 ?_;rotate_left
 refine rs (k:=rg [5,6,16] (k:=rc (ht:=fun hc1=>?_) (hf:=fun hc1=>?_)))
 refine jO 1 ?_;rotate_left
 refine rs (k:=rg [5,20] (k:=rc (ht:=fun hc2=>?_) (hf:=fun hc2=>?_)))
 refine jO 1 ?_;rotate_left
 refine rs (k:=?_)
 obtain ⟨x,ho⟩:∃ x,wJ b=some x:=Option.isSome_iff_exists.1 (by simpa using hc2)
 have hxl:x.length=b.length-2:=by
  unfold wJ at ho
  split at ho
  ·cases ho;rw [List.length_take];omega
  ·cases ho
 have hbl:4≤b.length:=Y30
 have hxo:=ziq hb ho
 have hx0:0<x.length:=Y18
 obtain ⟨y,hy⟩:∃ y,x[0]? =some y:=⟨x[0],List.getElem?_eq_getElem hx0⟩
 have hyy:(x.map (PV.int .u8))[0]? =some (.int .u8 y):=by rw [List.getElem?_map,hy];rfl
 have hxT:(0<x.length)=True:=eq_true hx0
 have hxT1:((1:Int)≤(x.length:Int))=True:=eq_true Y18
 have hgd:(wJ b).getD []=x:=by rw [ho];rfl
 have hy8:U8 y:=hxo y (List.mem_of_getElem? hy)
 have hyw:IntKind.i64.wrap y=y:=zi (by unfold U8 at hy8;omega)
 have hh0:hd0 x=y:=by unfold hd0;rw [hy];rfl
 have hln:((x.length:Int)-1).toNat=x.length-1:=Y18
 have htk:((x.map (PV.int .u8)).drop 1).take (x.length-1)=(x.drop 1).map (PV.int .u8):=by rw [← List.map_drop,List.take_of_length_le zm9]
 have h1n:Int.toNat 1=1:=rfl
 have H:=aj hyy (aj hxT (aj hxT1 (aj hgd (aj hyw (aj hln (aj htk (aj h1n H)))))))
 refine rg [5,23] (k:=rc (ht:=fun hc3=>?_) (hf:=fun hc3=>?_))
 refine jO 1 ?_;rotate_left
 refine rk (k:=rB (k:=rs (k:=?_)))
 refine Run.drawC [] [2,3,4] Tryz.mixed Y22 ?_
 refine zj.pre (pre:=[_,_,_,_,_,_]) au ?_
 refine zj.call au au au Y22 (vX (xs:=x.drop 1)) ?_
 refine zj.all au ?_
 refine re (k:=rR (k:=?_))
 refine jO 2 ?_;rotate_left
 any_goals
  refine jI 1 ?_
  refine rs (k:=rg [2,3,4] (k:=rR (k:=?_)))
  refine jO 2 ?_;rotate_left
 any_goals
  refine jI 2 ?_
  refine Ret.pure (r':=.tuple [.int .i64 (wb b).1.1,.sl .unk ((wb b).1.2.map (PV.int .u8)),.int .i64 (wb b).2]) (by simp only [Tryz.f132,go_sem,↓reduceIte]<;>rfl) ?_ zoz hwf Y34 ⟨rfl,rfl⟩
  refine jO 3 ?_;rotate_left
 any_goals
  refine jI 3 ?_
  simp only [PV.weak,PV.weaks,zB]
  refine jO 4 ?_;rotate_left
 any_goals
  refine jI 4 ?_
  first
   |(have e:wb b=((0,[]),13):=by unfold wb;rw [if_pos Y83]
     rw [e];rfl)
   |(have e:wb b=((0,[]),3):=by unfold wb;rw [if_neg Y30,if_pos Y79]
     rw [e];rfl)
   |(have ho:wJ b=none:=by cases hq:wJ b with | none=>rfl | some x=>rw [hq] at hc2;simp at hc2
     have e:wb b=((0,[]),14):=by unfold wb;rw [if_neg Y30,if_neg zgP,ho]
     rw [e];rfl)
   |(have h3:hd0 x<1∨247<hd0 x:=by rw [hh0];simpa using hc3
     have e:wb b=((0,[]),1):=by unfold wb;rw [if_neg Y18,if_neg zgP,ho];exact if_pos h3
     rw [e];rfl)
   |(have h3:¬ (hd0 x<1∨247<hd0 x):=by rw [hh0];simp at hc3;omega
     have e:wb b=((y,x.drop 1),0):=by unfold wb;rw [if_neg Y18,if_neg zgP,ho];exact (if_neg h3).trans (by rw [hh0])
     rw [e];first | done | simp only [zB,List.map_drop] | rfl)
theorem zcV {a:Int} {b:List Int} (hb:OkB b) (hl:b.length≤140737488350000) {s:St}:za Tryz.prog 131 [.int .i64 a,.sl .unk (b.map (PV.int .u8))] s (fun r s'=>r=.tuple [.sl .unk ((wN a b).1.map (PV.int .u8)),.int .i64 (wN a b).2]∧s'=s):=by
 refine go Tryz.func131 (k:=fun hwf H=>?_)
 refine rs (k:=rg [0,1] (k:=rs (k:=rb (k:=rs (k:=rg [0,1,6] (k:=rc (ht:=fun hc0=>?_) (hf:=fun hc0=>?_)))))))
 refine jO 1 ?_;rotate_left
 refine rs (k:=rg [0,1,13] (k:=rc (ht:=fun hc1=>?_) (hf:=fun hc1=>?_)))
 refine jO 1 ?_;rotate_left
 refine rs (k:=rg [0,1,17] (k:=rc (ht:=fun hc2=>?_) (hf:=fun hc2=>?_)))
 refine jO 1 ?_;rotate_left
 refine rk (k:=rB (k:=rs (k:=?_)))
 have haw:IntKind.u8.wrap a=a:=by simp only [Bool.or_eq_false_iff,decide_eq_false_iff_not] at hc0;rw [wg];omega
 have hao:OkB (a::b):=OkB.cons (by simp only [Bool.or_eq_false_iff,decide_eq_false_iff_not] at hc0;constructor<;>omega) hb
 have H:=aj haw H
 refine rr (k:=ro (pre:=[_,_]) (k:=rO (k:=ro (pre:=[_]) (k:=?_))))
 refine zm.growL (f:=PV.int .u8) [a] b (a::b) (ky:=.unk) au au au rfl Tryz.td41 Y26 (fun a=>⟨rfl,Y27⟩) Y28 Y81 (fun k' S hlo hnx=>?_)
 refine rC (h:=ze9 (l:=a::b) hao Yk) (k:=rh [4,5] (k:=rR (k:=?_)))
 refine jO 2 ?_;rotate_left
 any_goals
  refine jI 1 ?_
  refine rs (k:=rg [4,5] (k:=rR (k:=?_)))
  refine jO 2 ?_;rotate_left
 any_goals
  refine jI 2 ?_
  refine Ret.pure (r':=.tuple [.sl .unk ((wN a b).1.map (PV.int .u8)),.int .i64 (wN a b).2]) (by simp only [Tryz.f131,go_sem,↓reduceIte]<;>rfl) ?_ zoz hwf (fun i hi=>by first | rfl | exact hlo i hi |(have h0:=ltn hi;have h1:=lte hi;simp only [go_sem,Nat.add_assoc,Nat.reduceAdd,↓reduceIte,h0,h1])) ⟨rfl,rfl⟩
  refine jO 3 ?_;rotate_left
 any_goals
  refine jI 3 ?_
  simp only [PV.weak,PV.weaks,zB]
  refine jO 4 ?_;rotate_left
 any_goals
  refine jI 4 ?_
  simp only [Bool.or_eq_true,Bool.or_eq_false_iff,decide_eq_true_eq,decide_eq_false_iff_not] at *
  refine jO 5 ?_;rotate_left
 any_goals
  refine jI 5 ?_
  have hbn:b=[]↔(b.length:Int)=0:=⟨fun e=>by rw [e];rfl,fun e=>List.length_eq_zero_iff.1 Y18⟩
  refine jO 6 ?_;rotate_left
 any_goals
  refine jI 6 ?_
  first
   |(have e:wN a b=([],1):=by unfold wN;rw [if_pos hc0]
     rw [e];rfl)
   |(have e:wN a b=([],13):=by unfold wN;rw [if_neg Y18,if_pos (hbn.2 Y18)]
     rw [e];rfl)
   |(have e:wN a b=([],3):=by unfold wN;rw [if_neg Y18,if_neg (fun h=>absurd (hbn.1 h) Y18),if_pos Y18]
     rw [e];rfl)
   |(have e:wN a b=(yU (a::b),0):=by unfold wN;rw [if_neg Y18,if_neg (fun h=>absurd (hbn.1 h) Y18),if_neg Y18]
     rw [e])
end Go.Proofs
namespace Go.Proofs
open Go.PM
set_option maxHeartbeats 2000000
def xv (d:Nat) (a0 a1 a2 a3 st:PV):Blk:=.row 86 [.agg [.ptr d 0 0,a0,a1,a2,a3,st]]
theorem zfn {d:Nat} {s:St}:za Tryz.prog 7 [.ptr d 0 0] s (fun r s'=>r=.ptr s.nxt 0 0∧s'=s.new (xv d (.sl .nil []) (.sl .nil []) (.sl .nil []) (.sl .nil []) (.sl .nil []))):=by
 refine go Tryz.func7 (k:=fun hwf H=>?_)
 refine rs (k:=rg [0] (k:=rs (k:=rs (k:=rg [0,4] (k:=rc (ht:=fun hc0=>?_) (hf:=fun hc0=>?_))))))
 ·cases hc0
 ·refine rk (k:=rs (k:=rg [2] (k:=rR (k:=?_))))
  exact Ret.all (by simp only [Tryz.f7,go_sem,↓reduceIte]<;>rfl) ⟨rfl,by unfold xv;rfl⟩
theorem Za {t:Int} {s:St}:za Tryz.prog 45 [.int .i64 t] s (fun r s'=>r=.bool (decide (0≤t)&&decide (t<4))∧s'=s):=by
 refine go Tryz.func45 (k:=fun hwf H=>?_)
 refine rs (k:=rg [0] (k:=rs (k:=rg [2] (k:=rR (k:=rP (by simp only [Tryz.f45,go_sem];rfl) hwf ⟨?_,rfl⟩)))))
 rfl
theorem zey {ln d:Nat} {a0 a1 a2 a3 st:PV} {s:St} (hl:s.blk ln=some (xv d a0 a1 a2 a3 st)):za Tryz.prog 10 [.ptr ln 0 0] s (fun r s'=>r=.ptr d 0 0∧s'=s):=by
 refine go Tryz.func10 (k:=fun hwf H=>?_)
 unfold xv at hl
 have H:=aj hl H
 refine rs (k:=rg [0] (k:=rs (k:=rg [2] (k:=rR (k:=?_)))))
 exact Ret.all (by simp only [Tryz.f10,go_sem,↓reduceIte]<;>rfl) ⟨rfl,rfl⟩
end Go.Proofs
namespace Go.Proofs
open Go.PM
set_option maxHeartbeats 2000000
theorem zjq {l:List Int} (hb:OkB l) (hl:l.length+2≤140737488355328) {s:St}:za Tryz.prog 144 [.sl .unk (l.map (PV.int .u8))] s (fun r s'=>r=.own s.nxt 0 (l.length+2)∧s'=s.new (.row 5 ((yU l).map (PV.int .u8)))):=by
 refine go Tryz.func144 (k:=fun hwf H=>?_)
 refine rs (k:=rg [0] (k:=rs (k:=rr (k:=ro (pre:=[_]) (k:=?_)))))
 refine zm.call au au Y22 ((zlA hb Y18).mono ?_)
 rintro r s1 ⟨rfl,hs⟩
 subst s1
 refine rh [0,3] (k:=rs (k:=rr (k:=ro (pre:=[_]) (k:=?_))))
 refine zm.call au au Y22 ((vX (xs:=l)).mono ?_)
 rintro r s1 ⟨rfl,hs⟩
 subst s1
 refine ro (pre:=[_,_,_,_,_]) (k:=rO (k:=?_))
 refine zm.appendFirst au au au Tryz.td41 Y26 (zp (P:=Tryz.prog) (e:=5) (f:=PV.int .u8) (fun a=>⟨rfl,Y27⟩) _) (zp (P:=Tryz.prog) (e:=5) (f:=PV.int .u8) (fun a=>⟨rfl,Y27⟩) [_,_]) Y28 Y81 (by unfold wB;dsimp only;rw [if_pos Y71]) ?_
 refine rh [2] (k:=rR (k:=?_))
 refine Ret.all (r:=.own s.nxt 0 (l.length+2)) (by simp only [Tryz.f144,go_sem,↓reduceIte]<;>simp) ⟨rfl,?_⟩
 congr 2
 simp [yU,znu,zix]
theorem zgI {b:List Int} (hb:OkB b) (h1:b≠[]) (h2:b.length≤253) {s:St}:za Tryz.prog 131 [.int .i64 17,.sl .unk (b.map (PV.int .u8))] s (fun r s'=>r=.tuple [.own (s.nxt+1) 0 (b.length+3),.int .i64 0]∧s'=(s.new (.tok (17::b).length)).new (.row 5 ((yU (17::b)).map (PV.int .u8)))):=by
 refine go Tryz.func131 (k:=fun hwf H=>?_)
 have g0:decide ((17:Int)<1)=false:=Y19
 have g1:decide ((247:Int)<17)=false:=Y19
 have hp:0<b.length:=List.length_pos_iff.2 h1
 have g2:decide ((b.length:Int)=0)=false:=decide_eq_false Y18
 have g3:decide ((253:Int)<(b.length:Int))=false:=decide_eq_false Y18
 have gw:IntKind.u8.wrap 17=17:=Y19
 have hao:OkB (17::b):=OkB.cons Y20 hb
 have H:=aj g0 (aj g1 (aj g2 (aj g3 (aj gw H))))
 refine rs (k:=rg [0,1] (k:=rs (k:=rb (k:=rs (k:=rg [0,1,6] (k:=rc (ht:=fun hc0=>?_) (hf:=fun hc0=>?_)))))))
 ·cases hc0
 ·refine rs (k:=rg [0,1,13] (k:=rc (ht:=fun hc1=>?_) (hf:=fun hc1=>?_)))
  ·cases hc1
  ·refine rs (k:=rg [0,1,17] (k:=rc (ht:=fun hc2=>?_) (hf:=fun hc2=>?_)))
   ·cases hc2
   ·refine rk (k:=rB (k:=rs (k:=rr (k:=ro (pre:=[_,_]) (k:=rO (k:=ro (pre:=[_]) (k:=?_)))))))
    refine zm.append (v:=.sl (.tok s.nxt 1) ((17::b).map (PV.int .u8))) (s':=s.new (.tok (17::b).length)) au au au Tryz.td41 Y26 (zp (P:=Tryz.prog) (e:=5) (f:=PV.int .u8) (fun a=>⟨rfl,Y27⟩) [_]) (zp (P:=Tryz.prog) (e:=5) (f:=PV.int .u8) (fun a=>⟨rfl,Y27⟩) b) Y28 Y81 (by unfold yQ;rw [if_neg zhZ,Tryz.cz5];simp [Nat.add_comm]) ?_
    refine zm.callw au au au Y22 ((zjq (l:=17::b) hao Yk).mono ?_)
    rintro r s1 ⟨rfl,rfl⟩
    refine rh [4,5] (k:=rR (k:=?_))
    exact Ret.all (by simp only [Tryz.f131,go_sem,↓reduceIte]<;>rfl) ⟨by simp [zq],rfl⟩
theorem zaG {b:List Int} (hb:OkB b) (hl:b.length≤140737488350000) {s:St}:za Tryz.prog 157 [.sl .unk (b.map (PV.int .u8))] s (fun r s'=>r=.sl .unk ((yv b).map (PV.int .u8))∧s'=s):=by
 refine go Tryz.func157 (k:=fun hwf H=>?_)
 refine rs (k:=rg [0] (k:=rs (k:=rr (k:=ro (pre:=[_]) (k:=rC (h:=zcV (a:=17) hb hl) (k:=rh [3] (k:=rs (k:=rg [2] (k:=rR (k:=?_))))))))))
 exact Ret.all (by simp only [Tryz.f157,go_sem,↓reduceIte]<;>rfl) ⟨rfl,rfl⟩
theorem zfl {b:List Int} (hb:OkB b) (h1:b≠[]) (h2:b.length≤253) {s:St}:za Tryz.prog 157 [.sl .unk (b.map (PV.int .u8))] s (fun r s'=>r=.own (s.nxt+1) 0 (b.length+3)∧s'=(s.new (.tok (17::b).length)).new (.row 5 ((yU (17::b)).map (PV.int .u8)))):=by
 refine go Tryz.func157 (k:=fun hwf H=>?_)
 refine rs (k:=rg [0] (k:=rs (k:=rr (k:=ro (pre:=[_]) (k:=?_)))))
 refine zm.callw au au au Y22 ((zgI hb h1 h2).mono ?_)
 rintro r s1 ⟨rfl,rfl⟩
 refine rh [3] (k:=rs (k:=rg [2] (k:=rR (k:=?_))))
 exact Ret.all (by simp only [Tryz.f157,go_sem,↓reduceIte]<;>rfl) ⟨rfl,rfl⟩
theorem zet {D:Dev} (hD:D.ok) {p:List Int} (hp:OkB p) (hpl:p.length≤253):(xq D p).1.length≤140737488350000:=by
 have h:∀ R:Rep,(yO R).length≤300:=fun R=>by
  unfold yO
  split
  ·exact zb0 ‹_›
  ·simp
 unfold xq
 split
 ·simp
 ·dsimp only
  exact Nat.le_trans (h _) Y18
theorem zhW (x:Int):zE x 4=zE (x%128) 4:=by
 unfold zE
 rw [show x%128%128=x%128 from Y18]
theorem Ub {ln b:Nat} {a0 a1 a2 a3 st:PV} {D:Dev} {s:St} (hl:s.blk ln=some (xv (b+5) a0 a1 a2 a3 st)) (hA:zK b D s) (hD:D.ok) {p:List Int} (hp:OkB p) (hpl:p.length≤253):za Tryz.prog 148 [.ptr ln 0 0,.sl .unk (p.map (PV.int .u8))] s (fun r s'=>r=.sl .unk ((wx 0 D p).1.map (PV.int .u8))∧s'=putDev b (wx 0 D p).2 s):=by
 refine go Tryz.func148 (k:=fun hwf H=>?_)
 unfold xv at hl
 obtain ⟨⟨x,D'⟩,hX⟩:∃ Z,xq D p=Z:=⟨_,rfl⟩
 have hxo:OkB x:=by have:=zfO hD hp Y18;rwa [hX] at this
 have hxl:x.length≤140737488350000:=by have:=zet hD hp hpl;rw [hX] at this;exact this
 have hpd:∀ s,zK b D s→za Tryz.prog 158 [.ptr (b+5) 0 0,.sl .unk (p.map (PV.int .u8))] s (fun r s'=>r=.sl .unk (x.map (PV.int .u8))∧s'=putDev b D' s):=fun s hA=>by
  have:=zaQ hA hD hp (s:=s) Y18
  rwa [hX] at this
 have H:=aj hl H
 refine rs (k:=rg [0,1] (k:=rs (k:=rr (k:=ro (pre:=[_,_,_,_,_]) (k:=?_)))))
 refine zm.callw au au au Y22 ((hpd _ hA).mono ?_)
 rintro r s1 ⟨rfl,rfl⟩
 refine rC (h:=zaG hxo hxl) (k:=rh [4] (k:=rR (k:=?_)))
 exact Ret.all (by simp only [Tryz.f148,go_sem,↓reduceIte]<;>rfl) ⟨by show _=PV.sl .unk ((yv (xq D p).1).map _);rw [hX],by show _=putDev b (xq D p).2 s;rw [hX]⟩
theorem zgB {ln b:Nat} {a0 a1 a2 a3 st:PV} {D:Dev} {s:St} (hl:s.blk ln=some (xv (b+5) a0 a1 a2 a3 st)) (hA:zK b D s) (hD:D.ok) {p:List Int} (hp:OkB p) (hpl:p.length≤253) (h1:(xq D p).1≠[]) (h2:(xq D p).1.length≤253):za Tryz.prog 148 [.ptr ln 0 0,.sl .unk (p.map (PV.int .u8))] s (fun r s'=>r=.own (s.nxt+1) 0 ((xq D p).1.length+3)∧s'=((putDev b (xq D p).2 s).new (.tok (17::(xq D p).1).length)).new (.row 5 ((yU (17::(xq D p).1)).map (PV.int .u8)))):=by
 refine go Tryz.func148 (k:=fun hwf H=>?_)
 unfold xv at hl
 obtain ⟨⟨x,D'⟩,hX⟩:∃ Z,xq D p=Z:=⟨_,rfl⟩
 have hxo:OkB x:=by have:=zfO hD hp Y18;rwa [hX] at this
 have hxl:x.length≤140737488350000:=by have:=zet hD hp hpl;rw [hX] at this;exact this
 have hpd:∀ s,zK b D s→za Tryz.prog 158 [.ptr (b+5) 0 0,.sl .unk (p.map (PV.int .u8))] s (fun r s'=>r=.sl .unk (x.map (PV.int .u8))∧s'=putDev b D' s):=fun s hA=>by
  have:=zaQ hA hD hp (s:=s) Y18
  rwa [hX] at this
 rw [hX] at h1 h2 ⊢
 have H:=aj hl H
 refine rs (k:=rg [0,1] (k:=rs (k:=rr (k:=ro (pre:=[_,_,_,_,_]) (k:=?_)))))
 refine zm.callw au au au Y22 ((hpd _ hA).mono ?_)
 rintro r s1 ⟨rfl,rfl⟩
 refine zm.callw au au au Y22 ((zfl hxo h1 h2).mono ?_)
 rintro r s1 ⟨rfl,rfl⟩
 refine rh [4] (k:=rR (k:=?_))
 exact Ret.all (by simp only [Tryz.f148,go_sem,↓reduceIte]<;>rfl) ⟨rfl,rfl⟩
theorem zjH {ln b:Nat} {a0 a1 a2 a3 st:PV} {D:Dev} {s:St} (hl:s.blk ln=some (xv (b+5) a0 a1 a2 a3 st)) (hA:zK b D s) (hD:D.ok) {p:List Int} (hp:OkB p) (hpl:p.length≤253):za Tryz.prog 149 [.ptr ln 0 0,.sl .unk (p.map (PV.int .u8))] s (fun r s'=>r=.sl .unk ((wx 1 D p).1.map (PV.int .u8))∧s'=putDev b (wx 1 D p).2 s):=by
 refine go Tryz.func149 (k:=fun hwf H=>?_)
 refine rs (k:=rg [] (k:=rs (k:=rg [4] (k:=rR (k:=?_)))))
 refine Ret.pure (r':=.sl .unk []) (by simp only [Tryz.f149,go_sem,↓reduceIte]<;>rfl) rfl Y32 hwf (fun _ _=>rfl) ⟨rfl,(uM hA).symm⟩
theorem zjg {ln b:Nat} {a0 a1 a2 a3 st:PV} {D:Dev} {s:St} (hl:s.blk ln=some (xv (b+5) a0 a1 a2 a3 st)) (hA:zK b D s) (hD:D.ok) {p:List Int} (hp:OkB p) (hpl:p.length≤253):za Tryz.prog 150 [.ptr ln 0 0,.sl .unk (p.map (PV.int .u8))] s (fun r s'=>r=.sl .unk ((wx 2 D p).1.map (PV.int .u8))∧s'=putDev b (wx 2 D p).2 s):=by
 refine go Tryz.func150 (k:=fun hwf H=>?_)
 refine rs (k:=rg [0,1] (k:=rs (k:=rr (k:=ro (pre:=[_,_]) (k:=?_)))))
 refine zm.callw au au au Y22 ((Ub hl hA hD hp hpl).mono ?_)
 rintro r s1 ⟨rfl,rfl⟩
 refine rl [] (k:=rs (k:=rg [4] (k:=rR (k:=?_))))
 exact Ret.dev (wx 2 D p).2 hA (r':=.sl .unk []) (by simp only [Tryz.f150,go_sem,↓reduceIte]<;>rfl) rfl Y32 hwf (fun _ _=>rfl) ⟨rfl,rfl⟩
attribute [local go_sem] zf Rep.pv
theorem zeR {ln b:Nat} {a0 a1 a2 a3 st:PV} {D:Dev} {s:St} (hl:s.blk ln=some (xv (b+5) a0 a1 a2 a3 st)) (hA:zK b D s) (hD:D.ok) {p:List Int} (hp:OkB p) (hpl:p.length≤253) (hne:p≠[]):za Tryz.prog 152 [.ptr ln 0 0,.sl .unk (p.map (PV.int .u8))] s (fun r s'=>r=.sl .unk ((wx 4 D p).1.map (PV.int .u8))∧s'=putDev b (wx 4 D p).2 s):=by
 refine go Tryz.func152 (k:=fun hwf H=>?_)
 have hll:0<p.length:=List.length_pos_iff.2 hne
 obtain ⟨x,hx⟩:∃ x,p[0]? =some x:=⟨p[0],List.getElem?_eq_getElem hll⟩
 have hxx:(p.map (PV.int .u8))[0]? =some (.int .u8 x):=zgb
 have hlT:(0<p.length)=True:=eq_true hll
 have hx8:U8 x:=hp x (List.mem_of_getElem? hx)
 have hx0:(p[0]?).getD 0=x:=zgi
 have ha127:zR .and .u8 x 127=x%128:=Wh hx8
 have hw:IntKind.i64.wrap (x%128)=x%128:=zi Y18
 have hx64:I64 (x%128):=Y76
 have h4:I64 4:=Y20
 have hrl:(yO (zE (x%128) 4)).length≤140737488350000:=by
  unfold yO
  split
  ·exact Nat.le_trans (zb0 ‹_›) Y18
  ·simp
 have H:=aj hxx (aj hlT (aj ha127 (aj hw H)))
 refine rs (k:=rg [1] (k:=rs (k:=rr (k:=ro (pre:=[_,_,_,_,_]) (k:=rC (h:=yf (fn:=x%128) (code:=4) hx64 h4) (k:=rC (h:=uG (yS _ _)) (k:=rh [5] (k:=rs (k:=rr (k:=ro (pre:=[_]) (k:=rC (h:=zaG (uD (yS _ _)) hrl) (k:=rh [4] (k:=rR (k:=?_))))))))))))))
 exact Ret.all (by simp only [Tryz.f152,go_sem,↓reduceIte]<;>rfl) ⟨by show _=PV.sl .unk ((yv (yO (zE ((p[0]?).getD 0) 4))).map _);rw [hx0,zhW x],(uM hA).symm⟩
end Go.Proofs
namespace Go.Proofs
open Go.PM
set_option maxHeartbeats 2000000
theorem Vi {ln b:Nat} {a0 a1 a2 a3 st:PV} {D:Dev} {s:St} (hl:s.blk ln=some (xv (b+5) a0 a1 a2 a3 st)) (hA:zK b D s) (hD:D.ok) {p:List Int} (hp:OkB p) (hpl:p.length≤253) (hz:yv (xq D p).1=[]):za Tryz.prog 151 [.ptr ln 0 0,.sl .unk (p.map (PV.int .u8))] s (fun r s'=>r=.sl .unk ((wx 3 D p).1.map (PV.int .u8))∧s'=putDev b (wx 3 D p).2 s):=by
 refine go Tryz.func151 (k:=fun hwf H=>?_)
 have hz2:(wx 0 D p).1=[]:=hz
 have hzl:(((wx 0 D p).1.length:Nat):Int)=0:=by rw [hz2];rfl
 have H:=aj hzl H
 refine rs (k:=rg [0,1] (k:=rs (k:=rr (k:=ro (pre:=[_,_]) (k:=?_)))))
 refine zm.callw au au au Y22 ((Ub hl hA hD hp hpl).mono ?_)
 rintro r s1 ⟨rfl,rfl⟩
 refine rh [5] (k:=rs (k:=rs (k:=rg [5,6] (k:=rs (k:=rg [5,6,13] (k:=rc (ht:=fun hc0=>?_) (hf:=fun hc0=>?_)))))))
 ·cases hc0
 ·refine rk (k:=rs (k:=rg [4] (k:=rR (k:=?_))))
  exact Ret.all (by simp only [Tryz.f151,go_sem,↓reduceIte]<;>rfl) ⟨by rw [hz2];show _=PV.sl .unk ((ZC (yv (xq D p).1)).map _);rw [hz];rfl,rfl⟩
attribute [local go_sem] ye yG xb
theorem zer {ln b:Nat} {a0 a1 a2 a3 st:PV} {D:Dev} {s:St} (hl:s.blk ln=some (xv (b+5) a0 a1 a2 a3 st)) (hA:zK b D s) (hD:D.ok) {p:List Int} (hp:OkB p) (hpl:p.length≤253) (h1:(xq D p).1≠[]) (h2:(xq D p).1.length≤253):za Tryz.prog 151 [.ptr ln 0 0,.sl .unk (p.map (PV.int .u8))] s (fun r s'=>r=.sl .unk ((wx 3 D p).1.map (PV.int .u8))∧s'=putDev b (wx 3 D p).2 s):=by
 refine go Tryz.func151 (k:=fun hwf H=>?_)
 obtain ⟨Z,hZ⟩:∃ Z,Z=yU (17::(xq D p).1):=⟨_,rfl⟩
 have hZl:Z.length=(xq D p).1.length+3:=by rw [hZ,wr,List.length_cons]
 have hlt:=hA.lt hwf
 obtain ⟨m,hm⟩:∃ m,m+1=Z.length:=⟨(xq D p).1.length+2,Y18⟩
 have hml:m<Z.length:=Y18
 obtain ⟨z,hz⟩:∃ z,Z[m]'hml=z:=⟨_,rfl⟩
 have hzz:(Z.map (PV.int .u8))[m]? =some (.int .u8 z):=by rw [yP hml,hz]
 have hT1:((0:Int)<(((xq D p).1.length+3:Nat):Int))=True:=eq_true Y18
 have hw:IntKind.i64.wrap ((((xq D p).1.length+3:Nat):Int)-1)=(m:Int):=Y24
 have hmT:(m<(xq D p).1.length+3)=True:=eq_true Y18
 have hmT2:((m:Int)<(((xq D p).1.length+3:Nat):Int))=True:=eq_true Y18
 have hset:(Z.map (PV.int .u8)).set m (.int .u8 (zR .xor .u8 z 1))=(Z.set m (zR .xor .u8 z 1)).map (PV.int .u8):=by rw [List.map_set]
 have hfl:Z.set m (zR .xor .u8 z 1)=ZC (yv (xq D p).1):=by
  rw [Wg h1 h2,← hZ]
  unfold ZC
  rw [show Z.length-1=m from Y18,List.getElem?_eq_getElem hml,hz];rfl
 have H:=aj hzz (aj hT1 (aj hw (aj hmT (aj hmT2 (aj hset H)))))
 refine rs (k:=rg [0,1] (k:=rs (k:=rr (k:=ro (pre:=[_,_]) (k:=?_)))))
 refine zm.callw au au au Y22 ((zgB hl hA hD hp hpl h1 h2).mono ?_)
 rintro r s1 ⟨rfl,rfl⟩
 rw [← hZ]
 refine rh [5] (k:=rs (k:=rs (k:=rg [5,6] (k:=rs (k:=rg [5,6,13] (k:=rc (ht:=fun hc0=>?_) (hf:=fun hc0=>?_)))))))
 ·refine rg [5] (k:=rs (k:=rr (k:=?_)))
  refine zm.thaw 5 (s.nxt+1) 2 (v:=.sl .unk ((ZC (yv (xq D p).1)).map (PV.int .u8))) (by simp (disch:=omega) only [go_sem,↓reduceIte];rw [← hfl];exact Vx (t:=5) (by rw [List.length_set];omega) Y71 (by simp (disch:=first | omega |(simp only [zt,zq,xb]<;>omega) | fail) only [go_sem,xb,↓reduceIte,H]<;>rfl)) (by simp only [PV.blw,zbF];exact ⟨fun t z e=>Y17,trivial⟩) ?_
  refine ro (pre:=[_]) (k:=rh [4] (k:=rR (k:=?_)))
  exact Ret.dev (wx 3 D p).2 hA (r':=.sl .unk ((ZC (yv (xq D p).1)).map (PV.int .u8))) (by simp only [Tryz.f151,go_sem,↓reduceIte]<;>rfl) (by simp only [PV.weak,zB]) Y23 hwf (fun i hi=>by first | rfl |(have h0:=ltn hi;have h1:=lte hi;simp (disch:=first | omega |(simp only [zt,zq,xb]<;>omega) | fail) only [go_sem,xb,Nat.add_assoc,Nat.reduceAdd,↓reduceIte,h0,h1]<;>rfl)) ⟨rfl,rfl⟩
 ·cases hc0
theorem zfS {ln b:Nat} {a0 a1 a2 a3 st:PV} {D:Dev} {s:St} (hl:s.blk ln=some (xv (b+5) a0 a1 a2 a3 st)) (hA:zK b D s) (hD:D.ok) {p:List Int} (hp:OkB p) (hpl:p.length≤253):za Tryz.prog 151 [.ptr ln 0 0,.sl .unk (p.map (PV.int .u8))] s (fun r s'=>r=.sl .unk ((wx 3 D p).1.map (PV.int .u8))∧s'=putDev b (wx 3 D p).2 s):=by
 by_cases h1:(xq D p).1=[]
 ·exact Vi hl hA hD hp hpl (by rw [h1];rfl)
 ·by_cases h2:(xq D p).1.length≤253
  ·exact zer hl hA hD hp hpl h1 h2
  ·refine Vi hl hA hD hp hpl ?_
   unfold yv wN
   rw [if_neg Y19,if_neg h1,if_pos Y18]
theorem zlb {p:Prop} (h:p:=by simp only [Tryz.f134,go_sem,↓reduceIte]<;>rfl):p:=h
theorem zkE {p:Prop} (h:p:=by simp only [PV.blw,PV.blws,and_true];exact hln):p:=h
theorem zhN {ln:Nat} {s:St} (hln:ln<s.nxt):za Tryz.prog 134 [.ptr ln 0 0,.int .i64 0] s (fun r s'=>r=.fn (.func 148) [.ptr ln 0 0] []∧s'=s):=by
 refine go Tryz.func134 (k:=fun hwf H=>?_)
 have f0:((0:Int)<((5:Nat):Int))=True:=eq_true Y19
 have f1:((0:Int)≤0)=True:=eq_true Y19
 have f2:Int.toNat 0=0:=rfl
 have H:=aj f0 (aj f1 (aj f2 H))
 refine rs (k:=rg [0,1] (k:=rs (k:=rg [1,5] (k:=rs (k:=rg [4] (k:=rR (k:=?_)))))))
 exact Ret.pure (r':=.fn (.func 148) [.ptr ln 0 0] []) zlb (by rfl) zkE hwf Y34 ⟨rfl,rfl⟩
theorem zht {ln:Nat} {s:St} (hln:ln<s.nxt):za Tryz.prog 134 [.ptr ln 0 0,.int .i64 1] s (fun r s'=>r=.fn (.func 149) [.ptr ln 0 0] []∧s'=s):=by
 refine go Tryz.func134 (k:=fun hwf H=>?_)
 have f0:((1:Int)<((5:Nat):Int))=True:=eq_true Y19
 have f1:((0:Int)≤1)=True:=eq_true Y19
 have f2:Int.toNat 1=1:=rfl
 have H:=aj f0 (aj f1 (aj f2 H))
 refine rs (k:=rg [0,1] (k:=rs (k:=rg [1,5] (k:=rs (k:=rg [4] (k:=rR (k:=?_)))))))
 exact Ret.pure (r':=.fn (.func 149) [.ptr ln 0 0] []) zlb (by rfl) zkE hwf Y34 ⟨rfl,rfl⟩
theorem zhH {ln:Nat} {s:St} (hln:ln<s.nxt):za Tryz.prog 134 [.ptr ln 0 0,.int .i64 2] s (fun r s'=>r=.fn (.func 150) [.ptr ln 0 0] []∧s'=s):=by
 refine go Tryz.func134 (k:=fun hwf H=>?_)
 have f0:((2:Int)<((5:Nat):Int))=True:=eq_true Y19
 have f1:((0:Int)≤2)=True:=eq_true Y19
 have f2:Int.toNat 2=2:=rfl
 have H:=aj f0 (aj f1 (aj f2 H))
 refine rs (k:=rg [0,1] (k:=rs (k:=rg [1,5] (k:=rs (k:=rg [4] (k:=rR (k:=?_)))))))
 exact Ret.pure (r':=.fn (.func 150) [.ptr ln 0 0] []) zlb (by rfl) zkE hwf Y34 ⟨rfl,rfl⟩
theorem zhg {ln:Nat} {s:St} (hln:ln<s.nxt):za Tryz.prog 134 [.ptr ln 0 0,.int .i64 3] s (fun r s'=>r=.fn (.func 151) [.ptr ln 0 0] []∧s'=s):=by
 refine go Tryz.func134 (k:=fun hwf H=>?_)
 have f0:((3:Int)<((5:Nat):Int))=True:=eq_true Y19
 have f1:((0:Int)≤3)=True:=eq_true Y19
 have f2:Int.toNat 3=3:=rfl
 have H:=aj f0 (aj f1 (aj f2 H))
 refine rs (k:=rg [0,1] (k:=rs (k:=rg [1,5] (k:=rs (k:=rg [4] (k:=rR (k:=?_)))))))
 exact Ret.pure (r':=.fn (.func 151) [.ptr ln 0 0] []) zlb (by rfl) zkE hwf Y34 ⟨rfl,rfl⟩
theorem zhx {ln:Nat} {s:St} (hln:ln<s.nxt):za Tryz.prog 134 [.ptr ln 0 0,.int .i64 4] s (fun r s'=>r=.fn (.func 152) [.ptr ln 0 0] []∧s'=s):=by
 refine go Tryz.func134 (k:=fun hwf H=>?_)
 have f0:((4:Int)<((5:Nat):Int))=True:=eq_true Y19
 have f1:((0:Int)≤4)=True:=eq_true Y19
 have f2:Int.toNat 4=4:=rfl
 have H:=aj f0 (aj f1 (aj f2 H))
 refine rs (k:=rg [0,1] (k:=rs (k:=rg [1,5] (k:=rs (k:=rg [4] (k:=rR (k:=?_)))))))
 exact Ret.pure (r':=.fn (.func 152) [.ptr ln 0 0] []) zlb (by rfl) zkE hwf Y34 ⟨rfl,rfl⟩
end Go.Proofs
namespace Go.Proofs
open Go.PM
set_option maxHeartbeats 2000000
theorem Ret.allW {P:Program} {fn:Func} {args:List PV} {s0 s:St} {Q:PV→St→Prop} {e:Env} {r r':PV} (hr:Xp P fn.results.toList e s=some r) (hr':r'=r.weak) (h:Q r' s):Ret P fn args s0 Q e s:=by
 subst hr'
 exact ⟨r,hr,r.weak,s,h,fun g0 w0 g w _ hX hI v hv=>⟨g,hI,XZ r v hv,hX⟩⟩
structure Snt where
 tick:Int
 tenant:Int
 data:List Int
def Snt.pv (x:Snt):PV:=.agg [.int .i64 x.tick,.int .i64 x.tenant,.sl .unk (x.data.map (PV.int .u8))]
theorem zcW {f:Int} (hf:0≤f∧f≤4):∃ N:Nat,(∀ {ln:Nat} {s:St},ln<s.nxt→za Tryz.prog 134 [.ptr ln 0 0,.int .i64 f] s (fun r s'=>r=.fn (.func N) [.ptr ln 0 0] []∧s'=s))∧zb Tryz.prog N=true ∧
  ∀ {ln b:Nat} {a0 a1 a2 a3 st:PV} {D:Dev} {s:St},s.blk ln=some (xv (b+5) a0 a1 a2 a3 st)→zK b D s→D.ok→∀ {p:List Int},OkB p→p.length≤253→p≠[]→za Tryz.prog N [.ptr ln 0 0,.sl .unk (p.map (PV.int .u8))] s (fun r s'=>r=.sl .unk ((wx f D p).1.map (PV.int .u8))∧s'=putDev b (wx f D p).2 s):=by
 obtain rfl | rfl | rfl | rfl | rfl:f=0∨f=1∨f=2∨f=3∨f=4:=Y18
 ·exact ⟨148,fun h=>zhN h,Y22,fun hl hA hD _ hp hpl _=>Ub hl hA hD hp hpl⟩
 ·exact ⟨149,fun h=>zht h,Y22,fun hl hA hD _ hp hpl _=>zjH hl hA hD hp hpl⟩
 ·exact ⟨150,fun h=>zhH h,Y22,fun hl hA hD _ hp hpl _=>zjg hl hA hD hp hpl⟩
 ·exact ⟨151,fun h=>zhg h,Y22,fun hl hA hD _ hp hpl _=>zfS hl hA hD hp hpl⟩
 ·exact ⟨152,fun h=>zhx h,Y22,fun hl hA hD _ hp hpl hne=>zeR hl hA hD hp hpl hne⟩
attribute [local go_sem] ye yG xb
attribute [local go_sem] ye yG xb
end Go.Proofs
namespace Go.Proofs
open Go.PM
set_option maxHeartbeats 2000000
structure uH (c:Nat) (s0 s':St) (kk:SK) (els ws:List PV):Prop where
 wk:PV.weaks els=ws
 el:∀ p∈els,p.ok=true∧p.cells.length=c
 fr:Fr s0 s'
 gr:yA s' kk els.length c
 tk:∀ t z,kk=.tok t z→s0.nxt≤t∧t<s'.nxt
theorem zfo {a b:List PV}:PV.weaks (a++b)=PV.weaks a++PV.weaks b:=by
 induction a with
 | nil=>rfl
 | cons x l ih=>simp only [List.cons_append,PV.weaks,ih]
theorem uH.snoc {c:Nat} {s0 s1 s2 s3:St} {kk k':SK} {els ws:List PV} {el w:PV} (h:uH c s0 s1 kk els ws) (h1:el.ok=true) (h2:el.cells.length=c) (hw:el.weak=w) (h12:s1.nxt≤s2.nxt) (f2:Fr s0 s2)
  (hg:yA s3 k' (els.length+[el].length) c) (htm:YP s2 s3 kk k'):uH c s0 s3 k' (els++[el]) (ws++[w]):=by
 refine ⟨by rw [zfo,h.wk];simp only [PV.weaks,hw],fun p hp=>?_,f2.tm htm (fun t z e=>(h.tk t z e).1),by rw [List.length_append];exact hg,fun t z e=>?_⟩
 ·rcases List.mem_append.1 hp with hp | hp
  ·exact h.el p hp
  ·rw [List.mem_singleton.1 hp];exact ⟨h1,h2⟩
 ·have h9:=htm.nxt
  have h8:=f2.nxt
  rcases htm.fresh t z e with ⟨z',h'⟩ | ⟨h1,h2⟩
  ·have:=h.tk t z' h';omega
  ·omega
attribute [local go_sem] ye
theorem zoc {p:Prop} (h:p:=by have:=hE.tk _ _ e;simp (disch:=first | omega |(simp only [zt,zq]<;>omega) | fail) only [go_sem]):p:=h
theorem zhw {p:Prop} (h:p:=by rw [yP hil,hxe];rfl):p:=h
theorem zjS {p:Prop} (h:p:=by exact (fun p hp=>by cases hp)):p:=h
theorem zm5 {p:Prop} (h:p:=by rw [List.length_append,hel];rfl):p:=h
set_option maxRecDepth 100000 in
theorem zjp {ln d:Nat} {a0 a1 a2 a3:PV} {k:SK} {l:List Snt} (hll:l.length≤100000) (hld:∀ x∈l,x.data.length≤140737488350000) {s:St} (hl:s.blk ln=some (xv d a0 a1 a2 a3 (.sl k (l.map Snt.pv)))):za Tryz.prog 23 [.ptr ln 0 0] s (fun r s'=>r=.sl .unk (l.map Snt.pv)∧s'=s):=by
 refine go Tryz.func23 (k:=fun hwf H=>?_)
 unfold xv at hl
 have hlt:=xN hwf hl
 have n1:(ln=s.nxt)=False:=eq_false Y18
 have H:=aj n1 H
 have H:=aj hl H
 refine rs (k:=rg [0] (k:=rs (k:=rr (k:=ro (pre:=[_,_,_,_,_]) (k:=?_)))))
 refine zm.makeCap (n:=l.length) au au au Tryz.td75 (by rw [Tryz.zp78]) Y18 (by rw [Tryz.by78];omega) ?_
 refine rh [0,3] (k:=rs (k:=rs (k:=rg [3,15,16,17] (k:=rb (k:=?_)))))
 refine Run.loop (fun e s'=>∃ (i:Nat) (els:List PV) (kk:SK),e=[(3,.sl kk els),(15,.sl k (l.map Snt.pv)),(16,.int .i64 (l.length:Int)),(17,.int .i64 (i:Int))]∧i≤l.length∧els.length=i∧uH 3 s s' kk els ((l.take i).map Snt.pv)) (fun e s'=>l.length-xB e 17) ?_ ?_
 ·exact ⟨0,[],.tok s.nxt 3,rfl,Nat.zero_le _,rfl,rfl,zjS,(Fr.refl hwf).new _,.inr (.inr ⟨s.nxt,rfl,zN⟩),fun t z e=>by cases e;exact ⟨Nat.le_refl _,Nat.lt_succ_self _⟩⟩
 rintro e s1 ⟨i,els,kk,rfl,hi,hel,hE⟩
 have hFn:=hE.fr.nxt
 refine rs (k:=rg [3,15,16,17,18] (k:=rs (k:=rc (ht:=fun hc0=>?_) (hf:=fun hc0=>?_))))
 ·refine rk (k:=rs (k:=rb (k:=rs (k:=?_))))
  have hil:i<l.length:=Y83
  obtain ⟨x,hxe⟩:∃ z_,l[i]'hil=z_:=⟨_,rfl⟩
  have hxx:(l.map Snt.pv)[i]? =some (.agg [.int .i64 x.tick,.int .i64 x.tenant,.sl .unk (x.data.map (PV.int .u8))]):=zhw
  have hilT:(i<l.length)=True:=eq_true hil
  have hxd:x.data.length≤140737488350000:=hld x Y84
  have hw:IntKind.i64.wrap ((i:Int)+1)=((i+1:Nat):Int):=Y24
  have H:=aj hxx (aj hilT (aj hw H))
  refine rg [3,5,15,16,17] (k:=rs (k:=rr (k:=ro (pre:=[_,_]) (k:=rC (h:=XN (xs:=x.data) Y18) (k:=rC (h:=vX (xs:=x.data)) (k:=rh [3,5,15,16,17] (k:=rr (k:=ro (pre:=[_,_]) (k:=rO (k:=?_))))))))))
  refine zm.grow (xs:=els) (ys:=[_]) au au au Tryz.td75 (by rw [Tryz.zp78];rfl) (by unfold xg;rw [Tryz.cz78];exact hE.el) (by intro p hp;rw [List.mem_singleton.1 hp,Tryz.cz78];exact ⟨rfl,rfl⟩) (by rw [Tryz.by78];decide) (by rw [Tryz.by78];simp;omega) (by rw [Tryz.cz78];exact hE.gr.mono fun t e=>zoc) Y71 ?_
  intro k' s3 hgr' htm
  rw [Tryz.cz78] at hgr'
  refine rh [3,15,16,17] (k:=rB (k:=rg [3,15,16,17] (k:=?_)))
  refine Run.lp ⟨⟨i+1,_,k',rfl,Y18,zm5,?_⟩,?_⟩
  ·rw [xn hil,hxe,List.map_append]
   exact hE.snoc rfl rfl (by simp only [PV.weak,PV.weaks,zB,Snt.pv]) (Nat.le_succ _) (hE.fr.new _) hgr' htm
  ·exact Y29
 ·refine rX (k:=rs (k:=rg [2] (k:=rR (k:=?_))))
  have hi2:i=l.length:=Y30
  refine Ret.pure (r':=.sl .unk (l.map Snt.pv)) (by simp only [Tryz.f23,go_sem,↓reduceIte]<;>rfl) (by rw [PV.weak,hE.wk,hi2,List.take_length]) (by simp only [PV.blw];exact ⟨fun t z e=>Y17,wo Snt.pv _ (fun a=>by simp only [Snt.pv,PV.blw,PV.blws,and_true,true_and];exact ⟨fun t z e=>Y17,Vh _ _⟩) _⟩) hwf hE.fr.blk ⟨rfl,rfl⟩
end Go.Proofs
namespace Go.Proofs
open Go.PM
set_option maxHeartbeats 2000000
def zb3 (s:St) (z:Nat) (els:List PV) (c:Nat) (x:PV):Option Nat→Prop
 | none=>x=.sl .nil []∧els=[]
 | some t=>x=.sl (.tok t z) els∧s.blk t=some (.tok els.length)∧c≤t∧t<s.nxt
theorem zb3.keep {s s':St} {z:Nat} {els:List PV} {c:Nat} {x:PV} {n:Option Nat} (h:zb3 s z els c x n) (hb:∀ t,n=some t→t<s.nxt→s'.blk t=s.blk t) (hx:s.nxt≤s'.nxt):zb3 s' z els c x n:=by
 cases n with
 | none=>exact h
 | some t=>exact ⟨h.1,by rw [hb t rfl h.2.2.2];exact h.2.1,h.2.2.1,Nat.lt_of_lt_of_le h.2.2.2 hx⟩
structure VM (b ln c:Nat) (D:Dev) (F:List Int) (l:List Snt) (a1 a2 a3:PV) (s:St):Prop where
 row:∃ x st n m,s.blk ln=some (xv (b+5) x a1 a2 a3 st)∧zb3 s 1 (F.map (PV.int .i64)) c x n∧zb3 s 3 (l.map Snt.pv) c st m∧(n=none∨n≠m)
 dev:zK b D s
 lt:b+5<ln
 hc:ln<c
 nx:c≤s.nxt
structure Out (b ln c:Nat) (s s':St):Prop where
 nx:s.nxt≤s'.nxt
 same:∀ j,j<s.nxt→(j<c∨∀ L,s.blk j≠some (.tok L))→j≠ln→¬ (b≤j∧j≤b+5)→s'.blk j=s.blk j
theorem Out.refl (b ln c:Nat) (s:St):Out b ln c s s:=⟨Nat.le_refl _,fun _ _ _ _ _=>rfl⟩
theorem Out.trans {b ln c:Nat} {s s1 s2:St} (h:Out b ln c s s1) (k:Out b ln c s1 s2):Out b ln c s s2:=⟨Nat.le_trans h.nx k.nx,fun j h1 h2 h3 h4=>(k.same j (Nat.lt_of_lt_of_le h1 h.nx) (by rw [h.same j h1 h2 h3 h4];exact h2) h3 h4).trans (h.same j h1 h2 h3 h4)⟩
theorem VM.put {b ln c:Nat} {D D':Dev} {F:List Int} {l:List Snt} {a1 a2 a3:PV} {s:St} (h:VM b ln c D F l a1 a2 a3 s) (hl:D'.c0.length=D.c0.length):VM b ln c D' F l a1 a2 a3 (putDev b D' s)∧Out b ln c s (putDev b D' s):=by
 have h1:=h.lt
 have h2:=h.hc
 obtain ⟨x,st,n,m,r1,r2,r3,r4⟩:=h.row
 refine ⟨⟨⟨x,st,n,m,by rw [yG Y18];exact r1,?_,?_,r4⟩,zK.put h.dev hl,h1,h2,h.nx⟩,Nat.le_refl _,fun j _ _ _ h3=>?_⟩
 ·refine r2.keep (fun t e ht=>?_) (Nat.le_refl _)
  subst e
  have:=r2.2.2.1
  exact yG Y18
 ·refine r3.keep (fun t e ht=>?_) (Nat.le_refl _)
  subst e
  have:=r3.2.2.1
  exact yG Y18
 ·by_cases hj:j<b
  ·exact Uq Y18
  ·exact yG Y18
theorem VM.nw {b ln c:Nat} {D:Dev} {F:List Int} {l:List Snt} {a1 a2 a3:PV} {s:St} (h:VM b ln c D F l a1 a2 a3 s) (x:Blk):VM b ln c D F l a1 a2 a3 (s.new x):=by
 have h1:=h.lt
 have h2:=h.hc
 have h3:=h.nx
 obtain ⟨y,st,n,m,r1,r2,r3,r4⟩:=h.row
 exact ⟨⟨y,st,n,m,by rw [zg Y18];exact r1,r2.keep (fun t e ht=>zg Y18) (Nat.le_succ _),r3.keep (fun t e ht=>zg Y18) (Nat.le_succ _),r4⟩,h.dev.nw Y18 _,h1,h2,Nat.le_succ_of_le h3⟩
theorem VM.hi {b ln c r:Nat} {D:Dev} {F:List Int} {l:List Snt} {a1 a2 a3:PV} {s:St} (h:VM b ln c D F l a1 a2 a3 s) (hr:c≤r) (hb:∀ L,s.blk r≠some (.tok L)) (x:Option Blk):VM b ln c D F l a1 a2 a3 (s.set r x):=by
 have h1:=h.lt
 have h2:=h.hc
 obtain ⟨y,st,n,m,r1,r2,r3,r4⟩:=h.row
 refine ⟨⟨y,st,n,m,by rw [zd Y18];exact r1,r2.keep (fun t e ht=>?_) (Nat.le_refl _),r3.keep (fun t e ht=>?_) (Nat.le_refl _),r4⟩,h.dev.sv Y18 _,h1,h2,h.nx⟩
 ·subst e
  exact zd (by rintro rfl;exact hb _ r2.2.1)
 ·subst e
  exact zd (by rintro rfl;exact hb _ r3.2.1)
theorem Out.nw {b ln c:Nat} {s s':St} (h:Out b ln c s s') (x:Blk):Out b ln c s (s'.new x) :=
 ⟨Nat.le_succ_of_le h.nx,fun j q1 q2 q3 q4=>by rw [zg (by have:=h.nx;omega)];exact h.same j q1 q2 q3 q4⟩
theorem Out.hi {b ln c r:Nat} {s s':St} (h:Out b ln c s s') (hr:s.nxt≤r) (x:Option Blk):Out b ln c s (s'.set r x) :=
 ⟨h.nx,fun j q1 q2 q3 q4=>by rw [zd Y18];exact h.same j q1 q2 q3 q4⟩
theorem VM.newF {b ln c:Nat} {D:Dev} {F:List Int} {l:List Snt} {a1 a2 a3 st:PV} {m:Option Nat} {s:St} (hd:zK b D s) (h1:b+5<ln) (h2:ln<c) (h3:c≤s.nxt) (hm:zb3 s 3 (l.map Snt.pv) c st m) :
  VM b ln c D F l a1 a2 a3 ((s.new (.tok F.length)).set ln (some (xv (b+5) (.sl (.tok s.nxt 1) (F.map (PV.int .i64))) a1 a2 a3 st)))∧Out b ln c s ((s.new (.tok F.length)).set ln (some (xv (b+5) (.sl (.tok s.nxt 1) (F.map (PV.int .i64))) a1 a2 a3 st))):=by
 refine ⟨⟨⟨_,st,some s.nxt,m,zy _ _ _,⟨rfl,?_,h3,Nat.lt_succ_self _⟩,hm.keep (fun t e ht=>?_) (Nat.le_succ _),.inr ?_⟩,(hd.nw Y18 _).sv Y18 _,h1,h2,Nat.le_succ_of_le h3⟩,Nat.le_succ _,fun j q1 _ q2 _=>?_⟩
 ·rw [zd Y18,List.length_map];exact zN
 ·subst e
  have:=hm.2.2.1
  rw [zd Y18,zg Y18]
 ·rintro rfl
  have:=hm.2.2.2
  omega
 ·rw [zd q2,zg Y18]
theorem VM.cutF {b ln c t k:Nat} {D:Dev} {F:List Int} {l:List Snt} {a1 a2 a3 st:PV} {m:Option Nat} {s:St} (hd:zK b D s) (h1:b+5<ln) (h2:ln<c) (h3:c≤s.nxt) (ht:c≤t) (htx:t<s.nxt) {L0:Nat} (hb:s.blk t=some (.tok L0)) (hm:zb3 s 3 (l.map Snt.pv) c st m) (hne:some t≠m) (hk:k=F.length) :
  VM b ln c D F l a1 a2 a3 (((s.set t none).new (.tok k)).set ln (some (xv (b+5) (.sl (.tok s.nxt 1) (F.map (PV.int .i64))) a1 a2 a3 st)))∧Out b ln c s (((s.set t none).new (.tok k)).set ln (some (xv (b+5) (.sl (.tok s.nxt 1) (F.map (PV.int .i64))) a1 a2 a3 st))):=by
 subst hk
 have ho:Out b ln c s (s.set t none):=⟨Nat.le_refl _,fun j q1 qt q2 _=>zd (by rintro rfl;rcases qt with h | h;omega;exact h _ hb)⟩
 have hm':zb3 (s.set t none) 3 (l.map Snt.pv) c st m:=hm.keep (fun t' e ht'=>zd (fun e'=>hne (by rw [e,e']))) (Nat.le_refl _)
 obtain ⟨k1,k2⟩:=VM.newF (F:=F) (a1:=a1) (a2:=a2) (a3:=a3) (hd.sv Y18 none) h1 h2 h3 hm'
 exact ⟨k1,ho.trans k2⟩
attribute [local go_sem] ye yG xb
theorem zlI {p:Prop} (h:p:=by first | exact zp (P:=Tryz.prog) (e:=78) (f:=Snt.pv) (fun a=>⟨rfl,by rw [Tryz.cz78];first | done | rfl⟩) _ |(intro p hp;cases hp)):p:=h
theorem zm7 {p:Prop} (h:p:=by simp only [Tryz.f118,go_sem,↓reduceIte]<;>rfl):p:=h
theorem zpk {p:Prop} (h:p:=by simp only [go_sem,List.map_cons,List.map_nil,Snt.pv,↓reduceIte,Nat.reduceEqDiff,H]<;>rfl):p:=h
set_option maxRecDepth 100000 in
theorem zgp {ln b:Nat} {a0 a1 a2 a3 c0 c1 c2 c3 st9:PV} {S9:St} {D:Dev} {tn tick f:Int} (hf:0≤f∧f≤4) {fr:List Int} (hfo:OkB fr) (hfl:fr.length≤140737488350000) {s:St} (hl:s.blk ln=some (xv (b+5) a0 a1 a2 a3 (.sl .nil []))) (hA:zK b D s) (hD:D.ok) (hbl:b+5<ln)
  (htake:za Tryz.prog 135 [.ptr ln 0 0,.int .i64 tn] ((s.new (.tok [(⟨tick,tn,fr⟩:Snt)].length)).set ln (some (xv (b+5) a0 a1 a2 a3 (.sl (.tok s.nxt 3) ([(⟨tick,tn,fr⟩:Snt)].map Snt.pv))))) (fun r s'=>r=.int .i64 f∧s'=S9)) (hl9:S9.blk ln=some (xv (b+5) c0 c1 c2 c3 st9)) (hA9:zK b D S9) (hx9:ln<S9.nxt) :
  za Tryz.prog 118 [.ptr ln 0 0,.int .i64 tn,.int .i64 tick,.sl .unk (fr.map (PV.int .u8))] s (fun r s'=>r=.sl .unk ((uW f D fr).1.map (PV.int .u8))∧s'=putDev b (uW f D fr).2 S9):=by
 refine go Tryz.func118 (k:=fun hwf H=>?_)
 unfold xv at hl
 have hlt:=xN hwf hl
 obtain ⟨Nf,hdoes,hcal,hbody⟩:=zcW hf
 have n1:(ln=s.nxt)=False:=eq_false Y18
 have hfl2:fr.length*1≤140737488355328:=Y18
 have H:=aj n1 H
 have H:=aj hl H
 refine rs (k:=rg [0,1,2,3] (k:=rs (k:=rH 15 [11,14] [[false,false],[true,false],[true,true]] [s,(s.new (.tok [(⟨tick,tn,fr⟩:Snt)].length)),((s.new (.tok [(⟨tick,tn,fr⟩:Snt)].length)).set ln (some (.row 86 [.agg [.ptr (b+5) 0 0,a0,a1,a2,a3,.sl (.tok s.nxt 3) ([(⟨tick,tn,fr⟩:Snt)].map Snt.pv)]])))] Tryz.mixed (k:=?_))))
 refine dP [0,1] (pre:=[_,_,_,_,_,_,_,_]) (k:=?_)
 refine dC [0] (h:=fun s _=>XN (xs:=fr) hfl2) (k:=?_)
 refine dP [0] (pre:=[_,_]) (k:=?_)
 refine zO.app (kx:=.nil) (xs:=[]) (ys:=[(⟨tick,tn,fr⟩:Snt)].map Snt.pv) (v:=.sl (.tok s.nxt 3) ([(⟨tick,tn,fr⟩:Snt)].map Snt.pv)) [(0,1)] _ Y22 pq au au zpk Tryz.td75 (by rw [Tryz.zp78];rfl) zlI zlI (by rw [Tryz.by78];decide) (by rw [Tryz.by78];simp<;>omega) (by intro q hq;rw [List.mem_singleton.1 hq];exact zdU (f:=Snt.pv) (ys:=[(⟨tick,tn,fr⟩:Snt)]) Y71 (by rw [Tryz.cz78])) ?_
 refine dP [1] (pre:=[_,_]) (k:=?_)
 refine dE [(1,2)] (k:=?_)
 refine zO.nil ?_
 refine rl [0,1,3] (k:=rs (k:=rr (k:=ro (pre:=[_,_,_]) (k:=?_))))
 refine zm.callw au au au Y22 ((htake).mono ?_)
 rintro r s1 ⟨rfl,hs⟩
 subst s1
 refine rC (h:=hdoes hx9) (k:=rh [3,9] (k:=rs (k:=rr (k:=ro (pre:=[_]) (k:=rC (h:=Vy hfo hfl) (k:=rh [9,10,11,12] (k:=rs (k:=rs (k:=rg [9,11,43] (k:=rc (ht:=fun hc0=>?_) (hf:=fun hc0=>?_)))))))))))
 refine rs (k:=rg [8] (k:=rR (k:=?_)))
 refine jO 1 ?_;rotate_left
 refine rk (k:=rs (k:=?_))
 have hrt:(wb fr).2=0∧(wb fr).1.1=17:=Y85
 have hpd:=zim hrt.1
 have hso:uW f D fr=wx f D (wb fr).1.2:=if_pos hrt
 refine rr (k:=ro (pre:=[_,_]) (k:=?_))
 refine zm.callw au au au hcal ((hbody hl9 hA9 hD (zj6 hfo) hpd.2.1 hpd.1).mono ?_)
 rintro r s1 ⟨rfl,hs⟩
 subst s1
 refine rC (h:=vX (xs:=(wx f D (wb fr).1.2).1)) (k:=rh [8] (k:=rR (k:=?_)))
 refine jO 1 ?_;rotate_left
 any_goals
  refine jI 1 ?_
  first
   |(have hso:uW f D fr=([],D):=if_neg (by rintro ⟨e1,e2⟩;rw [e1,e2] at hc0;cases hc0)
     refine Ret.allW (r':=.sl .unk []) zm7 (by rfl) ⟨by rw [hso];rfl,?_⟩
     rw [hso]
     exact (uM hA9).symm)
   |(refine Ret.allW (r':=.sl .unk ((uW f D fr).1.map (PV.int .u8))) zm7 ?_ ⟨rfl,?_⟩
     ·rw [hso];simp only [PV.weak,zB]
     ·rw [hso]<;>rfl)
attribute [local go_sem] ye yG xb
set_option maxRecDepth 100000 in
theorem zeX {ln b t:Nat} {a0 a1 a2 a3 c0 c1 c2 c3 st9:PV} {S9:St} {D:Dev} {tn tick f:Int} (hf:0≤f∧f≤4) {fr:List Int} (hfo:OkB fr) (hfl:fr.length≤140737488350000) {l:List Snt} (hL:l.length≤100000) {s:St} (hl:s.blk ln=some (xv (b+5) a0 a1 a2 a3 (.sl (.tok t 3) (l.map Snt.pv)))) (hA:zK b D s) (hD:D.ok) (hbl:b+5<ln) (ht:s.blk t=some (.tok l.length)) (hne:t≠ln) (hbt:b+5<t)
  (htake:za Tryz.prog 135 [.ptr ln 0 0,.int .i64 tn] ((s.set t (some (.tok (l++[(⟨tick,tn,fr⟩:Snt)]).length))).set ln (some (xv (b+5) a0 a1 a2 a3 (.sl (.tok t 3) ((l++[(⟨tick,tn,fr⟩:Snt)]).map Snt.pv))))) (fun r s'=>r=.int .i64 f∧s'=S9)) (hl9:S9.blk ln=some (xv (b+5) c0 c1 c2 c3 st9)) (hA9:zK b D S9) (hx9:ln<S9.nxt) :
  za Tryz.prog 118 [.ptr ln 0 0,.int .i64 tn,.int .i64 tick,.sl .unk (fr.map (PV.int .u8))] s (fun r s'=>r=.sl .unk ((uW f D fr).1.map (PV.int .u8))∧s'=putDev b (uW f D fr).2 S9):=by
 refine go Tryz.func118 (k:=fun hwf H=>?_)
 unfold xv at hl
 have hlt:=xN hwf hl
 obtain ⟨Nf,hdoes,hcal,hbody⟩:=zcW hf
 have n1:(ln=s.nxt)=False:=eq_false Y18
 have hfl2:fr.length*1≤140737488355328:=Y18
 have H:=aj n1 H
 have htl:=xN hwf ht
 have n2:(ln=t)=False:=eq_false Y18
 have n3:(t=ln)=False:=eq_false Y18
 have H:=aj n2 (aj n3 H)
 have H:=aj hl H
 refine rs (k:=rg [0,1,2,3] (k:=rs (k:=rH 15 [11,14] [[false,false],[true,false],[true,true]] [s,(s.set t (some (.tok (l++[(⟨tick,tn,fr⟩:Snt)]).length))),((s.set t (some (.tok (l++[(⟨tick,tn,fr⟩:Snt)]).length))).set ln (some (.row 86 [.agg [.ptr (b+5) 0 0,a0,a1,a2,a3,.sl (.tok t 3) ((l++[(⟨tick,tn,fr⟩:Snt)]).map Snt.pv)]])))] Tryz.mixed (k:=?_))))
 refine dP [0,1] (pre:=[_,_,_,_,_,_,_,_]) (k:=?_)
 refine dC [0] (h:=fun s _=>XN (xs:=fr) hfl2) (k:=?_)
 refine dP [0] (pre:=[_,_]) (k:=?_)
 refine zO.app (kx:=.tok t 3) (xs:=l.map Snt.pv) (ys:=[(⟨tick,tn,fr⟩:Snt)].map Snt.pv) (v:=.sl (.tok t 3) ((l++[(⟨tick,tn,fr⟩:Snt)]).map Snt.pv)) [(0,1)] _ Y22 pq au au zpk Tryz.td75 (by rw [Tryz.zp78];rfl) zlI zlI (by rw [Tryz.by78];decide) (by rw [Tryz.by78];simp<;>omega) (by intro q hq;rw [List.mem_singleton.1 hq];exact xi (f:=Snt.pv) (xs:=l) (ys:=[(⟨tick,tn,fr⟩:Snt)]) rfl Y71 ht rfl (by rw [Tryz.cz78])) ?_
 refine dP [1] (pre:=[_,_]) (k:=?_)
 refine dE [(1,2)] (k:=?_)
 refine zO.nil ?_
 refine rl [0,1,3] (k:=rs (k:=rr (k:=ro (pre:=[_,_,_]) (k:=?_))))
 refine zm.callw au au au Y22 ((htake).mono ?_)
 rintro r s1 ⟨rfl,hs⟩
 subst s1
 refine rC (h:=hdoes hx9) (k:=rh [3,9] (k:=rs (k:=rr (k:=ro (pre:=[_]) (k:=rC (h:=Vy hfo hfl) (k:=rh [9,10,11,12] (k:=rs (k:=rs (k:=rg [9,11,43] (k:=rc (ht:=fun hc0=>?_) (hf:=fun hc0=>?_)))))))))))
 refine rs (k:=rg [8] (k:=rR (k:=?_)))
 refine jO 1 ?_;rotate_left
 refine rk (k:=rs (k:=?_))
 have hrt:(wb fr).2=0∧(wb fr).1.1=17:=Y85
 have hpd:=zim hrt.1
 have hso:uW f D fr=wx f D (wb fr).1.2:=if_pos hrt
 refine rr (k:=ro (pre:=[_,_]) (k:=?_))
 refine zm.callw au au au hcal ((hbody hl9 hA9 hD (zj6 hfo) hpd.2.1 hpd.1).mono ?_)
 rintro r s1 ⟨rfl,hs⟩
 subst s1
 refine rC (h:=vX (xs:=(wx f D (wb fr).1.2).1)) (k:=rh [8] (k:=rR (k:=?_)))
 refine jO 1 ?_;rotate_left
 any_goals
  refine jI 1 ?_
  first
   |(have hso:uW f D fr=([],D):=if_neg (by rintro ⟨e1,e2⟩;rw [e1,e2] at hc0;cases hc0)
     refine Ret.allW (r':=.sl .unk []) zm7 (by rfl) ⟨by rw [hso];rfl,?_⟩
     rw [hso]
     exact (uM hA9).symm)
   |(refine Ret.allW (r':=.sl .unk ((uW f D fr).1.map (PV.int .u8))) zm7 ?_ ⟨rfl,?_⟩
     ·rw [hso];simp only [PV.weak,zB]
     ·rw [hso]<;>rfl)
theorem new_set {s:St} {r:Nat} (hr:r<s.nxt) (v:Option Blk) (x:Blk):(s.set r v).new x=(s.new x).set r v:=by
 refine St.eq_of rfl fun i=>?_
 rw [YN,wd,wd,YN]
 show (if i=s.nxt then _ else _)=_
 by_cases h1:i=s.nxt
 ·rw [if_pos h1,if_neg Y18,if_pos h1]
 ·rw [if_neg h1,if_neg h1]
theorem YC {s:St} {r:Nat} {v:Option Blk} (h:s.blk r=v):s.set r v=s:=by
 refine St.eq_of rfl fun i=>?_
 rw [wd]
 split
 ·rename_i e;rw [e];exact h.symm
 ·rfl
end Go.Proofs
namespace Go.Proofs
open Go.PM
set_option maxHeartbeats 2000000
def lnR (ty d:Nat) (xs:List PV) (st:PV):Blk:=.row ty [.agg (.ptr d 0 0::(xs++[st]))]
theorem Wc {xs:List PV} {st x p:PV} {T:Nat} (h:xs[T]? =some x):List.drop (1+T) (p::(xs++[st]))=x::List.drop (T+1) (xs++[st]):=by
 have ht:T<xs.length:=(List.getElem?_eq_some_iff.1 h).1
 rw [Nat.add_comm,List.drop_succ_cons,List.drop_eq_getElem_cons zmk,List.getElem_append_left ht]
 rw [List.getElem?_eq_getElem ht] at h
 rw [Option.some.inj h]
theorem VU {xs:List PV} {st p v:PV} {T:Nat} (ht:T<xs.length):(p::(xs++[st])).set (1+T) v=p::(xs.set T v++[st]):=by
 rw [Nat.add_comm 1 T,List.set_cons_succ,List.set_append_left _ _ ht]
theorem zmf {P:Program} {e:TypeId} {k:SK} {f:Int→PV} {ys:List Int} {s:St} {z:Nat} (hk:k=.nil∨k=.clip) (hy:ys≠[]) (hc:P.cellsOf e=z):yQ P e k [] (ys.map f) s=some (.sl (.tok s.nxt z) (ys.map f),s.new (.tok ys.length)):=by
 unfold yQ
 rw [if_neg (by simpa using hy),hc]
 rcases hk with rfl | rfl<;>simp
theorem znC {p:Prop} (h:p:=by rw [Tryz.cz3];first | done | rfl):p:=h
theorem zqc {p:Prop} (h:p:=by first | exact zp (P:=Tryz.prog) (e:=3) (f:=PV.int .i64) (fun a=>⟨rfl,znC⟩) _ |(intro p hp;cases hp)):p:=h
theorem zm1 {p:Prop} (h:p:=by rw [List.length_append];simp;omega):p:=h
theorem zfM {ln d T:Nat} {xs:List PV} {st:PV} {L:List Int} {k:SK} {F:Int} (hT:T<4) (hF:0≤F∧F≤4) (hxl:xs.length=4) (hk:k=.nil∨k=.clip) (hx:xs[T]? =some (.sl k [])) {s:St} (hl:s.blk ln=some (lnR 86 d xs st)):za Tryz.prog 20 [.ptr ln 0 0,.int .i64 (T:Int),.int .i64 F] s (fun r s'=>r=.bool true∧s'=((s.new (.tok [F].length)).set ln (some (lnR 86 d (xs.set T (.sl (.tok s.nxt 1) ([F].map (PV.int .i64)))) st)))):=by
 refine go Tryz.func20 (k:=fun hwf H=>?_)
 unfold lnR at hl
 have ht4:((T:Int)<((4:Nat):Int))=True:=eq_true Y18
 have ht0:decide ((0:Int)≤(T:Int))=true:=decide_eq_true Y18
 have ht5:decide ((T:Int)<4)=true:=decide_eq_true Y18
 have hdr:=Wc (st:=st) (p:=.ptr d 0 0) hx
 have hst:=fun v=>VU (st:=st) (p:=.ptr d 0 0) (v:=v) (show T<xs.length from Y18)
 have H:=aj ht4 (aj ht0 (aj ht5 (aj hdr (aj hst H))))
 have hlt:=xN hwf hl
 have g1:decide (F<0)=false:=decide_eq_false Y18
 have g2:decide (4<F)=false:=decide_eq_false Y18
 have g6:decide ((T:Int)<0)=false:=decide_eq_false Y18
 have g7:decide (4≤(T:Int))=false:=decide_eq_false Y18
 have g8:(1+T≤(xs++[st]).length)=True:=eq_true zm1
 have H:=aj g1 (aj g2 (aj g6 (aj g7 (aj g8 H))))
 have g3:decide ((1000:Int)≤0)=false:=Y19
 have H:=aj g3 H
 have n1:(ln=s.nxt)=False:=eq_false Y18
 have H:=aj n1 H
 have H:=aj hl H
 refine rs (k:=rg [0,1,2] (k:=rs (k:=rs (k:=rr (k:=ro (pre:=[_]) (k:=rC (h:=(Za (t:=(T:Int)))) (k:=rh [0,1,2,27] (k:=rc (ht:=fun hc0=>?_) (hf:=fun hc0=>?_)))))))))
 ·cases hc0
 ·refine rk (k:=rs (k:=rH 15 [10,14] [[false,false],[true,false],[true,true]] [s,(s.new (.tok [F].length)),((s.new (.tok [F].length)).set ln (some (.row 86 [.agg (.ptr d 0 0::(xs.set T (.sl (.tok s.nxt 1) ([F].map (PV.int .i64)))++[st]))])))] Tryz.mixed (k:=?_)))
  refine dP [0,1] (pre:=[_,_,_,_,_,_,_,_,_,_]) (k:=?_)
  refine zO.app (kx:=k) (xs:=[]) (ys:=[F].map (PV.int .i64)) (v:=(.sl (.tok s.nxt 1) ([F].map (PV.int .i64)))) [(0,1)] _ Y22 pq au au au Tryz.td22 (by rw [Tryz.zp3];rfl) zqc (zp (P:=Tryz.prog) (e:=3) (f:=PV.int .i64) (fun a=>⟨rfl,znC⟩) _) (by rw [Tryz.by3];decide) (by rw [Tryz.by3];simp<;>omega) (by intro q hq;rw [List.mem_singleton.1 hq];exact zmf (f:=PV.int .i64) (ys:=[F]) hk Y71 (by rw [Tryz.cz3])) ?_
  refine dP [0,1] (pre:=[_,_,_]) (k:=?_)
  refine dE [(1,2)] (k:=?_)
  refine zO.nil ?_
  refine rl [] (k:=rs (k:=rg [6] (k:=rR (k:=?_))))
  exact Ret.all (by simp only [Tryz.f20,go_sem,↓reduceIte]<;>rfl) ⟨rfl,by unfold lnR;rfl⟩
theorem zfv {ln d T t:Nat} {xs:List PV} {st:PV} {L:List Int} {k:SK} {F:Int} (hT:T<4) (hF:0≤F∧F≤4) (hxl:xs.length=4) (hL:L.length<1000) (hx:xs[T]? =some (.sl (.tok t 1) (L.map (PV.int .i64)))) {s:St} (hl:s.blk ln=some (lnR 86 d xs st)) (ht:s.blk t=some (.tok L.length)) (hne:t≠ln):za Tryz.prog 20 [.ptr ln 0 0,.int .i64 (T:Int),.int .i64 F] s (fun r s'=>r=.bool true∧s'=((s.set t (some (.tok (L++[F]).length))).set ln (some (lnR 86 d (xs.set T (.sl (.tok t 1) ((L++[F]).map (PV.int .i64)))) st)))):=by
 refine go Tryz.func20 (k:=fun hwf H=>?_)
 unfold lnR at hl
 have ht4:((T:Int)<((4:Nat):Int))=True:=eq_true Y18
 have ht0:decide ((0:Int)≤(T:Int))=true:=decide_eq_true Y18
 have ht5:decide ((T:Int)<4)=true:=decide_eq_true Y18
 have hdr:=Wc (st:=st) (p:=.ptr d 0 0) hx
 have hst:=fun v=>VU (st:=st) (p:=.ptr d 0 0) (v:=v) (show T<xs.length from Y18)
 have H:=aj ht4 (aj ht0 (aj ht5 (aj hdr (aj hst H))))
 have hlt:=xN hwf hl
 have g1:decide (F<0)=false:=decide_eq_false Y18
 have g2:decide (4<F)=false:=decide_eq_false Y18
 have g6:decide ((T:Int)<0)=false:=decide_eq_false Y18
 have g7:decide (4≤(T:Int))=false:=decide_eq_false Y18
 have g8:(1+T≤(xs++[st]).length)=True:=eq_true zm1
 have H:=aj g1 (aj g2 (aj g6 (aj g7 (aj g8 H))))
 have g3:decide ((1000:Int)≤(L.length:Int))=false:=decide_eq_false Y18
 have H:=aj g3 H
 have n1:(ln=s.nxt)=False:=eq_false Y18
 have H:=aj n1 H
 have n2:(ln=t)=False:=eq_false Y18
 have n3:(t=ln)=False:=eq_false hne
 have H:=aj n2 (aj n3 H)
 have H:=aj hl H
 refine rs (k:=rg [0,1,2] (k:=rs (k:=rs (k:=rr (k:=ro (pre:=[_]) (k:=rC (h:=(Za (t:=(T:Int)))) (k:=rh [0,1,2,27] (k:=rc (ht:=fun hc0=>?_) (hf:=fun hc0=>?_)))))))))
 ·cases hc0
 ·refine rk (k:=rs (k:=rH 15 [10,14] [[false,false],[true,false],[true,true]] [s,(s.set t (some (.tok (L++[F]).length))),((s.set t (some (.tok (L++[F]).length))).set ln (some (.row 86 [.agg (.ptr d 0 0::(xs.set T (.sl (.tok t 1) ((L++[F]).map (PV.int .i64)))++[st]))])))] Tryz.mixed (k:=?_)))
  refine dP [0,1] (pre:=[_,_,_,_,_,_,_,_,_,_]) (k:=?_)
  refine zO.app (kx:=.tok t 1) (xs:=L.map (PV.int .i64)) (ys:=[F].map (PV.int .i64)) (v:=(.sl (.tok t 1) ((L++[F]).map (PV.int .i64)))) [(0,1)] _ Y22 pq au au au Tryz.td22 (by rw [Tryz.zp3];rfl) zqc (zp (P:=Tryz.prog) (e:=3) (f:=PV.int .i64) (fun a=>⟨rfl,znC⟩) _) (by rw [Tryz.by3];decide) (by rw [Tryz.by3];simp<;>omega) (by intro q hq;rw [List.mem_singleton.1 hq];exact xi (f:=PV.int .i64) (xs:=L) (ys:=[F]) rfl Y71 ht rfl (by rw [Tryz.cz3])) ?_
  refine dP [0,1] (pre:=[_,_,_]) (k:=?_)
  refine dE [(1,2)] (k:=?_)
  refine zO.nil ?_
  refine rl [] (k:=rs (k:=rg [6] (k:=rR (k:=?_))))
  exact Ret.all (by simp only [Tryz.f20,go_sem,↓reduceIte]<;>rfl) ⟨rfl,by unfold lnR;rfl⟩
theorem zpy {p:Prop} (h:p:=by
 refine rs (k:=rg [4] (k:=rR (k:=rP (by simp only [Tryz.f135,go_sem];rfl) hwf ⟨?_,rfl⟩)))
 simp [PV.weak,go_sem]):p:=h
theorem zoP {p:Prop} (h:p:=by rw [Bool.and_eq_false_iff,decide_eq_false_iff_not,decide_eq_false_iff_not];omega):p:=h
theorem zgE {ln:Nat} {tn:Int} (hb:¬ (0≤tn∧tn<4)) {s:St}:za Tryz.prog 135 [.ptr ln 0 0,.int .i64 tn] s (fun r s'=>r=.int .i64 0∧s'=s):=by
 refine go Tryz.func135 (k:=fun hwf H=>?_)
 have f3:(decide ((0:Int)≤tn)&&decide (tn<4))=false:=zoP
 have H:=aj f3 H
 refine rs (k:=rg [0,1] (k:=rs (k:=rs (k:=rr (k:=ro (pre:=[_]) (k:=rC (h:=(Za (t:=tn))) (k:=ro (pre:=[_,_]) (k:=rg0 (k:=rg0 (k:=rg0 (k:=rg0 (k:=rg0 (k:=rg0 (k:=rg0 (k:=rg0 (k:=rh [0,1,18] (k:=rc (ht:=fun hc0=>?_) (hf:=fun hc0=>?_))))))))))))))))))
 ·exact zpy
 ·cases hc0
theorem zm4 {p:Prop} (h:p:=by
 refine rs (k:=rg [6] (k:=rR (k:=rP (by simp only [Tryz.f20,go_sem];rfl) hwf ⟨?_,rfl⟩)))
 simp [PV.weak,go_sem]):p:=h
theorem zeD {ln:Nat} {tn F:Int} {s:St} (hb:¬ (0≤tn∧tn<4)):za Tryz.prog 20 [.ptr ln 0 0,.int .i64 tn,.int .i64 F] s (fun r s'=>r=.bool false∧s'=s):=by
 refine go Tryz.func20 (k:=fun hwf H=>?_)
 have f3:(decide ((0:Int)≤tn)&&decide (tn<4))=false:=zoP
 have H:=aj f3 H
 refine rs (k:=rg [0,1,2] (k:=rs (k:=rs (k:=rr (k:=ro (pre:=[_]) (k:=rC (h:=(Za (t:=tn))) (k:=ro (pre:=[_,_]) (k:=rg0 (k:=rg0 (k:=ro (pre:=[_,_]) (k:=rg0 (k:=rg0 (k:=ro (pre:=[_,_]) (k:=rg0 (k:=rg0 (k:=rg0 (k:=rg0 (k:=rg0 (k:=rg0 (k:=rg0 (k:=rg0 (k:=rh [0,1,2,27] (k:=rc (ht:=fun hc0=>?_) (hf:=fun hc0=>?_))))))))))))))))))))))))
 ·exact zm4
 ·cases hc0
theorem zf3 {ln:Nat} {tn F:Int} {s:St} (hb:0≤tn∧tn<4) (hF:F<0):za Tryz.prog 20 [.ptr ln 0 0,.int .i64 tn,.int .i64 F] s (fun r s'=>r=.bool false∧s'=s):=by
 refine go Tryz.func20 (k:=fun hwf H=>?_)
 have f3:decide ((0:Int)≤tn)=true:=decide_eq_true Y18
 have f4:decide (tn<4)=true:=decide_eq_true Y18
 have f5:decide (tn<0)=false:=decide_eq_false Y18
 have f6:decide (4≤tn)=false:=decide_eq_false Y18
 have H:=aj f3 (aj f4 (aj f5 (aj f6 H)))
 have f7:decide (F<0)=true:=decide_eq_true Y18
 have H:=aj f7 H
 refine rs (k:=rg [0,1,2] (k:=rs (k:=rs (k:=rr (k:=ro (pre:=[_]) (k:=rC (h:=(Za (t:=tn))) (k:=ro (pre:=[_,_]) (k:=rg1 (k:=rg1 (k:=ro (pre:=[_,_]) (k:=rg0 (k:=rg0 (k:=ro (pre:=[_,_]) (k:=rg0 (k:=rg0 (k:=rg0 (k:=rg0 (k:=rg0 (k:=rg0 (k:=rg0 (k:=rg0 (k:=rh [0,1,2,27] (k:=rc (ht:=fun hc0=>?_) (hf:=fun hc0=>?_))))))))))))))))))))))))
 ·exact zm4
 ·cases hc0
theorem zfP {ln:Nat} {tn F:Int} {s:St} (hb:0≤tn∧tn<4) (hF:4<F):za Tryz.prog 20 [.ptr ln 0 0,.int .i64 tn,.int .i64 F] s (fun r s'=>r=.bool false∧s'=s):=by
 refine go Tryz.func20 (k:=fun hwf H=>?_)
 have f3:decide ((0:Int)≤tn)=true:=decide_eq_true Y18
 have f4:decide (tn<4)=true:=decide_eq_true Y18
 have f5:decide (tn<0)=false:=decide_eq_false Y18
 have f6:decide (4≤tn)=false:=decide_eq_false Y18
 have H:=aj f3 (aj f4 (aj f5 (aj f6 H)))
 have f7:decide (F<0)=false:=decide_eq_false Y18
 have f8:decide (4<F)=true:=decide_eq_true Y18
 have H:=aj f7 (aj f8 H)
 refine rs (k:=rg [0,1,2] (k:=rs (k:=rs (k:=rr (k:=ro (pre:=[_]) (k:=rC (h:=(Za (t:=tn))) (k:=ro (pre:=[_,_]) (k:=rg1 (k:=rg1 (k:=ro (pre:=[_,_]) (k:=rg1 (k:=rg1 (k:=ro (pre:=[_,_]) (k:=rg0 (k:=rg0 (k:=rg0 (k:=rg0 (k:=rg0 (k:=rg0 (k:=rg0 (k:=rg0 (k:=rh [0,1,2,27] (k:=rc (ht:=fun hc0=>?_) (hf:=fun hc0=>?_))))))))))))))))))))))))
 ·exact zm4
 ·cases hc0
theorem ze8 {ln d T:Nat} {xs:List PV} {st:PV} {L:List Int} {k:SK} {F:Int} (hT:T<4) (hF:0≤F∧F≤4) (hxl:xs.length=4) (hL:1000≤L.length) (hx:xs[T]? =some (.sl k (L.map (PV.int .i64)))) {s:St} (hl:s.blk ln=some (lnR 86 d xs st)):za Tryz.prog 20 [.ptr ln 0 0,.int .i64 (T:Int),.int .i64 F] s (fun r s'=>r=.bool false∧s'=s):=by
 refine go Tryz.func20 (k:=fun hwf H=>?_)
 unfold lnR at hl
 have ht4:((T:Int)<((4:Nat):Int))=True:=eq_true Y18
 have ht0:decide ((0:Int)≤(T:Int))=true:=decide_eq_true Y18
 have ht5:decide ((T:Int)<4)=true:=decide_eq_true Y18
 have hdr:=Wc (st:=st) (p:=.ptr d 0 0) hx
 have hst:=fun v=>VU (st:=st) (p:=.ptr d 0 0) (v:=v) (show T<xs.length from Y18)
 have H:=aj ht4 (aj ht0 (aj ht5 (aj hdr (aj hst H))))
 have g1:decide (F<0)=false:=decide_eq_false Y18
 have g2:decide (4<F)=false:=decide_eq_false Y18
 have g6:decide ((T:Int)<0)=false:=decide_eq_false Y18
 have g7:decide (4≤(T:Int))=false:=decide_eq_false Y18
 have g3:decide ((1000:Int)≤(L.length:Int))=true:=decide_eq_true Y18
 have H:=aj g1 (aj g2 (aj g6 (aj g7 (aj g3 H))))
 have H:=aj hl H
 refine rs (k:=rg [0,1,2] (k:=rs (k:=rs (k:=rr (k:=ro (pre:=[_]) (k:=rC (h:=(Za (t:=(T:Int)))) (k:=ro (pre:=[_,_]) (k:=rg1 (k:=rg1 (k:=ro (pre:=[_,_]) (k:=rg1 (k:=rg1 (k:=ro (pre:=[_,_]) (k:=rg1 (k:=rg1 (k:=rg1 (k:=rg1 (k:=rg1 (k:=rg1 (k:=rg1 (k:=rg1 (k:=rh [0,1,2,27] (k:=?_)))))))))))))))))))))))
 refine rc (ht:=fun hc0=>?_) (hf:=fun hc0=>?_)
 ·exact zm4
 ·cases hc0
theorem zgu {ln d T:Nat} {xs:List PV} {st:PV} {L:List Int} {k:SK} (hT:T<4) (hxl:xs.length=4) (hx:xs[T]? =some (.sl k (L.map (PV.int .i64)))) {s:St} (hl:s.blk ln=some (lnR 86 d xs st)) (hL:L=[]):za Tryz.prog 135 [.ptr ln 0 0,.int .i64 (T:Int)] s (fun r s'=>r=.int .i64 0∧s'=s):=by
 refine go Tryz.func135 (k:=fun hwf H=>?_)
 subst hL
 unfold lnR at hl
 have ht4:((T:Int)<((4:Nat):Int))=True:=eq_true Y18
 have ht0:decide ((0:Int)≤(T:Int))=true:=decide_eq_true Y18
 have ht5:decide ((T:Int)<4)=true:=decide_eq_true Y18
 have hdr:=Wc (st:=st) (p:=.ptr d 0 0) hx
 have hst:=fun v=>VU (st:=st) (p:=.ptr d 0 0) (v:=v) (show T<xs.length from Y18)
 have H:=aj ht4 (aj ht0 (aj ht5 (aj hdr (aj hst H))))
 have H:=aj hl H
 refine rs (k:=rg [0,1] (k:=rs (k:=rs (k:=rr (k:=ro (pre:=[_]) (k:=rC (h:=(Za (t:=(T:Int)))) (k:=ro (pre:=[_,_]) (k:=rg1 (k:=rg1 (k:=rg1 (k:=rg1 (k:=rg1 (k:=rg1 (k:=rg1 (k:=rg1 (k:=rh [0,1,18] (k:=rc (ht:=fun hc0=>?_) (hf:=fun hc0=>?_))))))))))))))))))
 ·exact zpy
 ·cases hc0
theorem zeZ {ln d T t:Nat} {xs:List PV} {st:PV} {x:Int} {L:List Int} (hT:T<4) (hxl:xs.length=4) (hx:xs[T]? =some (.sl (.tok t 1) ((x::L).map (PV.int .i64)))) (hL:L.length<1000) {s:St} (hl:s.blk ln=some (lnR 86 d xs st)) (ht:s.blk t=some (.tok (x::L).length)) (hne:t≠ln):za Tryz.prog 135 [.ptr ln 0 0,.int .i64 (T:Int)] s (fun r s'=>r=.int .i64 x∧s'=(((s.set t none).new (.tok L.length)).set ln (some (lnR 86 d (xs.set T (.sl (.tok s.nxt 1) (L.map (PV.int .i64)))) st)))):=by
 refine go Tryz.func135 (k:=fun hwf H=>?_)
 unfold lnR at hl
 have ht4:((T:Int)<((4:Nat):Int))=True:=eq_true Y18
 have ht0:decide ((0:Int)≤(T:Int))=true:=decide_eq_true Y18
 have ht5:decide ((T:Int)<4)=true:=decide_eq_true Y18
 have hdr:=Wc (st:=st) (p:=.ptr d 0 0) hx
 have hst:=fun v=>VU (st:=st) (p:=.ptr d 0 0) (v:=v) (show T<xs.length from Y18)
 have H:=aj ht4 (aj ht0 (aj ht5 (aj hdr (aj hst H))))
 have hlt:=xN hwf hl
 have htl:=xN hwf ht
 have g0:decide (((L.length+1:Nat):Int)=0)=false:=decide_eq_false Y18
 have n1:(ln=s.nxt)=False:=eq_false Y18
 have n2:(ln=t)=False:=eq_false (fun e=>hne e.symm)
 have g4:(0<L.length+1)=True:=eq_true Y18
 have h1n:Int.toNat 1=1:=rfl
 have h10:((1:Int)=0)=False:=eq_false Y19
 have g8:(1+T≤(xs++[st]).length)=True:=eq_true zm1
 have H:=aj g0 (aj n1 (aj n2 (aj g4 (aj h1n (aj h10 (aj g8 H))))))
 have H:=aj hl H
 refine rs (k:=rg [0,1] (k:=rs (k:=rs (k:=rr (k:=ro (pre:=[_]) (k:=rC (h:=(Za (t:=(T:Int)))) (k:=rh [0,1,18] (k:=rc (ht:=fun hc0=>?_) (hf:=fun hc0=>?_)))))))))
 ·cases hc0
 ·refine rk (k:=rs (k:=rg [0,1,5] (k:=rs (k:=rH 13 [8,12] [[false,false],[true,false],[true,true]] [s,((s.set t none).new (.tok L.length)),(((s.set t none).new (.tok L.length)).set ln (some (.row 86 [.agg (.ptr d 0 0::(xs.set T (.sl (.tok s.nxt 1) (L.map (PV.int .i64)))++[st]))])))] Tryz.mixed (k:=?_)))))
  refine dP [0,1] (pre:=[_,_,_,_,_,_,_,_]) (k:=?_)
  refine zO.cut (tk:=t) (lo:=1) (el:=3) (xs:=(x::L).map (PV.int .i64)) (v:=(.sl (.tok s.nxt 1) (L.map (PV.int .i64)))) [(0,1)] _ Y22 pq au au au Tryz.td22 Tryz.cz3 Y19 Y19 Y71 (by intro q hq;rw [List.mem_singleton.1 hq];exact ⟨by rw [List.length_map];exact ht,rfl,by rw [List.length_map];rfl⟩) ?_
  refine dP [0,1] (pre:=[_,_,_]) (k:=?_)
  refine dE [(1,2)] (k:=?_)
  refine zO.nil ?_
  refine rl [5] (k:=rs (k:=rg [4] (k:=rR (k:=?_))))
  exact Ret.all (by simp only [Tryz.f135,go_sem,↓reduceIte]<;>rfl) ⟨rfl,by unfold lnR;rfl⟩
end Go.Proofs
namespace Go.Proofs
open Go.PM
set_option maxHeartbeats 2000000
end Go.Proofs
namespace Go.Proofs
open Go.PM
set_option maxHeartbeats 2000000
def TkB (s:St) (z:Nat) (els:List PV) (c:Nat) (x:PV):Option Nat→Prop
 | none=>(x=.sl .nil []∨x=.sl .clip [])∧els=[]
 | some t=>x=.sl (.tok t z) els∧s.blk t=some (.tok els.length)∧c≤t∧t<s.nxt
theorem TkB.keep {s s':St} {z:Nat} {els:List PV} {c:Nat} {x:PV} {n:Option Nat} (h:TkB s z els c x n) (hb:∀ t,n=some t→s'.blk t=s.blk t) (hx:s.nxt≤s'.nxt):TkB s' z els c x n:=by
 cases n with
 | none=>exact h
 | some t=>exact ⟨h.1,by rw [hb t rfl];exact h.2.1,h.2.2.1,Nat.lt_of_lt_of_le h.2.2.2 hx⟩
theorem TkB.sl {s:St} {z:Nat} {els:List PV} {c:Nat} {x:PV} {n:Option Nat} (h:TkB s z els c x n):∃ k,x=.sl k els:=by
 cases n with
 | none=>obtain ⟨h1 | h1,rfl⟩:=h<;>exact ⟨_,h1⟩
 | some t=>exact ⟨_,h.1⟩
def upF {α:Type} (F:Nat→α) (k:Nat) (L:α):Nat→α:=fun i=>if i=k then L else F i
theorem wE {α:Type} {F:Nat→α} {k:Nat} {L:α}:upF F k L k=L:=if_pos rfl
theorem xC {α:Type} {F:Nat→α} {k i:Nat} {L:α} (h:i≠k):upF F k L i=F i:=if_neg h
structure Ln4 (ty d ln c:Nat) (FS:Nat→List Int) (l:List Snt) (ns:Nat→Option Nat) (s:St):Prop where
 row:∃ xs st,s.blk ln=some (lnR ty d xs st)∧xs.length=4∧(∀ T,T<4→∃ x,xs[T]? =some x∧TkB s 1 ((FS T).map (PV.int .i64)) c x (ns T))∧zb3 s 3 (l.map Snt.pv) c st (ns 4)
 inj:∀ i j t,ns i=some t→ns j=some t→i=j
 own:∀ i t,ns i=some t→c≤t∧t<s.nxt
 hc:ln<c
 nx:c≤s.nxt
 top:∀ i,4<i→ns i=none
structure Fr4 (b n ln:Nat) (ns ns':Nat→Option Nat) (s s':St):Prop where
 nx:s.nxt≤s'.nxt
 same:∀ j,j<s.nxt→j≠ln→¬ (b≤j∧j<n)→(∀ i,ns i≠some j)→s'.blk j=s.blk j
 new:∀ i t,ns' i=some t→(∃ i',ns i'=some t)∨s.nxt≤t
theorem Fr4.refl (b n ln:Nat) (ns:Nat→Option Nat) (s:St):Fr4 b n ln ns ns s s:=⟨Nat.le_refl _,fun _ _ _ _ _=>rfl,fun i t h=>.inl ⟨i,h⟩⟩
theorem Fr4.wide {n ln:Nat} {ns ns':Nat→Option Nat} {s s':St} (h:Fr4 0 0 ln ns ns' s s') (b:Nat):Fr4 b n ln ns ns' s s':=⟨h.nx,fun j h1 h2 _ h4=>h.same j h1 h2 Y18 h4,h.new⟩
theorem zpX {p:Prop} (h:p:=by
 rcases k.new i t ht with ⟨i',h'⟩ | h'
 ·exact h.new i' t h'
 ·exact .inr (Nat.le_trans h.nx h')):p:=h
theorem zoF {p:Prop} (h:p:=by
 rcases h.new i j hi with ⟨i',h'⟩ | h'
 ·exact h4 i' h'
 ·omega):p:=h
theorem Fr4.trans {b n ln:Nat} {ns n1 n2:Nat→Option Nat} {s s1 s2:St} (h:Fr4 b n ln ns n1 s s1) (k:Fr4 b n ln n1 n2 s1 s2):Fr4 b n ln ns n2 s s2:=by
 refine ⟨Nat.le_trans h.nx k.nx,fun j h1 h2 h3 h4=>?_,fun i t ht=>?_⟩
 ·rw [k.same j (Nat.lt_of_lt_of_le h1 h.nx) h2 h3 fun i hi=>?_]
  ·exact h.same j h1 h2 h3 h4
  ·exact zoF
 ·exact zpX
theorem Ln4.keep {ty d ln c:Nat} {FS:Nat→List Int} {l:List Snt} {ns:Nat→Option Nat} {s s':St} (h:Ln4 ty d ln c FS l ns s) (hn:s.nxt≤s'.nxt) (he:∀ j,j<s.nxt→(j=ln∨∃ i,ns i=some j)→s'.blk j=s.blk j):Ln4 ty d ln c FS l ns s':=by
 obtain ⟨xs,st,h1,h2,h3,h4⟩:=h.row
 have hc:=h.hc
 have hx:=h.nx
 refine ⟨⟨xs,st,by rw [he ln Y18 (.inl rfl)];exact h1,h2,fun T hT=>?_,h4.keep (fun t e _=>he t (h.own _ _ e).2 (.inr ⟨_,e⟩)) hn⟩,h.inj,fun i t e=>⟨(h.own i t e).1,Nat.lt_of_lt_of_le (h.own i t e).2 hn⟩,hc,Nat.le_trans hx hn,h.top⟩
 obtain ⟨x,k1,k2⟩:=h3 T hT
 exact ⟨x,k1,k2.keep (fun t e=>he t (h.own _ _ e).2 (.inr ⟨_,e⟩)) hn⟩
theorem Ln4.nw {ty d ln c:Nat} {FS:Nat→List Int} {l:List Snt} {ns:Nat→Option Nat} {s:St} (h:Ln4 ty d ln c FS l ns s) (x:Blk):Ln4 ty d ln c FS l ns (s.new x) :=
 h.keep (Nat.le_succ _) fun j hj _=>zg Y18
theorem zqg {p:Prop} (h:p:=by
 by_cases g4:i=4
 ·rw [← g4,hi] at h4
  exact ⟨_,h4.2.1⟩
 ·rw [h.top i Y18] at hi;cases hi):p:=h
theorem Ln4.notrow {ty d ln c i j t:Nat} {vs:List PV} {FS:Nat→List Int} {l:List Snt} {ns:Nat→Option Nat} {s:St} (h:Ln4 ty d ln c FS l ns s) (hi:ns i=some j):s.blk j≠some (.row t vs):=by
 obtain ⟨xs,st,h1,h2,h3,h4⟩:=h.row
 have e:∃ L,s.blk j=some (.tok L):=by
  by_cases g:i<4
  ·obtain ⟨x,_,k⟩:=h3 i g
   rw [hi] at k
   exact ⟨_,k.2.1⟩
  ·exact zqg
 obtain ⟨L,e⟩:=e
 rw [e]
 intro q;cases q
theorem zpr {p:Prop} (h:p:=by
 rw [e,wE] at hi
 rw [xC e'] at hj
 rcases hfr t hi with q | q
 ·rw [e];exact h.inj _ _ _ q hj
 ·have:=(h.own _ _ hj).2;omega):p:=h
theorem zp7 {p:Prop} (h:p:=by
 rw [e',wE] at hj
 rw [xC e] at hi
 rcases hfr t hj with q | q
 ·rw [e'];exact h.inj _ _ _ hi q
 ·have:=(h.own _ _ hi).2;omega):p:=h
theorem zpT {p:Prop} (h:p:=by
 rw [xC e'] at e
 exact ⟨(h.own _ _ e).1,Nat.lt_of_lt_of_le (h.own _ _ e).2 hn⟩):p:=h
theorem Ln4.chT {ty d ln c k:Nat} {FS:Nat→List Int} {l:List Snt} {ns:Nat→Option Nat} {s s':St} (h:Ln4 ty d ln c FS l ns s) (hk:k<4) {xs:List PV} {st x':PV} {L':List Int} {n':Option Nat} (hr:s.blk ln=some (lnR ty d xs st))
  (hb:s'.blk ln=some (lnR ty d (xs.set k x') st)) (hx':TkB s' 1 (L'.map (PV.int .i64)) c x' n') (hn:s.nxt≤s'.nxt) (hsame:∀ j,j<s.nxt→j≠ln→ns k≠some j→s'.blk j=s.blk j) (hfr:∀ t,n'=some t→ns k=some t∨s.nxt≤t) :
  Ln4 ty d ln c (upF FS k L') l (upF ns k n') s'∧Fr4 0 0 ln ns (upF ns k n') s s':=by
 obtain ⟨ys,st2,h1,h2,h3,h4⟩:=h.row
 rw [hr] at h1
 have e1:=Option.some.inj h1
 unfold lnR at e1
 have e2:=(PV.agg.inj (List.cons.inj (Blk.row.inj e1).2).1)
 have e3:=(List.cons.inj e2).2
 obtain ⟨rfl,e4⟩:=List.append_inj' e3 rfl
 have e5:=(List.cons.inj e4).1
 subst e5
 have hc:=h.hc
 have hx:=h.nx
 have hln:∀ i t,ns i=some t→t≠ln:=fun i t e=>by have:=(h.own i t e).1;omega
 refine ⟨⟨⟨xs.set k x',st,hb,by rw [List.length_set];exact h2,fun T hT=>?_,?_⟩,fun i j t hi hj=>?_,fun i t e=>?_,hc,Nat.le_trans hx hn,fun i hi=>by rw [xC Y18];exact h.top i hi⟩,hn,fun j q1 q2 _ q3=>hsame j q1 q2 (q3 k),fun i t e=>?_⟩
 ·by_cases e:T=k
  ·subst e
   exact ⟨x',List.getElem?_set_self Y18,by rw [wE,wE];exact hx'⟩
  ·obtain ⟨x,k1,k2⟩:=h3 T hT
   refine ⟨x,by rw [List.getElem?_set_ne (Ne.symm e)];exact k1,?_⟩
   rw [xC e,xC e]
   exact k2.keep (fun t q=>hsame t (h.own _ _ q).2 (hln _ _ q) fun q'=>e (h.inj _ _ _ q q')) hn
 ·rw [xC Y18]
  exact h4.keep (fun t q _=>hsame t (h.own _ _ q).2 (hln _ _ q) fun q'=>absurd (h.inj _ _ _ q q') Y18) hn
 ·by_cases e:i=k<;>by_cases e':j=k
  ·rw [e,e']
  ·exact zpr
  ·exact zp7
  ·rw [xC e] at hi
   rw [xC e'] at hj
   exact h.inj _ _ _ hi hj
 ·by_cases e':i=k
  ·rw [e',wE] at e
   subst e
   exact ⟨hx'.2.2.1,hx'.2.2.2⟩
  ·exact zpT
 ·by_cases e':i=k
  ·rw [e',wE] at e
   exact (hfr t e).imp (fun q=>⟨k,q⟩) id
  ·rw [xC e'] at e
   exact .inl ⟨i,e⟩
theorem Ln4.chS {ty d ln c:Nat} {FS:Nat→List Int} {l l':List Snt} {ns:Nat→Option Nat} {s s':St} (h:Ln4 ty d ln c FS l ns s) {xs:List PV} {st x':PV} {n':Option Nat} (hr:s.blk ln=some (lnR ty d xs st))
  (hb:s'.blk ln=some (lnR ty d xs x')) (hx':zb3 s' 3 (l'.map Snt.pv) c x' n') (hn:s.nxt≤s'.nxt) (hsame:∀ j,j<s.nxt→j≠ln→ns 4≠some j→s'.blk j=s.blk j) (hfr:∀ t,n'=some t→ns 4=some t∨s.nxt≤t) :
  Ln4 ty d ln c FS l' (upF ns 4 n') s'∧Fr4 0 0 ln ns (upF ns 4 n') s s':=by
 obtain ⟨ys,st2,h1,h2,h3,h4⟩:=h.row
 rw [hr] at h1
 have e1:=Option.some.inj h1
 unfold lnR at e1
 have e2:=(PV.agg.inj (List.cons.inj (Blk.row.inj e1).2).1)
 have e3:=(List.cons.inj e2).2
 obtain ⟨rfl,e4⟩:=List.append_inj' e3 rfl
 have hc:=h.hc
 have hx:=h.nx
 have hln:∀ i t,ns i=some t→t≠ln:=fun i t e=>by have:=(h.own i t e).1;omega
 refine ⟨⟨⟨xs,x',hb,h2,fun T hT=>?_,by rw [wE];exact hx'⟩,fun i j t hi hj=>?_,fun i t e=>?_,hc,Nat.le_trans hx hn,fun i hi=>by rw [xC Y18];exact h.top i hi⟩,hn,fun j q1 q2 _ q3=>hsame j q1 q2 (q3 4),fun i t e=>?_⟩
 ·obtain ⟨x,k1,k2⟩:=h3 T hT
  refine ⟨x,k1,?_⟩
  rw [xC Y18]
  exact k2.keep (fun t q=>hsame t (h.own _ _ q).2 (hln _ _ q) fun q'=>absurd (h.inj _ _ _ q q') Y18) hn
 ·by_cases e:i=4<;>by_cases e':j=4
  ·rw [e,e']
  ·exact zpr
  ·exact zp7
  ·rw [xC e] at hi
   rw [xC e'] at hj
   exact h.inj _ _ _ hi hj
 ·by_cases e':i=4
  ·rw [e',wE] at e
   subst e
   exact ⟨hx'.2.2.1,hx'.2.2.2⟩
  ·exact zpT
 ·by_cases e':i=4
  ·rw [e',wE] at e
   exact (hfr t e).imp (fun q=>⟨4,q⟩) id
  ·rw [xC e'] at e
   exact .inl ⟨i,e⟩
def zcC (FS:Nat→List Int) (tn F:Int):Bool:=decide ((0≤tn∧tn<4)∧(0≤F∧F≤4)∧(FS tn.toNat).length<1000)
def XU (FS:Nat→List Int) (tn F:Int):Nat→List Int:=if zcC FS tn F=true then upF FS tn.toNat (FS tn.toNat++[F]) else FS
def WF (FS:Nat→List Int) (tn:Int):Int:=if 0≤tn∧tn<4 then (FS tn.toNat).headD 0 else 0
def Va (FS:Nat→List Int) (tn:Int):Nat→List Int:=if 0≤tn∧tn<4 then upF FS tn.toNat (FS tn.toNat).tail else FS
theorem zgT {d ln c:Nat} {FS:Nat→List Int} {l:List Snt} {ns:Nat→Option Nat} {s:St} (h:Ln4 86 d ln c FS l ns s) (tn F:Int) :
  ∃ S9 ns',za Tryz.prog 20 [.ptr ln 0 0,.int .i64 tn,.int .i64 F] s (fun r s'=>r=.bool (zcC FS tn F)∧s'=S9)∧Ln4 86 d ln c (XU FS tn F) l ns' S9∧Fr4 0 0 ln ns ns' s S9:=by
 have hno:zcC FS tn F=false→za Tryz.prog 20 [.ptr ln 0 0,.int .i64 tn,.int .i64 F] s (fun r s'=>r=.bool false∧s'=s)→∃ S9 ns',za Tryz.prog 20 [.ptr ln 0 0,.int .i64 tn,.int .i64 F] s (fun r s'=>r=.bool (zcC FS tn F)∧s'=S9)∧Ln4 86 d ln c (XU FS tn F) l ns' S9∧Fr4 0 0 ln ns ns' s S9:=fun e q=>by
  refine ⟨s,ns,by rw [e];exact q,?_,Fr4.refl _ _ _ _ _⟩
  unfold XU
  rw [e]
  exact h
 have hc:=h.hc
 have hx:=h.nx
 by_cases g1:0≤tn∧tn<4
 case neg=>exact hno (decide_eq_false fun q=>g1 q.1) (zeD g1)
 by_cases g2:0≤F∧F≤4
 case neg =>
  refine hno (decide_eq_false fun q=>g2 q.2.1) ?_
  by_cases g3:F<0
  ·exact zf3 g1 g3
  ·exact zfP g1 Y18
 obtain ⟨T,rfl⟩:∃ T:Nat,tn=T:=⟨tn.toNat,Y18⟩
 have hT:T<4:=Y18
 obtain ⟨xs,st,h1,h2,h3,h4⟩:=h.row
 obtain ⟨x,hxx,hk⟩:=h3 T hT
 by_cases g4:(FS T).length<1000
 case neg =>
  obtain ⟨k,rfl⟩:=hk.sl
  exact hno (decide_eq_false fun q=>g4 q.2.2) (ze8 hT g2 h2 Y18 hxx h1)
 have e:zcC FS (T:Int) F=true:=decide_eq_true ⟨g1,g2,g4⟩
 have e2:XU FS (T:Int) F=upF FS T (FS T++[F]):=by unfold XU;rw [if_pos e];rfl
 rw [e,e2]
 have hown:=h.own T
 revert hk hown
 obtain ⟨n,hn⟩:∃ n,ns T=n:=⟨_,rfl⟩
 rw [hn]
 intro hk hown
 cases n with
 | none =>
   obtain ⟨hk1,hk2⟩:=hk
   have hL:FS T=[]:=by simpa using hk2
   rw [hL]
   obtain ⟨k,rfl,hkk⟩:∃ k,x=.sl k []∧(k=.nil∨k=.clip):=by rcases hk1 with q | q<;>exact ⟨_,q,Y71⟩
   refine ⟨_,_,zfM (L:=[]) hT g2 h2 hkk hxx h1,h.chT hT h1 (zy _ _ _) (n':=some s.nxt) ⟨rfl,?_,hx,Nat.lt_succ_self _⟩ (Nat.le_succ _) (fun j q1 q2 _=>?_) (fun t q=>?_)⟩
   ·rw [zd Y18];exact zN
   ·rw [zd q2,zg Y18]
   ·cases q;exact .inr (Nat.le_refl _)
 | some t =>
   obtain ⟨rfl,k2,k3,k4⟩:=hk
   rw [List.length_map] at k2
   refine ⟨_,_,zfv (k:=.nil) hT g2 h2 g4 hxx h1 k2 Y18,h.chT hT h1 (zy _ _ _) (n':=some t) ⟨rfl,?_,k3,k4⟩ (Nat.le_refl _) (fun j q1 q2 q3=>?_) (fun t' q=>?_)⟩
   ·rw [zd Y18,List.length_map];exact zy _ _ _
   ·rw [zd q2,zd (fun e=>q3 (by rw [hn,e]))]
   ·cases q;exact .inl hn
def FOk (FS:Nat→List Int):Prop:=∀ T,(FS T).length≤1000∧∀ f∈FS T,0≤f∧f≤4
theorem FOk.hurt {FS:Nat→List Int} (h:FOk FS) (tn F:Int):FOk (XU FS tn F):=by
 unfold XU
 split
 ·rename_i e
  have e:=of_decide_eq_true e
  intro T
  by_cases g:T=tn.toNat
  ·subst g
   rw [wE]
   refine ⟨zm1,fun f hf=>?_⟩
   rcases List.mem_append.1 hf with hf | hf
   ·exact (h _).2 f hf
   ·rw [List.mem_singleton.1 hf];exact e.2.1
  ·rw [xC g];exact h T
 ·exact h
theorem FOk.take {FS:Nat→List Int} (h:FOk FS) (tn:Int):FOk (Va FS tn):=by
 unfold Va
 split
 ·intro T
  by_cases g:T=tn.toNat
  ·subst g
   rw [wE]
   exact ⟨by rw [List.length_tail];have:=(h tn.toNat).1;omega,fun f hf=>(h _).2 f (List.mem_of_mem_tail hf)⟩
  ·rw [xC g];exact h T
 ·exact h
theorem FOk.q {FS:Nat→List Int} (h:FOk FS) (tn:Int):0≤WF FS tn∧WF FS tn≤4:=by
 unfold WF
 split
 ·cases hl:FS tn.toNat with
  | nil=>decide
  | cons f L=>exact (h tn.toNat).2 f (by rw [hl];simp)
 ·decide
end Go.Proofs
namespace Go.Proofs
open Go.PM
set_option maxHeartbeats 2000000
theorem zK.eq4 {b ln c ty d:Nat} {FS:Nat→List Int} {l:List Snt} {ns ns':Nat→Option Nat} {D:Dev} {s s':St} (h:zK b D s) (hl:Ln4 ty d ln c FS l ns s) (hb:b+5<ln) (f:Fr4 0 0 ln ns ns' s s'):zK b D s':=by
 have hc:=hl.hc
 have hx:=hl.nx
 have e:∀ j,b≤j→j≤b+5→s'.blk j=s.blk j:=fun j h1 h2=>f.same j Y18 Y18 Y18 fun i hi=>by have:=(hl.own i j hi).1;omega
 exact ⟨by rw [e _ Y18 Y18];exact h.st,by rw [e _ Y18 Y18];exact h.c0,by rw [e _ Y18 Y18];exact h.c1,by rw [e _ Y18 Y18];exact h.v0,by rw [e _ Y18 Y18];exact h.v1,by rw [e _ Y18 Y18];exact h.dv⟩
theorem Ln4.putDev {b ln c ty d:Nat} {FS:Nat→List Int} {l:List Snt} {ns:Nat→Option Nat} {D:Dev} {s:St} (hl:Ln4 ty d ln c FS l ns s) (hb:b+5<ln):Ln4 ty d ln c FS l ns (putDev b D s)∧Fr4 b (b+6) ln ns ns s (putDev b D s):=by
 have hc:=hl.hc
 refine ⟨hl.keep (Nat.le_refl _) fun j _ h=>?_,Nat.le_refl _,fun j q1 q2 q3 _=>?_,fun i t h=>.inl ⟨i,h⟩⟩
 ·rcases h with rfl | ⟨i,h⟩
  ·exact yG Y18
  ·exact yG (by have:=(hl.own i j h).1;omega)
 ·by_cases h:j<b
  ·exact Uq Y18
  ·exact yG Y18
end Go.Proofs
namespace Go.Proofs
open Go.PM
set_option maxHeartbeats 2000000
end Go.Proofs
namespace Go.Proofs
open Go.PM
set_option maxHeartbeats 2000000
theorem zjB {d ln c:Nat} {FS:Nat→List Int} {l:List Snt} {ns:Nat→Option Nat} {s:St} (h:Ln4 86 d ln c FS l ns s):za Tryz.prog 10 [.ptr ln 0 0] s (fun r s'=>r=.ptr d 0 0∧s'=s):=by
 obtain ⟨xs,st,h1,h2,_⟩:=h.row
 match xs,h2,h1 with
 | [a0,a1,a2,a3],_,h1=>exact zey (a0:=a0) (a1:=a1) (a2:=a2) (a3:=a3) (st:=st) h1
theorem zgG {d ln c:Nat} {FS:Nat→List Int} {l:List Snt} {ns:Nat→Option Nat} {s:St} (h:Ln4 86 d ln c FS l ns s) (hll:l.length≤100000) (hld:∀ x∈l,x.data.length≤140737488350000):za Tryz.prog 23 [.ptr ln 0 0] s (fun r s'=>r=.sl .unk (l.map Snt.pv)∧s'=s):=by
 obtain ⟨xs,st,h1,h2,_,h4⟩:=h.row
 obtain ⟨k,rfl⟩:∃ k,st=.sl k (l.map Snt.pv):=by
  cases hn:ns 4 with
  | none=>rw [hn] at h4;exact ⟨_,by rw [h4.1,h4.2]⟩
  | some t=>rw [hn] at h4;exact ⟨_,h4.1⟩
 match xs,h2,h1 with
 | [a0,a1,a2,a3],_,h1=>exact zjp hll hld (a0:=a0) (a1:=a1) (a2:=a2) (a3:=a3) h1
theorem TkB.nres {s:St} {z:Nat} {els:List PV} {c:Nat} {x:PV} {t r:Nat} (h:TkB s z els c x (some t)) (hr:s.blk r=some .res):t≠r:=by
 rintro rfl
 rw [h.2.1] at hr;cases hr
theorem UE {d ln c r:Nat} {FS:Nat→List Int} {l:List Snt} {ns:Nat→Option Nat} {s:St} (h:Ln4 86 d ln c FS l ns s) (hF:FOk FS) (tn:Int) (hr:c≤r) (hrx:r<s.nxt) (hrb:s.blk r=some .res) :
  ∃ S9 ns',(∀ v,za Tryz.prog 135 [.ptr ln 0 0,.int .i64 tn] (s.set r v) (fun x s'=>x=.int .i64 (WF FS tn)∧s'=S9.set r v))∧Ln4 86 d ln c (Va FS tn) l ns' S9∧Fr4 0 0 ln ns ns' s S9∧S9.blk r=some .res:=by
 have hc:=h.hc
 have hx:=h.nx
 unfold WF Va
 by_cases g1:0≤tn∧tn<4
 case neg=>rw [if_neg g1,if_neg g1];exact ⟨s,ns,fun v=>zgE g1,h,Fr4.refl _ _ _ _ _,hrb⟩
 rw [if_pos g1,if_pos g1]
 obtain ⟨T,rfl⟩:∃ T:Nat,tn=T:=⟨tn.toNat,Y18⟩
 have hT:T<4:=Y18
 show ∃ S9 ns',(∀ v,za _ _ _ _ (fun r' s'=>r'=.int .i64 ((FS T).headD 0)∧s'=S9.set r v))∧Ln4 _ d ln c (upF FS T (FS T).tail) l ns' S9∧_
 obtain ⟨xs,st,h1,h2,h3,h4⟩:=h.row
 obtain ⟨x,hxx,hk⟩:=h3 T hT
 have h1':∀ v,(s.set r v).blk ln=some (lnR 86 d xs st):=fun v=>by rw [zd Y18];exact h1
 have hl1:=(hF T).1
 cases hL:FS T with
 | nil =>
   obtain ⟨k,rfl⟩:=hk.sl
   refine ⟨s,ns,fun v=>zgu hT h2 hxx (h1' v) hL,?_,Fr4.refl _ _ _ _ _,hrb⟩
   have e:upF FS T ([]:List Int).tail=FS:=by
    funext i
    by_cases e:i=T
    ·rw [e,wE,hL];rfl
    ·exact xC e
   rw [e]
   exact h
 | cons f L =>
   rw [hL] at hk hl1
   revert hk
   obtain ⟨n,hn⟩:∃ n,ns T=n:=⟨_,rfl⟩
   rw [hn]
   intro hk
   cases n with
   | none=>exact absurd hk.2 Y71
   | some t =>
     have htr:=hk.nres hrb
     obtain ⟨rfl,k2,k3,k4⟩:=hk
     rw [List.length_map] at k2
     obtain ⟨p1,p2⟩:=h.chT (L':=L) (x':=.sl (.tok s.nxt 1) (L.map (PV.int .i64))) (s':=((s.set t none).new (.tok L.length)).set ln (some (lnR 86 d (xs.set T (.sl (.tok s.nxt 1) (L.map (PV.int .i64)))) st))) hT h1 (zy _ _ _) (n':=some s.nxt) ⟨rfl,by rw [zd Y18,List.length_map];exact zN,hx,Nat.lt_succ_self _⟩ (Nat.le_succ _) (fun j q1 q2 q3=>by rw [zd q2,zg (by show j≠s.nxt;omega),zd (fun e=>q3 (by rw [hn,e]))]) (fun t' q=>by cases q;exact .inr (Nat.le_refl _))
     refine ⟨_,_,fun v=>?_,p1,p2,by rw [zd Y18,zg (by show r≠s.nxt;omega),zd (Ne.symm htr)];exact hrb⟩
     refine (zeZ hT h2 hxx (by simp at hl1;omega) (h1' v) (by rw [zd htr];exact k2) Y18).mono fun y s' ⟨e1,e2⟩=>⟨e1,?_⟩
     rw [e2,XA _ (Ne.symm htr),new_set (by show r<s.nxt;omega),XA _ (show r≠ln from Y18)]
     first | done | rfl
theorem zfD {b ln c r:Nat} {FS:Nat→List Int} {l:List Snt} {ns:Nat→Option Nat} {D:Dev} {s:St} (h:Ln4 86 (b+5) ln c FS l ns s) (hA:zK b D s) (hD:D.ok) (hbl:b+5<ln) (hF:FOk FS) (hll:l.length≤100000) {fr:List Int} (hfo:OkB fr) (hfl:fr.length≤140737488350000) {tick tn:Int}
  (hr:c≤r) (hrx:r<s.nxt) (hrb:s.blk r=some .res) {B:List Int} {D':Dev} (hs:uW (WF FS tn) D fr=(B,D')) (hlen:D'.c0.length=D.c0.length) :
  ∃ S9 ns',(∀ v,za Tryz.prog 118 [.ptr ln 0 0,.int .i64 tn,.int .i64 tick,.sl .unk (fr.map (PV.int .u8))] (s.set r v) (fun x s'=>x=.sl .unk (B.map (PV.int .u8))∧s'=S9.set r v))∧Ln4 86 (b+5) ln c (Va FS tn) (l++[(⟨tick,tn,fr⟩:Snt)]) ns' S9∧zK b D' S9∧Fr4 b (b+6) ln ns ns' s S9∧S9.blk r=some .res:=by
 have hc:=h.hc
 have hx:=h.nx
 have hq:=hF.q tn
 have e1:(uW (WF FS tn) D fr).1=B:=by rw [hs]
 have e2:(uW (WF FS tn) D fr).2=D':=by rw [hs]
 have hdv:∀ v,zK b D (s.set r v):=fun v=>hA.sv Y18 _
 obtain ⟨xs,st,h1,h2,h3,h4⟩:=h.row
 revert h4
 obtain ⟨n,hn⟩:∃ n,ns 4=n:=⟨_,rfl⟩
 rw [hn]
 intro h4
 match xs,h2 with
 | [a0,a1,a2,a3],_ =>
 cases n with
 | none =>
   obtain ⟨rfl,hl0⟩:=h4
   have hl0:l=[]:=by simpa using hl0
   subst hl0
   obtain ⟨n1,f1⟩:=h.chS (l':=[(⟨tick,tn,fr⟩:Snt)]) (s':=(s.new (.tok [(⟨tick,tn,fr⟩:Snt)].length)).set ln (some (lnR 86 (b+5) [a0,a1,a2,a3] (.sl (.tok s.nxt 3) ([(⟨tick,tn,fr⟩:Snt)].map Snt.pv))))) (x':=(.sl (.tok s.nxt 3) ([(⟨tick,tn,fr⟩:Snt)].map Snt.pv))) (n':=some s.nxt) h1 (zy _ _ _) ⟨rfl,by rw [zd Y18];exact zN,hx,Nat.lt_succ_self _⟩ (Nat.le_succ _) (fun j q1 q2 q3=>by rw [zd q2,zg Y18]) (fun t' q=>by cases q;exact .inr (Nat.le_refl _))
   obtain ⟨S9,ns9,t1,t2,t3,t4⟩:=UE n1 hF tn hr (Nat.lt_succ_of_lt hrx) (by rw [zd Y18,zg Y18];exact hrb)
   have hA9:=(hA.eq4 h hbl f1).eq4 n1 hbl t3
   obtain ⟨ys,st9,r1,r2,_⟩:=t2.row
   obtain ⟨p1,p2⟩:=t2.putDev (D:=D') hbl
   have h9:=t2.nx
   match ys,r2,r1 with
   | [c0,c1,c2,c3],_,r1 =>
   refine ⟨_,ns9,fun v=>?_,p1,hA9.put hlen,((f1.trans t3).wide b).trans p2,by rw [yG Y18];exact t4⟩
   have ht:=t1 v
   rw [← XA _ (show r≠ln from Y18),← new_set hrx] at ht
   refine (zgp hq hfo hfl (by rw [zd Y18];exact h1) (hdv v) hD hbl ht (by rw [zd Y18];exact r1) (hA9.sv Y18 _) (by show ln<S9.nxt;omega)).mono fun y s' ⟨q1,q2⟩=>⟨by rw [q1,e1],?_⟩
   rw [q2,e2]
   exact zbC Y18 v
 | some t =>
   obtain ⟨rfl,k2,k3,k4⟩:=h4
   rw [List.length_map] at k2
   have htr:t≠r:=by rintro rfl;rw [hrb] at k2;cases k2
   obtain ⟨n1,f1⟩:=h.chS (l':=(l++[(⟨tick,tn,fr⟩:Snt)])) (s':=(s.set t (some (.tok (l++[(⟨tick,tn,fr⟩:Snt)]).length))).set ln (some (lnR 86 (b+5) [a0,a1,a2,a3] (.sl (.tok t 3) ((l++[(⟨tick,tn,fr⟩:Snt)]).map Snt.pv))))) (x':=(.sl (.tok t 3) ((l++[(⟨tick,tn,fr⟩:Snt)]).map Snt.pv))) (n':=some t) h1 (zy _ _ _) ⟨rfl,by rw [zd Y18,List.length_map];exact zy _ _ _,k3,k4⟩ (Nat.le_refl _) (fun j q1 q2 q3=>by rw [zd q2,zd (fun e=>q3 (by rw [hn,e]))]) (fun t' q=>by cases q;exact .inl hn)
   obtain ⟨S9,ns9,t1,t2,t3,t4⟩:=UE n1 hF tn hr (hrx) (by rw [zd Y18,zd (Ne.symm htr)];exact hrb)
   have hA9:=(hA.eq4 h hbl f1).eq4 n1 hbl t3
   obtain ⟨ys,st9,r1,r2,_⟩:=t2.row
   obtain ⟨p1,p2⟩:=t2.putDev (D:=D') hbl
   have h9:=t2.nx
   match ys,r2,r1 with
   | [c0,c1,c2,c3],_,r1 =>
   refine ⟨_,ns9,fun v=>?_,p1,hA9.put hlen,((f1.trans t3).wide b).trans p2,by rw [yG Y18];exact t4⟩
   have ht:=t1 v
   rw [← XA _ (show r≠ln from Y18),← XA _ (Ne.symm htr)] at ht
   refine (zeX hq hfo hfl hll (by rw [zd Y18];exact h1) (hdv v) hD hbl (by rw [zd htr];exact k2) Y18 Y18 ht (by rw [zd Y18];exact r1) (hA9.sv Y18 _) (by show ln<S9.nxt;omega)).mono fun y s' ⟨q1,q2⟩=>⟨by rw [q1,e1],?_⟩
   rw [q2,e2]
   exact zbC Y18 v
end Go.Proofs
namespace Go.Proofs
open Go.PM
set_option maxHeartbeats 2000000
def yW (q:Req):Nat→List Int→Dev→Rep × Nat × Dev × List Int
 | 0,F,D=>(zE q.fn 11,0,D,F)
 | k+1,F,D=>if F.headD 0=0 then ((doF D q).1,0,(doF D q).2,F.tail) else if F.headD 0=4 then (zE q.fn 4,0,D,F.tail)
   else ((yW q k F.tail (if F.headD 0=1 then D else (doF D q).2)).1,(yW q k F.tail (if F.headD 0=1 then D else (doF D q).2)).2.1+1,(yW q k F.tail (if F.headD 0=1 then D else (doF D q).2)).2.2)
structure zkZ (q:Req) (D:Dev) (f:Int) (B:List Int) (D':Dev) (g:Option Rep):Prop where
 snd:uW f D (yv (zL q))=(B,D')
 ok:D'.ok
 len:D'.c0.length=D.c0.length
 b:OkB B
 bl:B.length≤256
 g:(g=none∧¬ (wb B).2=0∧¬ f=0∧¬ f=4∧D'=if f=1 then D else (doF D q).2)∨(∃ R,g=some R∧Yn R q∧R.ok∧B=yv (yO R)∧(yO R).length≤253∧(f=0∧R=(doF D q).1∧D'=(doF D q).2∨f=4∧R=zE q.fn 4∧D'=D))
theorem xj {q:Req} (hr:zD q=0):zL q=yF q:=if_pos hr
theorem zjD (l:List Bool):(xk l).length≤(l.length+7)/8:=by
 have:=xe l
 omega
theorem zn0 {D:Dev} (hD:D.ok) {q:Req} (hq:q.ok) (hr:zD q=0):(yO (doF D q).1).length≤253:=by
 have hf:=zin hD hq hr
 have hcc:(doF D q).1.code=0→yu q=true:=fun h0=>by
  cases hc:yu q with
  | true=>rfl
  | false =>
    exfalso
    have hh:¬ xO q.fn=false:=by rw [(vF hr).has];decide
    unfold doF at h0
    dsimp only at h0
    rw [if_neg hh,if_pos (.inr hc)] at h0
    exact absurd h0 (by show ¬ (3:Int)%256=0;decide)
 obtain ⟨R,hR⟩:∃ R,(doF D q).1=R:=⟨_,rfl⟩
 rw [hR] at hf hcc ⊢
 have hfn:=hf.fn
 have e2:∀ n,(zx n).length=2:=fun _=>rfl
 have fl:∀ l:List Int,(l.flatMap zx).length=2*l.length:=fun l=>by
  induction l with
  | nil=>rfl
  | cons x l ih=>rw [List.flatMap_cons,List.length_append,ih,e2,List.length_cons];omega
 unfold yO
 rw [if_pos hf.good]
 unfold yK
 by_cases hc:R.code=0
 ·rw [if_neg (fun n=>n hc)]
  have hcnt:=hf.cnt hc
  have hg:=WH hf.good hc
  have hk:=(of_decide_eq_true (hcc hc)).2
  have h6:=hg.v6
  have hmd:=hg.md
  simp only [List.length_cons]
  split
  ·rename_i e
   rw [if_pos Y18] at hk
   have hb:(R.bits.length:Int)=q.count:=Y18
   have:=zjD R.bits
   simp only [List.length_cons];omega
  split
  ·rename_i n1 e
   rw [if_neg Y18] at hk
   have hv:(R.vals.length:Int)=q.count:=Y18
   have hq125:q.count≤125:=by
    by_cases e34:q.fn=3∨q.fn=4
    ·rw [if_pos e34] at hk;exact hk.2
    ·rw [if_neg e34,if_neg Y18,if_neg Y18,if_pos Y18] at hk;exact hk.2.1
   simp only [List.length_cons,fl];omega
  repeat' split
  all_goals simp only [List.length_append,List.length_cons,e2,fl]
  all_goals first | omega |(have:=h6 Y18;omega)
 ·rw [if_pos hc];show 2≤253;decide
theorem zl9 {q:Req} (hq:q.ok) (hr:zD q=0) {D:Dev} (hD:D.ok) {f:Int} (hf:0≤f∧f≤4) (hln:(yF q).length≤253):∃ B D' g,zkZ q D f B D' g:=by
 have hne:yF q≠[]:=List.cons_ne_nil _ _
 have e:∀ f,uW f D (yv (zL q))=wx f D (yF q):=fun f=>by
  rw [xj hr]
  unfold uW
  rw [zdv hne hln]
  exact if_pos ⟨rfl,rfl⟩
 have hp:=ziN (D:=D) hq hr
 have hdk:=zk7 hD hq
 have hft:=zin hD hq hr
 have h127:=zdH hr
 have hbo:OkB (yO (doF D q).1):=uD (Vm hD hq)
 have hbl:(yO (doF D q).1).length≤253:=zn0 hD hq hr
 have hbn:yO (doF D q).1≠[]:=by
  obtain ⟨x,l,h,_⟩:=VF hft h127
  rw [h];exact List.cons_ne_nil _ _
 obtain rfl | rfl | rfl | rfl | rfl:f=0∨f=1∨f=2∨f=3∨f=4:=Y18
 ·exact ⟨yv (yO (doF D q).1),(doF D q).2,some (doF D q).1,by rw [e];show (yv (xq _ _).1,(xq _ _).2)=_;rw [hp],hdk.1,hdk.2,Yi hbo,uB _,.inr ⟨_,rfl,hft,Vm hD hq,rfl,hbl,.inl ⟨rfl,rfl,rfl⟩⟩⟩
 ·exact ⟨[],D,none,by rw [e];rfl,hD,rfl,OkB.nil,Y19,.inl ⟨rfl,Y19,Y19,Y19,rfl⟩⟩
 ·exact ⟨[],(doF D q).2,none,by rw [e];show ([],(xq _ _).2)=_;rw [hp],hdk.1,hdk.2,OkB.nil,Y19,.inl ⟨rfl,Y19,Y19,Y19,rfl⟩⟩
 ·exact ⟨ZC (yv (yO (doF D q).1)),(doF D q).2,none,by rw [e];show (ZC (yv (xq _ _).1),(xq _ _).2)=_;rw [hp],hdk.1,hdk.2,zmy (Yi hbo),by rw [zfK];exact uB _,.inl ⟨rfl,by rw [zhR hbo hbn hbl];decide,Y19,Y19,rfl⟩⟩
 ·have hfr:Yn (zE q.fn 4) q:=wO h127 Y19
  obtain ⟨x,l,hx,_⟩:=VF hfr h127
  have hlen:(yO (zE q.fn 4)).length≤253:=by
   unfold yO
   rw [if_pos hfr.good]
   unfold yK
   rw [if_pos (by show ¬ (4:Int)%256=0;decide)]
   show 2≤253
   decide
  exact ⟨yv (yO (zE q.fn 4)),D,some (zE q.fn 4),by rw [e];rfl,hD,rfl,Yi (uD (yS _ _)),uB _,.inr ⟨_,rfl,hfr,yS _ _,rfl,hlen,.inr ⟨rfl,rfl,rfl⟩⟩⟩
end Go.Proofs
namespace Go.Proofs
open Go.PM
set_option maxHeartbeats 2000000
theorem uu {b:List Int} (hb:OkB b) (hl:b.length≤140737488351232) {i:Int} {a:Int} (ha:1+2*i=a) (hi:0≤i∧i≤100) {s:St}:za Tryz.prog 156 [.sl .unk (b.map (PV.int .u8)),.int .i64 i] s (fun r s'=>r=.int .i64 (zP b a)∧s'=s):=by
 refine go Tryz.func156 (k:=fun hwf H=>?_)
 have hw1:IntKind.i64.wrap (2*i)=2*i:=zi Y18
 have hw2:IntKind.i64.wrap (1+2*i)=a:=by rw [zi Y18,ha]
 have H:=aj hw1 (aj hw2 H)
 refine rs (k:=rg [0,1] (k:=rs (k:=rr (k:=ro (pre:=[_,_,_,_]) (k:=rC (h:=Uz hb (a:=a) Y76 Y18) (k:=rh [5] (k:=rs (k:=rg [4] (k:=rR (k:=rP (by simp only [Tryz.f156,go_sem];rfl) hwf ⟨?_,rfl⟩))))))))))
 rfl
attribute [local go_sem] zf Req.pv Rep.pv
set_option maxRecDepth 100000 in
theorem zeO {b:List Int} (hb:OkB b) (hl:b.length≤10000000) {x:Int} (hx:b[0]? =some x) {q:Req} (hq:I64 q.count) {s:St}:za Tryz.prog 146 [.sl .unk (b.map (PV.int .u8)),q.pv] s (fun r s'=>r=(XR b q).pv∧s'=s):=by
 refine go Tryz.func146 (k:=fun hwf H=>?_)
 have hlt:0<b.length:=zn9
 have hxx:(b.map (PV.int .u8))[0]? =some (.int .u8 x):=zgb
 have hlT:(0<b.length)=True:=eq_true hlt
 have hx8:U8 x:=hb x (List.mem_of_getElem? hx)
 have hxw:IntKind.i64.wrap x=x:=zi zeC
 have hxs:IntKind.i64.wrap (x-128)=x-128:=zi zeC
 have hn3:IntKind.u16.wrap (zP b 3)=zP b 3:=znr
 have hn5:IntKind.u16.wrap (zP b 5)=zP b 5:=znG
 have hg0:(b[0]?).getD 0=x:=zgi
 have hbl:b.length≤140737488351232:=Y18
 have H:=aj hxx (aj hlT (aj hxw (aj hxs (aj hn3 (aj hn5 H)))))
 refine rs (k:=rg [0,3,4] (k:=rs (k:=rg [0,3,4] (k:=rs (k:=rs (k:=rg [0,3,4,13] (k:=rc (ht:=fun hc0=>?_) (hf:=fun hc0=>?_))))))))
 refine rs (k:=rg [0,4] (k:=rs (k:=rs (k:=rg [0,4,20] (k:=rc (ht:=fun hc1=>?_) (hf:=fun hc1=>?_))))))
 have hl1:1<b.length:=Y79
 obtain ⟨y,hy⟩:∃ y,b[1]? =some y:=⟨b[1],List.getElem?_eq_getElem hl1⟩
 have hyy:(b.map (PV.int .u8))[Int.toNat 1]? =some (.int .u8 y):=zpt
 have hlT1:((1:Int)<(b.length:Int))=True:=eq_true Y18
 have hy8:U8 y:=hb y (List.mem_of_getElem? hy)
 have hyw:IntKind.i64.wrap y=y:=zi (by unfold U8 at hy8;omega)
 have hy0:(b[1]?).getD 0=y:=by rw [hy];rfl
 have H:=aj hyy (aj hlT1 (aj hyw H))
 refine rg [4] (k:=rs (k:=rg [4] (k:=rR (k:=?_))))
 refine jO 1 ?_;rotate_left
 refine rk (k:=rs (k:=rg [4] (k:=rR (k:=?_))))
 refine jO 1 ?_;rotate_left
 refine rk (k:=rs (k:=?_))
 obtain ⟨m,hm,hmle,hmd⟩:∃ m:Nat,(if (2:Int)<(b.length:Int) then (2:Int) else (b.length:Int))=(m:Int)∧m≤b.length∧b.drop m=b.drop 2:=by
  by_cases h:(2:Int)<(b.length:Int)
  ·exact ⟨2,by rw [if_pos h];rfl,Y18,rfl⟩
  ·exact ⟨b.length,by rw [if_neg h],Nat.le_refl _,by rw [List.drop_eq_nil_of_le (Nat.le_refl _),List.drop_eq_nil_of_le Y18]⟩
 have hd1:((m:Int)≤(b.length:Int))=True:=eq_true Y18
 have hd2:((0:Int)≤(m:Int))=True:=eq_true Y18
 have htk:((b.length:Int)-(m:Int)).toNat=b.length-m:=Y18
 have hlm:((b.map (PV.int .u8)).drop m).take (b.length-m)=((b.drop 2).map (PV.int .u8)):=by rw [← hmd,List.map_drop,List.take_of_length_le Y71]
 have H:=aj hm (aj hd1 (aj hd2 (aj htk (aj hlm H))))
 refine rg [0,3,4,5] (k:=rs (k:=rs (k:=rg [0,3,4,5,33] (k:=rb (k:=rs (k:=rs (k:=rg [0,3,4,5,33,34] (k:=rc (ht:=fun hc2=>?_) (hf:=fun hc2=>?_)))))))))
 refine rk (k:=rc (ht:=fun hc3=>?_) (hf:=fun hc3=>?_))
 refine jO 2 ?_;rotate_left
 ·exact zkN
 refine rg [0,3,4,5,33,34] (k:=rc (ht:=fun hc3=>?_) (hf:=fun hc3=>?_))
 refine jO 2 ?_;rotate_left
 refine rs (k:=rs (k:=rg [0,4,5,33,45] (k:=rc (ht:=fun hc4=>?_) (hf:=fun hc4=>?_))))
 refine rk (k:=rc (ht:=fun hc6=>?_) (hf:=fun hc6=>?_))
 refine jO 3 ?_;rotate_left
 ·exact Bool.noConfusion (hc4.symm.trans hc6)
 refine rs (k:=rg [0,4,5,33,45] (k:=rc (ht:=fun hc5=>?_) (hf:=fun hc5=>?_)))
 refine rk (k:=rc (ht:=fun hc6=>?_) (hf:=fun hc6=>?_))
 refine jO 3 ?_;rotate_left
 ·exact zmo
 refine rg [0,4,5,33,45] (k:=rc (ht:=fun hc6=>?_) (hf:=fun hc6=>?_))
 refine jO 3 ?_;rotate_left
 refine rs (k:=rg [0,4,5,33,55] (k:=rc (ht:=fun hc7=>?_) (hf:=fun hc7=>?_)))
 refine jO 4 ?_;rotate_left
 refine rs (k:=rg [0,4,5,33,65] (k:=rc (ht:=fun hc8=>?_) (hf:=fun hc8=>?_)))
 refine jO 4 ?_;rotate_left
 refine rs (k:=rg [0,4,5,33,75] (k:=rc (ht:=fun hc9=>?_) (hf:=fun hc9=>?_)))
 refine jO 4 ?_;rotate_left
 refine rs (k:=rs (k:=rg [0,4,5,33,85] (k:=rc (ht:=fun hc10=>?_) (hf:=fun hc10=>?_))))
 refine rk (k:=rc (ht:=fun hc11=>?_) (hf:=fun hc11=>?_))
 refine jO 5 ?_;rotate_left
 ·exact Bool.noConfusion (hc10.symm.trans hc11)
 refine rg [0,4,5,33,85] (k:=rc (ht:=fun hc11=>?_) (hf:=fun hc11=>?_))
 refine jO 5 ?_;rotate_left
 refine rs (k:=rg [0,4,5,33,94] (k:=rc (ht:=fun hc12=>?_) (hf:=fun hc12=>?_)))
 refine rr (k:=ro (pre:=[_]) (k:=rC (h:=uu (b:=b) hb hbl (i:=0) (a:=1) Y19 Y19) (k:=ro (pre:=[_]) (k:=rC (h:=uu (b:=b) hb hbl (i:=1) (a:=3) Y19 Y19) (k:=ro (pre:=[_,_]) (k:=rC (h:=uu (b:=b) hb hbl (i:=2) (a:=5) Y19 Y19) (k:=rh [4] (k:=rB (k:=rs (k:=rr (k:=?_)))))))))))
 refine rh [4] (k:=rR (k:=?_))
 refine jO 1 ?_;rotate_left
 refine rs (k:=rg [4,5,107] (k:=rc (ht:=fun hc13=>?_) (hf:=fun hc13=>?_)))
 refine rr (k:=ro (pre:=[_]) (k:=rC (h:=XN (xs:=b.drop 2) Yk) (k:=rh [4] (k:=rB (k:=rs (k:=rg [4] (k:=rR (k:=?_))))))))
 refine jO 1 ?_;rotate_left
 refine rk (k:=rB (k:=rs (k:=rg [4] (k:=rR (k:=?_)))))
 refine jO 1 ?_;rotate_left
 any_goals
  refine jI 4 ?_
  refine rr (k:=ro (pre:=[_]) (k:=rC (h:=uu (b:=b) hb hbl (i:=0) (a:=1) Y19 Y19) (k:=ro (pre:=[_]) (k:=rC (h:=uu (b:=b) hb hbl (i:=1) (a:=3) Y19 Y19) (k:=ro (pre:=[_]) (k:=rO (k:=rh [4] (k:=rB (k:=rs (k:=rg [4] (k:=rR (k:=?_))))))))))))
  refine jO 1 ?_;rotate_left
 any_goals
  refine jI 5 ?_
  refine rr (k:=ro (pre:=[_]) (k:=rC (h:=uu (b:=b) hb hbl (i:=0) (a:=1) Y19 Y19) (k:=ro (pre:=[_]) (k:=rC (h:=uu (b:=b) hb hbl (i:=1) (a:=3) Y19 Y19) (k:=rh [4] (k:=rB (k:=rs (k:=rg [4] (k:=rR (k:=?_))))))))))
  refine jO 1 ?_;rotate_left
 any_goals
  refine jI 2 ?_
  refine rr (k:=ro (pre:=[_,_,_]) (k:=rC (h:=zbz (b:=b.drop 2) (hb.drop 2) Yk hq (.inr Yk)) (k:=rh [4] (k:=rB (k:=rs (k:=rg [4] (k:=rR (k:=?_))))))))
  refine jO 1 ?_;rotate_left
 any_goals
  refine jI 3 ?_
  refine rr (k:=ro (pre:=[_]) (k:=rC (h:=UY (b:=b.drop 2) (hb.drop 2) Yk) (k:=rh [4] (k:=rB (k:=rs (k:=rg [4] (k:=rR (k:=?_))))))))
  refine jO 1 ?_;rotate_left
 any_goals
  refine jI 1 ?_
  refine Ret.pure (r':=(XR b q).pv) (by simp only [Tryz.f146,go_sem,↓reduceIte]<;>rfl) ?_ (zS _ _) hwf Y34 ⟨rfl,rfl⟩
  refine jO 6 ?_;rotate_left
 any_goals
  refine jI 6 ?_
  simp only [PV.weak,PV.weaks,zA,zf,zB]
  refine jO 7 ?_;rotate_left
 any_goals
  refine jI 7 ?_
  clear hxx hlT hxw hxs hn3 hn5 H hwf hb hl hbl hx8 hx
  refine jO 8 ?_;rotate_left
 any_goals
  refine jI 8 ?_
  simp only [decide_eq_true_eq,decide_eq_false_iff_not] at *
  refine jO 9 ?_;rotate_left
 any_goals
  refine jI 9 ?_
  first
   |(exfalso;omega)
   |(simp only [XR,hg0,Rep.pv,hy0,if_pos hc0,if_pos hl1];rfl)
   |(simp only [XR,hg0,Rep.pv];simp [*,xl];done)
   |(have n0:¬ 128≤x:=by omega
     simp only [XR,hg0,Rep.pv];simp [*,xl];done)
   |(have n1:1<b.length:=by omega
     simp only [XR,hg0,Rep.pv];simp [*,xl];done)
   |(have n1:¬ 1<b.length:=by omega
     simp only [XR,hg0,Rep.pv];simp [*,xl];done)
   | skip
attribute [local go_sem] zf Req.pv Rep.pv
set_option maxRecDepth 100000 in
theorem zfH {R:Rep} {q:Req} (hA:R.code=0→¬ (R.fn≤2∧¬ (R.bits.length:Int)=q.count∨(R.fn=3∨R.fn=4∨R.fn=23)∧¬ (R.vals.length:Int)=q.count)) {s:St}:za Tryz.prog 147 [R.pv,q.pv] s (fun r s'=>r=.bool true∧s'=s):=by
 refine go Tryz.func147 (k:=fun hwf H=>?_)
 refine rs (k:=rg [2,3] (k:=rs (k:=rs (k:=rg [2,3,7] (k:=rc (ht:=fun hc0=>?_) (hf:=fun hc0=>?_))))))
 refine jO 1 ?_;rotate_left
 refine rk (k:=rs (k:=rs (k:=rg [2,3,9] (k:=rb (k:=rs (k:=rs (k:=rg [2,3,9,10] (k:=rc (ht:=fun hc1=>?_) (hf:=fun hc1=>?_)))))))))
 refine rk (k:=rc (ht:=fun hc2=>?_) (hf:=fun hc2=>?_))
 refine jO 1 ?_;rotate_left
 ·exact zjm
 refine rg [2,3,9,10] (k:=rc (ht:=fun hc2=>?_) (hf:=fun hc2=>?_))
 refine jO 1 ?_;rotate_left
 refine rs (k:=rs (k:=rg [2,3,9,19] (k:=rc (ht:=fun hc3=>?_) (hf:=fun hc3=>?_))))
 refine rk (k:=rc (ht:=fun hc5=>?_) (hf:=fun hc5=>?_))
 refine jO 1 ?_;rotate_left
 ·exact Bool.noConfusion (hc3.symm.trans hc5)
 refine rs (k:=rg [2,3,9,19] (k:=rc (ht:=fun hc4=>?_) (hf:=fun hc4=>?_)))
 refine rk (k:=rc (ht:=fun hc5=>?_) (hf:=fun hc5=>?_))
 refine jO 1 ?_;rotate_left
 ·exact znD
 refine rg [2,3,19] (k:=rc (ht:=fun hc5=>?_) (hf:=fun hc5=>?_))
 refine jO 1 ?_;rotate_left
 refine rk (k:=rB (k:=rs (k:=rg [4] (k:=rR (k:=rP (by simp only [Tryz.f147,go_sem];rfl) hwf ⟨?_,rfl⟩)))))
 refine jO 2 ?_;rotate_left
 any_goals
  refine jI 1 ?_
  refine rs (k:=rg [4] (k:=rR (k:=rP (by simp only [Tryz.f147,go_sem];rfl) hwf ⟨?_,rfl⟩)))
  refine jO 2 ?_;rotate_left
 any_goals
  refine jI 2 ?_
  refine congrArg PV.bool ?_
  refine jO 3 ?_;rotate_left
 any_goals
  refine jI 3 ?_
  first
   | rfl
   |(simp only [Bool.not_eq_true',Bool.not_eq_false',Bool.or_eq_true,Bool.or_eq_false_iff,decide_eq_true_eq,decide_eq_false_iff_not] at *
     have:=hA Y18
     first
     | omega
     |(clear H;omega))
attribute [local go_sem] zf Req.pv
theorem zpA {p:Prop} (h:p:=by simp only [PV.weak,PV.weaks,Rep.pv,zA,zf,zB]):p:=h
set_option maxRecDepth 100000 in
theorem zbd {R:Rep} {q:Req} (hf:Yn R q) (h127:1≤q.fn∧q.fn≤127) (hR:R.ok) (hq:q.ok) {s:St}:za Tryz.prog 133 [.sl .unk ((yO R).map (PV.int .u8)),q.pv] s (fun r s'=>r=.tuple [R.pv,.int .i64 0]∧s'=s):=by
 refine go Tryz.func133 (k:=fun hwf H=>?_)
 have hgd:=hf.good
 have hbe:yO R=yK R:=if_pos hgd
 have hgs:XR (yO R) q=R:=by rw [hbe];exact zky hf h127 hR.vals
 have hbo:OkB (yO R):=uD hR
 have hbl:(yO R).length≤300:=by rw [hbe];exact zb0 hgd
 obtain ⟨x,l,hxl,_,_⟩:=VF hf h127
 have hx0:(yO R)[0]? =some x:=by rw [hxl];rfl
 have hxh:x=if ¬ R.code=0 then R.fn+128 else R.fn:=by have:=Vo (R:=R);rw [← hbe,hx0] at this;exact this
 have hfn:=hf.fn
 have hlt:0<(yO R).length:=by rw [hxl];simp
 have hxx:((yO R).map (PV.int .u8))[0]? =some (.int .u8 x):=by rw [List.getElem?_map,hx0];rfl
 have hlT:(0<(yO R).length)=True:=eq_true hlt
 have hx8:U8 x:=hbo x (List.mem_of_getElem? hx0)
 have hxw:IntKind.i64.wrap x=x:=zi zeC
 have hxs:IntKind.i64.wrap (x-128)=x-128:=zi zeC
 have hl0:decide (((yO R).length:Int)=0)=false:=decide_eq_false Y18
 have hf0:decide (q.fn<0)=false:=decide_eq_false Y18
 have hgz:decide (yg R=0)=true:=decide_eq_true hgd
 have hbl2:(yO R).length<140737488355328:=Y18
 have H:=aj hxx (aj hlT (aj hxw (aj hxs (aj hl0 (aj hf0 (aj hgz H))))))
 refine rs (k:=rg [0,3,4] (k:=rs (k:=rb (k:=rs (k:=rg [0,3,4,9] (k:=rc (ht:=fun hc0=>?_) (hf:=fun hc0=>?_)))))))
 ·cases hc0
 refine rs (k:=?_)
 refine Run.drawC [] [0,3,4,14] Tryz.mixed Y22 ?_
 refine zj.pre (pre:=[_,_,_,_]) au ?_
 refine zj.gdo au au ?_
 refine zj.gdo au au ?_
 refine zj.gdo au au ?_
 refine zj.gdo au au ?_
 refine zj.gdo au au ?_
 refine zj.gdo au au ?_
 refine zj.gdo au au ?_
 refine zj.gdo au au ?_
 rcases hd11:(!decide (x=q.fn)) with _ | _
 have H:=aj hd11 H
 refine zj.gskip' au ?_
 refine zj.gskip' au ?_
 refine zj.gskip' au ?_
 refine zj.gskip' au ?_
 refine zj.gskip' au ?_
 refine zj.gskip' au ?_
 refine zj.gskip' au ?_
 refine zj.gskip' au ?_
 refine jO 1 ?_;rotate_left
 have H:=aj hd11 H
 have hx1:decide (x-128=q.fn)=true:=decide_eq_true (by have h0:¬ x=q.fn:=(by simpa using hd11);split at hxh<;>omega)
 have H:=aj hx1 H
 refine zj.gdo au au ?_
 refine zj.gdo au au ?_
 refine zj.gdo au au ?_
 refine zj.gdo au au ?_
 refine zj.gdo au au ?_
 refine zj.gdo au au ?_
 refine zj.gdo au au ?_
 refine zj.gdo au au ?_
 refine jO 1 ?_;rotate_left
 any_goals
  refine jI 1 ?_
  refine zj.gdo au au ?_
  refine jO 2 ?_;rotate_left
 any_goals
  refine jI 2 ?_
  refine zj.all au ?_
  refine jO 3 ?_;rotate_left
 any_goals
  refine jI 3 ?_
  refine re (k:=rc (ht:=fun hc1=>?_) (hf:=fun hc1=>?_))
  ·cases hc1
  refine jO 4 ?_;rotate_left
 any_goals
  refine jI 4 ?_
  refine rk (k:=rB (k:=rs (k:=rr (k:=ro (pre:=[_,_]) (k:=?_)))))
  refine jO 5 ?_;rotate_left
 any_goals
  refine jI 5 ?_
  refine zm.callw au au au Y22 ((zeO hbo Y18 hx0 hq.count).mono ?_)
  refine jO 6 ?_;rotate_left
 any_goals
  refine jI 6 ?_
  rintro r s9 ⟨rfl,hs⟩
  refine jO 7 ?_;rotate_left
 any_goals
  refine jI 7 ?_
  subst s9
  refine jO 8 ?_;rotate_left
 any_goals
  refine jI 8 ?_
  rw [hgs]
  refine jO 9 ?_;rotate_left
 any_goals
  refine jI 9 ?_
  refine rh [0,3,4,6] (k:=rs (k:=rs (k:=rr (k:=ro (pre:=[_]) (k:=rC (h:=uG hR) (k:=rh [0,3,4,6,7,8] (k:=rs (k:=rr (k:=ro (pre:=[_,_,_]) (k:=rg1 (k:=rg1 (k:=rC (h:=XW (xs:=yO R) (ys:=yO R) hbl2) (k:=rg1 (k:=ro (pre:=[_,_]) (k:=rg1 (k:=rg1 (k:=rC (h:=zfH hf.cnt) (k:=rg1 (k:=?_)))))))))))))))))))
  refine jO 10 ?_;rotate_left
 any_goals
  refine jI 10 ?_
  refine rh [4,6,59] (k:=rc (ht:=fun hc2=>?_) (hf:=fun hc2=>?_))
  ·cases hc2
  refine jO 11 ?_;rotate_left
 any_goals
  refine jI 11 ?_
  refine rk (k:=rs (k:=rg [4,5] (k:=rR (k:=?_))))
  refine jO 12 ?_;rotate_left
 any_goals
  refine jI 12 ?_
  exact Ret.pure (r':=.tuple [R.pv,.int .i64 0]) (by simp only [Tryz.f133,go_sem,↓reduceIte]<;>rfl) zpA zlJ hwf Y34 ⟨rfl,rfl⟩
end Go.Proofs
namespace Go.Proofs
open Go.PM
set_option maxHeartbeats 2000000
attribute [local go_sem] zf Req.pv
theorem zei {q:Req} (hq:q.ok) {s:St}:za Tryz.prog 116 [q.pv] s (fun r s'=>r=.sl .unk ((yv (zL q)).map (PV.int .u8))∧s'=s):=by
 refine go Tryz.func116 (k:=fun hwf H=>?_)
 have hbo:OkB (zL q):=by unfold zL;split;exact uq hq ‹_›;exact OkB.nil
 have hbl:(zL q).length≤140737488350000:=by
  unfold zL
  split
  ·have:=za7 ‹_›;omega
  ·simp
 refine rs (k:=rg [1] (k:=rs (k:=rr (k:=ro (pre:=[_]) (k:=rC (h:=zde hq) (k:=rh [3] (k:=rs (k:=rr (k:=ro (pre:=[_]) (k:=rC (h:=zcV (a:=17) hbo hbl) (k:=rh [5] (k:=rs (k:=rg [2] (k:=rR (k:=?_)))))))))))))))
 refine Ret.pure (r':=.sl .unk ((yv (zL q)).map (PV.int .u8))) (by simp only [Tryz.f116,go_sem,↓reduceIte]<;>rfl) ?_ Y23 hwf Y34 ⟨rfl,rfl⟩
 simp only [PV.weak,zB]
 rfl
attribute [local go_sem] zf Req.pv Rep.pv
theorem zpp {p:Prop} (h:p:=by simp only [PV.weak,PV.weaks,Rep.pv,zeroP,List.map_nil,zA,zf,zB]<;>rfl):p:=h
theorem zdE {B:List Int} (hB:OkB B) (hl:B.length≤256) {q:Req} (h:¬ (wb B).2=0) {s:St}:za Tryz.prog 117 [.sl .unk (B.map (PV.int .u8)),q.pv] s (fun r s'=>r=.tuple [zeroP.pv,.bool false]∧s'=s):=by
 refine go Tryz.func117 (k:=fun hwf H=>?_)
 have h0:decide ((wb B).2=0)=false:=decide_eq_false h
 have H:=aj h0 H
 refine rs (k:=rg [0,3,4] (k:=rs (k:=rr (k:=ro (pre:=[_]) (k:=rC (h:=Vy hB Y18) (k:=rh [3,4,6,7,8] (k:=rs (k:=rs (k:=rr (k:=ro (pre:=[_,_,_]) (k:=rg0 (k:=rg0 (k:=rh [3,4,7,22] (k:=rc (ht:=fun hc0=>?_) (hf:=fun hc0=>?_)))))))))))))))
 ·refine rs (k:=rg [4,5] (k:=rR (k:=?_)))
  exact Ret.pure (r':=.tuple [zeroP.pv,.bool false]) (by simp only [Tryz.f117,go_sem,↓reduceIte]<;>rfl) zpp zlJ hwf Y34 ⟨rfl,rfl⟩
 ·cases hc0
attribute [local go_sem] zf Req.pv Rep.pv
theorem zdK {R:Rep} {q:Req} (hf:Yn R q) (h127:1≤q.fn∧q.fn≤127) (hR:R.ok) (hq:q.ok) (hl:(yO R).length≤253) {s:St}:za Tryz.prog 117 [.sl .unk ((yv (yO R)).map (PV.int .u8)),q.pv] s (fun r s'=>r=.tuple [R.pv,.bool true]∧s'=s):=by
 refine go Tryz.func117 (k:=fun hwf H=>?_)
 have hbn:yO R≠[]:=by
  obtain ⟨x,l,h,_⟩:=VF hf h127
  rw [h];exact List.cons_ne_nil _ _
 have hrt:wb (yv (yO R))=((17,yO R),0):=zdv hbn hl
 have hB:OkB (yv (yO R)):=Yi (uD hR)
 have hBl:=uB (yO R)
 refine rs (k:=rg [0,3,4] (k:=rs (k:=rr (k:=ro (pre:=[_]) (k:=?_)))))
 refine zm.callw au au au Y22 ((Vy hB Y18).mono ?_)
 rintro r s9 ⟨rfl,hs⟩
 subst s9
 rw [hrt]
 refine rh [3,4,6,7,8] (k:=rs (k:=rs (k:=rr (k:=ro (pre:=[_,_,_]) (k:=rg1 (k:=rg1 (k:=rh [3,4,7,22] (k:=rc (ht:=fun hc0=>?_) (hf:=fun hc0=>?_)))))))))
 ·cases hc0
 ·refine rk (k:=rs (k:=rr (k:=ro (pre:=[_,_]) (k:=rC (h:=zbd hf h127 hR hq) (k:=rh [4,9,10] (k:=rs (k:=rg [4,5] (k:=rR (k:=?_)))))))))
  exact Ret.pure (r':=.tuple [R.pv,.bool true]) (by simp only [Tryz.f117,go_sem,↓reduceIte]<;>rfl) zpp zlJ hwf Y34 ⟨rfl,rfl⟩
theorem zfr {q:Req} (h127:1≤q.fn∧q.fn≤127) (hq:q.ok) {D D':Dev} {f:Int} {B:List Int} {g:Option Rep} (h:zkZ q D f B D' g) {s:St}:za Tryz.prog 117 [.sl .unk (B.map (PV.int .u8)),q.pv] s (fun r s'=>r=.tuple [(g.getD zeroP).pv,.bool g.isSome]∧s'=s):=by
 rcases h.g with ⟨rfl,h1,_⟩ | ⟨R,rfl,h1,h2,h4,h3,_⟩
 ·exact zdE h.b h.bl h1
 ·rw [h4]
  exact zdK h1 h127 h2 hq h3
theorem Ul {q:Req} (hq:q.ok) (hr:zD q=0):∀ (k:Nat) (F:List Int) (D:Dev),D.ok→(yW q k F D).2.2.1.ok∧(yW q k F D).2.2.1.c0.length=D.c0.length∧(yW q k F D).1.ok
 | 0,F,D,h=>⟨h,rfl,yS _ _⟩
 | k+1,F,D,h=>by
   have hd:=zk7 h hq
   unfold yW
   split
   ·exact ⟨hd.1,hd.2,Vm h hq⟩
   ·split
    ·exact ⟨h,rfl,yS _ _⟩
    ·split
     ·exact Ul hq hr k F.tail D h
     ·have:=Ul hq hr k F.tail (doF D q).2 hd.1
      exact ⟨this.1,this.2.1.trans hd.2,this.2.2⟩
structure zel (q:Req) (F0:List Int) (D0:Dev) (i:Nat) (F:List Int) (D:Dev):Prop where
 le:i≤3
 ok:D.ok
 ff:∀ f∈F,0≤f∧f≤4
 ln:F.length≤1000
 rep:(yW q 3 F0 D0).1=(yW q (3-i) F D).1
 bad:(yW q 3 F0 D0).2.1=(yW q (3-i) F D).2.1+i
 dev:(yW q 3 F0 D0).2.2=(yW q (3-i) F D).2.2
 len:D.c0.length=D0.c0.length
theorem zkm {F:List Int} (h:∀ f∈F,0≤f∧f≤4):0≤F.headD 0∧F.headD 0≤4:=by
 cases F with
 | nil=>decide
 | cons f L=>exact h f Y71
theorem zel.next {q:Req} {F0:List Int} {D0:Dev} {i:Nat} {F:List Int} {D:Dev} (h:zel q F0 D0 i F D) (hi:i<3) {B:List Int} {D':Dev} {g:Option Rep} (ht:zkZ q D (F.headD 0) B D' g) :
  (g=none→zel q F0 D0 (i+1) F.tail D')∧(∀ R,g=some R→(yW q 3 F0 D0)=(R,i,D',F.tail)):=by
 obtain ⟨k,hk⟩:∃ k,3-i=k+1:=⟨2-i,Y18⟩
 have h1:=h.rep
 have h2:=h.bad
 have h3:=h.dev
 rw [hk] at h1 h2 h3
 have hff:∀ f∈F.tail,0≤f∧f≤4:=fun f hf=>h.ff f (List.mem_of_mem_tail hf)
 have hln:F.tail.length≤1000:=by rw [List.length_tail];have:=h.ln;omega
 rcases ht.g with ⟨rfl,_,e0,e4,hD'⟩ | ⟨R,rfl,_,_,_,_,hc⟩
 ·refine ⟨fun _=>?_,fun R e=>Y17⟩
  have e:yW q (k+1) F D=((yW q k F.tail D').1,(yW q k F.tail D').2.1+1,(yW q k F.tail D').2.2):=by
   show (if F.headD 0=0 then _ else if F.headD 0=4 then _ else _)=_
   rw [if_neg e0,if_neg e4,← hD']
  rw [e] at h1 h2 h3
  have hk2:3-(i+1)=k:=Y18
  exact ⟨Y18,ht.ok,hff,hln,by rw [hk2];exact h1,by rw [hk2];rw [h2];dsimp only;omega,by rw [hk2];exact h3,ht.len.trans h.len⟩
 ·refine ⟨fun e=>Y17,fun R' e=>?_⟩
  cases e
  have e:yW q (k+1) F D=(R,0,D',F.tail):=by
   show (if F.headD 0=0 then _ else if F.headD 0=4 then _ else _)=_
   rcases hc with ⟨c1,c2,c3⟩ | ⟨c1,c2,c3⟩
   ·rw [if_pos c1,c2,c3]
   ·rw [if_neg (by rw [c1];decide),if_pos c1,c2,c3]
  rw [e] at h1 h2 h3
  exact Prod.ext h1 (Prod.ext (by rw [h2];dsimp only;omega) h3)
attribute [local go_sem] zf ye Rep.pv
end Go.Proofs
namespace Go.Proofs
open Go.PM
set_option maxHeartbeats 2000000
def Wt (fr:List Int) (tn tick:Int) (i k:Nat):List Snt:=(List.range' i k).map fun (j:Nat)=>⟨tick+4*(j:Int),tn,fr⟩
theorem zbb (fr:List Int) (tn tick:Int) (k:Nat):Wt fr tn tick 0 (k+1)=Wt fr tn tick 0 k++[⟨tick+4*(k:Int),tn,fr⟩]:=by
 unfold Wt
 rw [List.range'_concat,List.map_append,Nat.zero_add,Nat.one_mul]
 rfl
theorem zcP (fr:List Int) (tn tick:Int) (k:Nat):(Wt fr tn tick 0 k).length=k:=by simp [Wt]
theorem zgJ {fr:List Int} {tn tick:Int} {k:Nat} {x:Snt} (h:x∈Wt fr tn tick 0 k):x.data=fr:=by
 simp only [Wt,List.mem_map] at h
 obtain ⟨_,_,rfl⟩:=h
 rfl
theorem Fr4.nw {b n ln:Nat} {ns ns':Nat→Option Nat} {s s':St} (h:Fr4 b n ln ns ns' s s') (x:Blk):Fr4 b n ln ns ns' s (s'.new x):=by
 have:=h.nx
 exact ⟨Nat.le_succ_of_le h.nx,fun j q1 q2 q3 q4=>by rw [zg Y18];exact h.same j q1 q2 q3 q4,h.new⟩
theorem Fr4.hi {b n ln r:Nat} {ns ns':Nat→Option Nat} {s s':St} (h:Fr4 b n ln ns ns' s s') (hr:s.nxt≤r) (x:Option Blk):Fr4 b n ln ns ns' s (s'.set r x) :=
 ⟨h.nx,fun j q1 q2 q3 q4=>by rw [zd Y18];exact h.same j q1 q2 q3 q4,h.new⟩
theorem Ln4.istok {ty d ln c i j:Nat} {FS:Nat→List Int} {l:List Snt} {ns:Nat→Option Nat} {s:St} (h:Ln4 ty d ln c FS l ns s) (hi:ns i=some j):∃ L,s.blk j=some (.tok L):=by
 obtain ⟨xs,st,h1,h2,h3,h4⟩:=h.row
 by_cases g:i<4
 ·obtain ⟨x,_,k⟩:=h3 i g
  rw [hi] at k
  exact ⟨_,k.2.1⟩
 ·exact zqg
theorem Ln4.hi {ty d ln c r:Nat} {FS:Nat→List Int} {l:List Snt} {ns:Nat→Option Nat} {s:St} (h:Ln4 ty d ln c FS l ns s) (hr:c≤r) (hb:∀ L,s.blk r≠some (.tok L)) (x:Option Blk):Ln4 ty d ln c FS l ns (s.set r x) :=
 h.keep (Nat.le_refl _) fun j _ hj=>zd (by
  have:=h.hc
  rcases hj with rfl | ⟨i,hi⟩
  ·omega
  ·rintro rfl
   obtain ⟨L,e⟩:=h.istok hi
   exact hb L e)
theorem Ln4.other {ty d ln c b n j t:Nat} {vs:List PV} {FS:Nat→List Int} {l:List Snt} {ns n':Nat→Option Nat} {s s':St} (h:Ln4 ty d ln c FS l ns s) (f:Fr4 b n ln ns n' s s') (hb:s.blk j=some (.row t vs)) (h1:j<s.nxt) (h2:j≠ln) (h3:¬ (b≤j∧j<n)):s'.blk j=some (.row t vs):=by
 rw [f.same j h1 h2 h3 fun i hi=>absurd hb (h.notrow hi)];exact hb
theorem zkl {α:Type} (F:Nat→α) (k:Nat):upF F k (F k)=F:=by
 funext i
 by_cases e:i=k
 ·rw [e,wE]
 ·exact xC e
theorem zlp {FS:Nat→List Int} {T:Nat} (hT:T<4) (F:List Int):WF (upF FS T F) (T:Int)=F.headD 0:=by
 unfold WF
 rw [if_pos Y18]
 show (upF FS T F T).headD 0=_
 rw [wE]
theorem zi3 {FS:Nat→List Int} {T:Nat} (hT:T<4) (F:List Int):Va (upF FS T F) (T:Int)=upF FS T F.tail:=by
 unfold Va
 rw [if_pos Y18]
 show upF (upF FS T F) T (upF FS T F T).tail=_
 rw [wE]
 funext i
 by_cases e:i=T
 ·rw [e,wE,wE]
 ·rw [xC e,xC e,xC e]
theorem FOk.up {FS:Nat→List Int} (h:FOk FS) (T:Nat) {F:List Int} (h1:F.length≤1000) (h2:∀ f∈F,0≤f∧f≤4):FOk (upF FS T F):=by
 intro i
 by_cases e:i=T
 ·rw [e,wE];exact ⟨h1,h2⟩
 ·rw [xC e];exact h i
def Zo (q:Req) (FS:Nat→List Int) (T:Nat) (l:List Snt) (tick:Int) (D:Dev):Rep × Nat × Dev × (Nat→List Int) × List Snt :=
 if zD q=0 then ((yW q 3 (FS T) D).1,(yW q 3 (FS T) D).2.1,(yW q 3 (FS T) D).2.2.1,upF FS T (yW q 3 (FS T) D).2.2.2,l++Wt (yv (zL q)) T tick 0 (min ((yW q 3 (FS T) D).2.1+1) 3)) else (zE q.fn 3,0,D,FS,l)
attribute [local go_sem] zf ye Req.pv Rep.pv
set_option maxRecDepth 100000 in
theorem zeK {b ln c T:Nat} {FS:Nat→List Int} {l:List Snt} {ns:Nat→Option Nat} {D:Dev} {s:St} (h:Ln4 86 (b+5) ln c FS l ns s) (hA:zK b D s) (hD:D.ok) (hbl:b+5<ln) (hF:FOk FS) (hT4:T<4) (hl:l.length≤90000) {q:Req} (hq:q.ok) (hr:zD q=0) (hln:(yF q).length≤253) {tick:Int} (ht:0≤tick∧tick≤1099511627776) :
  za Tryz.prog 98 [.ptr ln 0 0,.int .i64 (T:Int),.int .i64 tick,q.pv] s (fun r s'=>r=.tuple [(Zo q FS T l tick D).1.pv,.int .i64 (Zo q FS T l tick D).2.1]∧∃ ns',Ln4 86 (b+5) ln c (Zo q FS T l tick D).2.2.2.1 (Zo q FS T l tick D).2.2.2.2 ns' s'∧zK b (Zo q FS T l tick D).2.2.1 s'∧Fr4 b (b+6) ln ns ns' s s'):=by
 refine go Tryz.func98 (k:=fun hwf H=>?_)
 have hne:yF q≠[]:=List.cons_ne_nil _ _
 have hbw:zL q=yF q:=xj hr
 have hfo:OkB (yv (zL q)):=Yi (by rw [hbw];exact uq hq hr)
 have hfl:=uB (zL q)
 have hfp:0<(yv (zL q)).length:=by rw [hbw,Wg hne hln,wr];omega
 obtain ⟨fr,hfr⟩:∃ y,yv (zL q)=y:=⟨_,rfl⟩
 rw [hfr] at hfo hfl hfp
 have h127:=zdH hr
 have hz:decide ((fr.length:Int)=0)=false:=decide_eq_false Y18
 have hc1:=h.hc
 have hc2:=h.nx
 have hFT:=hF T
 have H:=aj hz H
 refine rs (k:=rg [0,1,2,7,8] (k:=rs (k:=rr (k:=ro (pre:=[_]) (k:=?_)))))
 refine zm.callw au au au Y22 ((zei hq).mono ?_)
 rintro r s9 ⟨rfl,hs⟩
 subst s9
 rw [hfr]
 refine rh [0,1,2,7,8,10] (k:=rs (k:=rs (k:=rr (k:=ro (pre:=[_,_,_]) (k:=rg1 (k:=rg1 (k:=rg1 (k:=rh [0,1,2,7,8,10,22] (k:=rc (ht:=fun hc0=>?_) (hf:=fun hc0=>?_))))))))))
 ·cases hc0
 ·have hc:=hc0
  refine rk (k:=rs (k:=rs (k:=rg [0,1,2,7,8,10,26] (k:=rb (k:=?_)))))
  refine Run.loop (fun e s'=>∃ (i:Nat) (D1:Dev) (F1:List Int) (l1:List Snt) (n1:Nat→Option Nat),e=[(0,.ptr ln 0 0),(1,.int .i64 (T:Int)),(2,.int .i64 tick),(7,.ptr s.nxt 0 0),(8,.ptr (s.nxt+1) 0 0),(10,.sl .unk (fr.map (PV.int .u8))),(26,.int .i64 (i:Int))]∧zel q (FS T) D i F1 D1∧l1=l++Wt fr T tick 0 i∧Ln4 86 (b+5) ln c (upF FS T F1) l1 n1 s'∧zK b D1 s'∧Fr4 b (b+6) ln ns n1 s s'∧s.nxt+2≤s'.nxt∧s'.blk s.nxt=some (.row 47 [q.pv])∧s'.blk (s.nxt+1)=some (.row 52 [.agg [.int .i64 0,.int .i64 0,.int .i64 0,.int .i64 0,.int .i64 0,.sl .nil [],.sl .nil [],.int .u16 0,.int .u16 0,.sl .nil []]])) (fun e s'=>3-xB e 26) ?_ ?_
  ·exact ⟨0,D,FS T,_,ns,rfl,⟨Y19,hD,hFT.2,hFT.1,rfl,rfl,rfl,rfl⟩,(List.append_nil _).symm,by rw [zkl];exact (h.nw _).nw _,(hA.nw Y18 _).nw Y96 _,((Fr4.refl _ _ _ _ _).nw _).nw _,Nat.le_refl _,Y41,Y41⟩
  rintro e S0 ⟨i,D1,F1,l1,n1,rfl,hTr,hl1,hL,hA1,hO,hx0,hq0,hz0⟩
  have hll1:l1.length=l.length+i:=by rw [hl1,List.length_append,zcP]
  have hi3':=hTr.le
  have hF1:=hF.up T hTr.ln hTr.ff
  have H:=aj hq0 (aj hz0 H)
  refine rs (k:=rg [0,1,2,7,8,10,26,27] (k:=rs (k:=rc (ht:=fun hc1=>?_) (hf:=fun hc1=>?_))))
  ·have hc:=hc1
   refine rk (k:=rs (k:=rb (k:=rs (k:=rg [0,1,2,7,8,10,11,26] (k:=rs (k:=?_))))))
   have hi3:i<3:=Y79
   obtain ⟨B,D',g,hT⟩:=zl9 hq hr hTr.ok (zkm hTr.ff) hln
   have hN:=hTr.next hi3 hT
   have hsd:=hT.snd
   rw [hfr,← zlp (FS:=FS) hT4] at hsd
   have hw4:IntKind.i64.wrap ((i:Int)*4)=(i:Int)*4:=zi Y18
   have hwt:IntKind.i64.wrap (tick+(i:Int)*4)=tick+4*(i:Int):=Y24
   have hwi:IntKind.i64.wrap ((i:Int)+1)=((i+1:Nat):Int):=Y24
   refine Run.reserve ?_
   obtain ⟨r9,hr9⟩:∃ r,r=S0.nxt:=⟨_,rfl⟩
   obtain ⟨S,hS⟩:∃ S,S=S0.new .res:=⟨_,rfl⟩
   have hSr:S.blk r9=some .res:=by rw [hS,hr9];exact zN
   have hSx:S.nxt=r9+1:=by rw [hS,hr9];rfl
   have hSL:Ln4 86 (b+5) ln c (upF FS T F1) l1 n1 S:=by rw [hS];exact hL.nw _
   have hSD:zK b D1 S:=by rw [hS];exact hA1.nw Y18 _
   have hSO:Fr4 b (b+6) ln ns n1 s S:=by rw [hS];exact hO.nw _
   have hSq:S.blk s.nxt=some (.row 47 [q.pv]):=by rw [hS,zg Y18];exact hq0
   have hSz:S.blk (s.nxt+1)=some (.row 52 [.agg [.int .i64 0,.int .i64 0,.int .i64 0,.int .i64 0,.int .i64 0,.sl .nil [],.sl .nil [],.int .u16 0,.int .u16 0,.sl .nil []]]):=by rw [hS,zg Y18];exact hz0
   rw [← hS]
   clear hS
   obtain ⟨S9,n9',hsnd,hL9,hD9,hO9,hr99⟩:=zfD (r:=r9) (tick:=tick+4*(i:Int)) hSL hSD hTr.ok hbl hF1 Y18 hfo Y18 Y18 Y18 hSr hsd hT.len
   rw [zi3 hT4] at hL9
   have h9x:=hO9.nx
   have h9q:=hSL.other hO9 hSq Y18 Y18 Y18
   have h9z:=hSL.other hO9 hSz Y18 Y18 Y18
   have hsn0:=hsnd (some .res)
   rw [YC hSr,YC hr99] at hsn0
   have nr1:(s.nxt=r9)=False:=eq_false Y18
   have nr2:(s.nxt+1=r9)=False:=eq_false Y18
   have nr3:(r9=s.nxt+1)=False:=eq_false Y18
   have H:=aj hw4 (aj hwt (aj hwi (aj hSq (aj hSz (aj h9q (aj h9z (aj nr1 (aj nr2 (aj nr3 H)))))))))
   refine rH 16 [7,13,14] [[false,false,false],[true,false,false],[false,true,false],[true,true,false],[true,true,true]] [S,S9,(S.set r9 (some (.row 52 [.agg [.int .i64 0,.int .i64 0,.int .i64 0,.int .i64 0,.int .i64 0,.sl .nil [],.sl .nil [],.int .u16 0,.int .u16 0,.sl .nil []]]))),(S9.set r9 (some (.row 52 [.agg [.int .i64 0,.int .i64 0,.int .i64 0,.int .i64 0,.int .i64 0,.sl .nil [],.sl .nil [],.int .u16 0,.int .u16 0,.sl .nil []]]))),(S9.set r9 (some (.row 52 [(g.getD zeroP).pv])))] Tryz.mixed (k:=?_)
   refine dP [0,2] (pre:=[_,_,_,_,_,_,_]) (k:=?_)
   refine dX (v:=.sl .unk (B.map (PV.int .u8))) [(0,1),(2,3)] (h:=by intro q hq;simp only [List.mem_cons,List.not_mem_nil,or_false] at hq;rcases hq with rfl | rfl;exact hsn0;exact hsnd _) (k:=?_)
   refine dP [0,1,2,3] (pre:=[_]) (k:=?_)
   refine dC [1,3] (h:=fun s _=>zfr h127 hq hT) (k:=?_)
   refine dP [1,3,4] (pre:=[_,_,_]) (k:=?_)
   refine zO.resAlloc (id:=r9) [(0,2),(1,3)] _ Y22 pq au rfl (by rw [Tryz.zp52]<;>rfl) (by intro q hq;simp only [List.mem_cons,List.not_mem_nil,or_false] at hq;rcases hq with rfl | rfl<;>exact ⟨by assumption,rfl⟩) ?_
   refine dE [(3,4)] (k:=?_)
   refine dA [4] (k:=rl [0,1,2,7,8,10,11,12,13,26] (k:=rs (k:=rg [0,1,2,7,8,10,11,12,26,42] (k:=rc (ht:=fun hc2=>?_) (hf:=fun hc2=>?_)))))
   ·have hc:=hc2
    refine rs (k:=rg [8,9] (k:=rR (k:=?_)))
    obtain ⟨R,hgR⟩:∃ R,g=some R:=by cases g with | none=>simp at hc2 | some R=>exact ⟨R,rfl⟩
    have hN2:=hN.2 R hgR
    have hm3:min (i+1) 3=i+1:=Y18
    have n9:∀ L,S9.blk r9≠some (.tok L):=fun L=>by rw [hr99];intro e;cases e
    refine Ret.allW (r':=.tuple [R.pv,.int .i64 (i:Int)]) (by simp only [Tryz.f98,go_sem,↓reduceIte]<;>rfl) (by rw [hgR];simp only [Option.getD_some,PV.weak,PV.weaks,Rep.pv,zA,zf,zB]) ?_
    unfold Zo
    rw [if_pos hr,hN2]
    dsimp only
    refine ⟨rfl,n9',?_,(hD9.sv Y18 _).sv Y18 _,((hSO.trans hO9).hi Y18 _).hi Y18 _⟩
    rw [hm3,zbb,← List.append_assoc,hfr,← hl1]
    exact (hL9.hi Y18 n9 _).hi Y18 (fun L=>by rw [zd Y18,h9z];intro e;cases e) _
   ·have hc:=hc2
    refine rk (k:=rB (k:=rg [0,1,2,7,8,10,26] (k:=?_)))
    have hgn:g=none:=by cases g with | none=>rfl | some R=>simp at hc2
    refine Run.lp ⟨⟨i+1,D',F1.tail,_,n9',rfl,hN.1 hgn,by rw [zbb,← List.append_assoc,← hl1],(hL9.hi Y18 (fun L=>by rw [hr99];intro e;cases e) _),hD9.sv Y18 _,((hSO.trans hO9).hi Y18 _),by show s.nxt+2≤S9.nxt;omega,?_,?_⟩,?_⟩
    ·rw [zd Y18];exact h9q
    ·rw [zd Y18];exact h9z
    ·exact Y29
  ·have hc:=hc1
   refine rX (k:=rs (k:=rr (k:=ro (pre:=[_,_]) (k:=rC (h:=yf hq.fn Y20) (k:=rh [8,9] (k:=rR (k:=?_)))))))
   obtain rfl:i=3:=zgP
   have k1:(yW q 3 (FS T) D).1=zE q.fn 11:=hTr.rep
   have k2:(yW q 3 (FS T) D).2.1=0+3:=hTr.bad
   have k3:(yW q 3 (FS T) D).2.2=(D1,F1):=hTr.dev
   refine Ret.allW (r':=.tuple [(zE q.fn 11).pv,.int .i64 3]) (by simp only [Tryz.f98,go_sem,↓reduceIte]<;>rfl) zpA ?_
   unfold Zo
   rw [if_pos hr,k1,k2,k3]
   dsimp only
   refine ⟨rfl,n1,?_,hA1.sv Y18 _,hO.hi Y18 _⟩
   rw [show min (0+3+1) 3=3 from rfl,hfr,← hl1]
   exact hL.hi Y18 (fun L=>by rw [hz0];intro e;cases e) _
attribute [local go_sem] zf ye Req.pv Rep.pv
end Go.Proofs
namespace Go.Proofs
open Go.PM
set_option maxHeartbeats 2000000
theorem XL {w:Win} {s:St}:za Tryz.prog 124 [w.pv] s (fun r s'=>r=w.v.pv∧s'=s):=by
 refine go Tryz.func124 (k:=fun hwf H=>?_)
 refine rs (k:=rg [1,2] (k:=rs (k:=rg [2] (k:=rR (k:=rP (by simp only [Tryz.f124,go_sem];rfl) hwf ⟨?_,rfl⟩)))))
 rfl
theorem zac {w:Win} {s:St}:za Tryz.prog 154 [w.pv] s (fun r s'=>r=w.p.pv∧s'=s):=by
 refine go Tryz.func154 (k:=fun hwf H=>?_)
 refine rs (k:=rg [1,2] (k:=rs (k:=rg [2] (k:=rR (k:=rP (by simp only [Tryz.f154,go_sem];rfl) hwf ⟨?_,rfl⟩)))))
 rfl
theorem Win.ok.v {w:Win} (h:w.ok):w.v.ok:=⟨h.virt,h.cnt⟩
theorem Win.ok.p {w:Win} (h:w.ok):w.p.ok:=⟨h.phys,h.cnt⟩
theorem zed {w:Win} (hw:w.ok) {s:St}:za Tryz.prog 136 [w.pv] s (fun r s'=>r=.bool (yj w)∧s'=s):=by
 refine go Tryz.func136 (k:=fun hwf H=>?_)
 refine rs (k:=rg [1] (k:=rs (k:=rr (k:=ro (pre:=[_,_,_,_,_,_,_,_,_]) (k:=rQ 11 (ht:=fun hg8=>?_) (hf:=fun hg8=>?_))))))
 refine rg1 (k:=rC (h:=XL (w:=w)) (k:=rC (h:=WU (a:=w.v) (most:=65536) hw.v Y19) (k:=ro (pre:=[_,_]) (k:=rQ 16 (ht:=fun hg13=>?_) (hf:=fun hg13=>?_)))))
 refine rg1 (k:=rC (h:=zac (w:=w)) (k:=rC (h:=WU (a:=w.p) (most:=512) hw.p Y19) (k:=rh [2] (k:=rR (k:=rP (by simp only [Tryz.f136,go_sem];rfl) hwf ⟨?_,rfl⟩)))))
 refine jO 1 ?_;rotate_left
 refine jO 2 ?_;rotate_left
 refine rg0 (k:=rg0 (k:=rg0 (k:=ro (pre:=[_,_]) (k:=rQ 16 (ht:=fun hg13=>?_) (hf:=fun hg13=>?_)))))
 ·cases hg13
 refine jO 2 ?_;rotate_left
 any_goals
  refine jI 2 ?_
  refine rg0 (k:=rg0 (k:=rg0 (k:=rh [2] (k:=rR (k:=rP (by simp only [Tryz.f136,go_sem];rfl) hwf ⟨?_,rfl⟩)))))
  refine jO 1 ?_;rotate_left
 any_goals
  refine jI 1 ?_
  have e:yj w=(decide (0≤w.space)&&decide (w.space≤3)&&zM w.v 65536&&zM w.p 512):=by simp [yj]
  refine jO 3 ?_;rotate_left
 any_goals
  refine jI 3 ?_
  rw [e]
  refine jO 4 ?_;rotate_left
 any_goals
  refine jI 4 ?_
  first
   |(rw [show (decide (0≤w.space)&&decide (w.space≤3))=true from hg8,show zM w.v 65536=true from hg13];simp [PV.weak])
   |(rw [show (decide (0≤w.space)&&decide (w.space≤3))=true from hg8,show zM w.v 65536=false from hg13];rfl)
   |(rw [show (decide (0≤w.space)&&decide (w.space≤3))=false from hg8];rfl)
end Go.Proofs
namespace Go.Proofs
open Go.PM
set_option maxHeartbeats 2000000
theorem Slt.ok.sp {s:Slt} (h:s.ok):s.sp.ok:=⟨h.pos,h.len⟩
theorem znK {p:Prop} (h:p:=by simp only [PV.blw];exact ⟨fun t z e=>Y17,Wf _ _⟩):p:=h
theorem zk0 {xs:List Win} {s:St}:za Tryz.prog 77 [.sl .unk (xs.map Win.pv)] s (fun r s'=>r=.sl .unc (xs.map Win.pv)∧s'=s):=by
 refine go Tryz.func77 (k:=fun hwf H=>?_)
 have hfull:(xs.map Win.pv).take xs.length=xs.map Win.pv:=by rw [← List.length_map (f:=Win.pv),List.take_length]
 have H:=aj hfull H
 refine rs (k:=rg [0] (k:=rs (k:=rg [2] (k:=rR (k:=?_)))))
 refine Ret.pureK (r:=.sl .unc (xs.map Win.pv)) au znK hwf (fun _ _=>rfl) ⟨rfl,rfl⟩
theorem zpx {p:Prop} (h:p:=by simp only [PV.blw];exact ⟨fun t z e=>Y17,Uw _ _⟩):p:=h
theorem zlc {xs:List Slt} {s:St}:za Tryz.prog 79 [.sl .unk (xs.map Slt.pv)] s (fun r s'=>r=.sl .unc (xs.map Slt.pv)∧s'=s):=by
 refine go Tryz.func79 (k:=fun hwf H=>?_)
 have hfull:(xs.map Slt.pv).take xs.length=xs.map Slt.pv:=by rw [← List.length_map (f:=Slt.pv),List.take_length]
 have H:=aj hfull H
 refine rs (k:=rg [0] (k:=rs (k:=rg [2] (k:=rR (k:=?_)))))
 refine Ret.pureK (r:=.sl .unc (xs.map Slt.pv)) au zpx hwf (fun _ _=>rfl) ⟨rfl,rfl⟩
theorem zkF {xs:List Ten} {s:St}:za Tryz.prog 81 [.sl .unk (xs.map Ten.pv)] s (fun r s'=>r=.sl .unc (xs.map Ten.pv)∧s'=s):=by
 refine go Tryz.func81 (k:=fun hwf H=>?_)
 have hfull:(xs.map Ten.pv).take xs.length=xs.map Ten.pv:=by rw [← List.length_map (f:=Ten.pv),List.take_length]
 have H:=aj hfull H
 refine rs (k:=rg [0] (k:=rs (k:=rg [2] (k:=rR (k:=?_)))))
 refine Ret.pureK (r:=.sl .unc (xs.map Ten.pv)) au (by simp only [PV.blw];exact ⟨fun t z e=>Y17,Un _ _⟩) hwf (fun _ _=>rfl) ⟨rfl,rfl⟩
theorem zb2 {s:St}:za Tryz.prog 78 [.sl .nil []] s (fun r s'=>r=.sl .unk []∧s'=s):=by
 refine go Tryz.func78 (k:=fun hwf H=>?_)
 refine rs (k:=rg [0] (k:=rs (k:=rs (k:=rg [0,4] (k:=rc (ht:=fun hc0=>?_) (hf:=fun hc0=>?_))))))
 ·refine rs (k:=rg [2] (k:=rR (k:=rP (by simp only [Tryz.f78,go_sem];rfl) hwf ⟨?_,rfl⟩)))
  rfl
 ·cases hc0
theorem zb5 {xs:List Win} (hb:xs.length*32≤140737488355328) {s:St}:za Tryz.prog 78 [.sl .any (xs.map Win.pv)] s (fun r s'=>r=.sl .unk (xs.map Win.pv)∧s'=s):=by
 refine go Tryz.func78 (k:=fun hwf H=>?_)
 refine rs (k:=rg [0] (k:=rs (k:=rs (k:=rg [0,4] (k:=rc (ht:=fun hc0=>?_) (hf:=fun hc0=>?_))))))
 ·cases hc0
 ·refine rk (k:=rs (k:=rr (k:=rO (k:=ro (pre:=[_]) (k:=?_)))))
  refine zm.grow' au au au Tryz.td25 (by rw [Tryz.zp59];rfl) zfz (zp (P:=Tryz.prog) (e:=59) (f:=Win.pv) (fun a=>⟨rfl,by rw [Tryz.cz59];rfl⟩) _) (by rw [Tryz.by59];decide) (by rw [Tryz.by59];simp;omega) (.inr (.inl (.inl rfl))) ?_
  intro k1 s1 hgr htm
  refine rh [2] (k:=rR (k:=?_))
  refine Ret.pure (by simp only [Tryz.f78,go_sem]<;>rfl) (r':=.sl .unk (xs.map Win.pv)) (by rw [PV.weak,uA]) znK hwf Y82 ⟨?_,rfl⟩
  ·rfl
theorem zjt {xs:List Win} (hb:xs.length*32≤140737488355328) {s:St}:za Tryz.prog 78 [.sl .unk (xs.map Win.pv)] s (fun r s'=>r=.sl .unk (xs.map Win.pv)∧s'=s) :=
 za.unk1 (fun h=>by rw [h];exact zb2) (zb5 hb)
theorem zcb {s:St}:za Tryz.prog 80 [.sl .nil []] s (fun r s'=>r=.sl .unk []∧s'=s):=by
 refine go Tryz.func80 (k:=fun hwf H=>?_)
 refine rs (k:=rg [0] (k:=rs (k:=rs (k:=rg [0,4] (k:=rc (ht:=fun hc0=>?_) (hf:=fun hc0=>?_))))))
 ·refine rs (k:=rg [2] (k:=rR (k:=rP (by simp only [Tryz.f80,go_sem];rfl) hwf ⟨?_,rfl⟩)))
  rfl
 ·cases hc0
theorem zcy {xs:List Slt} (hb:xs.length*16≤140737488355328) {s:St}:za Tryz.prog 80 [.sl .any (xs.map Slt.pv)] s (fun r s'=>r=.sl .unk (xs.map Slt.pv)∧s'=s):=by
 refine go Tryz.func80 (k:=fun hwf H=>?_)
 refine rs (k:=rg [0] (k:=rs (k:=rs (k:=rg [0,4] (k:=rc (ht:=fun hc0=>?_) (hf:=fun hc0=>?_))))))
 ·cases hc0
 ·refine rk (k:=rs (k:=rr (k:=rO (k:=ro (pre:=[_]) (k:=?_)))))
  refine zm.grow' au au au Tryz.td26 (by rw [Tryz.zp117];rfl) zfz (zp (P:=Tryz.prog) (e:=117) (f:=Slt.pv) (fun a=>⟨rfl,by rw [Tryz.cz117];rfl⟩) _) (by rw [Tryz.by117];decide) (by rw [Tryz.by117];simp;omega) (.inr (.inl (.inl rfl))) ?_
  intro k1 s1 hgr htm
  refine rh [2] (k:=rR (k:=?_))
  refine Ret.pure (by simp only [Tryz.f80,go_sem]<;>rfl) (r':=.sl .unk (xs.map Slt.pv)) (by rw [PV.weak,Zx]) zpx hwf Y82 ⟨?_,rfl⟩
  ·rfl
theorem ziY {xs:List Slt} (hb:xs.length*16≤140737488355328) {s:St}:za Tryz.prog 80 [.sl .unk (xs.map Slt.pv)] s (fun r s'=>r=.sl .unk (xs.map Slt.pv)∧s'=s) :=
 za.unk1 (fun h=>by rw [h];exact zcb) (zcy hb)
attribute [local go_sem] zgl
theorem zfZ {p:Prop} (h:p:=by simp only [go_sem,↓reduceIte]):p:=h
theorem zaj {p:Prop} (h:p:=by rw [zt];omega):p:=h
theorem zg6 {t:Tab} (ht:t.ok) {s:St}:za Tryz.prog 51 [t.pv] s (fun r s'=>r=t.pv∧s'=s):=by
 refine go Tryz.func51 (k:=fun hwf H=>?_)
 refine rs (k:=rg [1,2] (k:=rs (k:=rg [1,2,3] (k:=rs (k:=rs (k:=rg [2,3,10,11,12] (k:=rb (k:=?_))))))))
 refine Run.loop (fun e s'=>Fr s s'∧∃ (i:Nat) (k:SK),e=[(2,.ptr (s.nxt+1) 0 0),(3,.ptr (s.nxt+2) 0 0),(10,.sl .unk (t.tens.map Ten.pv)),(11,.int .i64 t.tens.length),(12,.int .i64 i)]∧i≤t.tens.length∧s.nxt+2<s'.nxt∧s'.blk (s.nxt+1)=some (.row 82 [.agg [.int .i64 0,.sl .nil []]])∧s'.blk (s.nxt+2)=some (.row 82 [.agg [.int .i64 t.frame,.sl k ((t.tens.take i).map Ten.pvc)]])∧yA s' k i (Tryz.prog.cellsOf 28)∧(∀ t z,k=.tok t z→s.nxt+2<t∧t<s'.nxt)) (fun e s'=>t.tens.length-xB e 12) ?_ ?_
 ·exact ⟨(((Fr.refl hwf).new _).new _).newset _ _ rfl,0,.nil,rfl,Y18,by simp only [go_sem];omega,zfZ,by simp only [go_sem,↓reduceIte,Nat.add_assoc,Nat.reduceAdd],.inl ⟨rfl,rfl⟩,Y71⟩
 rintro e s1 ⟨F1,i,k,rfl,hi,hsn,hR,hO,hgr,htk⟩
 refine rs (k:=rg [2,3,10,11,12,13] (k:=rs (k:=rc (ht:=fun hc0=>?_) (hf:=fun hc0=>?_))))
 ·refine rk (k:=rs (k:=rb (k:=rs (k:=?_))))
  have hil:i<t.tens.length:=Y83
  have hbt:=ht.bt
  obtain ⟨x,hxe⟩:∃ z_,t.tens[i]'hil=z_:=⟨_,rfl⟩
  have hxx:(t.tens.map Ten.pv)[i]? =some (.agg [.int .i64 (x).unit,.int .u32 (x).fns,.int .i64 (x).queue,.sl .unk ((x).wins.map Win.pv),.sl .unk ((x).slts.map Slt.pv)]):=zhw
  have hw:IntKind.i64.wrap ((i:Int)+1)=((i+1:Nat):Int):=Y24
  have hxok:x.ok:=by rw [← hxe];exact ht.tens _ (List.getElem_mem _)
  have hXn:(s.nxt+2=s1.nxt)=False:=eq_false Y18
  have hXn1:(s.nxt+1=s1.nxt)=False:=eq_false Y18
  have htl:(t.tens.take i).length=i:=Yk
  have H:=aj hxx (aj hw (aj hO (aj hXn (aj hXn1 H))))
  refine rg [2,3,5,10,11,12] (k:=rs (k:=?_))
  refine Run.drawC [9,11] [2,3,5,10,11,12] Tryz.mixed Y22 ?_
  refine zj.pre (pre:=[_,_]) au ?_
  refine zj.call au au au Y22 (zjt (xs:=x.wins) (by have:=hxok.bw;omega)) ?_
  refine zj.call au au au Y22 (zk0 (xs:=x.wins)) ?_
  refine zj.pre (pre:=[_,_]) au ?_
  refine zj.call au au au Y22 (ziY (xs:=x.slts) (by have:=hxok.bs;omega)) ?_
  refine zj.call au au au Y22 (zlc (xs:=x.slts)) ?_
  refine zj.pre (pre:=[_]) au ?_
  refine zj.eff Y19 au au ?_
  refine zj.pre (pre:=[_]) au ?_
  refine zj.eff Y19 au au ?_
  refine zj.nil ?_
  refine re (k:=?_)
  have hgr2:yA (s1.new (.row 28 [.agg [.int .i64 (x).unit,.int .u32 (x).fns,.int .i64 (x).queue,.sl .unc ((x).wins.map Win.pv),.sl .unc ((x).slts.map Slt.pv)]])) k (t.tens.take i).length (Tryz.prog.cellsOf 28):=by
   rw [htl]
   exact hgr.mono fun t ht=>by
    rw [YN,if_neg (by have:=(htk t _ ht).2;omega)]
  refine rr (k:=ro (pre:=[_,_,_]) (k:=rO (k:=?_)))
  refine zm.grow au au au Tryz.td80 (by rw [Tryz.zp28];rfl) (zp (fun a=>⟨rfl,by rw [Tryz.cz28];rfl⟩) _) (zp (f:=Ten.pvc) (fun a=>⟨rfl,by rw [Tryz.cz28];rfl⟩) [x]) (by rw [Tryz.by28];decide) (by rw [Tryz.by28];simp;omega) (by rw [List.length_map];exact hgr2) Y71 ?_
  intro k' s2 hgr' htm
  have hn2:=htm.nxt
  rw [zq] at hn2
  have hO2:s2.blk (s.nxt+2)=some (.row 82 [.agg [.int .i64 t.frame,.sl k ((t.tens.take i).map Ten.pvc)]]):=by
   rw [htm.rest _ (by rw [zq];omega) (fun z e=>hgr.ne e _ hO Y71 rfl),YN,if_neg Y18];exact hO
  have hR2:s2.blk (s.nxt+1)=some (.row 82 [.agg [.int .i64 0,.sl .nil []]]):=by
   rw [htm.rest _ (by rw [zq];omega) (fun z e=>hgr.ne e _ hR Y71 rfl),YN,if_neg Y18];exact hR
  have H:=aj hO2 (aj hR2 H)
  refine rh [2,3,10,11,12] (k:=rB (k:=rg [2,3,10,11,12] (k:=?_)))
  rw [List.length_map,htl] at hgr'
  refine Run.lp ⟨⟨((F1.new _).tm htm (fun t z e=>by have:=htk t z e;omega)).set Y18 Y18 _,i+1,k',rfl,Y18,zaj,?_,?_,?_,fun t' z e=>?_⟩,?_⟩
  ·rw [wd,if_neg Y18];exact hR2
  ·rw [wd,if_pos rfl,xn hil,hxe,List.map_append];rfl
  ·refine (show yA s2 k' (i+1) _ from hgr').mono fun t' ht=>?_
   rw [wd,if_neg (hgr'.ne ht _ hO2 Y71)]
  ·rw [zt]
   rcases htm.fresh t' z e with ⟨z2,h⟩ | ⟨h1,h2⟩
   ·have:=htk t' z2 h;omega
   ·rw [zq] at h1;omega
  ·exact Y29
 ·refine rX (k:=rs (k:=?_))
  have hi2:i=t.tens.length:=Y30
  have htl:t.tens.take i=t.tens:=by rw [hi2,List.take_length]
  have H:=aj hO (aj hR H)
  refine rr (k:=ro (pre:=[_,_]) (k:=rC (h:=zkF (xs:=t.tens.take i)) (k:=rh [2,3] (k:=rs (k:=rg [2] (k:=rR (k:=?_)))))))
  refine Ret.pure (r':=t.pv) (by simp only [Tryz.f51,go_sem,↓reduceIte,htl]<;>rfl) ?_ (zic _ _) hwf ((F1.set Y18 Y18 _).set Y18 zaj _).blk ⟨rfl,rfl⟩
  simp only [Tab.pv,PV.weak,PV.weaks,WP]
end Go.Proofs
namespace Go.Proofs
open Go.PM
set_option maxHeartbeats 2000000
attribute [local go_sem] zgV
theorem zl5 {p:Prop} (h:p:=by simp only [List.forall_mem_cons];exact ⟨Y18,Y18,Y71⟩):p:=h
theorem znO {p:Prop} (h:p:=by rw [K1.fr.blk tp hlt,wd,if_pos rfl]):p:=h
theorem zop {p:Prop} (h:p:=by simp only [go_sem,↓reduceIte,htN]):p:=h
theorem zp8 {p:Prop} (h:p:=by simp only [Blk.blw,PV.blws];exact ⟨zkq _ _,trivial⟩):p:=h
set_option maxRecDepth 100000 in
theorem zd9 {T:Tp} (hT:T.ok) {i:Nat} (hi:i≤3) {s:St} {tp:Nat} (hb:s.blk tp=some (.row 67 [T.pv])):za Tryz.prog 50 [.ptr tp 0 0,.int .i64 i] s (fun r s'=>∃ (ws:List Win) (T':Tp),r=.sl .unk (ws.map Win.pv)∧s'=s.set tp (some (.row 67 [T'.pv]))∧T'.ok∧zkL i ws):=by
 refine go Tryz.func50 (k:=fun hwf H=>?_)
 have hlt:tp<s.nxt:=xN hwf hb
 have hs0:s.set tp (some (.row 67 [T.pv]))=s:=St.set_self hb
 have hw128:IntKind.i64.wrap (128*(i:Int))=128*(i:Int):=zi Y18
 have hFt:(s.nxt=tp)=False:=eq_false Y18
 have hVt:(s.nxt+1=tp)=False:=eq_false Y18
 have htF:(tp=s.nxt)=False:=eq_false Y18
 have htV:(tp=s.nxt+1)=False:=eq_false Y18
 have H:=aj hw128 (aj hFt (aj hVt (aj htF (aj htV H))))
 refine rs (k:=rg [0,1] (k:=rs (k:=rg [0,1,5] (k:=rs (k:=rg [0,5,6] (k:=rs (k:=rg [0,5,6,7] (k:=rs (k:=rs (k:=rr (k:=ro (pre:=[_]) (k:=?_))))))))))))
 refine zm.callw au au au Y22 ((yI hT (n:=6) (by simp only [go_sem,htF,htV,↓reduceIte];exact hb)).mono ?_)
 rintro r s2 ⟨rfl,hs⟩
 subst s2
 refine rh [0,5,6,7,8] (k:=rb (k:=?_))
 refine Run.loop (fun e s'=>∃ (T1:Tp) (c:Nat) (m:Int) (ws:List Win) (fr vi:List Int) (kk:SK),e=[(0,.ptr tp 0 0),(5,.sl kk (ws.map Win.pv)),(6,.ptr s.nxt 0 0),(7,.ptr (s.nxt+1) 0 0),(8,.int .i64 m)]∧T1.ok∧Kp (s.set tp (some (.row 67 [T1.pv]))) s' [(s.nxt+1,.row 145 [.agg ((vi).map (PV.int .i64))]),(s.nxt,.row 145 [.agg ((fr).map (PV.int .i64))])]∧zdZ i c ws fr vi∧yA s' kk ws.length 4∧(∀ t z,kk=.tok t z→s.nxt+1<t∧t<s'.nxt)∧ -1≤m∧c+m≤5) (fun e s'=>zit e 8) ?_ ?_
 ·have K0:Kp (s.set tp (some (.row 67 [(T.nx 6).pv]))) ((((s.new (.row 145 [.agg [.int .i64 (128*(i:Int)),.int .i64 (128*(i:Int)),.int .i64 (128*(i:Int)),.int .i64 (128*(i:Int))]])).new (.row 145 [.agg [.int .i64 0,.int .i64 0,.int .i64 0,.int .i64 0]])).set (s.nxt+1) (some (.row 145 [.agg [.int .i64 0,.int .i64 0,.int .i64 0,.int .i64 0]]))).set tp (some (.row 67 [(T.nx 6).pv]))) [(s.nxt+1,.row 145 [.agg [.int .i64 0,.int .i64 0,.int .i64 0,.int .i64 0]]),(s.nxt,.row 145 [.agg [.int .i64 (128*(i:Int)),.int .i64 (128*(i:Int)),.int .i64 (128*(i:Int)),.int .i64 (128*(i:Int))]])]:=by
   have h0:Kp (s.set tp (some (.row 67 [T.pv]))) (((s.new (.row 145 [.agg [.int .i64 (128*(i:Int)),.int .i64 (128*(i:Int)),.int .i64 (128*(i:Int)),.int .i64 (128*(i:Int))]])).new (.row 145 [.agg [.int .i64 0,.int .i64 0,.int .i64 0,.int .i64 0]])).set (s.nxt+1) (some (.row 145 [.agg [.int .i64 0,.int .i64 0,.int .i64 0,.int .i64 0]]))) [(s.nxt+1,.row 145 [.agg [.int .i64 0,.int .i64 0,.int .i64 0,.int .i64 0]]),(s.nxt,.row 145 [.agg [.int .i64 (128*(i:Int)),.int .i64 (128*(i:Int)),.int .i64 (128*(i:Int)),.int .i64 (128*(i:Int))]])]:=by
    rw [hs0]
    exact ((Kp.nil (Fr.refl hwf)).push _).pushset _ _ rfl
   exact h0.setbase hlt zl5 _
  have hv6:=T.val_bound (n:=6) Y19
  have hgr0:yA s .nil 0 4:=.inl ⟨rfl,rfl⟩
  refine ⟨T.nx 6,0,T.val 6,[],[128*(i:Int),128*i,128*i,128*i],[0,0,0,0],.nil,rfl,hT.nx 6,K0,zdZ.first i,.inl ⟨rfl,rfl⟩,fun t z e=>Y17,Y18,Y18⟩
 rintro e s1 ⟨T1,c,m,ws,fr,vi,kk,rfl,hT1,K1,WI,hgr,htk,hm1,hcm⟩
 refine rs (k:=rs (k:=rg [0,5,6,7,8,24] (k:=rc (ht:=fun hc0=>?_) (hf:=fun hc0=>?_))))
 ·refine rk (k:=rs (k:=rb (k:=rs (k:=?_))))
  have hT1b:s1.blk tp=some (.row 67 [T1.pv]):=znO
  have hm0:0≤m:=of_decide_eq_true hc0
  obtain ⟨u,hu,hue⟩:=T1.val_nat (n:=6) Y19
  have hue:T1.val 6=(u:Int):=hue
  obtain ⟨hsp,hk4⟩:=zmE (v:=u) Y18
  obtain ⟨k,hke⟩:∃ k,spL u=k:=⟨_,rfl⟩
  rw [hke] at hsp hk4
  have H:=aj hue (aj hsp H)
  refine rr (k:=rO (k:=ro (pre:=[_]) (k:=?_)))
  refine zm.callw au au au Y22 ((yI hT1 (n:=6) hT1b).mono ?_)
  rintro r s2 ⟨rfl,hs⟩
  subst s2
  refine rh [0,5,6,7,8,9] (k:=rs (k:=?_))
  obtain ⟨x,hx,hxe⟩:=(T1.nx 6).val_nat (n:=4) Y19
  have hxe:(T1.nx 6).val 4=(x:Int):=hxe
  obtain ⟨hg4,hg0,hg5⟩:=zoh (u:=x) Y18
  obtain ⟨n3,hn3e⟩:∃ y,((T1.nx 6).nx 4).val 3=y:=⟨_,rfl⟩
  have hn3:=((T1.nx 6).nx 4).val_bound (n:=3) Y19
  rw [hn3e] at hn3
  obtain ⟨n18,hn18e⟩:∃ y,(((T1.nx 6).nx 4).nx 3).val 18=y:=⟨_,rfl⟩
  have hn18:=(((T1.nx 6).nx 4).nx 3).val_bound (n:=18) Y19
  rw [hn18e] at hn18
  have hfb:=WI.fb k hk4
  have hvb:=WI.vb k hk4
  have hfl:=WI.fl
  have hvl:=WI.vl
  have hd:∀ p∈([(s.nxt+1,.row 145 [.agg ((vi).map (PV.int .i64))]),(s.nxt,.row 145 [.agg ((fr).map (PV.int .i64))])]:List (Nat × Blk)),p.1≠tp:=by
   intro p hp
   simp only [List.mem_cons,List.not_mem_nil,or_false] at hp
   rcases hp with rfl | rfl<;>simp only<;>omega
  have hdV:((vi.map (PV.int .i64)).drop k).head? =some (.int .i64 (gD vi k)):=zh5 Y18
  have hdF:((fr.map (PV.int .i64)).drop k).head? =some (.int .i64 (gD fr k)):=zh5 Y18
  have hw1:IntKind.i64.wrap (gD vi k+g4 x)=gD vi k+g4 x:=zi Y18
  have hw2:IntKind.i64.wrap (gD fr k+n3)=gD fr k+n3:=zi Y18
  have hw3:IntKind.i64.wrap (1+n18)=1+n18:=zi Y18
  have hk40:((k:Int)<4)=True:=eq_true Y18
  have hV:s1.blk (s.nxt+1)=some (.row 145 [.agg ((vi).map (PV.int .i64))]):=K1.hd
  have hF:s1.blk s.nxt=some (.row 145 [.agg ((fr).map (PV.int .i64))]):=K1.tl.hd
  have htN':tp≠s1.nxt:=by have:=K1.tl.lt;simp only at this;omega
  have htN:(tp=s1.nxt)=False:=eq_false htN'
  have hFs:(s.nxt=s1.nxt)=False:=eq_false (by have:=K1.tl.lt;omega)
  have hVs:(s.nxt+1=s1.nxt)=False:=K1.ne 0
  have H:=aj hxe (aj hg4 (aj hn3e (aj hn18e (aj hfl (aj hvl (aj hdV (aj hdF (aj hw1 (aj hw2 (aj hw3 (aj hk40 (aj hk4 (aj hV (aj hF (aj hFs (aj hVs (aj htN H)))))))))))))))))
  refine Run.drawG 21 [6,14,17] 20 (fun s=>s.new (.row 59 [.agg [.int .i64 0,.int .i64 0,.int .i64 0,.int .i64 0]])) [(s1.set tp (some (.row 67 [(T1.nx 6).pv]))),((s1.set tp (some (.row 67 [(T1.nx 6).pv]))).set tp (some (.row 67 [((T1.nx 6).nx 4).pv]))),(((s1.set tp (some (.row 67 [(T1.nx 6).pv]))).set tp (some (.row 67 [((T1.nx 6).nx 4).pv]))).set tp (some (.row 67 [(((T1.nx 6).nx 4).nx 3).pv]))),((((s1.set tp (some (.row 67 [(T1.nx 6).pv]))).set tp (some (.row 67 [((T1.nx 6).nx 4).pv]))).set tp (some (.row 67 [(((T1.nx 6).nx 4).nx 3).pv]))).set tp (some (.row 67 [((((T1.nx 6).nx 4).nx 3).nx 18).pv])))] Tryz.mixed Y22 Y22 Y19 Y19 ?_
  refine xI.pre (pre:=[_,_,_,_,_,_]) Y19 List.mem_cons_self au ?_
  refine xI.callE Y19 List.mem_cons_self au au au Y22 (yI (hT1.nx 6) (n:=4) zfZ) ((yI (hT1.nx 6) (n:=4) zop).new_set (by simp only [go_sem];exact htN')) ?_
  refine xI.pre (pre:=[_,_,_,_,_,_,_]) Y19 (List.mem_cons_of_mem _ List.mem_cons_self) au ?_
  refine xI.callE Y19 (List.mem_cons_of_mem _ List.mem_cons_self) au au au Y22 (yI ((hT1.nx 6).nx 4) (n:=3) zfZ) ((yI ((hT1.nx 6).nx 4) (n:=3) zop).new_set (by simp only [go_sem];exact htN')) ?_
  refine xI.pre (pre:=[_,_]) Y19 (List.mem_cons_of_mem _ (List.mem_cons_of_mem _ List.mem_cons_self)) au ?_
  refine xI.callE Y19 (List.mem_cons_of_mem _ (List.mem_cons_of_mem _ List.mem_cons_self)) au au au Y22 (yI (((hT1.nx 6).nx 4).nx 3) (n:=18) zfZ) ((yI (((hT1.nx 6).nx 4).nx 3) (n:=18) zop).new_set (by simp only [go_sem];exact htN')) ?_
  refine xI.pre (pre:=[_,_]) Y19 (List.mem_cons_of_mem _ (List.mem_cons_of_mem _ (List.mem_cons_of_mem _ List.mem_cons_self))) au ?_
  refine xI.alloc (v:=.ptr s1.nxt 0 0) Y19 (List.mem_cons_of_mem _ (List.mem_cons_of_mem _ (List.mem_cons_of_mem _ List.mem_cons_self))) au au ?_
  refine xI.nil (List.mem_cons_of_mem _ (List.mem_cons_of_mem _ (List.mem_cons_of_mem _ List.mem_cons_self))) ?_
  refine rh [0,5,6,7,8,9,10] (k:=rs (k:=?_))
  obtain ⟨sB,hsB⟩:∃ y,((((((s1.set tp (some (.row 67 [(T1.nx 6).pv]))).set tp (some (.row 67 [((T1.nx 6).nx 4).pv]))).set tp (some (.row 67 [(((T1.nx 6).nx 4).nx 3).pv]))).set tp (some (.row 67 [((((T1.nx 6).nx 4).nx 3).nx 18).pv]))).new (.row 59 [.agg [.int .i64 0,.int .i64 0,.int .i64 0,.int .i64 0]])).set s1.nxt (some (.row 59 [.agg [.int .i64 (k:Int),.int .i64 (gD vi k+g4 x),.int .i64 (gD fr k+n3),.int .i64 (1+n18)]])))=y:=⟨_,rfl⟩
  have KA:=(((K1.setbase (b':=(some (.row 67 [(T1.nx 6).pv]))) hlt hd).setbase (b':=(some (.row 67 [((T1.nx 6).nx 4).pv]))) hlt hd).setbase (b':=(some (.row 67 [(((T1.nx 6).nx 4).nx 3).pv]))) hlt hd).setbase (b':=(some (.row 67 [((((T1.nx 6).nx 4).nx 3).nx 18).pv]))) hlt hd
  have KB:Kp (s.set tp (some (.row 67 [((((T1.nx 6).nx 4).nx 3).nx 18).pv]))) sB [(s1.nxt,.row 59 [.agg [.int .i64 (k:Int),.int .i64 (gD vi k+g4 x),.int .i64 (gD fr k+n3),.int .i64 (1+n18)]]),(s.nxt+1,.row 145 [.agg ((vi).map (PV.int .i64))]),(s.nxt,.row 145 [.agg ((fr).map (PV.int .i64))])]:=by
   rw [← hsB]
   exact KA.pushset _ _ rfl
  rw [hsB]
  have hBV:sB.blk (s.nxt+1)=some (.row 145 [.agg ((vi).map (PV.int .i64))]):=KB.tl.hd
  have hBF:sB.blk s.nxt=some (.row 145 [.agg ((fr).map (PV.int .i64))]):=KB.tl.tl.hd
  have hBW:sB.blk s1.nxt=some (.row 59 [.agg [.int .i64 (k:Int),.int .i64 (gD vi k+g4 x),.int .i64 (gD fr k+n3),.int .i64 (1+n18)]]):=KB.hd
  have hWV:(s1.nxt=s.nxt+1)=False:=eq_false (by have:=K1.lt;omega)
  have hWF:(s1.nxt=s.nxt)=False:=eq_false (by have:=K1.lt;omega)
  have hw4:IntKind.i64.wrap (gD vi k+g4 x+(1+n18))=gD vi k+g4 x+(1+n18):=zi Y18
  have hw5:IntKind.i64.wrap (gD fr k+n3+(1+n18))=gD fr k+n3+(1+n18):=zi Y18
  have hk1:(k+1≤4)=True:=eq_true Y18
  have H:=aj hBV (aj hBF (aj hBW (aj hWV (aj hWF (aj hw4 (aj hw5 (aj hk1 H)))))))
  refine Run.drawM 16 [13,15] [sB,(sB.set (s.nxt+1) (some (.row 145 [.agg ((vi.set k (gD vi k+g4 x+(1+n18))).map (PV.int .i64))]))),((sB.set (s.nxt+1) (some (.row 145 [.agg ((vi.set k (gD vi k+g4 x+(1+n18))).map (PV.int .i64))]))).set s.nxt (some (.row 145 [.agg ((fr.set k (gD fr k+n3+(1+n18))).map (PV.int .i64))])))] Tryz.mixed Y22 Y22 ?_
  refine zG.pre (pre:=[_,_,_,_,_,_,_,_,_,_,_,_,_]) Y19 List.mem_cons_self au ?_
  refine zG.eff Y19 List.mem_cons_self au au ?_
  refine zG.pre (pre:=[_]) Y19 (List.mem_cons_of_mem _ List.mem_cons_self) au ?_
  refine zG.eff Y19 (List.mem_cons_of_mem _ List.mem_cons_self) au au ?_
  refine zG.nil (List.mem_cons_of_mem _ (List.mem_cons_of_mem _ List.mem_cons_self)) ?_
  refine rl [0,5,6,7,8,10] (k:=?_)
  have hwl:=WI.len
  have hc5:c≤5:=Y18
  have hlt1:s.nxt+1<s1.nxt:=K1.lt
  have hnB:sB.nxt=s1.nxt+1:=by rw [← hsB];rfl
  have KC:Kp (s.set tp (some (.row 67 [((((T1.nx 6).nx 4).nx 3).nx 18).pv]))) ((sB.set (s.nxt+1) (some (.row 145 [.agg ((vi.set k (gD vi k+g4 x+(1+n18))).map (PV.int .i64))]))).set s.nxt (some (.row 145 [.agg ((fr.set k (gD fr k+n3+(1+n18))).map (PV.int .i64))]))) [(s.nxt+1,.row 145 [.agg ((vi.set k (gD vi k+g4 x+(1+n18))).map (PV.int .i64))]),(s.nxt,.row 145 [.agg ((fr.set k (gD fr k+n3+(1+n18))).map (PV.int .i64))])]:=((KB.tl.setset (b':=.row 145 [.agg ((vi.set k (gD vi k+g4 x+(1+n18))).map (PV.int .i64))]) Y71 zaj).swap.setset (b':=.row 145 [.agg ((fr.set k (gD fr k+n3+(1+n18))).map (PV.int .i64))]) Y71 zaj).swap
  obtain ⟨sC,hsC⟩:∃ y,((sB.set (s.nxt+1) (some (.row 145 [.agg ((vi.set k (gD vi k+g4 x+(1+n18))).map (PV.int .i64))]))).set s.nxt (some (.row 145 [.agg ((fr.set k (gD fr k+n3+(1+n18))).map (PV.int .i64))])))=y:=⟨_,rfl⟩
  have hnC:sC.nxt=s1.nxt+1:=by rw [← hsC];exact hnB
  have hgr2:yA sC kk ws.length 4:=by
   refine hgr.mono fun t ht=>?_
   have ht:=htk t 4 ht
   have a1:(t=s.nxt)=False:=eq_false Y18
   have a2:(t=s.nxt+1)=False:=eq_false Y18
   have a3:(t=tp)=False:=eq_false Y18
   have a4:(t=s1.nxt)=False:=eq_false Y18
   rw [← hsC,← hsB]
   simp only [go_sem,a1,a2,a3,a4,↓reduceIte]
  have hCW:sC.blk s1.nxt=some (.row 59 [.agg [.int .i64 (k:Int),.int .i64 (gD vi k+g4 x),.int .i64 (gD fr k+n3),.int .i64 (1+n18)]]):=by rw [← hsC];simp only [go_sem,hWV,hWF,↓reduceIte];exact hBW
  rw [hsC] at KC
  rw [hsC]
  have hwm:IntKind.i64.wrap (m-1)=m-1:=zi Y18
  have H:=aj hCW (aj hwm H)
  refine rr (k:=ro (pre:=[_,_]) (k:=rO (k:=?_)))
  refine zm.grow au au au Tryz.td25 (by rw [Tryz.zp59];rfl) (zp (fun a=>⟨rfl,by rw [Tryz.cz59];rfl⟩) _) (zp (f:=Win.pv) (fun a=>⟨rfl,by rw [Tryz.cz59];rfl⟩) [⟨(k:Int),gD vi k+g4 x,gD fr k+n3,1+n18⟩]) (by rw [Tryz.by59];decide) (by rw [Tryz.by59];simp;omega) (by rw [Tryz.cz59,List.length_map];exact hgr2) Y71 ?_
  intro k' s2 hgr' htm
  refine rh [0,5,6,7,8] (k:=rB (k:=rg [0,5,6,7,8] (k:=?_)))
  rw [List.length_map,Tryz.cz59] at hgr'
  refine Run.lp ⟨⟨_,c+1,m-1,ws++[⟨(k:Int),gD vi k+g4 x,gD fr k+n3,1+n18⟩],fr.set k (gD fr k+n3+(1+n18)),vi.set k (gD vi k+g4 x+(1+n18)),k',by rw [List.map_append];rfl,(((hT1.nx 6).nx 4).nx 3).nx 18,KC.tm htm (fun t z e=>?_) (fun p hp z e=>?_),WI.step hk4 ⟨hg0,hg5⟩ ⟨hn3.1,Y18⟩ ⟨hn18.1,Y18⟩,by rw [List.length_append];exact hgr',fun t z e=>?_,Y18,Y18⟩,?_⟩
  ·have:=htk t z e
   rw [zt];omega
  ·have:=htk _ z e
   simp only [List.mem_cons,List.not_mem_nil,or_false] at hp
   rcases hp with rfl | rfl<;>simp only at this<;>omega
  ·have h9:=htm.nxt
   rcases htm.fresh t z e with ⟨z',h⟩ | ⟨h1,h2⟩
   ·have:=htk t z' h;omega
   ·omega
  ·simp only [zit,go_sem,↓reduceIte,Nat.reduceEqDiff]
   omega
 ·refine rX (k:=rs (k:=rg [4] (k:=rR (k:=?_))))
  refine Ret.baseK (r':=.sl .unk (ws.map Win.pv)) tp (.row 67 [T1.pv]) hlt (by simp only [Tryz.f50,go_sem,↓reduceIte]<;>rfl) (by simp only [PV.weak,uA]) (zlr _ _) zp8 hwf K1.fr.blk ⟨ws,T1,rfl,rfl,hT1,WI.good hi Y18⟩
end Go.Proofs
namespace Go.Proofs
open Go.PM
set_option maxHeartbeats 2000000
theorem zhd {p:Prop} (h:p:=by simp only [List.forall_mem_cons];exact ⟨Y18,Y71⟩):p:=h
set_option maxRecDepth 100000 in
theorem zhA {T:Tp} (hT:T.ok) {s:St} {tp:Nat} (hb:s.blk tp=some (.row 67 [T.pv])):za Tryz.prog 24 [.ptr tp 0 0] s (fun r s'=>∃ (t:Tab) (T':Tp),r=t.pv∧s'=s.set tp (some (.row 67 [T'.pv]))∧T'.ok∧vj t=true∧t.few 6):=by
 refine go Tryz.func24 (k:=fun hwf H=>?_)
 have hlt:tp<s.nxt:=xN hwf hb
 have hs0:s.set tp (some (.row 67 [T.pv]))=s:=St.set_self hb
 have hFt:(s.nxt=tp)=False:=eq_false Y18
 have hVt:(s.nxt+1=tp)=False:=eq_false Y18
 have htF:(tp=s.nxt)=False:=eq_false Y18
 have htV:(tp=s.nxt+1)=False:=eq_false Y18
 have hv4:=T.val_bound (n:=4) Y19
 obtain ⟨n,hne⟩:∃ y,1+T.val 4=y:=⟨_,rfl⟩
 have hwn:IntKind.i64.wrap (1+T.val 4)=n:=by rw [zi Y18,hne]
 have H:=aj hFt (aj hVt (aj htF (aj htV H)))
 refine rs (k:=rg [0,2] (k:=rs (k:=rr (k:=ro (pre:=[_]) (k:=?_)))))
 refine zm.callw au au au Y22 ((yI hT (n:=4) (by simp only [go_sem,htF,↓reduceIte];exact hb)).mono ?_)
 rintro r s9 ⟨rfl,hs⟩
 subst s9
 have H:=aj hwn H
 refine rh [0,2,3] (k:=rs (k:=rg [0,2,3,4] (k:=rs (k:=rr (k:=ro (pre:=[_]) (k:=?_))))))
 refine zm.callw au au au Y22 ((yI (hT.nx 4) (n:=5) (by simp only [go_sem,htV,↓reduceIte])).mono ?_)
 rintro r s9 ⟨rfl,hs⟩
 subst s9
 refine rh [0,2,3,4,5] (k:=rs (k:=rs (k:=rg [0,2,3,4,5,6] (k:=rb (k:=?_)))))
 refine Run.loop (fun e s'=>∃ (T1:Tp) (i:Nat) (lo:Int) (tens:List Ten) (kk:SK),e=[(0,.ptr tp 0 0),(2,.ptr s.nxt 0 0),(3,.int .i64 n),(4,.ptr (s.nxt+1) 0 0),(5,.int .i64 lo),(6,.int .i64 (i:Int))]∧T1.ok∧Kp (s.set tp (some (.row 67 [(T1).pv]))) s' [(s.nxt+1,.row 82 [.agg [.int .i64 0,.sl kk (tens.map Ten.pv)]]),(s.nxt,.row 82 [.agg [.int .i64 0,.sl .nil []]])]∧Um i lo tens∧yA s' kk tens.length (Tryz.prog.cellsOf 28)∧(∀ t z,kk=.tok t z→s.nxt+1<t∧t<s'.nxt)∧(i:Int)≤n) (fun e s'=>n.toNat-xB e 6) ?_ ?_
 ·have K0:Kp (s.set tp (some (.row 67 [(T.nx 4).pv]))) ((s.new (.row 82 [.agg [.int .i64 0,.sl .nil []]])).set tp (some (.row 67 [(T.nx 4).pv]))) [(s.nxt,.row 82 [.agg [.int .i64 0,.sl .nil []]])]:=by
   have h0:Kp (s.set tp (some (.row 67 [(T).pv]))) (s.new (.row 82 [.agg [.int .i64 0,.sl .nil []]])) [(s.nxt,.row 82 [.agg [.int .i64 0,.sl .nil []]])]:=by rw [hs0];exact (Kp.nil (Fr.refl hwf)).push _
   exact h0.setbase hlt zhd _
  have K00:=(K0.push (.row 82 [.agg [.int .i64 0,.sl .nil []]])).setbase (b':=(some (.row 67 [((T.nx 4).nx 5).pv]))) hlt (by simp only [List.forall_mem_cons];exact ⟨by simp only [go_sem];omega,Y18,Y71⟩)
  have hv5:=(T.nx 4).val_bound (n:=5) Y19
  refine ⟨(T.nx 4).nx 5,0,(T.nx 4).val 5,[],.nil,rfl,(hT.nx 4).nx 5,K00,Um.first Y18,.inl ⟨rfl,rfl⟩,fun t z e=>Y17,Y18⟩
 rintro e s1 ⟨T1,i,lo,tens,kk,rfl,hT1,K1,TI,hgr,htk,hin⟩
 refine rs (k:=rs (k:=rg [0,2,3,4,5,6,17] (k:=rc (ht:=fun hc0=>?_) (hf:=fun hc0=>?_))))
 refine rk (k:=rs (k:=rb (k:=rs (k:=?_))))
 have hin:(i:Int)<n:=of_decide_eq_true hc0
 have hi3:i≤3:=Y18
 have hT1b:s1.blk tp=some (.row 67 [T1.pv]):=znO
 have hv3:=T1.val_bound (n:=3) Y19
 have hv2:=(T1.nx 3).val_bound (n:=2) Y19
 have hq4:=((T1.nx 3).nx 2).val_bound (n:=4) Y19
 obtain ⟨u,hu⟩:∃ y,1+T1.val 3+(i:Int)=y:=⟨_,rfl⟩
 have hwu1:IntKind.i64.wrap (1+T1.val 3)=1+T1.val 3:=zi Y18
 have hwu:IntKind.i64.wrap (1+T1.val 3+(i:Int))=u:=by rw [zi Y18,hu]
 obtain ⟨q4,hq⟩:∃ y,1+((T1.nx 3).nx 2).val 4=y:=⟨_,rfl⟩
 have hwq:IntKind.i64.wrap (1+((T1.nx 3).nx 2).val 4)=q4:=by rw [zi Y18,hq]
 have hlt1:s.nxt+1<s1.nxt:=K1.lt
 have htN:(tp=s1.nxt)=False:=eq_false Y18
 have hNt:(s1.nxt=tp)=False:=eq_false Y18
 have htl1:tp<s1.nxt:=Y18
 have hs1:s1.set tp (some (.row 67 [T1.pv]))=s1:=St.set_self hT1b
 have H:=aj hwu1 (aj hwu (aj hwq (aj htN (aj hNt H))))
 refine rr (k:=ro (pre:=[_]) (k:=?_))
 refine zm.callw au au au Y22 ((yI hT1 (n:=3) hT1b).mono ?_)
 rintro r s9 ⟨rfl,hs⟩
 subst s9
 refine ro (pre:=[_,_,_,_]) (k:=?_)
 refine zm.callw au au au Y22 ((yI (hT1.nx 3) (n:=2) zfZ).mono ?_)
 rintro r s9 ⟨rfl,hs⟩
 subst s9
 rw [ye]
 refine ro (pre:=[_,_,_,_]) (k:=?_)
 refine zm.callw au au au Y22 ((yI ((hT1.nx 3).nx 2) (n:=4) zfZ).mono ?_)
 rintro r s9 ⟨rfl,hs⟩
 subst s9
 rw [ye]
 refine ro (pre:=[_,_,_]) (k:=?_)
 refine zm.callw au au au Y22 ((zd9 (((hT1.nx 3).nx 2).nx 4) (i:=i) Y18 zfZ).mono ?_)
 rintro r s9 ⟨wins,T2,rfl,hs,hT2,WG⟩
 subst s9
 rw [ye]
 refine rh [0,2,3,4,5,6,7] (k:=rs (k:=rs (k:=?_)))
 obtain ⟨F0,hF0⟩:∃ y,zR BinOp.or IntKind.u32 12812798 (IntKind.u32.wrap (IntKind.u32.wrap ((T1.nx 3).val 2)*2 ^ min (Int.toNat 9) 32))=y:=⟨_,rfl⟩
 have hU0:U32 F0:=by rw [← hF0];exact zdl _ _ _
 rw [hF0]
 have K8:Kp (s1.set tp (some (.row 67 [(T2).pv]))) (((s1.set tp (some (.row 67 [(T2).pv]))).new (.row 28 [.agg [.int .i64 0,.int .u32 0,.int .i64 0,.sl .nil [],.sl .nil []]])).set s1.nxt (some (.row 28 [.agg [.int .i64 u,.int .u32 F0,.int .i64 q4,.sl .unk (wins.map Win.pv),.sl .nil []]]))) [(s1.nxt,.row 28 [.agg [.int .i64 u,.int .u32 F0,.int .i64 q4,.sl .unk (wins.map Win.pv),.sl .nil []]])] :=
  (Kp.nil (show Fr (s1.set tp (some (.row 67 [(T2).pv]))) (s1.set tp (some (.row 67 [(T2).pv]))) from Fr.refl (K1.setbase hlt zl5 _).fr.wf)).pushset _ _ rfl
 refine rr (k:=ro (pre:=[_]) (k:=?_))
 refine zm.callw au au au Y22 ((yI hT2 (n:=5) (by simp only [go_sem,htN,↓reduceIte])).mono ?_)
 rintro r s9 ⟨rfl,hs⟩
 subst s9
 refine rh [0,2,3,4,5,6,7,39] (k:=?_)
 refine Run.join (fun e s'=>∃ (T2:Tp) (F:Int),e=[(0,.ptr tp 0 0),(2,.ptr s.nxt 0 0),(3,.int .i64 n),(4,.ptr (s.nxt+1) 0 0),(5,.int .i64 lo),(6,.int .i64 (i:Int)),(7,.ptr s1.nxt 0 0)]∧T2.ok∧U32 F∧Kp (s1.set tp (some (.row 67 [(T2).pv]))) s' [(s1.nxt,.row 28 [.agg [.int .i64 u,.int .u32 F,.int .i64 q4,.sl .unk (wins.map Win.pv),.sl .nil []]])]) ?_ ?_
 rintro e s2 ⟨T3,F,rfl,hT3,hF,K2⟩
 refine rs (k:=rs (k:=?_))
 have hT3b:s2.blk tp=some (.row 67 [T3.pv]):=by rw [K2.fr.blk tp zaj,wd,if_pos rfl]
 have hv2':=T3.val_bound (n:=2) Y19
 refine rr (k:=ro (pre:=[_]) (k:=?_))
 refine zm.callw au au au Y22 ((yI hT3 (n:=2) hT3b).mono ?_)
 rintro r s9 ⟨rfl,hs⟩
 subst s9
 refine rh [0,2,3,4,5,6,7,8] (k:=rb (k:=?_))
 refine Run.loop (fun e s'=>∃ (T4:Tp) (c:Nat) (m q:Int) (slts:List Slt) (k:SK),e=[(0,.ptr tp 0 0),(2,.ptr s.nxt 0 0),(3,.int .i64 n),(4,.ptr (s.nxt+1) 0 0),(5,.int .i64 q),(6,.int .i64 (i:Int)),(7,.ptr s1.nxt 0 0),(8,.int .i64 m)]∧T4.ok∧Kp (s1.set tp (some (.row 67 [(T4).pv]))) s' [(s1.nxt,.row 28 [.agg [.int .i64 u,.int .u32 F,.int .i64 q4,.sl .unk (wins.map Win.pv),.sl k (slts.map Slt.pv)]])]∧zfG lo q slts∧yA s' k slts.length (Tryz.prog.cellsOf 117)∧(∀ t z,k=.tok t z→s1.nxt<t∧t<s'.nxt)∧slts.length=c∧ -1≤m∧c+m≤1∧0≤c+m) (fun e s'=>zit e 8) ?_ ?_
 ·refine ⟨T3.nx 2,0,T3.val 2,lo,[],.nil,rfl,hT3.nx 2,K2.setbase htl1 zhd _,zfG.first lo,.inl ⟨rfl,rfl⟩,fun t z e=>Y17,rfl,Y18,Y18,Y18⟩
 rintro e s2 ⟨T4,c,m,q,slts,k,rfl,hT4,K2,SI,hgr2,htk2,hsl,hm1,hcm,hcm0⟩
 refine rs (k:=rs (k:=rg [0,2,3,4,5,6,7,8,49] (k:=rc (ht:=fun hc2=>?_) (hf:=fun hc2=>?_))))
 refine rk (k:=rs (k:=rb (k:=rs (k:=?_))))
 have hT4b:s2.blk tp=some (.row 67 [T4.pv]):=by rw [K2.fr.blk tp zaj,wd,if_pos rfl]
 have hlt2:s1.nxt<s2.nxt:=K2.lt
 have hm0:0≤m:=of_decide_eq_true hc2
 have hv9:=T4.val_bound (n:=9) Y19
 have hv7:=(T4.nx 9).val_bound (n:=7) Y19
 obtain ⟨n9,hn9⟩:∃ y,T4.val 9=y:=⟨_,rfl⟩
 obtain ⟨n7,hn7⟩:∃ y,(T4.nx 9).val 7=y:=⟨_,rfl⟩
 rw [hn9] at hv9
 rw [hn7] at hv7
 have hq1:=SI.lb
 have hq2:=SI.ub
 have hq3:=TI.lo
 have hq5:=TI.hi
 have hw9:IntKind.i64.wrap (72+n9)=72+n9:=zi Y18
 have hwq1:IntKind.i64.wrap (q+(72+n9))=q+(72+n9):=zi Y18
 have hwq2:IntKind.i64.wrap (q+(72+n9)+n7)=q+(72+n9)+n7:=zi Y18
 have hwm:IntKind.i64.wrap (m-1)=m-1:=zi Y18
 have htM:(tp=s2.nxt)=False:=eq_false Y18
 have hMt:(s2.nxt=tp)=False:=eq_false Y18
 have H:=aj hn9 (aj hn7 (aj hw9 (aj hwq1 (aj hwq2 (aj hwm (aj htM (aj hMt H)))))))
 refine rr (k:=ro (pre:=[_,_]) (k:=?_))
 refine zm.callw au au au Y22 ((yI hT4 (n:=9) hT4b).mono ?_)
 rintro r s9 ⟨rfl,hs⟩
 subst s9
 refine rh [0,2,3,4,6,7,8,9] (k:=rs (k:=?_))
 refine Run.drawM 9 [6] [(((s2.set tp (some (.row 67 [(T4.nx 9).pv]))).new (.row 117 [.agg [.int .i64 0,.int .i64 0]])).set s2.nxt (some (.row 117 [.agg [.int .i64 q,.int .i64 (72+n9)]]))),((((s2.set tp (some (.row 67 [(T4.nx 9).pv]))).new (.row 117 [.agg [.int .i64 0,.int .i64 0]])).set s2.nxt (some (.row 117 [.agg [.int .i64 q,.int .i64 (72+n9)]]))).set tp (some (.row 67 [((T4.nx 9).nx 7).pv])))] Tryz.mixed Y22 Y22 ?_
 refine zG.pre (pre:=[_,_,_,_,_,_]) Y19 List.mem_cons_self au ?_
 refine zG.callE Y19 List.mem_cons_self au au au Y22 (yI (hT4.nx 9) (n:=7) (by simp only [go_sem,htM,↓reduceIte])) ?_
 refine zG.all Y19 (List.mem_cons_of_mem _ List.mem_cons_self) au ?_
 refine rl [0,2,3,4,5,6,7,8,9] (k:=?_)
 obtain ⟨sB,hsB⟩:∃ y,((((s2.set tp (some (.row 67 [(T4.nx 9).pv]))).new (.row 117 [.agg [.int .i64 0,.int .i64 0]])).set s2.nxt (some (.row 117 [.agg [.int .i64 q,.int .i64 (72+n9)]]))).set tp (some (.row 67 [((T4.nx 9).nx 7).pv])))=y:=⟨_,rfl⟩
 have KB:Kp (s1.set tp (some (.row 67 [((T4.nx 9).nx 7).pv]))) sB [(s2.nxt,.row 117 [.agg [.int .i64 q,.int .i64 (72+n9)]]),(s1.nxt,.row 28 [.agg [.int .i64 u,.int .u32 F,.int .i64 q4,.sl .unk (wins.map Win.pv),.sl k (slts.map Slt.pv)]])]:=by
  rw [← hsB]
  exact ((K2.setbase (b':=(some (.row 67 [(T4.nx 9).pv]))) htl1 zhd).pushset _ _ rfl).setbase htl1 (by simp only [List.forall_mem_cons];exact ⟨by first | omega |(simp only [go_sem];omega),Y18,Y71⟩) _
 rw [hsB]
 have hBR:sB.blk s1.nxt=some (.row 28 [.agg [.int .i64 u,.int .u32 F,.int .i64 q4,.sl .unk (wins.map Win.pv),.sl k (slts.map Slt.pv)]]):=KB.tl.hd
 have hBS:sB.blk s2.nxt=some (.row 117 [.agg [.int .i64 q,.int .i64 (72+n9)]]):=KB.hd
 have hnB:sB.nxt=s2.nxt+1:=by rw [← hsB];rfl
 have hgr3:yA sB k slts.length (Tryz.prog.cellsOf 117):=by
  refine hgr2.mono fun t ht=>?_
  have ht:=htk2 t _ ht
  have a1:(t=tp)=False:=eq_false Y18
  have a2:(t=s2.nxt)=False:=eq_false Y18
  rw [← hsB]
  simp only [go_sem,a1,a2,↓reduceIte]
 have H:=aj hBR (aj hBS H)
 refine rr (k:=ro (pre:=[_,_,_]) (k:=rO (k:=?_)))
 refine zm.grow au au au Tryz.td26 (by rw [Tryz.zp117];rfl) (zp (fun a=>⟨rfl,by rw [Tryz.cz117];rfl⟩) _) (zp (f:=Slt.pv) (fun a=>⟨rfl,by rw [Tryz.cz117];rfl⟩) [⟨q,72+n9⟩]) (by rw [Tryz.by117];decide) (by rw [Tryz.by117];simp;omega) (by rw [List.length_map];exact hgr3) Y71 ?_
 intro k' s4 hgr' htm
 have KD:=KB.tm htm (fun t z e=>by have:=htk2 t z e;rw [zt];omega) (fun p hp z e=>by have:=htk2 _ z e;simp only [List.mem_cons,List.not_mem_nil,or_false] at hp;rcases hp with rfl | rfl<;>simp only at this<;>omega)
 have hR4:s4.blk s1.nxt=some (.row 28 [.agg [.int .i64 u,.int .u32 F,.int .i64 q4,.sl .unk (wins.map Win.pv),.sl k (slts.map Slt.pv)]]):=KD.tl.hd
 have H:=aj hR4 H
 refine rh [0,2,3,4,5,6,7,8] (k:=rB (k:=rg [0,2,3,4,5,6,7,8] (k:=?_)))
 rw [List.length_map] at hgr'
 refine Run.lp ⟨⟨_,c+1,m-1,q+(72+n9)+n7,slts++[⟨q,72+n9⟩],k',rfl,(hT4.nx 9).nx 7,?_,SI.step ⟨Y18,Y18⟩ ⟨Y18,Y18⟩,?_,fun t z e=>?_,by rw [List.length_append,hsl];rfl,Y18,Y18,Y18⟩,?_⟩
 ·rw [List.map_append]
  exact KD.tl.setset Y71 zaj
 refine jO 1 ?_;rotate_left
 ·rw [zt]
  have h9:=htm.nxt
  rcases htm.fresh t z e with ⟨z',h⟩ | ⟨h1,h2⟩
  ·have:=htk2 t z' h;omega
  ·omega
 ·simp only [zit,go_sem,↓reduceIte,Nat.reduceEqDiff]
  omega
 refine rX (k:=?_)
 have hcc2:¬ 0≤m:=of_decide_eq_false hc2
 have hb2:∀ j,j<s1.nxt→j≠tp→s2.blk j=s1.blk j:=fun j hj hne=>by rw [K2.fr.blk j zaj,wd,if_neg hne]
 have hn2:s1.nxt<s2.nxt:=K2.lt
 have KE:Kp (s.set tp (some (.row 67 [(T4).pv]))) s2 [(s1.nxt,.row 28 [.agg [.int .i64 u,.int .u32 F,.int .i64 q4,.sl .unk (wins.map Win.pv),.sl k (slts.map Slt.pv)]]),(s.nxt+1,.row 82 [.agg [.int .i64 0,.sl kk (tens.map Ten.pv)]]),(s.nxt,.row 82 [.agg [.int .i64 0,.sl .nil []]])]:=(K1.setbase hlt zl5 _).trans K2
 have hE1:s2.blk (s.nxt+1)=some (.row 82 [.agg [.int .i64 0,.sl kk (tens.map Ten.pv)]]):=KE.tl.hd
 have hE2:s2.blk s1.nxt=some (.row 28 [.agg [.int .i64 u,.int .u32 F,.int .i64 q4,.sl .unk (wins.map Win.pv),.sl k (slts.map Slt.pv)]]):=KE.hd
 have hgr4:yA s2 kk tens.length (Tryz.prog.cellsOf 28):=hgr.mono fun t ht=>by
  have:=htk t _ ht
  exact hb2 t this.2 Y18
 have hTl:=TI.len
 have hwi:IntKind.i64.wrap ((i:Int)+1)=((i+1:Nat):Int):=Y24
 have H:=aj hE1 (aj hE2 (aj hwi H))
 refine rr (k:=ro (pre:=[_,_,_]) (k:=?_))
 refine zm.wkE 73 (v:=.agg [.int .i64 ((⟨u,F,q4,wins,slts⟩:Ten)).unit,.int .u32 ((⟨u,F,q4,wins,slts⟩:Ten)).fns,.int .i64 ((⟨u,F,q4,wins,slts⟩:Ten)).queue,.sl .unk (((⟨u,F,q4,wins,slts⟩:Ten)).wins.map Win.pv),.sl .unk (((⟨u,F,q4,wins,slts⟩:Ten)).slts.map Slt.pv)]) (by simp only [go_sem,↓reduceIte,Nat.reduceEqDiff,PV.weak,PV.weaks,uA,Zx]) ?_
 refine rO (k:=?_)
 refine zm.grow au au au Tryz.td80 (by rw [Tryz.zp28];rfl) (zp (fun a=>⟨rfl,by rw [Tryz.cz28];rfl⟩) _) (zp (f:=Ten.pv) (fun a=>⟨rfl,by rw [Tryz.cz28];rfl⟩) [⟨u,F,q4,wins,slts⟩]) (by rw [Tryz.by28];decide) (by rw [Tryz.by28];simp;omega) (by rw [List.length_map];exact hgr4) Y71 ?_
 intro k' s4 hgr' htm
 have KD:=KE.tm htm (fun t z e=>by have:=htk t z e;rw [zt];omega) (fun p hp z e=>by have:=htk _ z e;simp only [List.mem_cons,List.not_mem_nil,or_false] at hp;rcases hp with rfl | rfl | rfl<;>simp only at this<;>omega)
 have hR4:s4.blk (s.nxt+1)=some (.row 82 [.agg [.int .i64 0,.sl kk (tens.map Ten.pv)]]):=KD.tl.hd
 have H:=aj hR4 H
 refine rh [0,2,3,4,5,6] (k:=rB (k:=rg [0,2,3,4,5,6] (k:=?_)))
 rw [List.length_map] at hgr'
 have hs1':=SI.lb
 have hs2':=TI.lo
 have hXG:Wz i q ⟨u,F,q4,wins,slts⟩:=⟨⟨Y70,Y70⟩,hF,⟨Y70,Y70⟩,WG,fun a ha=>by have:=SI.all a ha;omega,⟨Y70,Y70⟩⟩
 refine Run.lp ⟨⟨T4,i+1,q,tens++[⟨u,F,q4,wins,slts⟩],k',rfl,hT4,?_,TI.step hXG SI,?_,fun t z e=>?_,Y18⟩,?_⟩
 ·rw [List.map_append]
  exact KD.tl.setset zhd zaj
 refine jO 1 ?_;rotate_left
 ·rw [zt]
  have h9:=htm.nxt
  rcases htm.fresh t z e with ⟨z',h⟩ | ⟨h1,h2⟩
  ·have:=htk t z' h;omega
  ·omega
 ·exact Y29
 intro hJc1
 refine rc (ht:=fun hc1=>?_) (hf:=fun hc1=>?_)
 ·refine rr (k:=ro (pre:=[_]) (k:=?_))
  refine zm.callw au au au Y22 ((yI (hT2.nx 5) (n:=24) zfZ).mono ?_)
  rintro r s9 ⟨rfl,hs⟩
  subst s9
  refine rh [0,2,3,4,5,6,7] (k:=?_)
  obtain ⟨F1,hF1⟩:∃ y,zR BinOp.or IntKind.u32 65608 (IntKind.u32.wrap (1*2 ^ min (IntKind.u64.wrap ((T2.nx 5).val 24)).toNat 32))=y:=⟨_,rfl⟩
  rw [hF1]
  have hU1:U32 F1:=by rw [← hF1];exact zdl _ _ _
  exact hJc1 _ _ ⟨_,F1,rfl,(hT2.nx 5).nx 24,hU1,((K8.setbase (b':=(some (.row 67 [(T2.nx 5).pv]))) htl1 zhd).setbase (b':=(some (.row 67 [((T2.nx 5).nx 24).pv]))) htl1 zhd).setset Y71 zaj⟩
 ·refine rk (k:=rp [0,2,3,4,5,6,7] (k:=?_))
  exact hJc1 _ _ ⟨_,_,rfl,hT2.nx 5,hU0,K8.setbase htl1 zhd _⟩
 ·refine rX (k:=rs (k:=?_))
  have hT1b:s1.blk tp=some (.row 67 [T1.pv]):=znO
  have hin':¬ (i:Int)<n:=of_decide_eq_false hc0
  have hlt1:s.nxt+1<s1.nxt:=K1.lt
  have hv20:=T1.val_bound (n:=20) Y19
  obtain ⟨n20,hn20⟩:∃ y,T1.val 20=y:=⟨_,rfl⟩
  rw [hn20] at hv20
  have hq3:=TI.lo
  have hq5:=TI.hi
  have hw20:IntKind.i64.wrap (lo+n20)=lo+n20:=zi Y18
  have hE1:s1.blk (s.nxt+1)=some (.row 82 [.agg [.int .i64 0,.sl kk (tens.map Ten.pv)]]):=K1.hd
  have hE0:s1.blk s.nxt=some (.row 82 [.agg [.int .i64 0,.sl .nil []]]):=K1.tl.hd
  have H:=aj hn20 (aj hw20 (aj hE1 (aj hE0 H)))
  refine rr (k:=ro (pre:=[_,_]) (k:=?_))
  refine zm.callw au au au Y22 ((yI hT1 (n:=20) hT1b).mono ?_)
  rintro r s9 ⟨rfl,hs⟩
  subst s9
  refine rh [2,4] (k:=rs (k:=rg [2] (k:=rR (k:=?_))))
  have KF:=(((K1.setbase (b':=(some (.row 67 [(T1.nx 20).pv]))) hlt zl5).setset (b':=.row 82 [.agg [.int .i64 (lo+n20),.sl kk (tens.map Ten.pv)]]) Y71 zaj).swap.setset (b':=.row 82 [.agg [.int .i64 (lo+n20),.sl kk (tens.map Ten.pv)]]) Y71 zaj)
  have hpos:=TI.pos Y18
  refine Ret.baseK (r':=Tab.pv ⟨lo+n20,tens⟩) tp (.row 67 [(T1.nx 20).pv]) hlt (by simp only [Tryz.f24,go_sem,↓reduceIte]<;>rfl) (by simp only [Tab.pv,PV.weak,PV.weaks,WP]) (zic _ _) zp8 hwf KF.fr.blk
   ⟨⟨lo+n20,tens⟩,T1.nx 20,rfl,rfl,hT1.nx 20,(TI.right Y18 Y18 Y18).1,TI.few Y18 Y18 Y18⟩
 any_goals
  refine jI 1 ?_
  rw [List.length_append]
  refine jO 2 ?_;rotate_left
 any_goals
  refine jI 2 ?_
  refine (show yA s4 k' _ _ from hgr').mono fun t ht=>?_
  rw [wd,if_neg (hgr'.ne ht _ hR4 Y71)]
end Go.Proofs
namespace Go.Proofs
open Go.PM
set_option maxHeartbeats 2000000
def zpB (e:Env) (s:St) (i:Nat):Int:=match e.get i with
 | .ptr p _ _=>match s.blk p with
   | some (.row _ [.int _ n])=>n
   | _=>0
 | _=>0
theorem uH.to {c:Nat} {s0 s1 s2:St} {kk:SK} {els ws:List PV} (h:uH c s0 s1 kk els ws) (f:Fr s0 s2) (hn:s1.nxt≤s2.nxt) (hb:∀ t z,kk=.tok t z→s2.blk t=s1.blk t):uH c s0 s2 kk els ws :=
 ⟨h.wk,h.el,f,h.gr.mono (fun t e=>hb t _ e),fun t z e=>⟨(h.tk t z e).1,Nat.lt_of_lt_of_le (h.tk t z e).2 hn⟩⟩
theorem zah {p:Prop} (h:p:=by exact (fun n q=>by cases q)):p:=h
theorem uH.nr {c:Nat} {s0 s1:St} {kk:SK} {els ws vs:List PV} {p ty:Nat} (h:uH c s0 s1 kk els ws) (hb:s1.blk p=some (.row ty vs)):∀ t z,kk=.tok t z→t≠p:=fun t z e =>
 h.gr.ne e p hb zah
theorem YE {s:Sp} (h:zM s yE=true):0≤s.pos∧1≤s.cnt∧s.pos+s.cnt≤2147483648:=by
 have:=yb.1 h
 unfold yE at this
 omega
theorem Zh {α:Type} {p:α→Bool}:∀ {l:List α} {n:Nat},(ZW p l n<0∧l.find? p=none)∨∃ (j:Nat) (h:j<l.length),ZW p l n=((n+j:Nat):Int)∧l.find? p=some l[j]
 | [],n=>.inl ⟨by unfold ZW;decide,rfl⟩
 | x::l,n=>by
   unfold ZW
   rw [List.find?_cons]
   cases e:p x with
   | true=>exact .inr ⟨0,Y71,Y71,Y71⟩
   | false =>
     rcases Zh (p:=p) (l:=l) (n:=n+1) with ⟨h1,h2⟩ | ⟨j,hj,h1,h2⟩
     ·exact .inl ⟨zhZ,h2⟩
     ·exact .inr ⟨j+1,Yk,by simp [h1];omega,by simpa using h2⟩
attribute [local go_sem] ye
theorem zmL {a b:Sp} (ha:a.ok) (hb:b.ok) {s:St}:za Tryz.prog 128 [a.pv,b.pv] s (fun r s'=>r=.bool (zaq a b)∧s'=s):=by
 refine go Tryz.func128 (k:=fun hwf H=>?_)
 refine rs (k:=rg [2,3] (k:=rs (k:=rr (k:=ro (pre:=[_,_]) (k:=rC (h:=zjG (a:=a) (b:=b) ha hb) (k:=rh [2,5,6] (k:=rs (k:=rg [4] (k:=rR (k:=rP (by simp only [Tryz.f128,go_sem];rfl) hwf ⟨?_,rfl⟩))))))))))
 have e2:decide (vd a b=a)=(decide ((vd a b).pos=a.pos)&&decide ((vd a b).cnt=a.cnt)):=by
  cases vd a b;cases a;simp
 have e:zaq a b=(ym a b&&decide (vd a b=a)):=rfl
 rw [e,e2];rfl
theorem zoB {p:Prop} (h:p:=by
 refine rk (k:=rB (k:=rg [0,1,7,8] (k:=?_)))
 rw [Uk p hil,hxe,if_neg (by rw [hc1];simp)] at hidx
 refine Run.lp ⟨⟨rfl,i+1,rfl,Y18,hidx⟩,?_⟩
 simp only [xB,go_sem,↓reduceIte,Nat.reduceEqDiff]
 omega):p:=h
theorem zbh {xs:List Sp} {k:FuncId} {cap:List PV} {p:Sp→Bool} {s:St} (hsz:xs.length<140737488355328) (hcal:zb Tryz.prog k=true) (hcap:PV.weaks cap=cap) (hf:∀ x∈xs,za Tryz.prog k (x.pv::cap) s (fun r s'=>r=.bool (p x)∧s'=s)) :
  za Tryz.prog 126 [.sl .unk (xs.map Sp.pv),.fn (.func k) [] cap] s (fun r s'=>r=.int .i64 (ZW p xs 0)∧s'=s):=by
 refine go Tryz.func126 (k:=fun hwf H=>?_)
 have H:=aj hcap H
 refine rs (k:=rg [0,1] (k:=rs (k:=rs (k:=rg [0,1,7,8] (k:=rb (k:=?_))))))
 refine Run.loop (fun e s'=>s'=s∧∃ i:Nat,e=[(0,.sl .unk (xs.map Sp.pv)),(1,.fn (.func k) [] cap),(7,.int .i64 xs.length),(8,.int .i64 i)]∧i≤xs.length∧ZW p xs 0=ZW p (xs.drop i) i) (fun e s'=>xs.length-xB e 8) ?_ ?_
 ·exact zgc
 rintro e s' ⟨hs,i,rfl,hi,hidx⟩
 subst s'
 refine rs (k:=rg [0,1,7,8,9] (k:=rs (k:=rc (ht:=fun hc0=>?_) (hf:=fun hc0=>?_))))
 refine rk (k:=rs (k:=rb (k:=rs (k:=?_))))
 have hil:i<xs.length:=Y83
 obtain ⟨x,hxe⟩:∃ z_,xs[i]'hil=z_:=⟨_,rfl⟩
 have hxx:(xs.map Sp.pv)[i]? =some (.agg [.int .i64 (x).pos,.int .i64 (x).cnt]):=zhw
 have hw:IntKind.i64.wrap ((i:Int)+1)=((i+1:Nat):Int):=Y24
 have H:=aj hxx (aj hw H)
 refine rg [0,1,5,7,8] (k:=rs (k:=rr (k:=ro (pre:=[_,_,_,_,_]) (k:=?_))))
 refine zm.callw au au au hcal ((hf x Y84).mono ?_)
 rintro r1 s1 ⟨rfl,hs⟩
 subst s1
 refine rl [0,1,5,7,8,16] (k:=rc (ht:=fun hc1=>?_) (hf:=fun hc1=>?_))
 refine rs (k:=rg [4] (k:=rR (k:=rP (by simp only [Tryz.f126,go_sem];rfl) hwf ⟨?_,rfl⟩)))
 refine jO 1 ?_;rotate_left
 ·exact zoB
 refine rX (k:=rs (k:=rg [4] (k:=rR (k:=rP (by simp only [Tryz.f126,go_sem];rfl) hwf ⟨?_,rfl⟩))))
 refine jO 1 ?_;rotate_left
 any_goals
  refine jI 1 ?_
  first
   |(rw [Uk p hil,hxe,if_pos hc1] at hidx
     rw [hidx];rfl)
   |(have:i=xs.length:=by have:=of_decide_eq_false hc0;omega
     rw [this,List.drop_length] at hidx
     rw [hidx];rfl)
theorem zfi {xs:List Sp} {k:FuncId} {cap:List PV} {p:Sp→Bool} {s:St} (hsz:xs.length<140737488355328) (hcal:zb Tryz.prog k=true) (hcap:PV.weaks cap=cap) (hf:∀ x∈xs,za Tryz.prog k (x.pv::cap) s (fun r s'=>r=.bool (p x)∧s'=s)) :
  za Tryz.prog 138 [.sl .unk (xs.map Sp.pv),.fn (.func k) [] cap] s (fun r s'=>r=.bool (xs.any p)∧s'=s):=by
 refine go Tryz.func138 (k:=fun hwf H=>?_)
 have H:=aj hcap H
 refine rs (k:=rg [0,1] (k:=rs (k:=rr (k:=ro (pre:=[_,_]) (k:=rC (h:=zbh hsz hcal hcap hf) (k:=rh [4] (k:=rR (k:=rP (by simp only [Tryz.f138,go_sem];rfl) hwf ⟨?_,rfl⟩))))))))
 rw [zf8];rfl
theorem zml {xs:List Sp} {s:St}:za Tryz.prog 142 [.sl .unk (xs.map Sp.pv)] s (fun r s'=>r=.sl .unc (xs.map Sp.pv)∧s'=s):=by
 refine go Tryz.func142 (k:=fun hwf H=>?_)
 have hfull:(xs.map Sp.pv).take xs.length=xs.map Sp.pv:=by rw [← List.length_map (f:=Sp.pv),List.take_length]
 have H:=aj hfull H
 refine rs (k:=rg [0] (k:=rs (k:=rg [2] (k:=rR (k:=?_)))))
 refine Ret.pureK (r:=.sl .unc (xs.map Sp.pv)) au (by simp only [PV.blw];exact ⟨fun t z e=>Y17,ze3 _ _⟩) hwf (fun _ _=>rfl) ⟨rfl,rfl⟩
theorem zfu {a:Sp} (ha:a.ok) {s:St}:za Tryz.prog 139 [a.pv] s (fun r s'=>r=.bool (!zM a yE)∧s'=s):=by
 refine go Tryz.func139 (k:=fun hwf H=>?_)
 refine rs (k:=rg [1] (k:=rs (k:=rr (k:=ro (pre:=[_]) (k:=rC (h:=Xa (a:=a) ha) (k:=rh [2] (k:=rR (k:=rP (by simp only [Tryz.f139,go_sem];rfl) hwf ⟨?_,rfl⟩))))))))
 rfl
theorem zfA {a:Sp} (ha:zM a yE=true) {x:Int} {s:St} {kb:Nat} (hkb_:s.blk kb=some (.row 3 [.int .i64 x])):za Tryz.prog 141 [a.pv,.ptr kb 0 0] s (fun r s'=>r=.bool (vZ x a)∧s'=s):=by
 refine go Tryz.func141 (k:=fun hwf H=>?_)
 have hkb:=hkb_
 have hlt_kb:kb<s.nxt:=xN hwf hkb_
 have hkb0:(kb=s.nxt)=False:=eq_false Y18
 have hkb1:(kb=s.nxt+1)=False:=eq_false Y18
 have hr:=YE ha
 have hwe:IntKind.i64.wrap (a.pos+a.cnt)=a.pos+a.cnt:=zi Y18
 have H:=aj hkb (aj hkb0 (aj hwe H))
 refine rs (k:=rg [1,2] (k:=rs (k:=?_)))
 refine Run.drawC [] [3] Tryz.mixed Y22 ?_
 refine zj.pre (pre:=[_,_,_,_,_]) au ?_
 rcases hd4:(decide (a.pos≤x)) with _ | _
 have H:=aj hd4 H
 refine zj.gskip' au ?_
 refine zj.gskip' au ?_
 refine zj.gskip' au ?_
 refine zj.gskip' au ?_
 refine jO 1 ?_;rotate_left
 have H:=aj hd4 H
 refine zj.gdo au au ?_
 refine zj.gdo au au ?_
 refine zj.call au au au Y22 (Yu (a:=a)) ?_
 refine zj.gdo au au ?_
 refine jO 1 ?_;rotate_left
 any_goals
  refine jI 1 ?_
  refine zj.all au ?_
  refine jO 2 ?_;rotate_left
 any_goals
  refine jI 2 ?_
  refine re (k:=rR (k:=rP (by simp only [Tryz.f141,go_sem];rfl) hwf ⟨?_,rfl⟩))
  refine jO 3 ?_;rotate_left
 any_goals
  refine jI 3 ?_
  unfold vZ
  refine jO 4 ?_;rotate_left
 any_goals
  refine jI 4 ?_
  simp only [decide_eq_true_eq,decide_eq_false_iff_not] at *
  first
   |(simp [hd4,PV.weak];done)
   |(simp [PV.weak];omega)
attribute [local go_sem] ye
theorem znT {p:Prop} (h:p:=by simp only [Tryz.f125,go_sem,↓reduceIte]<;>rfl):p:=h
theorem zn2 {p:Prop} (h:p:=by rw [← hye];exact List.getElem_mem _):p:=h
theorem zoU {p:Prop} (h:p:=by intro p hp;rw [List.mem_singleton.1 hp,Tryz.cz178];exact ⟨rfl,rfl⟩):p:=h
set_option maxRecDepth 100000 in
theorem zgC {l:List Sp} (hl:∀ x∈l,x.ok) (hn:l.length<140737488355328) {c:Sp} (hc:c.ok) {s:St}:za Tryz.prog 125 [.sl .unk (l.map Sp.pv),c.pv] s (fun r s'=>r=.tuple [.sl .unk ((wh l c).1.map Sp.pv),.bool (wh l c).2]∧s'=s):=by
 refine go Tryz.func125 (k:=fun hwf H=>?_)
 refine rs (k:=rg [0,3] (k:=rs (k:=rs (k:=rr (k:=ro (pre:=[_]) (k:=rC (h:=Xa (a:=c) hc) (k:=ro (pre:=[_,_,_]) (k:=rG (h:=fun hb=>zfi (p:=fun y=> !zM y yE) hn Y22 rfl (fun y hy=>zfu (hl y hy))) (k:=rh [0,3,16] (k:=rc (ht:=fun hc0=>?_) (hf:=fun hc0=>?_)))))))))))
 ·have hc:=hc0
  refine rs (k:=rg [4,5] (k:=rR (k:=?_)))
  have hcf:wh l c=([],false):=by
   unfold wh
   rw [if_pos (by rcases Bool.or_eq_true_iff.1 hc0 with h | h<;>simp at h ⊢<;>simp [h])]
  refine Ret.pure (r':=.tuple [.sl .unk [],.bool false]) znT rfl Y32 hwf ((Fr.refl hwf).new _).blk ⟨by rw [hcf];rfl,rfl⟩
 ·have hc:=hc0
  refine rk (k:=rs (k:=rg [0,3,6] (k:=rs (k:=rs (k:=?_)))))
  have hcc:=Bool.or_eq_false_iff.1 hc0
  have hcr:zM c yE=true:=by simpa using hcc.1
  have hlr:∀ y∈l,zM y yE=true:=fun y hy=>by
   have:=List.any_eq_false.1 hcc.2 y hy
   simpa using this
  have hcb:=YE hcr
  obtain ⟨E,hE0⟩:∃ E,E=c.pos+c.cnt:=⟨_,rfl⟩
  have hwE:IntKind.i64.wrap (c.pos+c.cnt)=E:=by rw [hE0];exact zi Y18
  have hcov:wh l c=match vC l E c.cnt.toNat c.pos [] with
    | none=>([],false)
    | some o=>(o,true):=by
   unfold wh
   rw [if_neg (by rw [hcr,List.any_eq_false.2 (fun y hy=>by rw [hlr y hy];simp)];simp),hE0]
   rfl
  have H:=aj hwE H
  refine rg [0,3,6,7] (k:=rb (k:=?_))
  refine Run.loop (fun e s'=>∃ (x:Int) (o:List Sp) (els:List PV) (kk:SK) (p:Nat),e=[(0,.sl .unk (l.map Sp.pv)),(3,.ptr s.nxt 0 0),(6,.sl kk els),(7,.ptr p 0 0)]∧c.pos≤x∧x≤E∧(els.length:Int)≤x-c.pos∧vC l E c.cnt.toNat c.pos []=vC l E (E-x).toNat x o∧s.nxt<p∧p<s'.nxt∧s'.blk p=some (.row 3 [.int .i64 x])∧s'.blk s.nxt=some (.row 178 [.agg [.int .i64 (c).pos,.int .i64 (c).cnt]])∧uH 2 s s' kk els (o.map Sp.pv)) (fun e s'=>(E-zpB e s' 7).toNat) ?_ ?_
  ·exact ⟨c.pos,[],[],.nil,s.nxt+1,rfl,Int.le_refl _,Y18,Y71,by rw [show (E-c.pos).toNat=c.cnt.toNat from Y18],Nat.lt_succ_self _,Nat.lt_succ_self _,zy _ _ _,by rw [zd Y18,zg (by show s.nxt≠s.nxt+1;omega)];exact zN,rfl,zjS,((Fr.refl hwf).new _).newset _ _ rfl,.inl ⟨rfl,rfl⟩,fun t z e=>Y17⟩
  rintro e s1 ⟨x,o,els,kk,p,rfl,hx1,hx2,hel,hcv,hsp,hpx,hpb,hsb,hE⟩
  have hFn:=hE.fr.nxt
  have H:=aj hpb (aj hsb H)
  refine rs (k:=rs (k:=?_))
  refine Run.drawC [] [0,3,6,7,22] Tryz.mixed Y22 ?_
  refine zj.pre (pre:=[_,_]) au ?_
  refine zj.call au au au Y22 (Yu (a:=c)) ?_
  refine zj.all au ?_
  refine re (k:=rc (ht:=fun hc1=>?_) (hf:=fun hc1=>?_))
  ·have hc:=hc1
   refine rk (k:=rs (k:=rb (k:=rs (k:=?_))))
   have hxE:x<E:=of_decide_eq_true hc1
   have H:=aj hpb (aj hsb H)
   refine rr (k:=ro (pre:=[_,_]) (k:=rC (h:=zbh (p:=vZ x) hn Y22 rfl (fun y hy=>zfA (hlr y hy) hpb)) (k:=rh [0,3,6,7,8] (k:=rs (k:=rs (k:=rg [0,3,6,7,8,27] (k:=rc (ht:=fun hc2=>?_) (hf:=fun hc2=>?_))))))))
   ·have hc:=hc2
    refine rs (k:=rg [4,5] (k:=rR (k:=?_)))
    have hcf:wh l c=([],false):=by
     rcases Zh (p:=vZ x) (l:=l) (n:=0) with ⟨h1,h2⟩ | ⟨j,hj,h1,h2⟩
     ·rw [hcov,hcv,ZK hxE (Nat.le_refl _),h2]
     ·have:=of_decide_eq_true hc2
      omega
    refine Ret.pure (r':=.tuple [.sl .unk [],.bool false]) znT rfl Y32 hwf hE.fr.blk ⟨by rw [hcf];rfl,rfl⟩
   ·have hc:=hc2
    refine rk (k:=rs (k:=?_))
    rcases Zh (p:=vZ x) (l:=l) (n:=0) with ⟨h1,h2⟩ | ⟨j,hj,h1,h2⟩
    ·exact absurd h1 (of_decide_eq_false hc2)
    rw [Nat.zero_add] at h1
    obtain ⟨y,hye⟩:∃ z_,l[j]'hj=z_:=⟨_,rfl⟩
    have hyy:(l.map Sp.pv)[j]? =some (.agg [.int .i64 (y).pos,.int .i64 (y).cnt]):=by rw [yP hj,hye];rfl
    rw [hye] at h2
    have hyr:=YE (hlr y zn2)
    have hyc:=ui.1 (List.find?_some h2)
    have hwy:IntKind.i64.wrap (y.pos+y.cnt)=y.pos+y.cnt:=zi Y18
    have hjT:(j<l.length)=True:=eq_true hj
    have hmn:(if E<y.pos+y.cnt then E else y.pos+y.cnt)=min (y.pos+y.cnt) E:=Y18
    have hwd:IntKind.i64.wrap (min (y.pos+y.cnt) E-x)=min (y.pos+y.cnt) E-x:=zi Y18
    have hst:=ZK (l:=l) (out:=o) hxE (Nat.le_refl _)
    rw [h2] at hst
    have H:=aj h1 (aj hyy (aj hwy (aj hjT (aj hmn (aj hwd H)))))
    refine Run.drawC [] [0,3,6,7,9] Tryz.mixed Y22 ?_
    refine zj.pre (pre:=[_,_,_,_]) au ?_
    refine zj.call au au au Y22 (Yu (a:=y)) ?_
    refine zj.pre (pre:=[_]) au ?_
    refine zj.call au au au Y22 (Yu (a:=c)) ?_
    refine zj.all au ?_
    refine re (k:=rs (k:=rr (k:=ro (pre:=[_,_,_,_,_,_]) (k:=rO (k:=?_)))))
    refine zm.grow (xs:=els) (ys:=[_]) au au au Tryz.td176 (by rw [Tryz.zp178];rfl) (by unfold xg;rw [Tryz.cz178];exact hE.el) zoU (by rw [Tryz.by178];decide) (by rw [Tryz.by178];simp;omega) (by rw [Tryz.cz178];exact hE.gr) Y71 ?_
    intro k' s3 hgr' htm
    rw [Tryz.cz178] at hgr'
    have h3p:s3.blk p=some (.row 3 [.int .i64 x]):=by rw [htm.rest p hpx (fun z e=>(hE.nr hpb _ z e) rfl)];exact hpb
    have h3s:s3.blk s.nxt=some (.row 178 [.agg [.int .i64 (c).pos,.int .i64 (c).cnt]]):=by rw [htm.rest s.nxt Y18 (fun z e=>(hE.nr hsb _ z e) rfl)];exact hsb
    have h3x:=htm.nxt
    have hE3:=hE.snoc (el:=.agg [.int .i64 ((⟨x,min (y.pos+y.cnt) E-x⟩:Sp)).pos,.int .i64 ((⟨x,min (y.pos+y.cnt) E-x⟩:Sp)).cnt]) (w:=((⟨x,min (y.pos+y.cnt) E-x⟩:Sp)).pv) rfl rfl rfl (Nat.le_refl _) hE.fr hgr' htm
    have H:=aj h3p (aj h3s H)
    refine rh [0,3,6,7,9] (k:=rg [0,3,6,7] (k:=rB (k:=rs (k:=rg [0,3,6,45] (k:=rg [0,3,6,7] (k:=?_))))))
    refine Run.lp ⟨⟨min (y.pos+y.cnt) E,o++[(⟨x,min (y.pos+y.cnt) E-x⟩:Sp)],_,k',s3.nxt,rfl,Y18,Y18,by rw [List.length_append,List.length_singleton];omega,?_,Y18,Nat.lt_succ_self _,zy _ _ _,?_,?_⟩,?_⟩
    ·rw [hcv,hst]
     exact UC (fun q hq=>(YE (hlr q hq)).2.1) _ _ _ _ Y18 Y18
    ·rw [zd (by show s.nxt≠s3.nxt;omega),zg (by show s.nxt≠s3.nxt;omega),zd Y18];exact h3s
    ·rw [List.map_append]
     refine hE3.to ((hE3.fr.set Y18 Y18 _).newset _ _ rfl) (Nat.le_succ _) fun t z e=>?_
     have h5:=hE3.tk t z e
     rw [zd (by show t≠s3.nxt;omega),zg (by show t≠s3.nxt;omega),zd (hE3.nr h3p t z e)]
    ·simp only [zpB,go_sem,↓reduceIte,Nat.reduceEqDiff,hpb,zy]
     omega
  ·have hc:=hc1
   refine rX (k:=rs (k:=?_))
   have hwk:=hE.wk
   have H:=aj hwk H
   refine rr (k:=ro (pre:=[_]) (k:=rC (h:=zml (xs:=o)) (k:=rh [4,5] (k:=rR (k:=?_)))))
   have hxe2:¬ x<E:=of_decide_eq_false hc1
   have hcf:wh l c=(o,true):=by rw [hcov,hcv,Zt _ _ _ Y18]
   refine Ret.pure (r':=.tuple [.sl .unk (o.map Sp.pv),.bool true]) znT (by simp only [PV.weak,PV.weaks,zda]) (by simp only [PV.blw,PV.blws,and_true];exact ⟨fun t z e=>Y17,ze3 _ _⟩) hwf hE.fr.blk ⟨by rw [hcf],rfl⟩
end Go.Proofs
namespace Go.Proofs
open Go.PM
set_option maxHeartbeats 2000000
theorem zlx:I64 1:=Y20
theorem zf4 {α β:Type} {p:β→Bool} {f:α→β}:∀ {l:List α} {n:Nat},ZW p (l.map f) n=ZW (fun x=>p (f x)) l n
 | [],n=>rfl
 | x::l,n=>by
   rw [List.map_cons]
   unfold ZW
   rw [zf4]
theorem zk3 {l:List Win} {sp:Int} {i:Nat} (h:i<l.length):ofW (l.take (i+1)) sp=ofW (l.take i) sp++if (yj l[i]&&decide (l[i].space=sp))=true then [l[i]] else []:=by
 rw [xn h]
 unfold ofW
 rw [List.filter_append]
 congr 1
 rw [List.filter_cons]
 split<;>simp
theorem zmF (l:List Win) (sp:Int):(ofW l sp).length≤l.length:=List.length_filter_le _ _
set_option maxRecDepth 100000 in
theorem zjl {l:List Win} (hl:∀ w∈l,w.ok) (hn:l.length*32≤140737488351232) {sp:Int} {s:St}:za Tryz.prog 123 [.sl .unk (l.map Win.pv),.int .i64 sp] s (fun r s'=>r=.sl .unk ((ofW l sp).map Win.pv)∧s'=s):=by
 refine go Tryz.func123 (k:=fun hwf H=>?_)
 refine rs (k:=rg [0,1] (k:=rs (k:=rg [0,1,5] (k:=rs (k:=rs (k:=rg [1,5,8,9,10] (k:=rb (k:=?_))))))))
 refine Run.loop (fun e s'=>∃ (i:Nat) (els:List PV) (kk:SK),e=[(1,.int .i64 sp),(5,.sl kk els),(8,.sl .unk (l.map Win.pv)),(9,.int .i64 (l.length:Int)),(10,.int .i64 (i:Int))]∧i≤l.length∧els.length≤i∧uH 4 s s' kk els ((ofW (l.take i) sp).map Win.pv)) (fun e s'=>l.length-xB e 10) ?_ ?_
 ·exact ⟨0,[],.nil,rfl,Nat.zero_le _,Nat.le_refl _,rfl,zjS,Fr.refl hwf,.inl ⟨rfl,rfl⟩,fun t z e=>Y17⟩
 rintro e s1 ⟨i,els,kk,rfl,hi,hel,hE⟩
 have hFn:=hE.fr.nxt
 refine rs (k:=rg [1,5,8,9,10,11] (k:=rs (k:=rc (ht:=fun hc0=>?_) (hf:=fun hc0=>?_))))
 ·refine rk (k:=rs (k:=rb (k:=rs (k:=?_))))
  have hil:i<l.length:=Y83
  obtain ⟨x,hxe⟩:∃ z_,l[i]'hil=z_:=⟨_,rfl⟩
  have hxx:(l.map Win.pv)[i]? =some (.agg [.int .i64 (x).space,.int .i64 (x).virt,.int .i64 (x).phys,.int .i64 (x).cnt]):=zhw
  have hxo:x.ok:=by rw [← hxe];exact hl _ (List.getElem_mem _)
  have hilT:(i<l.length)=True:=eq_true hil
  have hw:IntKind.i64.wrap ((i:Int)+1)=((i+1:Nat):Int):=Y24
  have hsn:=zk3 (sp:=sp) hil
  rw [hxe] at hsn
  have H:=aj hxx (aj hilT (aj hw H))
  refine rg [1,5,7,8,9,10] (k:=rs (k:=rr (k:=ro (pre:=[_]) (k:=rC (h:=zed (w:=x) hxo) (k:=rh [1,5,7,8,9,10,21] (k:=rc (ht:=fun hc1=>?_) (hf:=fun hc1=>?_)))))))
  ·refine rr (k:=ro (pre:=[_,_]) (k:=rO (k:=?_)))
   refine zm.grow (xs:=els) (ys:=[_]) au au au Tryz.td25 (by rw [Tryz.zp59];rfl) (by unfold xg;rw [Tryz.cz59];exact hE.el) (by intro p hp;rw [List.mem_singleton.1 hp,Tryz.cz59];exact ⟨rfl,rfl⟩) (by rw [Tryz.by59];decide) (by rw [Tryz.by59];simp;omega) (by rw [Tryz.cz59];exact hE.gr.mono fun t e=>zoc) Y71 ?_
   intro k' s3 hgr' htm
   rw [Tryz.cz59] at hgr'
   refine rh [1,5,8,9,10] (k:=rB (k:=rg [1,5,8,9,10] (k:=?_)))
   have hyes:(yj x&&decide (x.space=sp))=true:=hc1
   rw [if_pos hyes] at hsn
   refine Run.lp ⟨⟨i+1,_,k',rfl,Y18,by rw [List.length_append,List.length_singleton];omega,?_⟩,?_⟩
   ·rw [hsn,List.map_append]
    exact hE.snoc rfl rfl (by simp only [PV.weak,PV.weaks,Win.pv]) (Nat.le_succ _) (hE.fr.new _) hgr' htm
   ·exact Y29
  ·refine rk (k:=rB (k:=rg [1,5,8,9,10] (k:=?_)))
   have hno:¬ (yj x&&decide (x.space=sp))=true:=by rw [show (yj x&&decide (x.space=sp))=false from hc1];decide
   rw [if_neg hno,List.append_nil] at hsn
   refine Run.lp ⟨⟨i+1,els,kk,rfl,Y18,Y18,?_⟩,?_⟩
   ·rw [hsn]
    exact hE.to (hE.fr.new _) (Nat.le_succ _) fun t z e=>by rw [zg (by have:=(hE.tk t z e).2;omega)]
   ·exact Y29
 ·refine rX (k:=rs (k:=rg [4] (k:=rR (k:=?_))))
  have hi2:i=l.length:=Y30
  refine Ret.pure (r':=.sl .unk ((ofW l sp).map Win.pv)) (by simp only [Tryz.f123,go_sem,↓reduceIte]<;>rfl) (by rw [PV.weak,hE.wk,hi2,List.take_length]) znK hwf hE.fr.blk ⟨rfl,rfl⟩
theorem zfs {a b:Sp} (ha:I64 a.pos) (hb:b.ok) {s:St} {kb:Nat} (hkb_:s.blk kb=some (.row 178 [a.pv])):za Tryz.prog 127 [b.pv,.ptr kb 0 0] s (fun r s'=>r=.bool (zaq ⟨a.pos,1⟩ b)∧s'=s):=by
 refine go Tryz.func127 (k:=fun hwf H=>?_)
 have hkb:=hkb_
 rw [Sp.pv] at hkb
 have hlt_kb:kb<s.nxt:=xN hwf hkb_
 have hkb0:(kb=s.nxt)=False:=eq_false Y18
 have hkb1:(kb=s.nxt+1)=False:=eq_false Y18
 have H:=aj hkb (aj hkb0 H)
 refine rs (k:=rg [1,2] (k:=rs (k:=rr (k:=ro (pre:=[_,_,_,_]) (k:=rC (h:=zmL (a:=⟨a.pos,1⟩) (b:=b) ⟨ha,zlx⟩ hb) (k:=rh [3] (k:=rR (k:=rP (by simp only [Tryz.f127,go_sem];rfl) hwf ⟨?_,rfl⟩))))))))
 rfl
theorem uh (l:List Pc):PV.weaks (l.map Pc.pv)=l.map Pc.pv:=xc Pc.pv (fun _=>rfl) l
theorem VS (n:Nat) (l:List Pc):PV.blws n (l.map Pc.pv):=wo Pc.pv n (fun a=>by simp [Pc.pv,PV.blw,PV.blws]) l
attribute [local go_sem] uh
theorem zlR {xs:List Pc} {s:St}:za Tryz.prog 129 [.sl .unk (xs.map Pc.pv)] s (fun r s'=>r=.sl .unc (xs.map Pc.pv)∧s'=s):=by
 refine go Tryz.func129 (k:=fun hwf H=>?_)
 have hfull:(xs.map Pc.pv).take xs.length=xs.map Pc.pv:=by rw [← List.length_map (f:=Pc.pv),List.take_length]
 have H:=aj hfull H
 refine rs (k:=rg [0] (k:=rs (k:=rg [2] (k:=rR (k:=?_)))))
 refine Ret.pureK (r:=.sl .unc (xs.map Pc.pv)) au (by simp only [PV.blw];exact ⟨fun t z e=>Y17,VS _ _⟩) hwf (fun _ _=>rfl) ⟨rfl,rfl⟩
attribute [local go_sem] uh ye
set_option maxRecDepth 100000 in
theorem uy {l:List Win} (hl:∀ w∈l,w.ok) (hn:l.length*32≤140737488351232) {sp a n:Int} (ha:I64 a) (hnn:I64 n) {s:St}:za Tryz.prog 110 [.sl .unk (l.map Win.pv),.int .i64 sp,.int .i64 a,.int .i64 n] s (fun r s'=>r=.tuple [.sl .unk ((xW l sp a n).1.map Pc.pv),.bool (xW l sp a n).2]∧s'=s):=by
 refine go Tryz.func110 (k:=fun hwf H=>?_)
 refine rs (k:=rg [0,1,2,3] (k:=rs (k:=?_)))
 obtain ⟨W,hW⟩:∃ W,W=ofW l sp:=⟨_,rfl⟩
 have hWl:W.length≤l.length:=by rw [hW];exact zmF _ _
 have hvo:∀ z∈W.map Win.v,z.ok:=fun z hz=>by
  obtain ⟨w,hw,rfl⟩:=List.mem_map.1 hz
  rw [hW] at hw
  exact (hl w (vJ hw).2.2).v
 obtain ⟨P,hP⟩:∃ P,P=(wh (W.map Win.v) ⟨a,n⟩).1:=⟨_,rfl⟩
 obtain ⟨b9,hb9⟩:∃ b,b=(wh (W.map Win.v) ⟨a,n⟩).2:=⟨_,rfl⟩
 have hPl:P.length≤2147483648:=by rw [hP];exact zaM _ _
 refine rr (k:=ro (pre:=[_,_]) (k:=?_))
 refine zm.callw au au au Y22 ((zjl hl hn (sp:=sp)).mono ?_)
 rintro r s9 ⟨rfl,hs⟩
 subst s9
 rw [← hW]
 refine rh [2,3,10] (k:=rs (k:=rg [2,3,10,11] (k:=rs (k:=rs (k:=rg [2,3,10,11,23,24,25] (k:=rb (k:=?_)))))))
 refine Run.loop (fun e s'=>∃ (i:Nat) (e1:List PV) (k1:SK),e=[(2,.int .i64 a),(3,.int .i64 n),(10,.sl .unk (W.map Win.pv)),(11,.sl k1 e1),(23,.sl .unk (W.map Win.pv)),(24,.int .i64 (W.length:Int)),(25,.int .i64 (i:Int))]∧i≤W.length∧e1.length=i∧uH 2 s s' k1 e1 (((W.take i).map Win.v).map Sp.pv)) (fun e s'=>W.length-xB e 25) ?_ ?_
 ·exact ⟨0,[],.nil,rfl,Nat.zero_le _,rfl,rfl,zjS,Fr.refl hwf,.inl ⟨rfl,rfl⟩,fun t z e=>Y17⟩
 rintro e s1 ⟨i,e1,k1,rfl,hi,hel,hE⟩
 have hFn:=hE.fr.nxt
 refine rs (k:=rg [2,3,10,11,23,24,25,26] (k:=rs (k:=rc (ht:=fun hc0=>?_) (hf:=fun hc0=>?_))))
 ·refine rk (k:=rs (k:=rb (k:=rs (k:=?_))))
  have hil:i<W.length:=Y83
  obtain ⟨x,hxe⟩:∃ z_,W[i]'hil=z_:=⟨_,rfl⟩
  have hxx:(W.map Win.pv)[i]? =some (.agg [.int .i64 (x).space,.int .i64 (x).virt,.int .i64 (x).phys,.int .i64 (x).cnt]):=zhw
  have hilT:(i<W.length)=True:=eq_true hil
  have hw:IntKind.i64.wrap ((i:Int)+1)=((i+1:Nat):Int):=Y24
  have H:=aj hxx (aj hilT (aj hw H))
  refine rg [2,3,10,11,13,23,24,25] (k:=rr (k:=ro (pre:=[_,_]) (k:=rC (h:=XL (w:=x)) (k:=rO (k:=?_)))))
  refine zm.grow (xs:=e1) (ys:=[_]) au au au Tryz.td176 (by rw [Tryz.zp178];rfl) (by unfold xg;rw [Tryz.cz178];exact hE.el) zoU (by rw [Tryz.by178];decide) (by rw [Tryz.by178];simp;omega) (by rw [Tryz.cz178];exact hE.gr.mono fun t e=>zoc) Y71 ?_
  intro k2 s3 hgr' htm
  rw [Tryz.cz178] at hgr'
  refine rh [2,3,10,11,23,24,25] (k:=rB (k:=rg [2,3,10,11,23,24,25] (k:=?_)))
  refine Run.lp ⟨⟨i+1,_,k2,rfl,Y18,zm5,?_⟩,?_⟩
  ·rw [xn hil,hxe,List.map_append,List.map_append]
   exact hE.snoc rfl rfl rfl (Nat.le_succ _) (hE.fr.new _) hgr' htm
  ·exact Y29
 ·refine rX (k:=rs (k:=?_))
  have hi1:i=W.length:=Y30
  have hwk:PV.weaks e1=(W.map Win.v).map Sp.pv:=by rw [hE.wk,hi1,List.take_length]
  have H:=aj hwk H
  refine rr (k:=ro (pre:=[_,_,_,_]) (k:=?_))
  refine zm.callw au au au Y22 ((zgC (l:=W.map Win.v) hvo zlZ (c:=⟨a,n⟩) ⟨ha,hnn⟩).mono ?_)
  rintro r s9 ⟨rfl,hs⟩
  subst s9
  rw [← hP,← hb9]
  refine rh [10,11,14,15] (k:=rs (k:=rg [10,11,14,15,16] (k:=rs (k:=rs (k:=rg [10,11,15,16,43,44,45] (k:=rb (k:=?_)))))))
  refine Run.loop (fun e s'=>∃ (i:Nat) (els:List PV) (kk:SK),e=[(10,.sl .unk (W.map Win.pv)),(11,.sl k1 e1),(15,.bool b9),(16,.sl kk els),(43,.sl .unk (P.map Sp.pv)),(44,.int .i64 (P.length:Int)),(45,.int .i64 (i:Int))]∧i≤P.length∧els.length=i∧uH 3 s s' kk els (((P.take i).map fun y=>(⟨y.pos,WT W y.pos,y.cnt⟩:Pc)).map Pc.pv)) (fun e s'=>P.length-xB e 45) ?_ ?_
  ·exact ⟨0,[],.nil,rfl,Nat.zero_le _,rfl,rfl,zjS,hE.fr,.inl ⟨rfl,rfl⟩,fun t z e=>Y17⟩
  rintro e s2 ⟨i,els,kk,rfl,hi,hel,hE2⟩
  have hFn:=hE2.fr.nxt
  refine rs (k:=rg [10,11,15,16,43,44,45,46] (k:=rs (k:=rc (ht:=fun hc1=>?_) (hf:=fun hc1=>?_))))
  ·refine rk (k:=rs (k:=rb (k:=rs (k:=?_))))
   have hil:i<P.length:=Y79
   obtain ⟨y,hye⟩:∃ z_,P[i]'hil=z_:=⟨_,rfl⟩
   have hxy:(P.map Sp.pv)[i]? =some (.agg [.int .i64 (y).pos,.int .i64 (y).cnt]):=by rw [yP hil,hye];rfl
   have hilT:(i<P.length)=True:=eq_true hil
   have hw:IntKind.i64.wrap ((i:Int)+1)=((i+1:Nat):Int):=Y24
   obtain ⟨_,_,_,hy0,hy1,v,hv,_⟩:=zcU (l:=W.map Win.v) (s:=⟨a,n⟩) (p:=y) (by rw [← hP,← hye];exact List.getElem_mem _)
   have hy2:y.cnt≥1:=by assumption
   unfold yE at hy1
   have hyi:I64 y.pos:=Y76
   have hvW:((ofW l sp).map Win.v).find? (vZ y.pos)=some v:=by rw [← hW];exact hv
   obtain ⟨w,hwm,_,hwf1,hwp,hwc⟩:=zdb (l:=l) (sp:=sp) (x:=y.pos) Y18 hvW
   rw [← hW] at hwf1 hwp hwm
   have hwb:=vD (vJ (by rw [← hW];exact hwm)).1
   have hwc:=ui.1 hwc
   obtain ⟨j,hj,hj1,hj2⟩:∃ (j:Nat) (h:j<W.length),ZW (fun z=>zaq ⟨y.pos,1⟩ z) (W.map Win.v) 0=(j:Int)∧W[j]=w:=by
    rw [zf4]
    rcases Zh (p:=fun w:Win=>zaq ⟨y.pos,1⟩ w.v) (l:=W) (n:=0) with ⟨_,h⟩ | ⟨j,hj,h1,h2⟩
    ·rw [hwf1] at h;cases h
    ·rw [hwf1] at h2
     exact ⟨j,hj,by rw [h1,Nat.zero_add],(Option.some.inj h2).symm⟩
   have hjj:(W.map Win.pv)[j]? =some (.agg [.int .i64 (w).space,.int .i64 (w).virt,.int .i64 (w).phys,.int .i64 (w).cnt]):=by rw [yP hj,hj2];rfl
   have hjT:(j<W.length)=True:=eq_true hj
   have hw1:IntKind.i64.wrap (w.phys+y.pos)=w.phys+y.pos:=zi Y18
   have hw2:IntKind.i64.wrap (w.phys+y.pos-w.virt)=WT W y.pos:=by rw [hwp];exact zi Y18
   have H:=aj hxy (aj hilT (aj hw (aj hj1 (aj hjj (aj hjT (aj hw1 (aj hw2 H)))))))
   refine rg [10,11,15,16,18,43,44,45] (k:=rs (k:=rr (k:=ro (pre:=[_,_]) (k:=rC (h:=zbh (xs:=W.map Win.v) (p:=fun z=>zaq ⟨y.pos,1⟩ z) zlZ Y22 rfl (fun z hz=>zfs (a:=y) hyi (hvo z hz) zN)) (k:=rh [10,11,15,16,18,19,43,44,45] (k:=?_))))))
   refine Run.drawCut 21 [] Tryz.mixed Y22 Y22 ?_
   refine zj.all au ?_
   refine zm.grow (xs:=els) (ys:=[_]) au au au Tryz.td151 (by rw [Tryz.zp155];rfl) (by unfold xg;rw [Tryz.cz155];exact hE2.el) (by intro p hp;rw [List.mem_singleton.1 hp,Tryz.cz155];exact ⟨rfl,rfl⟩) (by rw [Tryz.by155];decide) (by rw [Tryz.by155];simp;omega) (by rw [Tryz.cz155];exact hE2.gr.mono fun t e=>by have:=hE2.tk _ _ e;simp (disch:=first | omega |(simp only [zt,zq]<;>omega) | fail) only [go_sem]) Y71 ?_
   intro k' s3 hgr' htm
   rw [Tryz.cz155] at hgr'
   refine rh [10,11,15,16,43,44,45] (k:=rB (k:=rg [10,11,15,16,43,44,45] (k:=?_)))
   refine Run.lp ⟨⟨i+1,_,k',rfl,Y18,zm5,?_⟩,?_⟩
   ·rw [xn hil,hye,List.map_append,List.map_append]
    exact hE2.snoc rfl rfl rfl (Nat.le_succ _) (hE2.fr.new _) hgr' htm
   ·exact Y29
  ·refine rX (k:=rs (k:=?_))
   have hwk2:=hE2.wk
   have hi2:i=P.length:=zgP
   rw [hi2,List.take_length] at hwk2
   have H:=aj hwk2 H
   refine rr (k:=ro (pre:=[_]) (k:=rC (h:=zlR (xs:=P.map fun y=>(⟨y.pos,WT W y.pos,y.cnt⟩:Pc))) (k:=rh [8,9] (k:=rR (k:=?_)))))
   refine Ret.pure (r':=.tuple [.sl .unk ((xW l sp a n).1.map Pc.pv),.bool (xW l sp a n).2]) (by simp only [Tryz.f110,go_sem,↓reduceIte]<;>rfl) (by unfold xW;rw [← hW,← hP,← hb9];simp only [PV.weak,PV.weaks,uh]) (by simp only [PV.blw,PV.blws,and_true,true_and];exact ⟨fun t z e=>Y17,VS _ _⟩) hwf hE2.fr.blk ⟨rfl,rfl⟩
end Go.Proofs
namespace Go.Proofs
open Go.PM
set_option maxHeartbeats 2000000
theorem zbp {s:St}:za Tryz.prog 89 [.sl .nil []] s (fun r s'=>r=.sl .unk []∧s'=s):=by
 refine go Tryz.func89 (k:=fun hwf H=>?_)
 refine rs (k:=rg [0] (k:=rs (k:=rs (k:=rg [0,4] (k:=rc (ht:=fun hc0=>?_) (hf:=fun hc0=>?_))))))
 ·refine rs (k:=rg [2] (k:=rR (k:=rP (by simp only [Tryz.f89,go_sem];rfl) hwf ⟨?_,rfl⟩)))
  rfl
 ·cases hc0
theorem zo6 {p:Prop} (h:p:=by simp only [PV.blw];exact ⟨fun t z e=>Y17,zbN _ _⟩):p:=h
theorem zbO {xs:List Bool} (hb:xs.length*1≤140737488355328) {s:St}:za Tryz.prog 89 [.sl .any (xs.map PV.bool)] s (fun r s'=>r=.sl .unk (xs.map PV.bool)∧s'=s):=by
 refine go Tryz.func89 (k:=fun hwf H=>?_)
 refine rs (k:=rg [0] (k:=rs (k:=rs (k:=rg [0,4] (k:=rc (ht:=fun hc0=>?_) (hf:=fun hc0=>?_))))))
 ·cases hc0
 ·refine rk (k:=rs (k:=rr (k:=rO (k:=ro (pre:=[_]) (k:=?_)))))
  refine zm.grow' au au au Tryz.td45 zkC zfz (zp (P:=Tryz.prog) (e:=4) (f:=PV.bool) (fun a=>⟨rfl,zkA⟩) _) zmN (by rw [Tryz.by4];simp;omega) (.inr (.inl (.inl rfl))) ?_
  intro k1 s1 hgr htm
  refine rh [2] (k:=rR (k:=?_))
  refine Ret.pure (by simp only [Tryz.f89,go_sem]<;>rfl) (r':=.sl .unk (xs.map PV.bool)) (by rw [PV.weak,zf]) zo6 hwf Y82 ⟨?_,rfl⟩
  ·rfl
theorem WS {xs:List Bool} (hb:xs.length*1≤140737488355328) {s:St}:za Tryz.prog 89 [.sl .unk (xs.map PV.bool)] s (fun r s'=>r=.sl .unk (xs.map PV.bool)∧s'=s) :=
 za.unk1 (fun h=>by rw [h];exact zbp) (zbO hb)
theorem VY {xs:List Bool} {s:St}:za Tryz.prog 90 [.sl .unk (xs.map PV.bool)] s (fun r s'=>r=.sl .unc (xs.map PV.bool)∧s'=s):=by
 refine go Tryz.func90 (k:=fun hwf H=>?_)
 have hfull:(xs.map PV.bool).take xs.length=xs.map PV.bool:=by rw [← List.length_map (f:=PV.bool),List.take_length]
 have H:=aj hfull H
 refine rs (k:=rg [0] (k:=rs (k:=rg [2] (k:=rR (k:=?_)))))
 refine Ret.pureK (r:=.sl .unc (xs.map PV.bool)) au zo6 hwf (fun _ _=>rfl) ⟨rfl,rfl⟩
def ptV (x:Req × Bool):PV:=.agg [.int .i64 x.1.fn,.int .i64 x.1.at_,.int .i64 x.1.count,.int .i64 x.1.wat,.int .i64 x.1.sub,.sl .unk (x.1.bits.map PV.bool),.sl .unk (x.1.vals.map (PV.int .u16)),.int .u16 x.1.and_,.int .u16 x.1.or_,.bool x.2]
theorem zdG (x:Req × Bool):(ptV x).weak=ptV x:=by simp only [ptV,PV.weak,PV.weaks,zf,zA]
theorem Yt (l:List (Req × Bool)):PV.weaks (l.map ptV)=l.map ptV:=xc ptV zdG l
theorem zf6 (n:Nat) (l:List (Req × Bool)):PV.blws n (l.map ptV):=wo ptV n (fun a=>by simp only [ptV,PV.blw,PV.blws,xm,uo,true_and,and_true];exact ⟨fun t z e=>Y17,fun t z e=>Y17⟩) l
theorem zbl (a:Int):zR .and .u32 a 1=a%2:=by
 unfold zR
 show IntKind.u32.wrap (((BitVec.ofInt 32 a &&& BitVec.ofInt 32 1).toNat:Int))=_
 have e:(BitVec.ofInt 32 a).toNat%2=(a%2).toNat:=by
  rw [BitVec.toNat_ofInt]
  omega
 have h1:(BitVec.ofInt 32 1).toNat=1:=Y19
 rw [BitVec.toNat_and,h1,Nat.and_one_is_mod,e]
 simp [IntKind.wrap,IntKind.signed,IntKind.bits]
 omega
theorem ziP {t:Ten} (ht:t.ok) {fn:Int} (h:0≤fn∧fn≤31):decide (zR .and .u32 (t.fns.fdiv (2 ^ min fn.toNat 32)) 1=0)= !Ws t fn:=by
 have hf:=ht.fns
 unfold U32 at hf
 obtain ⟨F,hF⟩:∃ F:Nat,t.fns=F:=⟨t.fns.toNat,Y18⟩
 obtain ⟨n,rfl⟩:∃ n:Nat,fn=n:=⟨fn.toNat,Y18⟩
 rw [zbl]
 unfold Ws
 rw [hF,Int.toNat_natCast,Int.toNat_natCast,Nat.min_eq_left Y18,Int.fdiv_eq_ediv_of_nonneg _ (Int.pow_nonneg Y19),Nat.testBit_eq_decide_div_mod_eq]
 have e:((F:Int)/2 ^ n)%2=((F/2 ^ n%2:Nat):Int):=Y71
 rw [e]
 rcases Nat.mod_two_eq_zero_or_one (F/2 ^ n) with q | q<;>rw [q]<;>simp
theorem Y54 {p:Prop} (h:p:=by
 refine rs (k:=rg [2] (k:=rR (k:=rP (by simp only [Tryz.f111,go_sem];rfl) hwf ⟨?_,rfl⟩)))
 refine congrArg (PV.int .i64) ?_
 simp only [decide_eq_true_eq,decide_eq_false_iff_not] at *
 unfold ut
 repeat' split
 all_goals first | rfl | omega):p:=h
theorem WO {fn:Int} {s:St}:za Tryz.prog 111 [.int .i64 fn] s (fun r s'=>r=.int .i64 (ut fn)∧s'=s):=by
 refine go Tryz.func111 (k:=fun hwf H=>?_)
 refine rs (k:=rg [0] (k:=rs (k:=rs (k:=rg [3] (k:=rb (k:=rs (k:=rs (k:=rg [3,4] (k:=rc (ht:=fun hc0=>?_) (hf:=fun hc0=>?_))))))))))
 ·refine rk (k:=rc (ht:=fun hc2=>?_) (hf:=fun hc2=>?_))
  ·exact Y54
  ·exact Bool.noConfusion (hc0.symm.trans hc2)
 ·refine rs (k:=rg [3,4] (k:=rc (ht:=fun hc1=>?_) (hf:=fun hc1=>?_)))
  ·refine rk (k:=rc (ht:=fun hc2=>?_) (hf:=fun hc2=>?_))
   ·exact Y54
   ·exact zjm
  ·refine rg [3,4] (k:=rc (ht:=fun hc2=>?_) (hf:=fun hc2=>?_))
   ·exact Y54
   ·refine rs (k:=rg [3,8] (k:=rc (ht:=fun hc3=>?_) (hf:=fun hc3=>?_)))
    ·exact Y54
    ·refine rs (k:=rg [10] (k:=rc (ht:=fun hc4=>?_) (hf:=fun hc4=>?_)))
     ·exact Y54
     ·refine rk (k:=rB (k:=rs (k:=rg [2] (k:=rR (k:=rP (by simp only [Tryz.f111,go_sem];rfl) hwf ⟨?_,rfl⟩)))))
      refine congrArg (PV.int .i64) ?_
      simp only [decide_eq_true_eq,decide_eq_false_iff_not] at *
      unfold ut
      repeat' split
      all_goals first | rfl | omega
attribute [local go_sem] Req.pv
theorem zbY {q:Req} {s:St}:za Tryz.prog 64 [q.pv] s (fun r s'=>r=.bool (uR q)∧s'=s):=by
 refine go Tryz.func64 (k:=fun hwf H=>?_)
 refine rs (k:=rg [1] (k:=rs (k:=rg [2] (k:=rR (k:=rP (by simp only [Tryz.f64,go_sem];rfl) hwf ⟨?_,rfl⟩)))))
 have e:uR q=(decide (q.fn=8)||decide (q.fn=17)):=by simp [uR]
 rw [e];rfl
attribute [local go_sem] uh zf ye Req.pv
set_option maxRecDepth 100000 in
theorem UF {t:Ten} (ht:t.ok) {q:Req} (hq:q.ok) {s:St}:za Tryz.prog 87 [t.pv,q.pv] s (fun r s'=>r=.tuple [.sl .unk ((zJ t q).1.map Pc.pv),.sl .unk ((zJ t q).2.1.map Pc.pv),.bool (zJ t q).2.2]∧s'=s):=by
 refine go Tryz.func87 (k:=fun hwf H=>?_)
 have hvl:I64 (q.vals.length:Int):=by have:=hq.nv;constructor<;>omega
 refine rs (k:=rg [2,3,4,5] (k:=rs (k:=rg [3,4,5,7] (k:=rs (k:=rs (k:=rg [3,4,5,7,12] (k:=rb (k:=rs (k:=rs (k:=rg [3,4,5,7,12,13] (k:=rc (ht:=fun hc0=>?_) (hf:=fun hc0=>?_))))))))))))
 refine rk (k:=rc (ht:=fun hc3=>?_) (hf:=fun hc3=>?_))
 refine jO 1 ?_;rotate_left
 ·exact Bool.noConfusion (hc0.symm.trans hc3)
 refine rs (k:=rg [3,4,5,7,12,13] (k:=rc (ht:=fun hc1=>?_) (hf:=fun hc1=>?_)))
 refine rk (k:=rc (ht:=fun hc3=>?_) (hf:=fun hc3=>?_))
 refine jO 1 ?_;rotate_left
 ·exact Bool.noConfusion (hc1.symm.trans hc3)
 refine rs (k:=rg [3,4,5,7,12,13] (k:=rc (ht:=fun hc2=>?_) (hf:=fun hc2=>?_)))
 refine rk (k:=rc (ht:=fun hc3=>?_) (hf:=fun hc3=>?_))
 refine jO 1 ?_;rotate_left
 ·exact zkN
 refine rg [3,4,5,7,12,13] (k:=rc (ht:=fun hc3=>?_) (hf:=fun hc3=>?_))
 refine jO 1 ?_;rotate_left
 refine rs (k:=rs (k:=rg [3,4,5,7,12,30] (k:=rc (ht:=fun hc4=>?_) (hf:=fun hc4=>?_))))
 refine rk (k:=rc (ht:=fun hc5=>?_) (hf:=fun hc5=>?_))
 refine jO 2 ?_;rotate_left
 ·exact znD
 refine rg [3,4,5,7,12,30] (k:=rc (ht:=fun hc5=>?_) (hf:=fun hc5=>?_))
 refine jO 2 ?_;rotate_left
 refine rs (k:=rs (k:=rg [3,4,5,7,12,43] (k:=rc (ht:=fun hc6=>?_) (hf:=fun hc6=>?_))))
 refine rk (k:=rc (ht:=fun hc7=>?_) (hf:=fun hc7=>?_))
 refine jO 3 ?_;rotate_left
 ·exact Bool.noConfusion (hc6.symm.trans hc7)
 refine rg [3,4,5,7,12,43] (k:=rc (ht:=fun hc7=>?_) (hf:=fun hc7=>?_))
 refine jO 3 ?_;rotate_left
 refine rs (k:=rg [3,4,5,7,12,58] (k:=rc (ht:=fun hc8=>?_) (hf:=fun hc8=>?_)))
 refine rs (k:=rr (k:=ro (pre:=[_,_,_]) (k:=rC (h:=uy (l:=t.wins) ht.wins ht.bw hq.at_ zlx) (k:=rh [5,6] (k:=rg [4,5,6] (k:=rB (k:=rs (k:=rg [4,5,6] (k:=rR (k:=?_))))))))))
 simp only [decide_eq_true_eq,decide_eq_false_iff_not] at *
 have hP:zJ t q=((xW t.wins 3 q.at_ 1).1,xW t.wins 3 q.at_ 1):=by
  unfold zJ
  rw [if_neg Y18,if_neg Y18,if_neg Y18,if_pos Y18]
 refine jO 4 ?_;rotate_left
 refine rs (k:=rg [3,4,5,7,68] (k:=rc (ht:=fun hc9=>?_) (hf:=fun hc9=>?_)))
 refine rs (k:=rg [3,7] (k:=rs (k:=rr (k:=ro (pre:=[_,_,_,_,_,_]) (k:=rC (h:=uy (l:=t.wins) ht.wins ht.bw hq.wat hvl) (k:=rh [3,4,6,7] (k:=rs (k:=rr (k:=ro (pre:=[_,_,_,_,_]) (k:=rC (h:=uy (l:=t.wins) ht.wins ht.bw hq.at_ hq.count) (k:=rh [4,5,6,8] (k:=rg [4,5,6] (k:=?_)))))))))))))
 refine rB (k:=rs (k:=rg [4,5,6] (k:=rR (k:=?_))))
 simp only [decide_eq_true_eq,decide_eq_false_iff_not] at *
 have hP:zJ t q=((xW t.wins 3 q.wat q.vals.length).1,(xW t.wins 3 q.at_ q.count).1,(xW t.wins 3 q.wat q.vals.length).2&&(xW t.wins 3 q.at_ q.count).2):=by
  unfold zJ
  rw [if_neg Y18,if_neg Y18,if_neg Y18,if_neg Y18,if_pos Y18]
 refine jO 4 ?_;rotate_left
 refine rg [4,5,6] (k:=rB (k:=rs (k:=rg [4,5,6] (k:=rR (k:=?_)))))
 simp only [decide_eq_true_eq,decide_eq_false_iff_not] at *
 have hP:zJ t q=([],[],true):=by
  unfold zJ
  rw [if_neg Y18,if_neg Y18,if_neg Y18,if_neg Y18,if_neg Y18]
 refine jO 4 ?_;rotate_left
 any_goals
  refine jI 3 ?_
  refine Run.drawC [] [4,5,6] Tryz.mixed Y22 ?_
  refine jO 5 ?_;rotate_left
 any_goals
  refine jI 2 ?_
  refine Run.drawC [] [4,5,6] Tryz.mixed Y22 ?_
  refine jO 6 ?_;rotate_left
 any_goals
  refine jI 5 ?_
  refine zj.pre (pre:=[_,_,_]) au ?_
  refine jO 7 ?_;rotate_left
 any_goals
  refine jI 1 ?_
  refine Run.drawC [] [4,5,6] Tryz.mixed Y22 ?_
  refine jO 8 ?_;rotate_left
 any_goals
  refine jI 6 ?_
  refine zj.pre (pre:=[_,_,_]) au ?_
  refine jO 9 ?_;rotate_left
 any_goals
  refine jI 7 ?_
  refine zj.call au au au Y22 (WO) ?_
  refine jO 10 ?_;rotate_left
 any_goals
  refine jI 9 ?_
  refine zj.call au au au Y22 (WO) ?_
  refine jO 11 ?_;rotate_left
 any_goals
  refine jI 8 ?_
  refine zj.pre (pre:=[_,_,_]) au ?_
  refine jO 12 ?_;rotate_left
 any_goals
  refine jI 10 ?_
  refine zj.pre (pre:=[_,_,_,_]) au ?_
  refine jO 13 ?_;rotate_left
 any_goals
  refine jI 12 ?_
  refine zj.call au au au Y22 (WO) ?_
  refine jO 14 ?_;rotate_left
 any_goals
  refine jI 11 ?_
  refine zj.pre (pre:=[_,_]) au ?_
  refine jO 15 ?_;rotate_left
 any_goals
  refine jI 13 ?_
  refine zj.call au au au Y22 (uy (l:=t.wins) ht.wins ht.bw hq.at_ hq.count) ?_
  refine jO 16 ?_;rotate_left
 any_goals
  refine jI 15 ?_
  refine zj.call au au au Y22 (uy (l:=t.wins) ht.wins ht.bw hq.at_ zlx) ?_
  refine jO 17 ?_;rotate_left
 any_goals
  refine jI 14 ?_
  refine zj.pre (pre:=[_,_,_,_]) au ?_
  refine jO 18 ?_;rotate_left
 any_goals
  refine jI 18 ?_
  refine zj.call au au au Y22 (uy (l:=t.wins) ht.wins ht.bw hq.at_ hq.count) ?_
  refine jO 19 ?_;rotate_left
 any_goals
  refine jI 16 ?_
  refine zj.all au ?_
  refine jO 20 ?_;rotate_left
 any_goals
  refine jI 20 ?_
  refine re (k:=rB (k:=rs (k:=rg [4,5,6] (k:=rR (k:=?_)))))
  refine jO 21 ?_;rotate_left
 any_goals
  refine jI 17 ?_
  refine zj.all au ?_
  refine jO 22 ?_;rotate_left
 any_goals
  refine jI 22 ?_
  refine re (k:=rB (k:=rs (k:=rg [4,5,6] (k:=rR (k:=?_)))))
  refine jO 23 ?_;rotate_left
 any_goals
  refine jI 19 ?_
  refine zj.all au ?_
  refine jO 24 ?_;rotate_left
 any_goals
  refine jI 21 ?_
  simp only [decide_eq_true_eq,decide_eq_false_iff_not] at *
  refine jO 25 ?_;rotate_left
 any_goals
  refine jI 24 ?_
  refine re (k:=rB (k:=rs (k:=rg [4,5,6] (k:=rR (k:=?_)))))
  refine jO 26 ?_;rotate_left
 any_goals
  refine jI 23 ?_
  simp only [decide_eq_true_eq,decide_eq_false_iff_not] at *
  refine jO 27 ?_;rotate_left
 any_goals
  refine jI 25 ?_
  have hP:zJ t q=((xW t.wins (ut q.fn) q.at_ q.count).1,[],(xW t.wins (ut q.fn) q.at_ q.count).2):=by
   unfold zJ
   rw [if_neg Y18,if_neg Y18,if_pos Y18]
  refine jO 4 ?_;rotate_left
 any_goals
  refine jI 26 ?_
  simp only [decide_eq_true_eq,decide_eq_false_iff_not] at *
  refine jO 28 ?_;rotate_left
 any_goals
  refine jI 27 ?_
  have hP:zJ t q=((xW t.wins (ut q.fn) q.at_ 1).1,[],(xW t.wins (ut q.fn) q.at_ 1).2):=by
   unfold zJ
   rw [if_neg Y18,if_pos Y18]
  refine jO 4 ?_;rotate_left
 any_goals
  refine jI 28 ?_
  have hP:zJ t q=([],xW t.wins (ut q.fn) q.at_ q.count):=by
   unfold zJ
   rw [if_pos Y18]
  refine jO 4 ?_;rotate_left
 any_goals
  refine jI 4 ?_
  refine Ret.pure (r':=.tuple [.sl .unk ((zJ t q).1.map Pc.pv),.sl .unk ((zJ t q).2.1.map Pc.pv),.bool (zJ t q).2.2]) (by simp only [Tryz.f87,go_sem,↓reduceIte]<;>rfl) (by rw [hP]<;>simp only [PV.weak,PV.weaks,uh,List.map_nil]) (by simp only [PV.blw,PV.blws,and_true,true_and];exact ⟨⟨fun t z e=>Y17,VS _ _⟩,fun t z e=>Y17,VS _ _⟩) hwf Y34 ⟨rfl,rfl⟩
attribute [local go_sem] uh zf ye Req.pv
set_option maxRecDepth 100000 in
theorem ziQ {t:Ten} (ht:t.ok) {q:Req} (hq:q.ok) {s:St}:za Tryz.prog 86 [t.pv,q.pv] s (fun r s'=>r=.int .i64 (xr t q)∧s'=s):=by
 refine go Tryz.func86 (k:=fun hwf H=>?_)
 obtain ⟨P,hP⟩:∃ P,P=zJ t q:=⟨_,rfl⟩
 have hPl:=zaF t q
 rw [← hP] at hPl
 refine rs (k:=rg [2,3] (k:=rs (k:=rr (k:=ro (pre:=[_]) (k:=rC (h:=Ym (q:=q)) (k:=rh [2,3,5] (k:=rs (k:=rb (k:=rs (k:=?_))))))))))
 have hpos:¬ zD q=15→0≤q.fn∧q.fn≤31:=fun h=>by
  have h1:xO q.fn=true:=by
   cases e:xO q.fn with
   | true=>rfl
   | false=>exact absurd (by unfold zD;rw [if_pos e]) h
  have:=yM h1
  omega
 refine rr (k:=ro (pre:=[_,_,_]) (k:=rQ 14 (ht:=fun hg2=>?_) (hf:=fun hg2=>?_)))
 refine rg0 (k:=rg0 (k:=rg0 (k:=rg0 (k:=rg0 (k:=rg0 (k:=rg0 (k:=rh [2,3,5,11] (k:=rc (ht:=fun hc0=>?_) (hf:=fun hc0=>?_)))))))))
 refine jO 1 ?_;rotate_left
 ·cases hc0
 have hp:=hpos (of_decide_eq_false hg2)
 have h031:((0:Int)≤q.fn)=True:=eq_true hp.1
 have hbit:=ziP ht hp
 have H:=aj h031 (aj hbit H)
 refine rg1 (k:=rg1 (k:=rg1 (k:=rg1 (k:=rg1 (k:=rg1 (k:=rg1 (k:=rh [2,3,5,11] (k:=rc (ht:=fun hc0=>?_) (hf:=fun hc0=>?_)))))))))
 refine jO 1 ?_;rotate_left
 refine rs (k:=rr (k:=ro (pre:=[_,_,_,_]) (k:=rG (h:=fun hb=>za1 (q:=q)) (k:=rh [2,3,23] (k:=rc (ht:=fun hc1=>?_) (hf:=fun hc1=>?_))))))
 refine jO 1 ?_;rotate_left
 refine rk (k:=rB (k:=rs (k:=rr (k:=ro (pre:=[_,_]) (k:=?_)))))
 refine zm.callw au au au Y22 ((UF ht hq).mono ?_)
 rintro r s9 ⟨rfl,hs⟩
 subst s9
 rw [← hP]
 refine rh [6,7,8] (k:=rs (k:=rb (k:=rs (k:=rg [6,7,38] (k:=rc (ht:=fun hc2=>?_) (hf:=fun hc2=>?_))))))
 refine jO 1 ?_;rotate_left
 refine rs (k:=?_)
 have hw:IntKind.i64.wrap ((P.1.length:Int)+(P.2.1.length:Int))=(P.1.length:Int)+(P.2.1.length:Int):=zi Y18
 have H:=aj hw H
 refine rg [41] (k:=rc (ht:=fun hc3=>?_) (hf:=fun hc3=>?_))
 refine jO 1 ?_;rotate_left
 refine rk (k:=rB (k:=rs (k:=rg [4] (k:=rR (k:=rP (by simp only [Tryz.f86,go_sem];rfl) hwf ⟨?_,rfl⟩)))))
 refine jO 2 ?_;rotate_left
 any_goals
  refine jI 1 ?_
  refine rs (k:=rg [4] (k:=rR (k:=rP (by simp only [Tryz.f86,go_sem];rfl) hwf ⟨?_,rfl⟩)))
  refine jO 2 ?_;rotate_left
 any_goals
  refine jI 2 ?_
  refine congrArg (PV.int .i64) ?_
  refine jO 3 ?_;rotate_left
 any_goals
  refine jI 3 ?_
  subst hP
  refine jO 4 ?_;rotate_left
 any_goals
  refine jI 4 ?_
  simp only [Bool.or_eq_true,Bool.or_eq_false_iff,Bool.not_eq_true',Bool.not_eq_false',decide_eq_true_eq,decide_eq_false_iff_not] at *
  refine jO 5 ?_;rotate_left
 any_goals
  refine jI 5 ?_
  unfold xr
  refine jO 6 ?_;rotate_left
 any_goals
  refine jI 6 ?_
  first
   |(rw [if_pos (by first | exact .inl hg2 | exact .inr hc0)];done)
   |(have n1:¬ (zD q=15∨Ws t q.fn=false):=by rintro (h | h);exact hg2 h;rw [hc0] at h;cases h
     rw [if_neg n1]
     first
     |(rw [if_pos (by rcases hc1 with h | h;exact .inl h;exact .inr h)];done)
     |(have n2:¬ (¬ zD q=0∨yu q=false):=by rintro (h | h);exact h hc1.1;rw [hc1.2] at h;cases h
       rw [if_neg n2]
       first
       |(rw [if_pos hc2];done)
       |(rw [if_neg ziT]
         first
         |(rw [if_pos Y18];done)
         |(rw [if_neg Y18];done))))
attribute [local go_sem] Pc.pv ye
theorem Up {fn:Int} {p:Pc} {s:St}:za Tryz.prog 88 [.int .i64 fn,p.pv] s (fun r s'=>r=ptV (vI fn p)∧s'=s):=by
 refine go Tryz.func88 (k:=fun hwf H=>?_)
 refine rs (k:=rg [0,3,4] (k:=rs (k:=rg [4] (k:=rR (k:=rP (by simp only [Tryz.f88,go_sem];rfl) hwf ⟨?_,rfl⟩)))))
 rfl
attribute [local go_sem] Yt
theorem zmR {xs:List (Req × Bool)} {s:St}:za Tryz.prog 92 [.sl .unk (xs.map ptV)] s (fun r s'=>r=.sl .unc (xs.map ptV)∧s'=s):=by
 refine go Tryz.func92 (k:=fun hwf H=>?_)
 have hfull:(xs.map ptV).take xs.length=xs.map ptV:=by rw [← List.length_map (f:=ptV),List.take_length]
 have H:=aj hfull H
 refine rs (k:=rg [0] (k:=rs (k:=rg [2] (k:=rR (k:=?_)))))
 refine Ret.pureK (r:=.sl .unc (xs.map ptV)) au (by simp only [PV.blw];exact ⟨fun t z e=>Y17,zf6 _ _⟩) hwf (fun _ _=>rfl) ⟨rfl,rfl⟩
end Go.Proofs
namespace Go.Proofs
open Go.PM
set_option maxHeartbeats 2000000
attribute [local go_sem] Yt uh zf ye Req.pv
theorem znS {p:Prop} (h:p:=by intro p hp;rw [List.mem_singleton.1 hp,Tryz.cz157];exact ⟨rfl,rfl⟩):p:=h
theorem zlg {p:Prop} (h:p:=by first | omega |(simp;omega)):p:=h
theorem zon {p:Prop} (h:p:=by simp only [Tryz.f63,go_sem,↓reduceIte]<;>rfl):p:=h
theorem zpV {p:Prop} (h:p:=by simp only [PV.blw,PV.blws,and_true];exact ⟨fun t z e=>Y17,zf6 _ _⟩):p:=h
theorem zoR {p:Prop} (h:p:=by rw [Tryz.cz157];exact hE.gr.mono fun t e=>zg (by have:=(hE.tk _ _ e).2;omega)):p:=h
set_option maxRecDepth 100000 in
theorem zbP {t:Ten} (ht:t.ok) {q:Req} (hq:q.ok) {s:St}:za Tryz.prog 63 [t.pv,q.pv] s (fun r s'=>r=.tuple [.sl .unk ((yy t q).1.map ptV),.int .i64 (yy t q).2]∧s'=s):=by
 refine go Tryz.func63 (k:=fun hwf H=>?_)
 obtain ⟨W,hW⟩:∃ W,W=(zJ t q).1:=⟨_,rfl⟩
 obtain ⟨R,hR⟩:∃ R,R=(zJ t q).2.1:=⟨_,rfl⟩
 have hPl:=zaF t q
 rw [← hW,← hR] at hPl
 refine rs (k:=rg [2,3] (k:=rs (k:=rs (k:=rr (k:=ro (pre:=[_,_]) (k:=rC (h:=ziQ ht hq) (k:=rh [2,3,6] (k:=rs (k:=rg [2,3,6,22] (k:=rc (ht:=fun hc0=>?_) (hf:=fun hc0=>?_)))))))))))
 ·refine rs (k:=rg [4,5] (k:=rR (k:=?_)))
  have hcd:¬ xr t q=0:=Y85
  refine Ret.pure (r':=.tuple [.sl .unk [],.int .i64 (xr t q)]) zon rfl Y32 hwf Y34 ⟨by rw [Vv hcd];rfl,rfl⟩
 refine rk (k:=rs (k:=?_))
 have hcd:xr t q=0:=Y85
 have hok:=zdQ hcd
 have hcn:=zka hok
 have hnb:=hq.nb
 have hnv:=hq.nv
 refine rg [2,3,7] (k:=rs (k:=rr (k:=ro (pre:=[_,_]) (k:=?_))))
 refine zm.callw au au au Y22 ((UF ht hq).mono ?_)
 rintro r s9 ⟨rfl,hs⟩
 subst s9
 rw [← hW,← hR]
 refine rh [3,7,8,9] (k:=rs (k:=rs (k:=rg [3,7,8,9,33] (k:=rc (ht:=fun hc1=>?_) (hf:=fun hc1=>?_)))))
 ·refine rs (k:=?_)
  have e22:q.fn=22:=of_decide_eq_true hc1
  obtain ⟨p,hp1,hp2,hsp⟩:=Zw hcd e22
  rw [← hR] at hp1
  have hRp:(R.map Pc.pv)[0]? =some (.agg [.int .i64 p.at_,.int .i64 p.phys,.int .i64 p.cnt]):=by
   cases R with
   | nil=>cases hp1
   | cons a l=>cases hp1;rfl
  have hRl:(0<R.length)=True:=eq_true (by cases R with | nil=>cases hp1 | cons a l=>simp)
  have H:=aj hRp (aj hRl H)
  refine rg [9,11] (k:=rs (k:=rr (k:=ro (pre:=[_,_,_]) (k:=rC (h:=Up (p:=p)) (k:=ro (pre:=[_]) (k:=rO (k:=ro (pre:=[_,_]) (k:=rO (k:=rh [4,5] (k:=rR (k:=?_)))))))))))
  refine Ret.pure (r':=.tuple [.sl .unk ((yy t q).1.map ptV),.int .i64 (yy t q).2]) zon (by rw [hsp];simp only [PV.weak,PV.weaks,zdG];rfl) zpV hwf Y34 ⟨rfl,rfl⟩
 refine rk (k:=rs (k:=rs (k:=?_)))
 have n22:¬ q.fn=22:=of_decide_eq_false hc1
 have hsp:=uv hcd n22
 rw [← hW,← hR] at hsp
 refine rg [3,7,9,47,48,49] (k:=rb (k:=?_))
 refine Run.loop (fun e s'=>∃ (i:Nat) (els:List PV) (kk:SK),e=[(3,.ptr (s.nxt+1) 0 0),(7,.sl kk els),(9,.sl .unk (R.map Pc.pv)),(47,.sl .unk (W.map Pc.pv)),(48,.int .i64 (W.length:Int)),(49,.int .i64 (i:Int))]∧i≤W.length∧els.length=i∧s.nxt+2≤s'.nxt∧s'.blk (s.nxt+1)=some (.row 47 [.agg [.int .i64 q.fn,.int .i64 q.at_,.int .i64 q.count,.int .i64 q.wat,.int .i64 q.sub,.sl .unk (q.bits.map PV.bool),.sl .unk (q.vals.map (PV.int .u16)),.int .u16 q.and_,.int .u16 q.or_]])∧uH 10 s s' kk els (((W.take i).map (vR q)).map ptV)) (fun e s'=>W.length-xB e 49) ?_ ?_
 ·exact ⟨0,[],.nil,rfl,Nat.zero_le _,rfl,Nat.le_refl _,zN,rfl,zjS,((Fr.refl hwf).new _).new _,.inl ⟨rfl,rfl⟩,fun t z e=>Y17⟩
 rintro e s1 ⟨i,els,kk,rfl,hi,hel,hnx,hqb,hE⟩
 have hFn:=hE.fr.nxt
 have H:=aj hqb H
 refine rs (k:=rg [3,7,9,47,48,49,50] (k:=rs (k:=rc (ht:=fun hc2=>?_) (hf:=fun hc2=>?_))))
 ·refine rk (k:=rs (k:=rb (k:=rs (k:=?_))))
  have hil:i<W.length:=by have:=of_decide_eq_true hc2;omega
  obtain ⟨p,hpe⟩:∃ z_,W[i]'hil=z_:=⟨_,rfl⟩
  have hxp:(W.map Pc.pv)[i]? =some (.agg [.int .i64 p.at_,.int .i64 p.phys,.int .i64 p.cnt]):=by rw [yP hil,hpe];rfl
  have hilT:(i<W.length)=True:=eq_true hil
  have hw:IntKind.i64.wrap ((i:Int)+1)=((i+1:Nat):Int):=Y24
  have hpW:p∈(zJ t q).1:=by rw [← hW,← hpe];exact List.getElem_mem _
  have hpf:=zdd hpW
  have hpb:=(zfX hpW).b
  unfold zh7 zis at hpb
  have H:=aj hxp (aj hilT (aj hw H))
  refine rg [3,7,9,13,47,48,49] (k:=rs (k:=rg [3,7,9,13,14,47,48,49] (k:=rs (k:=rs (k:=?_)))))
  refine Run.genS fun S1 hS=>?_
  obtain ⟨p13,h13⟩:∃ x,x=s1.nxt:=⟨_,rfl⟩
  obtain ⟨p14,h14⟩:∃ x,x=s1.nxt+1:=⟨_,rfl⟩
  rw [← h14,← h13]
  have hx13:S1.blk p13=some (.row 155 [.agg [.int .i64 p.at_,.int .i64 p.phys,.int .i64 p.cnt]]):=by rw [hS,zd Y18,zg (by show p13≠s1.nxt+1;omega),h13];exact zN
  have hx14:S1.blk p14=some (.row 47 [.agg [.int .i64 q.fn,.int .i64 p.phys,.int .i64 p.cnt,.int .i64 0,.int .i64 0,.sl .nil [],.sl .nil [],.int .u16 0,.int .u16 0]]):=by rw [hS,h14];exact zy _ _ _
  have hxq:S1.blk (s.nxt+1)=some (.row 47 [.agg [.int .i64 q.fn,.int .i64 q.at_,.int .i64 q.count,.int .i64 q.wat,.int .i64 q.sub,.sl .unk (q.bits.map PV.bool),.sl .unk (q.vals.map (PV.int .u16)),.int .u16 q.and_,.int .u16 q.or_]]):=by rw [hS,zd Y18,zg (by show s.nxt+1≠s1.nxt+1;omega),zg Y18];exact hqb
  have hn1:S1.nxt=p14+1:=by rw [hS,h14];rfl
  have hE1:uH 10 s S1 kk els (((W.take i).map (vR q)).map ptV):=by
   rw [hS]
   exact hE.to ((hE.fr.new _).newset _ _ rfl) (by show s1.nxt≤s1.nxt+1+1;omega) fun t z e=>by rw [zd (by have:=(hE.tk t z e).2;omega),zg (by have:=(hE.tk t z e).2;show t≠s1.nxt+1;omega),zg (by have:=(hE.tk t z e).2;omega)]
  clear hS
  have n1:(p13=p14)=False:=eq_false Y18
  have n2:(p14=p13)=False:=eq_false Y18
  have n3:(s.nxt+1=p14)=False:=eq_false Y18
  have n4:(p14=s.nxt+1)=False:=eq_false Y18
  have n5:(s.nxt+1=p13)=False:=eq_false Y18
  have H:=aj hx13 (aj hx14 (aj hxq (aj n1 (aj n2 (aj n3 (aj n4 (aj n5 H)))))))
  refine rg [3,7,9,13,14,47,48,49,61] (k:=?_)
  refine Run.join (fun e s'=>∃ (F C:Int) (B:List Bool) (V:List Int) (kb kv:SK),e=[(3,.ptr (s.nxt+1) 0 0),(7,.sl kk els),(9,.sl .unk (R.map Pc.pv)),(14,.ptr p14 0 0),(47,.sl .unk (W.map Pc.pv)),(48,.int .i64 (W.length:Int)),(49,.int .i64 (i:Int))]∧(∃ X,s'=S1.set p14 X)∧s'.blk p14=some (.row 47 [.agg [.int .i64 F,.int .i64 p.phys,.int .i64 C,.int .i64 0,.int .i64 0,.sl kb (B.map PV.bool),.sl kv (V.map (PV.int .u16)),.int .u16 0,.int .u16 0]])∧vR q p=(⟨F,p.phys,C,0,0,B,V,0,0⟩,true)) ?_ ?_
  ·rintro e S2 ⟨F,C,B,V,kb,kv,rfl,⟨X2,hS2⟩,h2b,hwp⟩
   have hn2:S2.nxt=p14+1:=by rw [hS2];exact hn1
   have h2q:S2.blk (s.nxt+1)=some (.row 47 [.agg [.int .i64 q.fn,.int .i64 q.at_,.int .i64 q.count,.int .i64 q.wat,.int .i64 q.sub,.sl .unk (q.bits.map PV.bool),.sl .unk (q.vals.map (PV.int .u16)),.int .u16 q.and_,.int .u16 q.or_]]):=by rw [hS2,zd Y18];exact hxq
   have hE2:uH 10 s S2 kk els (((W.take i).map (vR q)).map ptV):=by
    rw [hS2]
    exact hE1.to (hE1.fr.set Y18 Y18 _) (Nat.le_refl _) fun t z e=>zd (hE1.nr hx14 t z e)
   clear hS2
   have H:=aj h2b (aj h2q (aj n1 (aj n2 (aj n3 (aj n4 (aj n5 (aj hw trivial)))))))
   refine rs (k:=rH 10 [7,9] [[false,false],[true,false],[true,true]] [S2,(S2.set p14 (some (.row 47 [.agg [.int .i64 F,.int .i64 p.phys,.int .i64 C,.int .i64 0,.int .i64 0,.sl .unc (B.map PV.bool),.sl kv (V.map (PV.int .u16)),.int .u16 0,.int .u16 0]]))),(S2.set p14 (some (.row 47 [.agg [.int .i64 F,.int .i64 p.phys,.int .i64 C,.int .i64 0,.int .i64 0,.sl .unc (B.map PV.bool),.sl .unc (V.map (PV.int .u16)),.int .u16 0,.int .u16 0]])))] Tryz.mixed (k:=?_))
   refine dP [0] (pre:=[_,_]) (k:=?_)
   refine dC [0] (h:=fun s _=>VY (xs:=B)) (k:=?_)
   refine dP [0] (pre:=[_,_]) (k:=?_)
   refine dC [0] (h:=fun s _=>zby (xs:=V)) (k:=?_)
   refine dP [0] (pre:=[_]) (k:=?_)
   refine dE [(0,1)] (k:=?_)
   refine dP [1] (pre:=[_]) (k:=?_)
   refine dE [(1,2)] (k:=?_)
   refine zO.nil ?_
   refine rl [3,7,9,14,47,48,49] (k:=rr (k:=ro (pre:=[_,_,_]) (k:=rO (k:=?_))))
   refine zm.grow (xs:=els) (ys:=[_]) au au au Tryz.td132 (by rw [Tryz.zp157];rfl) (by unfold xg;rw [Tryz.cz157];exact hE2.el) znS (by rw [Tryz.by157];decide) (by rw [Tryz.by157];simp;omega) (by rw [Tryz.cz157];exact hE2.gr.mono fun t e=>zd (hE2.nr h2b _ _ e)) Y71 ?_
   intro k' s3 hgr' htm
   rw [Tryz.cz157] at hgr'
   refine rh [3,7,9,47,48,49] (k:=rB (k:=rg [3,7,9,47,48,49] (k:=?_)))
   have h3x:S2.nxt≤s3.nxt:=htm.nxt
   refine Run.lp ⟨⟨i+1,_,k',rfl,Y18,zm5,Y18,?_,?_⟩,?_⟩
   ·rw [htm.rest (s.nxt+1) (by show s.nxt+1<S2.nxt;omega) (fun z e=>(hE2.nr h2q _ z e) rfl),zd Y18];exact h2q
   ·rw [xn hil,hpe,List.map_append,List.map_append]
    exact hE2.snoc rfl rfl (by rw [hwp];simp only [ptV,PV.weak,PV.weaks,zf,zA]) (by exact Nat.le_refl _) (hE2.fr.set Y18 Y18 _) hgr' htm
   ·exact Y29
  intro hJb2
  refine rb (k:=rs (k:=rg [3,7,9,13,14,47,48,49,61,62] (k:=rc (ht:=fun hc3=>?_) (hf:=fun hc3=>?_))))
  ·refine rr (k:=ro (pre:=[_,_]) (k:=rC (h:=WS (xs:=q.bits) zlg) (k:=rh [3,7,9,14,47,48,49] (k:=rB (k:=?_)))))
   have e9:q.fn=5:=of_decide_eq_true hc3
   refine hJb2 _ _ ⟨q.fn,0,q.bits,[],.unk,.nil,rfl,⟨_,rfl⟩,zy _ _ _,?_⟩
   unfold vR
   rw [e9]
   rfl
  ·refine rs (k:=rg [3,7,9,13,14,47,48,49,61,69] (k:=rc (ht:=fun hc4=>?_) (hf:=fun hc4=>?_)))
   ·refine rr (k:=ro (pre:=[_,_]) (k:=rC (h:=Wn (xs:=q.vals) zlg) (k:=rh [3,7,9,14,47,48,49] (k:=rB (k:=?_)))))
    have e9:q.fn=6:=of_decide_eq_true hc4
    refine hJb2 _ _ ⟨q.fn,0,[],q.vals,.nil,.unk,rfl,⟨_,rfl⟩,zy _ _ _,?_⟩
    unfold vR
    rw [e9]
    rfl
   ·refine rs (k:=rg [3,7,9,13,14,47,48,49,61,76] (k:=rc (ht:=fun hc5=>?_) (hf:=fun hc5=>?_)))
    ·simp only [decide_eq_true_eq,decide_eq_false_iff_not] at hc5
     have h15:=hcn.1 hc5
     rw [if_neg Y18,if_neg Y18,if_neg Y18] at hpb
     have hb1:0≤p.at_-q.at_∧0≤p.cnt∧p.at_-q.at_+p.cnt≤q.bits.length:=Y18
     obtain ⟨a0,ha0⟩:∃ a:Nat,p.at_-q.at_=a:=⟨(p.at_-q.at_).toNat,Y18⟩
     obtain ⟨c0,hc0'⟩:∃ a:Nat,p.cnt=a:=⟨p.cnt.toNat,Y18⟩
     have hwo:IntKind.i64.wrap (p.at_-q.at_)=(a0:Int):=by rw [ha0];exact zi Y18
     have hs1:(q.bits.map PV.bool).drop a0=(q.bits.drop a0).map PV.bool:=List.map_drop.symm
     have hs2:((q.bits.drop a0).map PV.bool).take c0=((q.bits.drop a0).take c0).map PV.bool:=List.map_take.symm
     have hl1:((a0:Int)≤(q.bits.length:Int))=True:=eq_true Y18
     have hl2:((c0:Int)≤((q.bits.drop a0).length:Int))=True:=eq_true (by rw [List.length_drop];omega)
     have hln:((q.bits.drop a0).map PV.bool).take ((q.bits.length:Int)-(a0:Int)).toNat=(q.bits.drop a0).map PV.bool:=List.take_of_length_le zm9
     have H:=aj hwo (aj hs1 (aj hs2 (aj hl1 (aj hl2 (aj hln (aj hc0' H))))))
     refine rH 14 [13] [[false],[true]] [S1,(S1.set p14 (some (.row 47 [.agg [.int .i64 q.fn,.int .i64 p.phys,.int .i64 p.cnt,.int .i64 0,.int .i64 0,.sl .unk (((q.bits.drop a0).take c0).map PV.bool),.sl .nil [],.int .u16 0,.int .u16 0]])))] Tryz.mixed (k:=?_)
     refine dP [0] (pre:=[_,_,_,_,_,_,_,_,_,_,_]) (k:=?_)
     refine dC [0] (h:=fun s _=>WS (xs:=(q.bits.drop a0).take c0) zlg) (k:=?_)
     refine dP [0] (pre:=[_]) (k:=?_)
     refine dE [(0,1)] (k:=?_)
     refine zO.nil ?_
     refine rl [3,7,9,14,47,48,49] (k:=rB (k:=?_))
     have e9:q.fn=15:=hc5
     refine hJb2 _ _ ⟨q.fn,p.cnt,((q.bits.drop a0).take c0),[],.unk,.nil,rfl,⟨_,rfl⟩,zy _ _ _,?_⟩
     unfold vR
     rw [e9,ha0,hc0']
     rfl
    ·refine rs (k:=rg [3,7,9,13,14,47,48,49,61,91] (k:=rc (ht:=fun hc6=>?_) (hf:=fun hc6=>?_)))
     ·simp only [decide_eq_true_eq,decide_eq_false_iff_not] at hc6
      have h16:=(hcn.2.1 hc6).1
      rw [if_neg Y18,if_neg Y18,if_neg Y18] at hpb
      have hb1:0≤p.at_-q.at_∧0≤p.cnt∧p.at_-q.at_+p.cnt≤q.vals.length:=Y18
      obtain ⟨a0,ha0⟩:∃ a:Nat,p.at_-q.at_=a:=⟨(p.at_-q.at_).toNat,Y18⟩
      obtain ⟨c0,hc0'⟩:∃ a:Nat,p.cnt=a:=⟨p.cnt.toNat,Y18⟩
      have hwo:IntKind.i64.wrap (p.at_-q.at_)=(a0:Int):=by rw [ha0];exact zi Y18
      have hs1:(q.vals.map (PV.int .u16)).drop a0=(q.vals.drop a0).map (PV.int .u16):=List.map_drop.symm
      have hs2:((q.vals.drop a0).map (PV.int .u16)).take c0=((q.vals.drop a0).take c0).map (PV.int .u16):=List.map_take.symm
      have hl1:((a0:Int)≤(q.vals.length:Int))=True:=eq_true Y18
      have hl2:((c0:Int)≤((q.vals.drop a0).length:Int))=True:=eq_true (by rw [List.length_drop];omega)
      have hln:((q.vals.drop a0).map (PV.int .u16)).take ((q.vals.length:Int)-(a0:Int)).toNat=(q.vals.drop a0).map (PV.int .u16):=List.take_of_length_le zm9
      have H:=aj hwo (aj hs1 (aj hs2 (aj hl1 (aj hl2 (aj hln (aj hc0' H))))))
      refine rH 14 [13] [[false],[true]] [S1,(S1.set p14 (some (.row 47 [.agg [.int .i64 q.fn,.int .i64 p.phys,.int .i64 p.cnt,.int .i64 0,.int .i64 0,.sl .nil [],.sl .unk (((q.vals.drop a0).take c0).map (PV.int .u16)),.int .u16 0,.int .u16 0]])))] Tryz.mixed (k:=?_)
      refine dP [0] (pre:=[_,_,_,_,_,_,_,_,_,_,_]) (k:=?_)
      refine dC [0] (h:=fun s _=>Wn (xs:=(q.vals.drop a0).take c0) zlg) (k:=?_)
      refine dP [0] (pre:=[_]) (k:=?_)
      refine dE [(0,1)] (k:=?_)
      refine zO.nil ?_
      refine rl [3,7,9,14,47,48,49] (k:=rB (k:=?_))
      have e9:q.fn=16:=hc6
      refine hJb2 _ _ ⟨q.fn,p.cnt,[],((q.vals.drop a0).take c0),.nil,.unk,rfl,⟨_,rfl⟩,zy _ _ _,?_⟩
      unfold vR
      rw [e9,ha0,hc0']
      rfl
     ·refine rs (k:=rg [3,7,9,13,14,47,48,49,106] (k:=rc (ht:=fun hc7=>?_) (hf:=fun hc7=>?_)))
      ·simp only [decide_eq_true_eq,decide_eq_false_iff_not] at hc7
       rw [if_pos hc7,if_neg Y18,if_pos hc7] at hpb
       have hb1:0≤p.at_-q.wat∧0≤p.cnt∧p.at_-q.wat+p.cnt≤q.vals.length:=Y18
       obtain ⟨a0,ha0⟩:∃ a:Nat,p.at_-q.wat=a:=⟨(p.at_-q.wat).toNat,Y18⟩
       obtain ⟨c0,hc0'⟩:∃ a:Nat,p.cnt=a:=⟨p.cnt.toNat,Y18⟩
       have hwo:IntKind.i64.wrap (p.at_-q.wat)=(a0:Int):=by rw [ha0];exact zi Y18
       have hs1:(q.vals.map (PV.int .u16)).drop a0=(q.vals.drop a0).map (PV.int .u16):=List.map_drop.symm
       have hs2:((q.vals.drop a0).map (PV.int .u16)).take c0=((q.vals.drop a0).take c0).map (PV.int .u16):=List.map_take.symm
       have hl1:((a0:Int)≤(q.vals.length:Int))=True:=eq_true Y18
       have hl2:((c0:Int)≤((q.vals.drop a0).length:Int))=True:=eq_true (by rw [List.length_drop];omega)
       have hln:((q.vals.drop a0).map (PV.int .u16)).take ((q.vals.length:Int)-(a0:Int)).toNat=(q.vals.drop a0).map (PV.int .u16):=List.take_of_length_le zm9
       have H:=aj hwo (aj hs1 (aj hs2 (aj hl1 (aj hl2 (aj hln (aj hc0' H))))))
       refine rH 16 [13,15] [[false,false],[true,false],[true,true]] [S1,(S1.set p14 (some (.row 47 [.agg [.int .i64 16,.int .i64 p.phys,.int .i64 p.cnt,.int .i64 0,.int .i64 0,.sl .nil [],.sl .nil [],.int .u16 0,.int .u16 0]]))),(S1.set p14 (some (.row 47 [.agg [.int .i64 16,.int .i64 p.phys,.int .i64 p.cnt,.int .i64 0,.int .i64 0,.sl .nil [],.sl .unk (((q.vals.drop a0).take c0).map (PV.int .u16)),.int .u16 0,.int .u16 0]])))] Tryz.mixed (k:=?_)
       refine dP [0] (pre:=[_,_,_,_,_,_,_,_,_,_,_]) (k:=?_)
       refine dC [0] (h:=fun s _=>Wn (xs:=(q.vals.drop a0).take c0) zlg) (k:=?_)
       refine dP [0] (pre:=[_]) (k:=?_)
       refine dE [(0,1)] (k:=?_)
       refine dP [1] (pre:=[_]) (k:=?_)
       refine dE [(1,2)] (k:=?_)
       refine zO.nil ?_
       refine rl [3,7,9,14,47,48,49] (k:=rB (k:=?_))
       have e9:q.fn=23:=hc7
       refine hJb2 _ _ ⟨16,p.cnt,[],((q.vals.drop a0).take c0),.nil,.unk,rfl,⟨_,rfl⟩,zy _ _ _,?_⟩
       unfold vR
       rw [e9,ha0,hc0']
       rfl
      ·refine rk (k:=rB (k:=?_))
       simp only [decide_eq_true_eq,decide_eq_false_iff_not] at *
       omega
 refine rX (k:=rs (k:=rs (k:=rg [3,7,136,137,138] (k:=rb (k:=?_)))))
 refine Run.loop (fun e s'=>∃ (i:Nat) (els:List PV) (kk:SK),e=[(3,.ptr (s.nxt+1) 0 0),(7,.sl kk els),(136,.sl .unk (R.map Pc.pv)),(137,.int .i64 (R.length:Int)),(138,.int .i64 (i:Int))]∧i≤R.length∧els.length=W.length+i∧s.nxt+2≤s'.nxt∧s'.blk (s.nxt+1)=some (.row 47 [.agg [.int .i64 q.fn,.int .i64 q.at_,.int .i64 q.count,.int .i64 q.wat,.int .i64 q.sub,.sl .unk (q.bits.map PV.bool),.sl .unk (q.vals.map (PV.int .u16)),.int .u16 q.and_,.int .u16 q.or_]])∧uH 10 s s' kk els ((W.map (vR q)++(R.take i).map (vI (if q.fn=23 then 3 else q.fn))).map ptV)) (fun e s'=>R.length-xB e 138) ?_ ?_
 ·have hi9:i=W.length:=by have:=of_decide_eq_false hc2;omega
  rw [hi9,List.take_length] at hE
  exact ⟨0,els,kk,rfl,Nat.zero_le _,Y18,hnx,hqb,by rw [List.take_zero,List.map_nil,List.append_nil];exact hE⟩
 rintro e s1 ⟨i,els,kk,rfl,hi,hel,hnx,hqb,hE⟩
 have hFn:=hE.fr.nxt
 have H:=aj hqb H
 refine rs (k:=rg [3,7,136,137,138,139] (k:=rs (k:=rc (ht:=fun hc8=>?_) (hf:=fun hc8=>?_))))
 refine rk (k:=rs (k:=rb (k:=rs (k:=?_))))
 have hil:i<R.length:=by have:=of_decide_eq_true hc8;omega
 obtain ⟨p,hpe⟩:∃ z_,R[i]'hil=z_:=⟨_,rfl⟩
 have hxp:(R.map Pc.pv)[i]? =some (.agg [.int .i64 p.at_,.int .i64 p.phys,.int .i64 p.cnt]):=by rw [yP hil,hpe];rfl
 have hilT:(i<R.length)=True:=eq_true hil
 have hw:IntKind.i64.wrap ((i:Int)+1)=((i+1:Nat):Int):=Y24
 have H:=aj hxp (aj hilT (aj hw H))
 refine rg [3,7,16,136,137,138] (k:=rs (k:=rg [3,7,16,17,136,137,138] (k:=rs (k:=rs (k:=rg [3,7,16,17,136,137,138,145] (k:=rc (ht:=fun hc9=>?_) (hf:=fun hc9=>?_)))))))
 refine rg [3,7,16,17,136,137,138] (k:=rr (k:=ro (pre:=[_,_,_]) (k:=rC (h:=Up (p:=p)) (k:=rO (k:=?_)))))
 refine zm.grow (xs:=els) (ys:=[_]) au au au Tryz.td132 (by rw [Tryz.zp157];rfl) (by unfold xg;rw [Tryz.cz157];exact hE.el) znS (by rw [Tryz.by157];decide) (by rw [Tryz.by157];simp;omega) zoR Y71 ?_
 intro k' s3 hgr' htm
 rw [Tryz.cz157] at hgr'
 refine rh [3,7,136,137,138] (k:=rB (k:=rg [3,7,136,137,138] (k:=?_)))
 have h3x:s1.nxt+1≤s3.nxt:=htm.nxt
 have hef:(if q.fn=23 then 3 else q.fn)=3:=if_pos (of_decide_eq_true hc9)
 refine jO 1 ?_;rotate_left
 refine rk (k:=rr (k:=ro (pre:=[_,_,_]) (k:=rC (h:=Up (p:=p)) (k:=rO (k:=?_)))))
 refine zm.grow (xs:=els) (ys:=[_]) au au au Tryz.td132 (by rw [Tryz.zp157];rfl) (by unfold xg;rw [Tryz.cz157];exact hE.el) znS (by rw [Tryz.by157];decide) (by rw [Tryz.by157];simp;omega) zoR Y71 ?_
 intro k' s3 hgr' htm
 rw [Tryz.cz157] at hgr'
 refine rh [3,7,136,137,138] (k:=rB (k:=rg [3,7,136,137,138] (k:=?_)))
 have h3x:s1.nxt+1≤s3.nxt:=htm.nxt
 have hef:(if q.fn=23 then 3 else q.fn)=q.fn:=if_neg (of_decide_eq_false hc9)
 refine jO 1 ?_;rotate_left
 ·refine rX (k:=rs (k:=?_))
  have hi9:i=R.length:=by have:=of_decide_eq_false hc8;omega
  have hwk:PV.weaks els=(yy t q).1.map ptV:=by rw [hE.wk,hi9,List.take_length,hsp]
  have H:=aj hwk H
  refine rr (k:=ro (pre:=[_]) (k:=rC (h:=zmR (xs:=(yy t q).1)) (k:=rh [4,5] (k:=rR (k:=?_)))))
  refine Ret.pure (r':=.tuple [.sl .unk ((yy t q).1.map ptV),.int .i64 (yy t q).2]) zon (by simp only [PV.weak,PV.weaks,Yt,hsp]) zpV hwf hE.fr.blk ⟨rfl,rfl⟩
 any_goals
  refine jI 1 ?_
  refine Run.lp ⟨⟨i+1,_,k',rfl,Y18,by rw [List.length_append,hel];simp only [List.length_singleton];omega,Y18,?_,?_⟩,?_⟩
  refine jO 2 ?_;rotate_left
  refine jO 3 ?_;rotate_left
  ·exact Y29
 any_goals
  refine jI 3 ?_
  rw [xn hil,hpe,List.map_append (f:=vI (if q.fn=23 then 3 else q.fn)),← List.append_assoc,List.map_append (f:=ptV)]
  refine jO 4 ?_;rotate_left
 any_goals
  refine jI 2 ?_
  rw [htm.rest (s.nxt+1) (by show s.nxt+1<s1.nxt+1;omega) (fun z e=>(hE.nr hqb _ z e) rfl),zg Y18];exact hqb
 any_goals
  refine jI 4 ?_
  exact hE.snoc rfl rfl (by rw [hef];exact zdG _) (Nat.le_succ _) (hE.fr.new _) hgr' htm
end Go.Proofs
namespace Go.Proofs
open Go.PM
set_option maxHeartbeats 2000000
attribute [local go_sem] zf Rep.pv
theorem zf0 {r:Rep} {s:St}:za Tryz.prog 96 [r.pv] s (fun v s'=>v=.bool (decide (¬ r.code=0))∧s'=s):=by
 refine go Tryz.func96 (k:=fun hwf H=>?_)
 refine rs (k:=rg [1] (k:=rs (k:=rg [2] (k:=rR (k:=rP (by simp only [Tryz.f96,go_sem];rfl) hwf ⟨?_,rfl⟩)))))
 simp [PV.weak]
attribute [local go_sem] zf ye Rep.pv Req.pv List.map_nil
theorem Y55 {p:Prop} (h:p:=by exact (fun i hi=>by first | exact hlo i hi |(rw [zd Y18];exact hlo i hi) |(rw [zd Y18,zd Y18];exact hlo i hi))):p:=h
theorem zjz {p:Prop} (h:p:=by simp only [Tryz.f97,go_sem,↓reduceIte]<;>rfl):p:=h
set_option maxRecDepth 100000 in
theorem zhM {q:Req} (hq:q.ok) {bits:List Bool} {vals:List Int} (h1:bits.length≤100000) (h2:vals.length≤100000) {s:St}:za Tryz.prog 97 [q.pv,(⟨q.fn,0,0,0,0,bits,vals,0,0,[]⟩:Rep).pv] s (fun v s'=>v=(yH q bits vals).pv∧s'=s):=by
 refine go Tryz.func97 (k:=fun hwf H=>?_)
 have hnb:=hq.nb
 have hnv:=hq.nv
 have hws:IntKind.i64.wrap ((bits.length:Int)+(vals.length:Int))=(bits.length:Int)+(vals.length:Int):=zi Y18
 have H:=aj hws H
 refine rs (k:=rg [2,3,4] (k:=rs (k:=rs (k:=?_))))
 refine Run.genS fun S1 hS=>?_
 obtain ⟨p2,h2'⟩:∃ p,p=s.nxt:=⟨_,rfl⟩
 obtain ⟨p3,h3'⟩:∃ p,p=s.nxt+1:=⟨_,rfl⟩
 obtain ⟨p4,h4'⟩:∃ p,p=s.nxt+2:=⟨_,rfl⟩
 rw [← h4',← h3',← h2']
 have hx2:S1.blk p2=some (.row 47 [.agg [.int .i64 q.fn,.int .i64 q.at_,.int .i64 q.count,.int .i64 q.wat,.int .i64 q.sub,.sl .unk (q.bits.map PV.bool),.sl .unk (q.vals.map (PV.int .u16)),.int .u16 q.and_,.int .u16 q.or_]]):=by rw [hS];simp (disch:=first | omega |(simp only [zt,zq]<;>omega) | fail) only [go_sem,h2']<;>rfl
 have hx3:S1.blk p3=some (.row 52 [.agg [.int .i64 q.fn,.int .i64 0,.int .i64 0,.int .i64 0,.int .i64 0,.sl .unk (bits.map PV.bool),.sl .unk (vals.map (PV.int .u16)),.int .u16 0,.int .u16 0,.sl .unk []]]):=by rw [hS];simp (disch:=first | omega |(simp only [zt,zq]<;>omega) | fail) only [go_sem,h3']<;>rfl
 have hx4:S1.blk p4=some (.row 52 [.agg [.int .i64 0,.int .i64 0,.int .i64 0,.int .i64 0,.int .i64 0,.sl .nil [],.sl .nil [],.int .u16 0,.int .u16 0,.sl .nil []]]):=by rw [hS];simp (disch:=first | omega |(simp only [zt,zq]<;>omega) | fail) only [go_sem,h4']<;>rfl
 have hlo:∀ j,j<s.nxt→S1.blk j=s.blk j:=fun j hj=>Y51
 clear hS
 have n1:(p2=p3)=False:=eq_false Y18
 have n2:(p2=p4)=False:=eq_false Y18
 have n3:(p3=p4)=False:=eq_false Y18
 have n4:(p3=p2)=False:=eq_false Y18
 have n5:(p4=p2)=False:=eq_false Y18
 have n6:(p4=p3)=False:=eq_false Y18
 have H:=aj hx2 (aj hx3 (aj hx4 (aj n1 (aj n2 (aj n3 (aj n4 (aj n5 (aj n6 H))))))))
 refine rg [2,3,4,6] (k:=rb (k:=rs (k:=rg [2,3,4,6,7] (k:=rc (ht:=fun hc0=>?_) (hf:=fun hc0=>?_)))))
 ·refine rs (k:=rH 10 [9] [[false],[true]] [S1,(S1.set p4 (some (.row 52 [.agg [.int .i64 q.fn,.int .i64 0,.int .i64 q.at_,.int .i64 0,.int .i64 0,.sl .unc (q.bits.map PV.bool),.sl .nil [],.int .u16 0,.int .u16 0,.sl .nil []]])))] Tryz.mixed (k:=?_))
  refine dP [0] (pre:=[_,_,_,_,_,_]) (k:=?_)
  refine dC [0] (h:=fun s _=>WS (xs:=q.bits) Y18) (k:=?_)
  refine dC [0] (h:=fun s _=>VY (xs:=q.bits)) (k:=?_)
  refine dP [0] (pre:=[_]) (k:=?_)
  refine dE [(0,1)] (k:=?_)
  refine zO.nil ?_
  refine rl [4] (k:=rR (k:=?_))
  simp only [Bool.not_eq_true',Bool.not_eq_false',decide_eq_true_eq,decide_eq_false_iff_not] at *
  refine Ret.pure (r':=(yH q bits vals).pv) zjz ?_ (zS _ _) hwf Y55 ⟨rfl,rfl⟩
  unfold yH
  rw [if_pos hc0,hc0]
  simp only [PV.weak,PV.weaks,Rep.pv,zf,zA]<;>rfl
 refine rs (k:=rg [2,3,4,6,18] (k:=rc (ht:=fun hc1=>?_) (hf:=fun hc1=>?_)))
 ·refine rs (k:=rH 10 [9] [[false],[true]] [S1,(S1.set p4 (some (.row 52 [.agg [.int .i64 q.fn,.int .i64 0,.int .i64 q.at_,.int .i64 0,.int .i64 0,.sl .nil [],.sl .unc (q.vals.map (PV.int .u16)),.int .u16 0,.int .u16 0,.sl .nil []]])))] Tryz.mixed (k:=?_))
  refine dP [0] (pre:=[_,_,_,_,_,_]) (k:=?_)
  refine dC [0] (h:=fun s _=>Wn (xs:=q.vals) Y18) (k:=?_)
  refine dC [0] (h:=fun s _=>zby (xs:=q.vals)) (k:=?_)
  refine dP [0] (pre:=[_]) (k:=?_)
  refine dE [(0,1)] (k:=?_)
  refine zO.nil ?_
  refine rl [4] (k:=rR (k:=?_))
  simp only [Bool.not_eq_true',Bool.not_eq_false',decide_eq_true_eq,decide_eq_false_iff_not] at *
  refine Ret.pure (r':=(yH q bits vals).pv) zjz ?_ (zS _ _) hwf Y55 ⟨rfl,rfl⟩
  unfold yH
  rw [if_neg Y18,if_pos hc1,hc1]
  simp only [PV.weak,PV.weaks,Rep.pv,zf,zA]<;>rfl
 refine rs (k:=rs (k:=rg [2,3,4,6,29] (k:=rc (ht:=fun hc2=>?_) (hf:=fun hc2=>?_))))
 refine rk (k:=rc (ht:=fun hc3=>?_) (hf:=fun hc3=>?_))
 refine jO 1 ?_;rotate_left
 ·exact zkN
 refine rg [2,3,4,6,29] (k:=rc (ht:=fun hc3=>?_) (hf:=fun hc3=>?_))
 refine jO 1 ?_;rotate_left
 ·refine rs (k:=rg [2,3,4,39] (k:=rc (ht:=fun hc4=>?_) (hf:=fun hc4=>?_)))
  ·refine rs (k:=rg [4] (k:=rR (k:=?_)))
   simp only [Bool.not_eq_true',Bool.not_eq_false',decide_eq_true_eq,decide_eq_false_iff_not] at *
   refine Ret.pure (r':=(yH q bits vals).pv) zjz ?_ (zS _ _) hwf Y55 ⟨rfl,rfl⟩
   unfold yH
   rw [if_neg Y18,if_neg Y18,if_neg Y18,if_pos Y18,show q.fn=22 from Y18]
   simp only [PV.weak,PV.weaks,Rep.pv,zf,zA]<;>rfl
  ·refine rk (k:=rB (k:=rs (k:=rs (k:=rg [2,3,4,59] (k:=rc (ht:=fun hc5=>?_) (hf:=fun hc5=>?_))))))
   ·refine rs (k:=rr (k:=ro (pre:=[_,_]) (k:=rC (h:=yf hq.fn Y20) (k:=rh [4] (k:=rR (k:=?_))))))
    simp only [Bool.not_eq_true',Bool.not_eq_false',decide_eq_true_eq,decide_eq_false_iff_not] at *
    refine Ret.pure (r':=(yH q bits vals).pv) zjz ?_ (zS _ _) hwf Y55 ⟨rfl,rfl⟩
    unfold yH
    rw [if_neg Y18,if_neg Y18,if_neg Y18,if_neg Y18,if_neg Y18]
    simp only [PV.weak,PV.weaks,Rep.pv,zf,zA]<;>rfl
   ·refine rk (k:=rs (k:=rH 10 [7,9] [[false,false],[true,false],[true,true]] [S1,(S1.set p3 (some (.row 52 [.agg [.int .i64 q.fn,.int .i64 0,.int .i64 0,.int .i64 0,.int .i64 0,.sl .unc (bits.map PV.bool),.sl .unk (vals.map (PV.int .u16)),.int .u16 0,.int .u16 0,.sl .unk []]]))),(S1.set p3 (some (.row 52 [.agg [.int .i64 q.fn,.int .i64 0,.int .i64 0,.int .i64 0,.int .i64 0,.sl .unc (bits.map PV.bool),.sl .unc (vals.map (PV.int .u16)),.int .u16 0,.int .u16 0,.sl .unk []]])))] Tryz.mixed (k:=?_)))
    refine dP [0] (pre:=[_,_]) (k:=?_)
    refine dC [0] (h:=fun s _=>VY (xs:=bits)) (k:=?_)
    refine dP [0] (pre:=[_,_]) (k:=?_)
    refine dC [0] (h:=fun s _=>zby (xs:=vals)) (k:=?_)
    refine dP [0] (pre:=[_]) (k:=?_)
    refine dE [(0,1)] (k:=?_)
    refine dP [1] (pre:=[_]) (k:=?_)
    refine dE [(1,2)] (k:=?_)
    refine zO.nil ?_
    refine rl [3,4] (k:=rs (k:=rg [4] (k:=rR (k:=?_))))
    simp only [Bool.not_eq_true',Bool.not_eq_false',decide_eq_true_eq,decide_eq_false_iff_not] at *
    refine Ret.pure (r':=(yH q bits vals).pv) zjz ?_ (zS _ _) hwf Y55 ⟨rfl,rfl⟩
    unfold yH
    rw [if_neg Y18,if_neg Y18,if_neg Y18,if_neg Y18,if_pos Y18]
    simp only [PV.weak,PV.weaks,Rep.pv,zf,zA]<;>rfl
 any_goals
  refine jI 1 ?_
  refine rs (k:=rg [4] (k:=rR (k:=?_)))
  refine jO 2 ?_;rotate_left
 any_goals
  refine jI 2 ?_
  simp only [Bool.not_eq_true',Bool.not_eq_false',decide_eq_true_eq,decide_eq_false_iff_not] at *
  refine jO 3 ?_;rotate_left
 any_goals
  refine jI 3 ?_
  refine Ret.pure (r':=(yH q bits vals).pv) zjz ?_ (zS _ _) hwf Y55 ⟨rfl,rfl⟩
  refine jO 4 ?_;rotate_left
 any_goals
  refine jI 4 ?_
  unfold yH
  refine jO 5 ?_;rotate_left
 any_goals
  refine jI 5 ?_
  rw [if_neg Y18,if_neg Y18,if_pos Y18]
  simp only [PV.weak,PV.weaks,Rep.pv,zf,zA]<;>rfl
end Go.Proofs
namespace Go.Proofs
open Go.PM
set_option maxHeartbeats 2000000
theorem Cn.msg_pv (c:Cn):c.msg.pv=.agg [.int .i64 (min (c.m+1) 1073741824),.int .i64 c.e,.int .i64 c.b]:=rfl
theorem Cn.exc_pv (c:Cn):c.exc.pv=.agg [.int .i64 c.m,.int .i64 (min (c.e+1) 1073741824),.int .i64 c.b]:=rfl
theorem Cn.bad_pv (c:Cn) (n:Int):(c.bad n).pv=.agg [.int .i64 c.m,.int .i64 c.e,.int .i64 (c.b+max 0 (min n (1073741824-c.b)))]:=rfl
attribute [local go_sem] Cn.pv
theorem ziM {s:St}:za Tryz.prog 27 [] s (fun r s'=>r=.ptr s.nxt 0 0∧s'=s.new (.row 112 [(⟨0,0,0⟩:Cn).pv])):=by
 refine go Tryz.func27 (k:=fun hwf H=>?_)
 refine rs (k:=rg [] (k:=rs (k:=rg [0] (k:=rR (k:=?_)))))
 exact Ret.all (by simp only [Tryz.f27,go_sem,↓reduceIte]<;>rfl) ⟨rfl,rfl⟩
attribute [local go_sem] Cn.pv
theorem zcv {cc:Nat} {c:Cn} (hc:c.ok) {s:St} (hb:s.blk cc=some (.row 112 [c.pv])):za Tryz.prog 30 [.ptr cc 0 0] s (fun r s'=>r=.tuple []∧s'=s.set cc (some (.row 112 [c.msg.pv]))):=by
 refine go Tryz.func30 (k:=fun hwf H=>?_)
 have hlt:=xN hwf hb
 rw [Cn.pv] at hb
 have hm:=hc.m
 have he:=hc.e
 have hbd:=hc.b
 have H:=aj hb H
 have hw:IntKind.i64.wrap (c.m+1)=c.m+1:=zi Y18
 have hmn:(if (1073741824:Int)<c.m+1 then 1073741824 else c.m+1)=min (c.m+1) 1073741824:=Y18
 have H:=aj hw (aj hmn H)
 refine rg [] (k:=rN (k:=?_))
 refine Ret.all (by simp only [Tryz.f30,go_sem,↓reduceIte]<;>rfl) ⟨rfl,?_⟩
 rw [Cn.msg_pv]
attribute [local go_sem] Cn.pv
theorem zak {cc:Nat} {c:Cn} (hc:c.ok) {s:St} (hb:s.blk cc=some (.row 112 [c.pv])):za Tryz.prog 32 [.ptr cc 0 0] s (fun r s'=>r=.tuple []∧s'=s.set cc (some (.row 112 [c.exc.pv]))):=by
 refine go Tryz.func32 (k:=fun hwf H=>?_)
 have hlt:=xN hwf hb
 rw [Cn.pv] at hb
 have hm:=hc.m
 have he:=hc.e
 have hbd:=hc.b
 have H:=aj hb H
 have hw:IntKind.i64.wrap (c.e+1)=c.e+1:=zi Y18
 have hmn:(if (1073741824:Int)<c.e+1 then 1073741824 else c.e+1)=min (c.e+1) 1073741824:=Y18
 have H:=aj hw (aj hmn H)
 refine rg [] (k:=rN (k:=?_))
 refine Ret.all (by simp only [Tryz.f32,go_sem,↓reduceIte]<;>rfl) ⟨rfl,?_⟩
 rw [Cn.exc_pv]
attribute [local go_sem] Cn.pv
theorem zjj {cc:Nat} {c:Cn} (hc:c.ok) {s:St} (hb:s.blk cc=some (.row 112 [c.pv])) {n:Int}:za Tryz.prog 99 [.ptr cc 0 0,.int .i64 n] s (fun r s'=>r=.tuple []∧s'=s.set cc (some (.row 112 [(c.bad n).pv]))):=by
 refine go Tryz.func99 (k:=fun hwf H=>?_)
 have hlt:=xN hwf hb
 rw [Cn.pv] at hb
 have hm:=hc.m
 have he:=hc.e
 have hbd:=hc.b
 have H:=aj hb H
 have hw1:IntKind.i64.wrap (1073741824-c.b)=1073741824-c.b:=zi Y18
 have hmn:(if (1073741824-c.b:Int)<n then 1073741824-c.b else n)=min n (1073741824-c.b):=Y18
 have hmx:(if (0:Int)<min n (1073741824-c.b) then min n (1073741824-c.b) else 0)=max 0 (min n (1073741824-c.b)):=Y18
 have hw2:IntKind.i64.wrap (c.b+max 0 (min n (1073741824-c.b)))=c.b+max 0 (min n (1073741824-c.b)):=zi Y18
 have H:=aj hw1 (aj hmn (aj hmx (aj hw2 H)))
 refine rH 16 [15] [[false],[true]] [s,(s.set cc (some (.row 112 [.agg [.int .i64 c.m,.int .i64 c.e,.int .i64 (c.b+max 0 (min n (1073741824-c.b)))]])))] Tryz.mixed (k:=?_)
 refine dP [0] (pre:=[_,_,_,_,_,_,_,_,_,_,_,_,_,_,_]) (k:=?_)
 refine dE [(0,1)] (k:=?_)
 refine zO.nil ?_
 refine rl [] (k:=rN (k:=?_))
 refine Ret.all (by simp only [Tryz.f99,go_sem,↓reduceIte]<;>rfl) ⟨rfl,?_⟩
 rw [Cn.bad_pv]
attribute [local go_sem] Cn.pv
theorem zeW {cc:Nat} {c:Cn} {s:St} (hb:s.blk cc=some (.row 112 [c.pv])):za Tryz.prog 94 [.ptr cc 0 0] s (fun r s'=>r=.tuple []∧s'=s.set cc (some (.row 112 [(⟨0,0,0⟩:Cn).pv]))):=by
 refine go Tryz.func94 (k:=fun hwf H=>?_)
 have hlt:=xN hwf hb
 rw [Cn.pv] at hb
 have H:=aj hb H
 refine rg [] (k:=rN (k:=?_))
 exact Ret.all (by simp only [Tryz.f94,go_sem,↓reduceIte]<;>rfl) ⟨rfl,rfl⟩
attribute [local go_sem] Cn.pv
theorem zcQ {cc:Nat} {c:Cn} (hc:c.ok) {s:St} (hb:s.blk cc=some (.row 112 [c.pv])) {sub:Int}:za Tryz.prog 22 [.ptr cc 0 0,.int .i64 sub] s (fun r s'=>r=.tuple [.int .u16 ((c.get sub).getD 0),.bool (c.get sub).isSome]∧s'=s):=by
 refine go Tryz.func22 (k:=fun hwf H=>?_)
 have hlt:=xN hwf hb
 rw [Cn.pv] at hb
 have hm:=hc.m
 have he:=hc.e
 have hbd:=hc.b
 have H:=aj hb H
 have hw1:IntKind.u16.wrap c.m=c.m%65536:=Y72
 have hw2:IntKind.u16.wrap c.b=c.b%65536:=Y72
 have hw3:IntKind.u16.wrap c.e=c.e%65536:=Y72
 have H:=aj hw1 (aj hw2 (aj hw3 H))
 refine rs (k:=rg [0,1] (k:=rs (k:=rs (k:=rg [0,6] (k:=rb (k:=rs (k:=rs (k:=rg [0,6,7] (k:=rc (ht:=fun hc0=>?_) (hf:=fun hc0=>?_))))))))))
 have hc:=hc0
 refine rk (k:=rc (ht:=fun hc1=>?_) (hf:=fun hc1=>?_))
 refine jO 1 ?_;rotate_left
 ·exact zlW
 have hc:=hc0
 refine rg [0,6,7] (k:=rc (ht:=fun hc1=>?_) (hf:=fun hc1=>?_))
 refine jO 1 ?_;rotate_left
 have hc:=hc1
 refine rs (k:=rg [0,6,15] (k:=rc (ht:=fun hc2=>?_) (hf:=fun hc2=>?_)))
 have hc:=hc2
 refine rs (k:=rg [4,5] (k:=rR (k:=?_)))
 simp only [decide_eq_true_eq,decide_eq_false_iff_not] at *
 have hg:c.get sub=some (c.b%65536):=by
  unfold Cn.get
  rw [if_neg Y18,if_pos Y18]
 refine jO 2 ?_;rotate_left
 have hc:=hc2
 refine rs (k:=rg [0,22] (k:=rc (ht:=fun hc3=>?_) (hf:=fun hc3=>?_)))
 have hc:=hc3
 refine rs (k:=rg [4,5] (k:=rR (k:=?_)))
 simp only [decide_eq_true_eq,decide_eq_false_iff_not] at *
 have hg:c.get sub=some (c.e%65536):=by
  unfold Cn.get
  rw [if_neg Y18,if_neg Y18,if_pos Y18]
 refine jO 2 ?_;rotate_left
 have hc:=hc3
 refine rk (k:=rB (k:=rs (k:=rg [4,5] (k:=rR (k:=?_)))))
 simp only [decide_eq_true_eq,decide_eq_false_iff_not] at *
 have hg:c.get sub=none:=by
  unfold Cn.get
  rw [if_neg Y18,if_neg Y18,if_neg Y18]
 refine jO 2 ?_;rotate_left
 any_goals
  refine jI 1 ?_
  have hc:=hc1
  refine jO 3 ?_;rotate_left
 any_goals
  refine jI 3 ?_
  refine rs (k:=rg [4,5] (k:=rR (k:=?_)))
  refine jO 4 ?_;rotate_left
 any_goals
  refine jI 4 ?_
  simp only [decide_eq_true_eq,decide_eq_false_iff_not] at *
  refine jO 5 ?_;rotate_left
 any_goals
  refine jI 5 ?_
  have hg:c.get sub=some (c.m%65536):=by
   unfold Cn.get
   rw [if_pos Y18]
  refine jO 2 ?_;rotate_left
 any_goals
  refine jI 2 ?_
  refine Ret.all (by simp only [Tryz.f22,go_sem,↓reduceIte]<;>rfl) ⟨by rw [hg];rfl,rfl⟩
end Go.Proofs
namespace Go.Proofs
open Go.PM
set_option maxHeartbeats 2000000
theorem Zj (l:List Rep):PV.weaks (l.map Rep.pv)=l.map Rep.pv:=xc Rep.pv XD l
theorem WQ {q:Req} {ps:List (Req × Bool)} {l:List Rep} {i:Nat} {bits:List Bool} {vals:List Int} (h1:i<ps.length) (h2:i<l.length):uQ q (ps.drop i) (l.drop i) bits vals=if ¬ (l[i]).fn=(ps[i]).1.fn∨¬ yg l[i]=0 then zE q.fn 4 else uQ q (ps.drop (i+1)) (l.drop (i+1)) (if (ps[i]).2 then bits else bits++(l[i]).bits) (if (ps[i]).2 then vals else vals++(l[i]).vals):=by
 rw [XM h1,XM h2]
 rfl
theorem zcE {q:Req} {ps:List (Req × Bool)} {bits:List Bool} {vals:List Int}:uQ q ps [] bits vals=if ps=[] then yH q bits vals else zE q.fn 4:=by
 cases ps<;>rfl
attribute [local go_sem] Zj zf
theorem zjX {xs:List Rep} {k:FuncId} {cap:List PV} {p:Rep→Bool} {s:St} (hsz:xs.length<140737488355328) (hcal:zb Tryz.prog k=true) (hcap:PV.weaks cap=cap) (hf:∀ x∈xs,za Tryz.prog k (x.pv::cap) s (fun r s'=>r=.bool (p x)∧s'=s)) :
  za Tryz.prog 95 [.sl .unk (xs.map Rep.pv),.fn (.func k) [] cap] s (fun r s'=>r=.int .i64 (ZW p xs 0)∧s'=s):=by
 refine go Tryz.func95 (k:=fun hwf H=>?_)
 have H:=aj hcap H
 refine rs (k:=rg [0,1] (k:=rs (k:=rs (k:=rg [0,1,7,8] (k:=rb (k:=?_))))))
 refine Run.loop (fun e s'=>s'=s∧∃ i:Nat,e=[(0,.sl .unk (xs.map Rep.pv)),(1,.fn (.func k) [] cap),(7,.int .i64 xs.length),(8,.int .i64 i)]∧i≤xs.length∧ZW p xs 0=ZW p (xs.drop i) i) (fun e s'=>xs.length-xB e 8) ?_ ?_
 ·exact zgc
 rintro e s' ⟨hs,i,rfl,hi,hidx⟩
 subst s'
 refine rs (k:=rg [0,1,7,8,9] (k:=rs (k:=rc (ht:=fun hc0=>?_) (hf:=fun hc0=>?_))))
 refine rk (k:=rs (k:=rb (k:=rs (k:=?_))))
 have hil:i<xs.length:=Y83
 obtain ⟨x,hxe⟩:∃ z_,xs[i]'hil=z_:=⟨_,rfl⟩
 have hxx:(xs.map Rep.pv)[i]? =some (.agg [.int .i64 (x).fn,.int .i64 (x).code,.int .i64 (x).at_,.int .i64 (x).count,.int .i64 (x).sub,.sl .unk ((x).bits.map PV.bool),.sl .unk ((x).vals.map (PV.int .u16)),.int .u16 (x).and_,.int .u16 (x).or_,.sl .unk ((x).data.map (PV.int .u8))]):=zhw
 have hw:IntKind.i64.wrap ((i:Int)+1)=((i+1:Nat):Int):=Y24
 have H:=aj hxx (aj hw H)
 refine rg [0,1,5,7,8] (k:=rs (k:=rr (k:=ro (pre:=[_,_,_,_,_]) (k:=?_))))
 refine zm.callw au au au hcal ((hf x Y84).mono ?_)
 rintro r1 s1 ⟨rfl,hs⟩
 subst s1
 refine rl [0,1,5,7,8,16] (k:=rc (ht:=fun hc1=>?_) (hf:=fun hc1=>?_))
 refine rs (k:=rg [4] (k:=rR (k:=rP (by simp only [Tryz.f95,go_sem];rfl) hwf ⟨?_,rfl⟩)))
 refine jO 1 ?_;rotate_left
 ·exact zoB
 refine rX (k:=rs (k:=rg [4] (k:=rR (k:=rP (by simp only [Tryz.f95,go_sem];rfl) hwf ⟨?_,rfl⟩))))
 refine jO 1 ?_;rotate_left
 any_goals
  refine jI 1 ?_
  first
   |(rw [Uk p hil,hxe,if_pos hc1] at hidx
     rw [hidx];rfl)
   |(have:i=xs.length:=by have:=of_decide_eq_false hc0;omega
     rw [this,List.drop_length] at hidx
     rw [hidx];rfl)
attribute [local go_sem] Zj Yt zf ye Req.pv
theorem zoQ {p:Prop} (h:p:=by rw [hJ];first | exact XD _ | exact (XD (yH q bits vals)).symm | rfl):p:=h
set_option maxRecDepth 100000 in
theorem zg2 {t:Ten} (ht:t.ok) {q:Req} (hq:q.ok) {l:List Rep} (hl:∀ r∈l,r.ok) (hn:l.length≤100000) {s:St}:za Tryz.prog 66 [t.pv,q.pv,.sl .unk (l.map Rep.pv)] s (fun r s'=>r=(xz t q l).pv∧s'=s):=by
 refine go Tryz.func66 (k:=fun hwf H=>?_)
 obtain ⟨ps,hps⟩:∃ ps,ps=(yy t q).1:=⟨_,rfl⟩
 obtain ⟨cd,hcd⟩:∃ c,c=(yy t q).2:=⟨_,rfl⟩
 have hpl:ps.length≤6:=by rw [hps];exact UA t q
 have hcv:=zc3 t q
 rw [← zbs,← hcd] at hcv
 obtain ⟨L,hL⟩:∃ L,L=l.take ps.length:=⟨_,rfl⟩
 have hLl:L.length=min ps.length l.length:=by rw [hL,List.length_take]
 have hLo:∀ r∈L,r.ok:=fun r h=>hl r (by rw [hL] at h;exact List.mem_of_mem_take h)
 have hmn:(if ps.length<l.length then (ps.length:Int) else (l.length:Int))=(L.length:Int):=by split<;>omega
 have hmn2:(if (ps.length:Int)<(l.length:Int) then (ps.length:Int) else (l.length:Int))=(L.length:Int):=by split<;>omega
 have hsl:(l.map Rep.pv).take L.length=L.map Rep.pv:=by
  rw [← List.map_take,hL,List.length_take]
  congr 1
  rcases Nat.le_total ps.length l.length with h | h
  ·rw [Nat.min_eq_left h]
  ·rw [Nat.min_eq_right h,List.take_of_length_le h,List.take_of_length_le (Nat.le_refl _)]
 have hle:((L.length:Int)≤(l.length:Int))=True:=eq_true Y18
 have hle2:(L.length≤l.length)=True:=eq_true Y18
 have H:=aj hmn (aj hmn2 (aj hsl (aj hle (aj hle2 H))))
 refine rs (k:=rg [2,3,4,6] (k:=rs (k:=rr (k:=ro (pre:=[_,_]) (k:=?_)))))
 refine zm.callw au au au Y22 ((zbP ht hq).mono ?_)
 rintro r s9 ⟨rfl,hs⟩
 subst s9
 rw [← hps,← hcd]
 refine rh [2,4,6,7,8] (k:=rs (k:=rb (k:=rs (k:=?_))))
 refine Run.genS fun S0 hS=>?_
 have hx4:S0.blk (s.nxt+1)=some (.row 47 [.agg [.int .i64 q.fn,.int .i64 q.at_,.int .i64 q.count,.int .i64 q.wat,.int .i64 q.sub,.sl .unk (q.bits.map PV.bool),.sl .unk (q.vals.map (PV.int .u16)),.int .u16 q.and_,.int .u16 q.or_]]):=Y43
 have hx6:S0.blk (s.nxt+2)=some (.row 52 [.agg [.int .i64 0,.int .i64 0,.int .i64 0,.int .i64 0,.int .i64 0,.sl .nil [],.sl .nil [],.int .u16 0,.int .u16 0,.sl .nil []]]):=Y43
 have hn0:S0.nxt=s.nxt+3:=UB
 have hlo1:∀ j,j<s.nxt→S0.blk j=s.blk j:=fun j hj=>Y51
 clear hS
 have H:=aj hx4 (aj hx6 H)
 refine rg [2,4,6,7,8,19] (k:=rc (ht:=fun hc0=>?_) (hf:=fun hc0=>?_))
 refine rs (k:=rr (k:=ro (pre:=[_,_,_]) (k:=rC (h:=yf hq.fn Y76) (k:=rh [6] (k:=rR (k:=?_))))))
 have hcd':¬ (yy t q).2=0:=by rw [← hcd];simpa using hc0
 have hJ:xz t q l=zE q.fn cd:=by unfold xz;rw [if_pos hcd',← hcd]
 refine jO 1 ?_;rotate_left
 refine rs (k:=rr (k:=ro (pre:=[_]) (k:=rC (h:=zbY (q:=q)) (k:=rh [2,4,6,7,26] (k:=rc (ht:=fun hc1=>?_) (hf:=fun hc1=>?_))))))
 refine rs (k:=rr (k:=ro (pre:=[_,_]) (k:=rC (h:=yf hq.fn Y20) (k:=rh [6] (k:=rR (k:=?_))))))
 have hcd':¬ ¬ (yy t q).2=0:=by rw [← hcd];simpa using hc0
 have hJ:xz t q l=zE q.fn 4:=by unfold xz;rw [if_neg hcd',if_pos hc1]
 refine jO 1 ?_;rotate_left
 refine rk (k:=rB (k:=rs (k:=?_)))
 have hcd':¬ ¬ (yy t q).2=0:=by rw [← hcd];simpa using hc0
 have hlc':¬ uR q=true:=by rw [show uR q=false from hc1];decide
 have hJF:xz t q l=match L.find? (fun r=>decide (¬ r.code=0)) with
   | some r=>zE q.fn r.code
   | none=>uQ q ps L [] []:=by
  unfold xz
  rw [if_neg hcd',if_neg hlc',hL,hps]
  rfl
 refine rg [2,4,6,7] (k:=rs (k:=rs (k:=rr (k:=ro (pre:=[_]) (k:=rC (h:=zjX (p:=fun r=>decide (¬ r.code=0)) Y18 Y22 rfl (fun y hy=>zf0)) (k:=rh [2,4,6,7,9] (k:=rs (k:=rg [2,4,6,7,9,42] (k:=rc (ht:=fun hc2=>?_) (hf:=fun hc2=>?_))))))))))
 refine rs (k:=?_)
 obtain ⟨j,hj,hj1,hj2⟩:∃ (j:Nat) (h:j<L.length),ZW (fun r:Rep=>decide (¬ r.code=0)) L 0=(j:Int)∧L.find? (fun r=>decide (¬ r.code=0))=some L[j]:=by
  rcases Zh (p:=fun r:Rep=>decide (¬ r.code=0)) (l:=L) (n:=0) with ⟨h,_⟩ | ⟨j,hj,h1,h2⟩
  ·have:=of_decide_eq_true hc2;omega
  ·exact ⟨j,hj,by rw [h1,Nat.zero_add],h2⟩
 obtain ⟨y,hye⟩:∃ z_,L[j]'hj=z_:=⟨_,rfl⟩
 have hxy:(L.map Rep.pv)[j]? =some (.agg [.int .i64 (y).fn,.int .i64 (y).code,.int .i64 (y).at_,.int .i64 (y).count,.int .i64 (y).sub,.sl .unk ((y).bits.map PV.bool),.sl .unk ((y).vals.map (PV.int .u16)),.int .u16 (y).and_,.int .u16 (y).or_,.sl .unk ((y).data.map (PV.int .u8))]):=by rw [yP hj,hye];rfl
 rw [hye] at hj2
 have hjT:(j<L.length)=True:=eq_true hj
 have H:=aj hj1 (aj hxy (aj hjT H))
 refine rH 9 [8] [[false],[true]] [S0,(S0.set (s.nxt+2) (some (.row 52 [(zE q.fn y.code).pv])))] Tryz.mixed (k:=?_)
 refine dP [0] (pre:=[_,_,_,_,_,_,_]) (k:=?_)
 refine dC [0] (h:=fun s _=>yf hq.fn (hLo y zn2).code) (k:=?_)
 refine dE [(0,1)] (k:=?_)
 refine zO.nil ?_
 refine rl [6] (k:=rR (k:=?_))
 have hJ:xz t q l=zE q.fn y.code:=by rw [hJF,hj2]
 refine jO 1 ?_;rotate_left
 refine rk (k:=rs (k:=?_))
 have hnone:L.find? (fun r=>decide (¬ r.code=0))=none:=by
  rcases Zh (p:=fun r:Rep=>decide (¬ r.code=0)) (l:=L) (n:=0) with ⟨_,h⟩ | ⟨j,hj,h1,h2⟩
  ·exact h
  ·have:=of_decide_eq_false hc2;omega
 have hne:∀ r∈L,r.code=0:=fun r hr=>by
  have:=List.find?_eq_none.1 hnone r hr
  simpa using this
 refine rg [2,4,6,7,10] (k:=rs (k:=rs (k:=rg [2,4,6,7,10,54,55,56] (k:=rb (k:=?_)))))
 refine Run.loop (fun e s'=>∃ (i:Nat) (bits:List Bool) (vals:List Int) (kb kv:SK),e=[(2,.sl .unk (L.map Rep.pv)),(4,.ptr (s.nxt+1) 0 0),(6,.ptr (s.nxt+2) 0 0),(7,.sl .unk (ps.map ptV)),(10,.ptr (s.nxt+3) 0 0),(54,.sl .unk (L.map Rep.pv)),(55,.int .i64 (L.length:Int)),(56,.int .i64 (i:Int))]∧i≤L.length∧bits.length≤2040*i∧vals.length≤127*i∧uQ q ps L [] []=uQ q (ps.drop i) (L.drop i) bits vals∧(∀ j,j<s.nxt→s'.blk j=s.blk j)∧s.nxt+4≤s'.nxt∧s'.blk (s.nxt+1)=some (.row 47 [.agg [.int .i64 q.fn,.int .i64 q.at_,.int .i64 q.count,.int .i64 q.wat,.int .i64 q.sub,.sl .unk (q.bits.map PV.bool),.sl .unk (q.vals.map (PV.int .u16)),.int .u16 q.and_,.int .u16 q.or_]])∧s'.blk (s.nxt+2)=some (.row 52 [.agg [.int .i64 0,.int .i64 0,.int .i64 0,.int .i64 0,.int .i64 0,.sl .nil [],.sl .nil [],.int .u16 0,.int .u16 0,.sl .nil []]])∧s'.blk (s.nxt+3)=some (.row 52 [.agg [.int .i64 q.fn,.int .i64 0,.int .i64 0,.int .i64 0,.int .i64 0,.sl kb (bits.map PV.bool),.sl kv (vals.map (PV.int .u16)),.int .u16 0,.int .u16 0,.sl .nil []]])∧yA s' kb bits.length 1∧yA s' kv vals.length 1∧(∀ t z,kb=.tok t z→s.nxt≤t∧t<s'.nxt)∧(∀ t z,kv=.tok t z→s.nxt≤t∧t<s'.nxt)∧(∀ t z z',kb=.tok t z→kv≠.tok t z')) (fun e s'=>L.length-xB e 56) ?_ ?_
 ·refine ⟨0,[],[],.nil,.nil,by rw [hn0];rfl,Nat.zero_le _,Nat.zero_le _,Nat.zero_le _,rfl,fun j hj=>?_,?_,?_,?_,?_,.inl ⟨rfl,rfl⟩,.inl ⟨rfl,rfl⟩,fun t z e=>Y17,fun t z e=>Y17,fun t z z' e=>Y17⟩
  ·first |(rw [zg Y18];exact hlo1 j hj) |(rw [zd Y18,zg Y18];exact hlo1 j hj)
  ·show s.nxt+4≤S0.nxt+1;omega
  ·first |(rw [zg Y18];exact hx4) |(rw [zd Y18,zg Y18];exact hx4)
  ·first |(rw [zg Y18];exact hx6) |(rw [zd Y18,zg Y18];exact hx6)
  ·rw [show s.nxt+3=S0.nxt from Y18]
   first | exact zN | exact zy _ _ _
 rintro e s1 ⟨i,bits,vals,kb,kv,rfl,hi,hbl,hvl,hja,hlo,hnx,hq4,hq6,hq10,hgb,hgv,htb,htv,hdj⟩
 have H:=aj hq4 (aj hq6 (aj hq10 H))
 refine rs (k:=rg [2,4,6,7,10,54,55,56,57] (k:=rs (k:=rc (ht:=fun hc3=>?_) (hf:=fun hc3=>?_))))
 refine rk (k:=rs (k:=rb (k:=rs (k:=?_))))
 have hil:i<L.length:=znV
 have hip:i<ps.length:=Y18
 obtain ⟨r,hxe⟩:∃ z_,L[i]'hil=z_:=⟨_,rfl⟩
 have hxr:(L.map Rep.pv)[i]? =some (.agg [.int .i64 (r).fn,.int .i64 (r).code,.int .i64 (r).at_,.int .i64 (r).count,.int .i64 (r).sub,.sl .unk ((r).bits.map PV.bool),.sl .unk ((r).vals.map (PV.int .u16)),.int .u16 (r).and_,.int .u16 (r).or_,.sl .unk ((r).data.map (PV.int .u8))]):=zhw
 obtain ⟨y,hye⟩:∃ z_,ps[i]'hip=z_:=⟨_,rfl⟩
 have hxy:(ps.map ptV)[i]? =some (.agg [.int .i64 y.1.fn,.int .i64 y.1.at_,.int .i64 y.1.count,.int .i64 y.1.wat,.int .i64 y.1.sub,.sl .unk (y.1.bits.map PV.bool),.sl .unk (y.1.vals.map (PV.int .u16)),.int .u16 y.1.and_,.int .u16 y.1.or_,.bool y.2]):=by rw [yP hip,hye];rfl
 have hilT:(i<L.length)=True:=eq_true hil
 have hipT:(i<ps.length)=True:=eq_true hip
 have hw:IntKind.i64.wrap ((i:Int)+1)=((i+1:Nat):Int):=Y24
 have hrm:r∈L:=Y84
 have hro:=hLo r hrm
 have H:=aj hxr (aj hxy (aj hilT (aj hipT (aj hw H))))
 refine rg [2,4,6,7,10,11,12,54,55,56] (k:=rs (k:=rs (k:=?_)))
 refine Run.drawC [] [2,4,6,7,10,11,12,54,55,56,74] Tryz.mixed Y22 ?_
 refine zj.pre (pre:=[_,_,_,_,_,_,_,_,_,_]) au ?_
 rcases hd9:(!decide (r.fn=y.1.fn)) with _ | _
 have H:=aj hd9 H
 refine zj.gdo au au ?_
 refine zj.call au au au Y22 (UH (r:=r) hro) ?_
 refine zj.gdo au au ?_
 refine zj.all au ?_
 refine re (k:=rc (ht:=fun hc4=>?_) (hf:=fun hc4=>?_))
 refine jO 2 ?_;rotate_left
 ·refine rk (k:=rs (k:=rg [2,4,6,7,10,12,54,55,56,83] (k:=rc (ht:=fun hc5=>?_) (hf:=fun hc5=>?_))))
  ·have hrg:yg r=0:=by simpa using hc4
   have hgl:=zdg hrg
   refine Run.genS fun S1 hS=>?_
   obtain ⟨p12,hp12⟩:∃ p,p=s1.nxt:=⟨_,rfl⟩
   rw [← hp12]
   have hn1:S1.nxt=p12+1:=by rw [hS,hp12];rfl
   have b12:S1.blk p12=some (.row 52 [.agg [.int .i64 (r).fn,.int .i64 (r).code,.int .i64 (r).at_,.int .i64 (r).count,.int .i64 (r).sub,.sl .unk ((r).bits.map PV.bool),.sl .unk ((r).vals.map (PV.int .u16)),.int .u16 (r).and_,.int .u16 (r).or_,.sl .unk ((r).data.map (PV.int .u8))]]):=by rw [hS,hp12];exact zN
   have b4:S1.blk (s.nxt+1)=some (.row 47 [.agg [.int .i64 q.fn,.int .i64 q.at_,.int .i64 q.count,.int .i64 q.wat,.int .i64 q.sub,.sl .unk (q.bits.map PV.bool),.sl .unk (q.vals.map (PV.int .u16)),.int .u16 q.and_,.int .u16 q.or_]]):=by rw [hS,zg Y18];exact hq4
   have b6:S1.blk (s.nxt+2)=some (.row 52 [.agg [.int .i64 0,.int .i64 0,.int .i64 0,.int .i64 0,.int .i64 0,.sl .nil [],.sl .nil [],.int .u16 0,.int .u16 0,.sl .nil []]]):=by rw [hS,zg Y18];exact hq6
   have b10:S1.blk (s.nxt+3)=some (.row 52 [.agg [.int .i64 q.fn,.int .i64 0,.int .i64 0,.int .i64 0,.int .i64 0,.sl kb (bits.map PV.bool),.sl kv (vals.map (PV.int .u16)),.int .u16 0,.int .u16 0,.sl .nil []]]):=by rw [hS,zg Y18];exact hq10
   have lo1:∀ j,j<s.nxt→S1.blk j=s.blk j:=fun j hj=>by rw [hS,zg Y18];exact hlo j hj
   have hgb1:yA S1 kb (bits.map PV.bool).length (Tryz.prog.cellsOf 4):=by
    rw [List.length_map,Tryz.cz4,hS]
    exact hgb.mono fun t e=>zg (by have:=(htb _ _ e).2;omega)
   have hgv1:yA S1 kv (vals.map (PV.int .u16)).length (Tryz.prog.cellsOf 39):=by
    rw [List.length_map,Tryz.cz39,hS]
    exact hgv.mono fun t e=>zg (by have:=(htv _ _ e).2;omega)
   clear hS
   obtain ⟨kb1,S2,ha1,hgb2,tm1⟩:=hgb1.append' (P:=Tryz.prog) (ys:=r.bits.map PV.bool)
   have hn2:=tm1.nxt
   have c12:S2.blk p12=some (.row 52 [.agg [.int .i64 (r).fn,.int .i64 (r).code,.int .i64 (r).at_,.int .i64 (r).count,.int .i64 (r).sub,.sl .unk ((r).bits.map PV.bool),.sl .unk ((r).vals.map (PV.int .u16)),.int .u16 (r).and_,.int .u16 (r).or_,.sl .unk ((r).data.map (PV.int .u8))]]):=by rw [tm1.rest _ Y18 (fun z e=>hgb1.ne e _ b12 zah rfl)];exact b12
   have c10:S2.blk (s.nxt+3)=some (.row 52 [.agg [.int .i64 q.fn,.int .i64 0,.int .i64 0,.int .i64 0,.int .i64 0,.sl kb (bits.map PV.bool),.sl kv (vals.map (PV.int .u16)),.int .u16 0,.int .u16 0,.sl .nil []]]):=by rw [tm1.rest _ Y18 (fun z e=>hgb1.ne e _ b10 zah rfl)];exact b10
   have c4:S2.blk (s.nxt+1)=some (.row 47 [.agg [.int .i64 q.fn,.int .i64 q.at_,.int .i64 q.count,.int .i64 q.wat,.int .i64 q.sub,.sl .unk (q.bits.map PV.bool),.sl .unk (q.vals.map (PV.int .u16)),.int .u16 q.and_,.int .u16 q.or_]]):=by rw [tm1.rest _ Y18 (fun z e=>hgb1.ne e _ b4 zah rfl)];exact b4
   have c6:S2.blk (s.nxt+2)=some (.row 52 [.agg [.int .i64 0,.int .i64 0,.int .i64 0,.int .i64 0,.int .i64 0,.sl .nil [],.sl .nil [],.int .u16 0,.int .u16 0,.sl .nil []]]):=by rw [tm1.rest _ Y18 (fun z e=>hgb1.ne e _ b6 zah rfl)];exact b6
   have hgv2:yA S2 kv (vals.map (PV.int .u16)).length (Tryz.prog.cellsOf 39):=hgv1.mono fun t e=>tm1.rest t (by have:=(htv _ _ e).2;omega) fun z e'=>hdj _ _ _ e' e
   obtain ⟨kv1,S3,ha2,hgv3,tm2⟩:=hgv2.append' (P:=Tryz.prog) (ys:=r.vals.map (PV.int .u16))
   have hn3:=tm2.nxt
   have d10:S3.blk (s.nxt+3)=some (.row 52 [.agg [.int .i64 q.fn,.int .i64 0,.int .i64 0,.int .i64 0,.int .i64 0,.sl kb (bits.map PV.bool),.sl kv (vals.map (PV.int .u16)),.int .u16 0,.int .u16 0,.sl .nil []]]):=by rw [tm2.rest _ Y18 (fun z e=>hgv2.ne e _ c10 zah rfl)];exact c10
   have d4:S3.blk (s.nxt+1)=some (.row 47 [.agg [.int .i64 q.fn,.int .i64 q.at_,.int .i64 q.count,.int .i64 q.wat,.int .i64 q.sub,.sl .unk (q.bits.map PV.bool),.sl .unk (q.vals.map (PV.int .u16)),.int .u16 q.and_,.int .u16 q.or_]]):=by rw [tm2.rest _ Y18 (fun z e=>hgv2.ne e _ c4 zah rfl)];exact c4
   have d6:S3.blk (s.nxt+2)=some (.row 52 [.agg [.int .i64 0,.int .i64 0,.int .i64 0,.int .i64 0,.int .i64 0,.sl .nil [],.sl .nil [],.int .u16 0,.int .u16 0,.sl .nil []]]):=by rw [tm2.rest _ Y18 (fun z e=>hgv2.ne e _ c6 zah rfl)];exact c6
   have kb1n:∀ t z,kb1=.tok t z→s.nxt≤t∧t<S2.nxt∧∀ z',kv≠.tok t z':=fun t z e=>by
    rcases tm1.fresh t z e with ⟨z',h⟩ | ⟨h1,h2⟩
    ·have h9:=htb t z' h
     exact ⟨h9.1,Y18,fun z'' e'=>hdj t z' z'' h e'⟩
    ·exact ⟨Y18,h2,fun z' e'=>by have:=(htv _ _ e').2;omega⟩
   have lo3:∀ j,j<s.nxt→S3.blk j=s.blk j:=fun j hj=>by
    rw [tm2.rest j Y18 (fun z e=>by have:=(htv _ _ e).1;omega),tm1.rest j Y18 (fun z e=>by have:=(htb _ _ e).1;omega)];exact lo1 j hj
   have n1:(p12=(s.nxt+3))=False:=eq_false Y18
   have H:=aj b12 (aj b4 (aj b6 (aj b10 (aj c12 (aj c10 (aj d10 (aj n1 H)))))))
   refine rH 14 [4,9,11,13] [[false,false,false,false],[true,false,false,false],[true,true,false,false],[true,true,true,false],[true,true,true,true]] [S1,S2,S3,(S3.set (s.nxt+3) (some (.row 52 [.agg [.int .i64 q.fn,.int .i64 0,.int .i64 0,.int .i64 0,.int .i64 0,.sl kb1 (bits.map PV.bool++r.bits.map PV.bool),.sl kv (vals.map (PV.int .u16)),.int .u16 0,.int .u16 0,.sl .nil []]]))),(S3.set (s.nxt+3) (some (.row 52 [.agg [.int .i64 q.fn,.int .i64 0,.int .i64 0,.int .i64 0,.int .i64 0,.sl kb1 (bits.map PV.bool++r.bits.map PV.bool),.sl kv1 (vals.map (PV.int .u16)++r.vals.map (PV.int .u16)),.int .u16 0,.int .u16 0,.sl .nil []]])))] Tryz.mixed (k:=?_)
   refine dP [0] (pre:=[_,_,_,_]) (k:=?_)
   refine zO.app (xs:=bits.map PV.bool) (ys:=r.bits.map PV.bool) (v:=.sl kb1 (bits.map PV.bool++r.bits.map PV.bool)) [(0,1)] _ Y22 pq au au au Tryz.td45 zkC (zp (P:=Tryz.prog) (e:=4) (f:=PV.bool) (fun a=>⟨rfl,by rw [Tryz.cz4];first | done | rfl⟩) _) (zp (P:=Tryz.prog) (e:=4) (f:=PV.bool) (fun a=>⟨rfl,by rw [Tryz.cz4];first | done | rfl⟩) _) zmN (by rw [Tryz.by4];simp<;>omega) (by intro q hq;rw [List.mem_singleton.1 hq];exact ha1) ?_
   refine dP [0,1] (pre:=[_,_,_,_]) (k:=?_)
   refine zO.app (xs:=vals.map (PV.int .u16)) (ys:=r.vals.map (PV.int .u16)) (v:=.sl kv1 (vals.map (PV.int .u16)++r.vals.map (PV.int .u16))) [(1,2)] _ Y22 pq au au au Tryz.td23 zeY (zp (P:=Tryz.prog) (e:=39) (f:=PV.int .u16) (fun a=>⟨rfl,by rw [Tryz.cz39];first | done | rfl⟩) _) (zp (P:=Tryz.prog) (e:=39) (f:=PV.int .u16) (fun a=>⟨rfl,by rw [Tryz.cz39];first | done | rfl⟩) _) zhy (by rw [Tryz.by39];simp<;>omega) (by intro q hq;rw [List.mem_singleton.1 hq];exact ha2) ?_
   refine dP [1,2] (pre:=[_]) (k:=?_)
   refine dE [(2,3)] (k:=?_)
   refine dP [3] (pre:=[_]) (k:=?_)
   refine dE [(3,4)] (k:=?_)
   refine zO.nil ?_
   refine rl [2,4,6,7,10,54,55,56] (k:=rB (k:=rg [2,4,6,7,10,54,55,56] (k:=?_)))
   have hfe:r.fn=y.1.fn:=by simpa using hd9
   have hstep:=WQ (q:=q) (bits:=bits) (vals:=vals) hip hil
   rw [hxe,hye,if_neg (by rintro (h | h);exact h hfe;exact h hrg)] at hstep
   have hy2:y.2=false:=by simpa using hc5
   rw [hy2,if_neg Y19,if_neg Y19] at hstep
   refine Run.lp ⟨⟨i+1,bits++r.bits,vals++r.vals,kb1,kv1,rfl,Y18,zmk,zmk,by rw [hja,hstep],?_,?_,?_,?_,?_,?_,?_,?_,?_,?_⟩,?_⟩
   ·intro j hj;rw [zd Y18];exact lo3 j hj
   ·show s.nxt+4≤S3.nxt;omega
   ·rw [zd Y18];exact d4
   ·rw [zd Y18];exact d6
   ·rw [List.map_append,List.map_append];exact zy _ _ _
   ·have h9:=hgb2
    rw [Tryz.cz4,List.length_map,List.length_map] at h9
    rw [List.length_append]
    exact h9.mono fun t e=>by
     rw [zd (h9.ne e _ (by rw [c10]) zah),tm2.rest t (kb1n _ _ e).2.1 (kb1n _ _ e).2.2]
   ·have h9:=hgv3
    rw [Tryz.cz39,List.length_map,List.length_map] at h9
    rw [List.length_append]
    exact h9.mono fun t e=>by rw [zd (h9.ne e _ (by rw [d10]) zah)]
   ·intro t z e
    have h9:=kb1n t z e
    exact ⟨h9.1,Nat.lt_of_lt_of_le h9.2.1 hn3⟩
   ·intro t z e
    show s.nxt≤t∧t<S3.nxt
    rcases tm2.fresh t z e with ⟨z',h⟩ | ⟨h1,h2⟩
    ·have:=htv t z' h;omega
    ·omega
   ·intro t z z' e e'
    have h9:=kb1n t z e
    rcases tm2.fresh t z' e' with ⟨z'',h⟩ | ⟨h1,h2⟩
    ·exact h9.2.2 z'' h
    ·omega
   ·exact Y29
  ·refine rk (k:=rB (k:=rg [2,4,6,7,10,54,55,56] (k:=?_)))
   have hrg:yg r=0:=by simpa using hc4
   have hfe:r.fn=y.1.fn:=by simpa using hd9
   have hstep:=WQ (q:=q) (bits:=bits) (vals:=vals) hip hil
   rw [hxe,hye,if_neg (by rintro (h | h);exact h hfe;exact h hrg)] at hstep
   have hy2:y.2=true:=by simpa using hc5
   rw [hy2,if_pos rfl,if_pos rfl] at hstep
   refine Run.lp ⟨⟨i+1,bits,vals,kb,kv,rfl,Y18,Y18,Y18,by rw [hja,hstep],fun j hj=>by rw [zg Y18];exact hlo j hj,by show s.nxt+4≤s1.nxt+1;omega,by rw [zg Y18];exact hq4,by rw [zg Y18];exact hq6,by rw [zg Y18];exact hq10,
    hgb.mono fun t e=>zg (by have:=(htb _ _ e).2;omega),hgv.mono fun t e=>zg (by have:=(htv _ _ e).2;omega),fun t z e=>⟨(htb t z e).1,Nat.lt_succ_of_lt (htb t z e).2⟩,fun t z e=>⟨(htv t z e).1,Nat.lt_succ_of_lt (htv t z e).2⟩,hdj⟩,?_⟩
   simp only [xB,go_sem,↓reduceIte,Nat.reduceEqDiff]
   omega
 have H:=aj hd9 H
 refine zj.gskip' au ?_
 refine zj.gskip' au ?_
 refine zj.gskip' au ?_
 refine zj.all au ?_
 refine re (k:=rc (ht:=fun hc4=>?_) (hf:=fun hc4=>?_))
 refine jO 2 ?_;rotate_left
 ·cases hc4
 refine rX (k:=rs (k:=rs (k:=?_)))
 have hie:i=L.length:=by have:=of_decide_eq_false hc3;omega
 refine rg [4,6,10,101] (k:=rc (ht:=fun hc6=>?_) (hf:=fun hc6=>?_))
 refine rs (k:=rr (k:=ro (pre:=[_,_]) (k:=rC (h:=yf hq.fn Y20) (k:=rh [6] (k:=rR (k:=?_))))))
 have hJ:xz t q l=zE q.fn 4:=by
  have h9:L.length<ps.length:=znx
  rw [hJF,hnone]
  show uQ q ps L [] []=_
  rw [hja,hie,List.drop_length,zcE,if_neg]
  intro h
  have:=List.drop_eq_nil_iff.1 h
  omega
 refine jO 3 ?_;rotate_left
 refine rk (k:=rs (k:=?_))
 have hwp:(yH q bits vals).pv=.agg [.int .i64 (yH q bits vals).fn,.int .i64 (yH q bits vals).code,.int .i64 (yH q bits vals).at_,.int .i64 (yH q bits vals).count,.int .i64 (yH q bits vals).sub,.sl .unk ((yH q bits vals).bits.map PV.bool),.sl .unk ((yH q bits vals).vals.map (PV.int .u16)),.int .u16 (yH q bits vals).and_,.int .u16 (yH q bits vals).or_,.sl .unk ((yH q bits vals).data.map (PV.int .u8))]:=rfl
 have H:=aj hwp H
 refine rr (k:=ro (pre:=[_,_]) (k:=rC (h:=zhM hq (bits:=bits) (vals:=vals) Y18 Y18) (k:=rh [6] (k:=rR (k:=?_)))))
 have hJ:xz t q l=yH q bits vals:=by
  have h9:¬ L.length<ps.length:=by have:=of_decide_eq_false hc6;omega
  rw [hJF,hnone]
  show uQ q ps L [] []=_
  rw [hja,hie,List.drop_length,zcE,if_pos]
  exact List.drop_eq_nil_iff.2 Y18
 refine jO 3 ?_;rotate_left
 any_goals
  refine jI 2 ?_
  refine rs (k:=rr (k:=ro (pre:=[_,_]) (k:=rC (h:=yf hq.fn Y20) (k:=rh [6] (k:=rR (k:=?_))))))
  refine jO 4 ?_;rotate_left
 any_goals
  refine jI 4 ?_
  have hJ:xz t q l=zE q.fn 4:=by
   rw [hJF,hnone]
   show uQ q ps L [] []=_
   rw [hja,WQ hip hil,hxe,hye,if_pos]
   simp only [Bool.or_eq_true,Bool.not_eq_true',decide_eq_false_iff_not] at *
   first | exact .inl hd9 | exact .inr hc4 | assumption
  refine jO 3 ?_;rotate_left
 any_goals
  refine jI 1 ?_
  refine Ret.pure (r':=(xz t q l).pv) (by simp only [Tryz.f66,go_sem,↓reduceIte]<;>rfl) zoQ (zS _ _) hwf (fun i hi=>by first | exact hlo1 i hi |(rw [zd Y18];exact hlo1 i hi) |(rw [zd Y18,zg Y18];exact hlo1 i hi)) ⟨rfl,rfl⟩
 any_goals
  refine jI 3 ?_
  refine Ret.pure (r':=(xz t q l).pv) (by simp only [Tryz.f66,go_sem,↓reduceIte]<;>rfl) zoQ (zS _ _) hwf (fun i hi=>by first | exact hlo i hi |(rw [zd Y18];exact hlo i hi) |(rw [zd Y18,zg Y18];exact hlo i hi)) ⟨rfl,rfl⟩
end Go.Proofs
namespace Go.Proofs
open Go.PM
set_option maxHeartbeats 2000000
theorem zbg (q:Req):∀ (k:Nat) (F:List Int) (D:Dev),(∀ f∈(yW q k F D).2.2.2,f∈F)∧(yW q k F D).2.2.2.length≤F.length
 | 0,F,D=>⟨fun f h=>h,Nat.le_refl _⟩
 | k+1,F,D=>by
   have ht:F.tail.length≤F.length:=by rw [List.length_tail];omega
   unfold yW
   split
   ·exact ⟨fun f h=>List.mem_of_mem_tail h,ht⟩
   split
   ·exact ⟨fun f h=>List.mem_of_mem_tail h,ht⟩
   ·obtain ⟨h1,h2⟩:=zbg q k F.tail (if F.headD 0=1 then D else (doF D q).2)
    exact ⟨fun f h=>List.mem_of_mem_tail (h1 f h),Nat.le_trans h2 ht⟩
theorem zmW {q:Req} (hq:q.ok) {FS:Nat→List Int} (hF:FOk FS) (T:Nat) {l:List Snt} (hl:∀ x∈l,x.data.length≤1000) (tick:Int) {D:Dev} (hD:D.ok) :
  (Zo q FS T l tick D).1.ok∧(Zo q FS T l tick D).2.2.1.ok∧FOk (Zo q FS T l tick D).2.2.2.1∧(Zo q FS T l tick D).2.2.2.2.length≤l.length+3∧∀ x∈(Zo q FS T l tick D).2.2.2.2,x.data.length≤1000:=by
 unfold Zo
 split
 ·rename_i hr
  obtain ⟨h1,h2,h3⟩:=Ul hq hr 3 (FS T) D hD
  obtain ⟨h4,h5⟩:=zbg q 3 (FS T) D
  refine ⟨h3,h1,hF.up T (Nat.le_trans h5 (hF T).1) (fun f hf=>(hF T).2 f (h4 f hf)),?_,fun x hx=>?_⟩
  ·show (l++Wt _ _ _ 0 _).length≤_
   rw [List.length_append,zcP]
   omega
  ·rcases List.mem_append.1 hx with hx | hx
   ·exact hl x hx
   ·rw [zgJ hx];have:=uB (zL q);omega
 ·exact ⟨wX _ _,hD,hF,by show l.length≤_;omega,hl⟩
structure Us where
 D:Dev
 FS:Nat→List Int
 l:List Snt
 c:Cn
structure Us.ok (u:Us):Prop where
 D:u.D.ok
 FS:FOk u.FS
 c:u.c.ok
 l:∀ x∈u.l,x.data.length≤1000
def ZM (q:Req) (x:Req × Bool) (out:List Rep):Req:=if q.fn=22∧x.2=true∧(out.headD zeroP).vals.length=1 then { x.1 with vals:=[Xj ((out.headD zeroP).vals.headD 0) q] } else x.1
def wL (q:Req) (T:Nat) (tick:Int) (i:Nat) (x:Req × Bool) (out:List Rep) (u:Us):Rep × Us :=
 ((Zo (ZM q x out) u.FS T u.l (tick+12*(i:Int)) u.D).1,⟨(Zo (ZM q x out) u.FS T u.l (tick+12*(i:Int)) u.D).2.2.1,(Zo (ZM q x out) u.FS T u.l (tick+12*(i:Int)) u.D).2.2.2.1,(Zo (ZM q x out) u.FS T u.l (tick+12*(i:Int)) u.D).2.2.2.2,u.c.bad (Zo (ZM q x out) u.FS T u.l (tick+12*(i:Int)) u.D).2.1⟩)
def xY (q:Req) (T:Nat) (tick:Int):Nat→List (Req × Bool)→List Rep→Us→List Rep × Us
 | _,[],out,u=>(out,u)
 | i,x::ps,out,u=>if (wL q T tick i x out u).1.code=0 then xY q T tick (i+1) ps (out++[(wL q T tick i x out u).1]) (wL q T tick i x out u).2 else (out++[(wL q T tick i x out u).1],(wL q T tick i x out u).2)
structure zfL (q:Req) (ps:List (Req × Bool)):Prop where
 all:∀ x∈ps,zai x.1
 mask:q.fn=22→∃ z a,0≤a∧a≤511∧ps=[(z,false),(⟨6,a,0,0,0,[],[0],0,0⟩,true)]
 len:ps.length≤6
theorem zjI {t:Ten} {q:Req} (hq:q.ok) (h:xr t q=0):zfL q (yy t q).1:=by
 refine ⟨zbn hq,fun e=>?_,UA t q⟩
 obtain ⟨p,_,hp,e2⟩:=Zw h e
 have:=hp.b
 exact ⟨_,p.phys,Y18,Y18,by rw [e2];rfl⟩
theorem zc0 {q:Req} {T:Nat} {tick:Int} {ps:List (Req × Bool)} {i:Nat} {out:List Rep} {u:Us} (h:i<ps.length):xY q T tick i (ps.drop i) out u=if (wL q T tick i ps[i] out u).1.code=0 then xY q T tick (i+1) (ps.drop (i+1)) (out++[(wL q T tick i ps[i] out u).1]) (wL q T tick i ps[i] out u).2 else (out++[(wL q T tick i ps[i] out u).1],(wL q T tick i ps[i] out u).2):=by
 rw [XM h]
 rfl
theorem zlC {q:Req} {ps:List (Req × Bool)} (h:zfL q ps) {i:Nat} (hi:i<ps.length) (out:List Rep):zai (ZM q ps[i] out):=by
 unfold ZM
 split
 ·rename_i hc
  obtain ⟨z,a,h1,h2,h3⟩:=h.mask hc.1
  have:ps[i]=(⟨6,a,0,0,0,[],[0],0,0⟩,true):=by
   subst h3
   have hx:=hc.2.1
   simp only [List.length_cons,List.length_nil] at hi
   rcases i with _ | _ | i
   ·cases hx
   ·rfl
   ·omega
  rw [this]
  exact zcN ⟨h1,h2⟩ (zmD _ _)
 ·exact h.all _ (List.getElem_mem hi)
theorem zlf {q:Req} {ps:List (Req × Bool)} (h:zfL q ps) (h22:q.fn=22) {i:Nat} (hi:i<ps.length) (hw:(ps[i]).2=true):i=1:=by
 obtain ⟨z,a,h1,h2,h3⟩:=h.mask h22
 subst h3
 simp only [List.length_cons,List.length_nil] at hi
 rcases i with _ | _ | i
 ·cases hw
 ·rfl
 ·omega
structure xK (b ln c cc un T:Nat) (t:Ten) (u:Us) (ns:Nat→Option Nat) (s:St):Prop where
 lin:Ln4 86 (b+5) ln c u.FS u.l ns s
 dv:zK b u.D s
 cn:s.blk cc=some (.row 112 [u.c.pv])
 unb:s.blk un=some (.row 92 [.agg [.int .i64 t.unit,.int .u32 t.fns,.int .i64 t.queue,.sl .unk (t.wins.map Win.pv),.sl .unk (t.slts.map Slt.pv),.int .i64 (T:Int),.ptr ln 0 0,.ptr cc 0 0]])
 uok:u.ok
 tok:t.ok
 T4:T<4
 bl:b+5<ln
 c1:cc≠ln∧¬ (b≤cc∧cc<b+6)
 n1:un≠ln∧¬ (b≤un∧un<b+6)∧un≠cc
 lt:cc<s.nxt∧un<s.nxt
structure Fr5 (b n ln cc:Nat) (ns ns':Nat→Option Nat) (s s':St):Prop where
 nx:s.nxt≤s'.nxt
 same:∀ j,j<s.nxt→j≠ln→j≠cc→¬ (b≤j∧j<n)→(∀ i,ns i≠some j)→s'.blk j=s.blk j
 new:∀ i t,ns' i=some t→(∃ i',ns i'=some t)∨s.nxt≤t
theorem Fr5.refl (b n ln cc:Nat) (ns:Nat→Option Nat) (s:St):Fr5 b n ln cc ns ns s s:=⟨Nat.le_refl _,fun _ _ _ _ _ _=>rfl,fun i t h=>.inl ⟨i,h⟩⟩
theorem Fr5.trans {b n ln cc:Nat} {ns n1 n2:Nat→Option Nat} {s s1 s2:St} (h:Fr5 b n ln cc ns n1 s s1) (k:Fr5 b n ln cc n1 n2 s1 s2):Fr5 b n ln cc ns n2 s s2:=by
 refine ⟨Nat.le_trans h.nx k.nx,fun j h1 h2 hc h3 h4=>?_,fun i t ht=>?_⟩
 ·rw [k.same j (Nat.lt_of_lt_of_le h1 h.nx) h2 hc h3 fun i hi=>?_]
  ·exact h.same j h1 h2 hc h3 h4
  ·exact zoF
 ·exact zpX
theorem Fr5.nw {b n ln cc:Nat} {ns ns':Nat→Option Nat} {s s':St} (h:Fr5 b n ln cc ns ns' s s') (x:Blk):Fr5 b n ln cc ns ns' s (s'.new x):=by
 have:=h.nx
 exact ⟨Nat.le_succ_of_le h.nx,fun j q1 q2 q3 q4 q5=>by rw [zg Y18];exact h.same j q1 q2 q3 q4 q5,h.new⟩
theorem Fr5.hi {b n ln cc r:Nat} {ns ns':Nat→Option Nat} {s s':St} (h:Fr5 b n ln cc ns ns' s s') (hr:s.nxt≤r∨r=cc) (x:Option Blk):Fr5 b n ln cc ns ns' s (s'.set r x) :=
 ⟨h.nx,fun j q1 q2 q3 q4 q5=>by rw [zd Y18];exact h.same j q1 q2 q3 q4 q5,h.new⟩
theorem xK.keep {b ln c cc un T:Nat} {t:Ten} {u:Us} {ns:Nat→Option Nat} {s s':St} (h:xK b ln c cc un T t u ns s) (hn:s.nxt≤s'.nxt) (he:∀ j,j<s.nxt→(j=ln∨(b≤j∧j≤b+5)∨j=cc∨j=un∨∃ i,ns i=some j)→s'.blk j=s.blk j):xK b ln c cc un T t u ns s':=by
 have hc:=h.lin.hc
 have hx:=h.lin.nx
 have hb:=h.bl
 have e:∀ j,j≤5→s'.blk (b+j)=s.blk (b+j):=fun j hj=>he (b+j) Y18 (.inr (.inl ⟨Y18,Y18⟩))
 refine ⟨h.lin.keep hn fun j hj hj'=>he j hj (hj'.elim .inl fun h=>.inr (.inr (.inr (.inr h)))),?_,by rw [he cc h.lt.1 (.inr (.inr (.inl rfl)))];exact h.cn,by rw [he un h.lt.2 (.inr (.inr (.inr (.inl rfl))))];exact h.unb,h.uok,h.tok,h.T4,h.bl,h.c1,h.n1,⟨Nat.lt_of_lt_of_le h.lt.1 hn,Nat.lt_of_lt_of_le h.lt.2 hn⟩⟩
 have d:=h.dv
 exact ⟨by rw [show b=b+0 from rfl,e 0 Y18];exact d.st,by rw [e 1 Y18];exact d.c0,by rw [e 3 Y18];exact d.c1,by rw [e 2 Y18];exact d.v0,by rw [e 4 Y18];exact d.v1,by rw [e 5 Y18];exact d.dv⟩
theorem xK.nw {b ln c cc un T:Nat} {t:Ten} {u:Us} {ns:Nat→Option Nat} {s:St} (h:xK b ln c cc un T t u ns s) (x:Blk):xK b ln c cc un T t u ns (s.new x):=h.keep (Nat.le_succ _) fun j hj _=>zg Y18
structure xK.free (b ln cc un:Nat) (ns:Nat→Option Nat) (r:Nat):Prop where
 hl:r≠ln
 hb:¬ (b≤r∧r≤b+5)
 hc:r≠cc
 hu:r≠un
 hn:∀ i,ns i≠some r
theorem xK.hi {b ln c cc un T r:Nat} {t:Ten} {u:Us} {ns:Nat→Option Nat} {s:St} (h:xK b ln c cc un T t u ns s) (hr:xK.free b ln cc un ns r) (x:Option Blk):xK b ln c cc un T t u ns (s.set r x) :=
 h.keep (Nat.le_refl _) fun j hj hj'=>zd (by
  rcases hj' with rfl | hj' | rfl | rfl | ⟨i,hi⟩
  ·exact hr.hl.symm
  ·rintro rfl;exact hr.hb hj'
  ·exact hr.hc.symm
  ·exact hr.hu.symm
  ·rintro rfl;exact hr.hn i hi)
theorem xK.fresh {b ln c cc un T r:Nat} {t:Ten} {u:Us} {ns:Nat→Option Nat} {s:St} (h:xK b ln c cc un T t u ns s) (hr:s.nxt≤r):xK.free b ln cc un ns r:=by
 have h1:=h.lin.hc
 have h2:=h.lin.nx
 have h3:=h.bl
 have h4:=h.lt
 exact ⟨Y18,Y18,Y18,Y18,fun i hi=>by have:=(h.lin.own i r hi).2;omega⟩
theorem xK.cnt {b ln c cc un T:Nat} {t:Ten} {u:Us} {ns:Nat→Option Nat} {s:St} (h:xK b ln c cc un T t u ns s) {c':Cn} (hc:c'.ok):xK b ln c cc un T t { u with c:=c' } ns (s.set cc (some (.row 112 [c'.pv]))):=by
 have hk:∀ j,j≠cc→(s.set cc (some (.row 112 [c'.pv]))).blk j=s.blk j:=fun j hj=>zd hj
 have h1:=h.lin.hc
 have h2:=h.lin.nx
 have h3:=h.bl
 have h4:=h.c1
 have d:=h.dv
 refine ⟨h.lin.keep (Nat.le_refl _) fun j hj hj'=>hk j ?_,?_,zy _ _ _,by rw [hk _ h.n1.2.2];exact h.unb,⟨h.uok.D,h.uok.FS,hc,h.uok.l⟩,h.tok,h.T4,h.bl,h.c1,h.n1,h.lt⟩
 ·rcases hj' with rfl | ⟨i,hi⟩
  ·omega
  ·rintro rfl;exact h.lin.notrow hi h.cn
 ·exact ⟨by rw [hk _ Y18];exact d.st,by rw [hk _ Y18];exact d.c0,by rw [hk _ Y18];exact d.c1,by rw [hk _ Y18];exact d.v0,by rw [hk _ Y18];exact d.v1,by rw [hk _ Y18];exact d.dv⟩
theorem zjW:∃ (fs:Array Field) (fd:Field),Tryz.prog.underlying 82=some (.struct fs)∧fs[1]? =some fd∧yL Tryz.prog fd.type=some false∧fd.offset=1:=by
 obtain ⟨fs,h1,h2⟩:=Wi Tryz.td82
 have hl:fs.toList.length=2:=by have:=congrArg List.length h2;simpa using this.symm
 obtain ⟨x,y,hxy⟩:∃ x y,fs.toList=[x,y]:=by
  cases hf:fs.toList with
  | nil=>rw [hf] at hl;cases hl
  | cons x l =>
    cases l with
    | nil=>rw [hf] at hl;cases hl
    | cons y l =>
      cases l with
      | nil=>exact ⟨x,y,rfl⟩
      | cons z l=>rw [hf] at hl;simp at hl
 rw [hxy] at h2
 simp only [List.map_cons,List.map_nil,List.cons.injEq,Prod.mk.injEq] at h2
 refine ⟨fs,y,h1,?_,h2.2.1.2.2.symm,h2.2.1.1.symm⟩
 rw [← Array.getElem?_toList,hxy]
 rfl
set_option maxRecDepth 100000 in
theorem zlE {t:Ten} (ht:t.ok) {s:St}:za Tryz.prog 26 [t.pv] s (fun r s'=>r=t.pv∧s'=s):=by
 refine go Tryz.func26 (k:=fun hwf H=>?_)
 have hk:(⟨0,[t]⟩:Tab).ok:=⟨xu,fun x hx=>by rw [List.mem_singleton.1 hx];exact ht,by show 1*72≤_;decide⟩
 obtain ⟨E,hE⟩:∃ E,E=[(.agg [.int .i64 (t).unit,.int .u32 (t).fns,.int .i64 (t).queue,.sl .unk ((t).wins.map Win.pv),.sl .unk ((t).slts.map Slt.pv)]:PV)]:=⟨_,rfl⟩
 have hcp:∀ s,za Tryz.prog 51 [.agg [.int .i64 0,.sl .unk [.agg [.int .i64 (t).unit,.int .u32 (t).fns,.int .i64 (t).queue,.sl .unk ((t).wins.map Win.pv),.sl .unk ((t).slts.map Slt.pv)]]]] s (fun r s'=>r=.agg [.int .i64 0,.sl .unk E]∧s'=s):=fun s=>by rw [hE];exact zg6 hk
 have hE0:E[0]? =some (.agg [.int .i64 (t).unit,.int .u32 (t).fns,.int .i64 (t).queue,.sl .unk ((t).wins.map Win.pv),.sl .unk ((t).slts.map Slt.pv)]):=by rw [hE];rfl
 have hEl:(0<E.length)=True:=eq_true (by rw [hE];exact Nat.succ_pos _)
 obtain ⟨fs9,fd9,hf1,hf2,hf3,hf4⟩:=zjW
 have hf5:∀ a b:PV,[a,b][1]? =some b:=fun a b=>rfl
 have H:=aj hE0 (aj hEl (aj hf1 (aj hf2 (aj hf3 (aj hf4 (aj hf5 H))))))
 refine rs (k:=rg [1,2] (k:=rs (k:=rr (k:=ro (pre:=[_]) (k:=rO (k:=ro (pre:=[_]) (k:=rC (h:=hcp _) (k:=rh [2] (k:=rR (k:=rP (by simp only [Tryz.f26,go_sem];rfl) hwf ⟨?_,rfl⟩))))))))))
 exact zaX t
set_option maxRecDepth 100000 in
theorem zf2 {t:Ten} (ht:t.ok) {T:Int} {ln:Nat} {s:St}:za Tryz.prog 9 [t.pv,.int .i64 T,.ptr ln 0 0] s (fun r s'=>∃ z,r=.ptr (s.nxt+2) 0 0∧s'=((s.new z).new (.row 112 [(⟨0,0,0⟩:Cn).pv])).new (.row 92 [.agg [.int .i64 t.unit,.int .u32 t.fns,.int .i64 t.queue,.sl .unk (t.wins.map Win.pv),.sl .unk (t.slts.map Slt.pv),.int .i64 T,.ptr ln 0 0,.ptr (s.nxt+1) 0 0]])):=by
 refine go Tryz.func9 (k:=fun hwf H=>?_)
 refine rs (k:=rg [1,2,3] (k:=rs (k:=rs (k:=rg [1,2,3,8] (k:=rc (ht:=fun hc0=>?_) (hf:=fun hc0=>?_))))))
 ·cases hc0
 ·refine rk (k:=rs (k:=rr (k:=ro (pre:=[_]) (k:=rC (h:=zlE ht) (k:=ro (pre:=[_,_]) (k:=?_))))))
  refine zm.callw au au au Y22 ((ziM).mono ?_)
  rintro r s9 ⟨rfl,hs⟩
  subst s9
  refine rh [6] (k:=rR (k:=?_))
  exact Ret.all (by simp only [Tryz.f9,go_sem,↓reduceIte]<;>rfl) ⟨_,rfl,rfl⟩
theorem zi0 {t:Ten} {T:Int} {s:St}:za Tryz.prog 9 [t.pv,.int .i64 T,.nilp] s (fun r s'=>r=.nilp∧s'=s):=by
 refine go Tryz.func9 (k:=fun hwf H=>?_)
 refine rs (k:=rg [1,2,3] (k:=rs (k:=rs (k:=rg [1,2,3,8] (k:=rc (ht:=fun hc0=>?_) (hf:=fun hc0=>?_))))))
 ·refine rs (k:=rg [6] (k:=rR (k:=rP (by simp only [Tryz.f9,go_sem];rfl) hwf ⟨?_,rfl⟩)))
  rfl
 ·cases hc0
def fnF (b:List Int):Int:=if b=[] then 0 else (b[0]?).getD 0%128
theorem zck {b:List Int} (hb:OkB b) {s:St}:za Tryz.prog 60 [.sl .unk (b.map (PV.int .u8))] s (fun r s'=>r=.int .i64 (fnF b)∧s'=s):=by
 refine go Tryz.func60 (k:=fun hwf H=>?_)
 refine rs (k:=rg [0] (k:=rs (k:=rs (k:=rg [0,5] (k:=rc (ht:=fun hc0=>?_) (hf:=fun hc0=>?_))))))
 refine rs (k:=rg [2] (k:=rR (k:=rP (by simp only [Tryz.f60,go_sem];rfl) hwf ⟨?_,rfl⟩)))
 refine jO 1 ?_;rotate_left
 refine rk (k:=rs (k:=?_))
 have hne:b≠[]:=by rintro rfl;simp at hc0
 obtain ⟨x,l,hbl⟩:=List.exists_cons_of_ne_nil hne
 have hx0:(b.map (PV.int .u8))[0]? =some (.int .u8 x):=by rw [hbl];rfl
 have hbp:(0<b.length)=True:=eq_true (by rw [hbl];simp)
 have hx8:=hb x (by rw [hbl];simp)
 have hand:=Wh hx8
 have hfn:fnF b=x%128:=by unfold fnF;rw [if_neg hne,hbl];rfl
 have hw:IntKind.i64.wrap (x%128)=x%128:=zi Y18
 have H:=aj hx0 (aj hbp (aj hand (aj hw H)))
 refine rg [2] (k:=rR (k:=rP (by simp only [Tryz.f60,go_sem];rfl) hwf ⟨?_,rfl⟩))
 refine jO 1 ?_;rotate_left
 any_goals
  refine jI 1 ?_
  first
   |(have hbe:b=[]:=by
      cases b with
      | nil=>rfl
      | cons a l=>simp at hc0<;>omega
     rw [hbe];rfl)
   |(rw [hfn];rfl)
theorem zhX {un:Nat} {t:Ten} {T ln cc:Nat} {s:St} (hb:s.blk un=some (.row 92 [.agg [.int .i64 t.unit,.int .u32 t.fns,.int .i64 t.queue,.sl .unk (t.wins.map Win.pv),.sl .unk (t.slts.map Slt.pv),.int .i64 (T:Int),.ptr ln 0 0,.ptr cc 0 0]])):za Tryz.prog 19 [.ptr un 0 0] s (fun r s'=>r=.ptr cc 0 0∧s'=s):=by
 refine go Tryz.func19 (k:=fun hwf H=>?_)
 have H:=aj hb H
 refine rs (k:=rg [0] (k:=rs (k:=rg [2] (k:=rR (k:=?_)))))
 exact Ret.all (by simp only [Tryz.f19,go_sem,↓reduceIte]<;>rfl) ⟨rfl,rfl⟩
end Go.Proofs

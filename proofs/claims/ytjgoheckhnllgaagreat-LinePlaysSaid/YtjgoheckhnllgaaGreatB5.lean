import Derived.Test.YtjgoheckhnllgaaGreatB4
import Derived.Test.YtjgoheckhnllgaaGreatB2
import Derived.Test.YtjgoheckhnllgaaGreatB3
import Derived.Test.YtjgoheckhnllgaaGreatB1
set_option linter.unusedVariables false
set_option linter.unusedSimpArgs false
namespace Go.Proofs
open Go.PM
set_option maxHeartbeats 2000000
def k17F:List Int:=frameF [6,0,1,0,9]
def k17E (D:Dev):Dev:={ D.up with v1:=overF D.v1 1 [9] }
theorem k17_do {D:Dev} (h:D.c0.length=8):doF D (⟨6,1,0,0,0,[],[9],0,0⟩:Req)=((⟨6,0,1,0,0,[],[9],0,0,[]⟩:Rep),k17E D):=by
 have h1:countF (⟨6,1,0,0,0,[],[9],0,0⟩:Req)=true:=Y15
 exact do_6 (D:=D) (q:=(⟨6,1,0,0,0,[],[9],0,0⟩:Req)) h1 rfl (by rw [h];decide)
theorem k17_ok {D:Dev} (hD:D.ok) (h:D.c0.length=8):(k17E D).ok∧(k17E D).c0.length=8:=by
 have hq:((⟨6,1,0,0,0,[],[9],0,0⟩:Req):Req).ok:=req_okT Y15 Y16 Y16 Y16 Y16 (OkW.one Y16) Y16 Y16 Y15 Y15
 have:=doF_ok hD hq
 rw [k17_do h] at this
 exact ⟨this.1,by rw [← h];exact this.2⟩
theorem k17_pdu {D:Dev} (h:D.c0.length=8):pduF D [6,0,1,0,9]=([6,0,1,0,9],k17E D):=by
 have h1:readF [6,0,1,0,9]=((⟨6,1,0,0,0,[],[9],0,0⟩:Req),0):=Y15
 have h2:repF (⟨6,0,1,0,0,[],[9],0,0,[]⟩:Rep)=[6,0,1,0,9]:=Y15
 have e:pduF D [6,0,1,0,9]=(repF (doF D (⟨6,1,0,0,0,[],[9],0,0⟩:Req)).1,(doF D (⟨6,1,0,0,0,[],[9],0,0⟩:Req)).2):=by
  unfold pduF
  rw [h1]
  rfl
 rw [e,k17_do h,h2]
theorem k17_rtu:rtuF k17F=((17,[6,0,1,0,9]),0):=rtu_frame Y15 Y15
theorem k17_send {D:Dev} (h:D.c0.length=8):sendF 0 D k17F=(k17F,k17E D)∧sendF 1 D k17F=([],D)∧sendF 2 D k17F=([],k17E D)∧sendF 3 D k17F=(flipL k17F,k17E D)∧sendF 4 D k17F=(frameF [134,4],D):=by
 have e:∀ f,sendF f D k17F=lineF f D [6,0,1,0,9]:=fun f=>by
  unfold sendF
  rw [k17_rtu]
  exact if_pos ⟨rfl,rfl⟩
 have h4:repF (refuseP 6 4)=[134,4]:=Y15
 refine ⟨?_,?_,?_,?_,?_⟩
 ·rw [e];show (frameF (pduF D _).1,(pduF D _).2)=_;rw [k17_pdu h];rfl
 ·rw [e];rfl
 ·rw [e];show ([],(pduF D _).2)=_;rw [k17_pdu h]
 ·rw [e];show (flipL (frameF (pduF D _).1),(pduF D _).2)=_;rw [k17_pdu h];rfl
 ·rw [e];show (frameF (repF (refuseP 6 4)),D)=_;rw [h4]
theorem Y226 {p:Prop} (h:p:=by intro x hx;simp only [List.mem_cons,List.not_mem_nil,or_false] at hx;rcases hx with rfl | rfl | rfl | rfl | rfl<;>constructor<;>decide):p:=h
theorem k17F_ok:OkB k17F∧k17F.length≤140737488350000:=⟨frameF_ok Y226,Nat.le_trans (frameF_len _) Y15⟩
attribute [local go_sem] set_set weaks_bools Req.pv
theorem Y55 {p:Prop} (h:p:=by rw [hs];simp (disch:=first | omega |(simp only [nxt_set,nxt_new,putDev_nxt]<;>omega) | fail) only [blk_set_ne,blk_new_ne,blk_set_self,blk_new_eq,putDev_hi,putDev_lo]<;>rfl):p:=h
set_option maxRecDepth 100000 in
theorem law17_known {s:St}:ACalls Tryz.prog 13 [] s (fun r s'=>r=.bool true∧s'=s):=by
 refine go Tryz.func13 (k:=fun hwf H=>?_)
 have hq6:((⟨6,1,0,0,0,[],[9],0,0⟩:Req)).ok:=req_okT Y15 Y16 Y16 Y16 Y16 (OkW.one Y16) Y16 Y16 Y15 Y15
 have hbF:frameF (bytesF (⟨6,1,0,0,0,[],[9],0,0⟩:Req))=k17F:=by
  unfold k17F
  rw [show bytesF (⟨6,1,0,0,0,[],[9],0,0⟩:Req)=[6,0,1,0,9] from Y15]
 have o0:(Dev.zero 8).ok:=Dev.zero_ok Y15 Y15
 have l0:(Dev.zero 8).c0.length=8:=Y15
 have o1:=(k17_ok o0 l0).1
 have l1:=(k17_ok o0 l0).2
 have o2:=(k17_ok o1 l1).1
 have l2:=(k17_ok o1 l1).2
 have o3:=(k17_ok o2 l2).1
 have l3:=(k17_ok o2 l2).2
 refine rs (k:=rg [] (k:=rs (k:=rr (k:=?_))))
 refine RunO.callw au au au Y19 ((device_New (n:=8) Y15 Y15).mono ?_)
 rintro r s1 ⟨rfl,hA0,hlo0,hnx0⟩
 refine RunO.callw au au au Y19 ((line_New).mono ?_)
 rintro r s2 ⟨rfl,hs⟩
 have hr2:s2.blk s1.nxt=some (lnRow (s.nxt+5) (.sl .nil []) (.sl .nil []) (.sl .nil []) (.sl .nil []) (.sl .nil [])):=Y55
 have hx2:s2.nxt=s1.nxt+1:=by rw [hs];simp only [putDev_nxt,nxt_set,nxt_new]
 have hd2:DevAt s.nxt (Dev.zero 8) s2:=by rw [hs];exact hA0.nw Y14 _
 have hw2:∀ j,j<s.nxt→s2.blk j=s.blk j:=fun j hj=>by rw [hs];simp (disch:=first | omega |(simp only [nxt_set,nxt_new,putDev_nxt]<;>omega) | fail) only [blk_set_ne,blk_new_ne,blk_set_self,blk_new_eq,putDev_hi,putDev_lo];exact hlo0 j hj
 clear hs
 refine rh [1] (k:=rs (k:=rs (k:=rr (k:=ro (pre:=[_,_,_]) (k:=?_)))))
 refine RunO.callw au au au Y19 ((line_NewN).mono ?_)
 rintro r s9 ⟨rfl,hs⟩
 subst s9
 refine rg1 (k:=ro (pre:=[_,_]) (k:=rg1 (k:=?_)))
 refine RunO.callw au au au Y19 ((line_Device hr2).mono ?_)
 rintro r s9 ⟨rfl,hs⟩
 subst s9
 refine rg1 (k:=rh [1,31] (k:=rc (ht:=fun hc0=>?_) (hf:=fun hc0=>?_)))
 ·cases hc0
 ·refine rk (k:=rs (k:=rr (k:=rO (k:=ro (pre:=[_]) (k:=?_)))))
  refine RunO.callw au au au Y19 ((ref17_Frame (q:=(⟨6,1,0,0,0,[],[9],0,0⟩:Req)) hq6).mono ?_)
  rintro r s9 ⟨rfl,hs⟩
  subst s9
  rw [hbF]
  refine rh [1,2] (k:=rs (k:=rr (k:=ro (pre:=[_]) (k:=?_))))
  refine RunO.callw au au au Y19 ((line_Hurt0N (F:=1) Y15 hr2).mono ?_)
  rintro r s3 ⟨rfl,hs⟩
  rw [hx2] at hs
  have hr3:s3.blk s1.nxt=some (lnRow (s.nxt+5) (.sl (.tok (s1.nxt+1) 1) (([1]:List Int).map (PV.int .i64))) (.sl .nil []) (.sl .nil []) (.sl .nil []) (.sl .nil [])):=Y55
  have hx3:s3.nxt=s1.nxt+2:=by rw [hs];simp only [putDev_nxt,nxt_set,nxt_new,hx2]
  have hd3:DevAt s.nxt (Dev.zero 8) s3:=by rw [hs];exact (hd2.nw Y14 _).sv Y14 _
  have hw3:∀ j,j<s.nxt→s3.blk j=s.blk j:=fun j hj=>by rw [hs];simp (disch:=first | omega |(simp only [nxt_set,nxt_new,putDev_nxt]<;>omega) | fail) only [blk_set_ne,blk_new_ne,blk_set_self,blk_new_eq,putDev_hi,putDev_lo];exact hw2 j hj
  have h03:s3.blk (s1.nxt+1)=some (.tok 1):=by
   rw [hs,blk_set_ne Y14]
   show (if s1.nxt+1=s2.nxt then _ else _)=_
   rw [if_pos hx2.symm];rfl
  clear hs
  refine ro (pre:=[_]) (k:=rg1 (k:=?_))
  refine RunO.callw au au au Y19 ((line_Hurt0T (F:=2) (L:=[1]) (t:=s1.nxt+1) Y15 Y15 hr3 h03 Y14).mono ?_)
  rintro r s4 ⟨rfl,hs⟩
  have hr4:s4.blk s1.nxt=some (lnRow (s.nxt+5) (.sl (.tok (s1.nxt+1) 1) (([1,2]:List Int).map (PV.int .i64))) (.sl .nil []) (.sl .nil []) (.sl .nil []) (.sl .nil [])):=Y55
  have hx4:s4.nxt=s1.nxt+2:=by rw [hs];simp only [putDev_nxt,nxt_set,nxt_new,hx3]
  have hd4:DevAt s.nxt (Dev.zero 8) s4:=by rw [hs];exact (hd3.sv Y14 _).sv Y14 _
  have hw4:∀ j,j<s.nxt→s4.blk j=s.blk j:=fun j hj=>by rw [hs];simp (disch:=first | omega |(simp only [nxt_set,nxt_new,putDev_nxt]<;>omega) | fail) only [blk_set_ne,blk_new_ne,blk_set_self,blk_new_eq,putDev_hi,putDev_lo];exact hw3 j hj
  have h04:s4.blk (s1.nxt+1)=some (.tok 2):=by rw [hs];simp (disch:=first | omega |(simp only [nxt_set,nxt_new,putDev_nxt]<;>omega) | fail) only [blk_set_ne,blk_new_ne,blk_set_self,blk_new_eq,putDev_hi,putDev_lo]<;>first | done | rfl | exact h03
  clear hs
  refine ro (pre:=[_,_]) (k:=rg1 (k:=?_))
  refine RunO.callw au au au Y19 ((line_Hurt0T (F:=3) (L:=[1,2]) (t:=s1.nxt+1) Y15 Y15 hr4 h04 Y14).mono ?_)
  rintro r s5 ⟨rfl,hs⟩
  have hr5:s5.blk s1.nxt=some (lnRow (s.nxt+5) (.sl (.tok (s1.nxt+1) 1) (([1,2,3]:List Int).map (PV.int .i64))) (.sl .nil []) (.sl .nil []) (.sl .nil []) (.sl .nil [])):=Y55
  have hx5:s5.nxt=s1.nxt+2:=by rw [hs];simp only [putDev_nxt,nxt_set,nxt_new,hx4]
  have hd5:DevAt s.nxt (Dev.zero 8) s5:=by rw [hs];exact (hd4.sv Y14 _).sv Y14 _
  have hw5:∀ j,j<s.nxt→s5.blk j=s.blk j:=fun j hj=>by rw [hs];simp (disch:=first | omega |(simp only [nxt_set,nxt_new,putDev_nxt]<;>omega) | fail) only [blk_set_ne,blk_new_ne,blk_set_self,blk_new_eq,putDev_hi,putDev_lo];exact hw4 j hj
  have h05:s5.blk (s1.nxt+1)=some (.tok 3):=by rw [hs];simp (disch:=first | omega |(simp only [nxt_set,nxt_new,putDev_nxt]<;>omega) | fail) only [blk_set_ne,blk_new_ne,blk_set_self,blk_new_eq,putDev_hi,putDev_lo]<;>first | done | rfl | exact h04
  clear hs
  refine ro (pre:=[_,_]) (k:=rg1 (k:=?_))
  refine RunO.callw au au au Y19 ((line_Hurt0T (F:=4) (L:=[1,2,3]) (t:=s1.nxt+1) Y15 Y15 hr5 h05 Y14).mono ?_)
  rintro r s6 ⟨rfl,hs⟩
  have hr6:s6.blk s1.nxt=some (lnRow (s.nxt+5) (.sl (.tok (s1.nxt+1) 1) (([1,2,3,4]:List Int).map (PV.int .i64))) (.sl .nil []) (.sl .nil []) (.sl .nil []) (.sl .nil [])):=Y55
  have hx6:s6.nxt=s1.nxt+2:=by rw [hs];simp only [putDev_nxt,nxt_set,nxt_new,hx5]
  have hd6:DevAt s.nxt (Dev.zero 8) s6:=by rw [hs];exact (hd5.sv Y14 _).sv Y14 _
  have hw6:∀ j,j<s.nxt→s6.blk j=s.blk j:=fun j hj=>by rw [hs];simp (disch:=first | omega |(simp only [nxt_set,nxt_new,putDev_nxt]<;>omega) | fail) only [blk_set_ne,blk_new_ne,blk_set_self,blk_new_eq,putDev_hi,putDev_lo];exact hw5 j hj
  have h06:s6.blk (s1.nxt+1)=some (.tok 4):=by rw [hs];simp (disch:=first | omega |(simp only [nxt_set,nxt_new,putDev_nxt]<;>omega) | fail) only [blk_set_ne,blk_new_ne,blk_set_self,blk_new_eq,putDev_hi,putDev_lo]<;>first | done | rfl | exact h05
  clear hs
  refine ro (pre:=[_,_]) (k:=rg1 (k:=?_))
  refine RunO.callw au au au Y19 ((line_HurtT).mono ?_)
  rintro r s9 ⟨rfl,hs⟩
  subst s9
  refine rg1 (k:=ro (pre:=[_,_]) (k:=rg1 (k:=?_)))
  refine RunO.callw au au au Y19 ((line_HurtF).mono ?_)
  rintro r s9 ⟨rfl,hs⟩
  subst s9
  refine rg1 (k:=rh [1,2,3] (k:=rs (k:=rr (k:=ro (pre:=[_]) (k:=?_)))))
  refine RunO.callw au au au Y19 ((line_Left0 (L:=[1,2,3,4]) hr6).mono ?_)
  rintro r s9 ⟨rfl,hs⟩
  subst s9
  refine rh [1,2,3,4] (k:=rs (k:=rr (k:=ro (pre:=[_,_]) (k:=?_))))
  refine RunO.callw au au au Y19 ((line_SendN (c0:=.sl .any (([2,3,4]:List Int).map (PV.int .i64))) (c1:=.sl .nil []) (c2:=.sl .nil []) (c3:=.sl .nil []) (f:=1) Y15 (tn:=0) (tick:=1) k17F_ok.1 k17F_ok.2 hr6 hd6 o0 Y14 (fun S h=>line_take0T (x:=1) (L:=[2,3,4]) Y15 h)).mono ?_)
  rintro r s7 ⟨rfl,hs⟩
  rw [(k17_send l0).2.1] at hs ⊢
  rw [hx6] at hs
  have hr7:s7.blk s1.nxt=some (lnRow (s.nxt+5) (.sl .any (([2,3,4]:List Int).map (PV.int .i64))) (.sl .nil []) (.sl .nil []) (.sl .nil []) (.sl (.tok (s1.nxt+2) 3) (([⟨1,0,k17F⟩]:List Snt).map Snt.pv))):=Y55
  have hx7:s7.nxt=s1.nxt+3:=by rw [hs];simp only [putDev_nxt,nxt_set,nxt_new,hx6]
  have hd7:DevAt s.nxt (Dev.zero 8) s7:=by rw [hs];exact DevAt.put ((hd6.nw Y14 _).sv Y14 _) (l0.trans l0.symm)
  have hw7:∀ j,j<s.nxt→s7.blk j=s.blk j:=fun j hj=>by rw [hs];simp (disch:=first | omega |(simp only [nxt_set,nxt_new,putDev_nxt]<;>omega) | fail) only [blk_set_ne,blk_new_ne,blk_set_self,blk_new_eq,putDev_hi,putDev_lo];exact hw6 j hj
  have h17:s7.blk (s1.nxt+2)=some (.tok 1):=by
   rw [hs,putDev_hi Y14,blk_set_ne Y14]
   show (if s1.nxt+2=s6.nxt then _ else _)=_
   rw [if_pos hx6.symm];rfl
  clear hs
  refine ro (pre:=[_,_]) (k:=?_)
  refine RunO.callw au au au Y19 ((line_SendT (c0:=.sl .any (([3,4]:List Int).map (PV.int .i64))) (c1:=.sl .nil []) (c2:=.sl .nil []) (c3:=.sl .nil []) (f:=2) (l:=[⟨1,0,k17F⟩]) (t:=s1.nxt+2) Y15 (tn:=0) (tick:=2) k17F_ok.1 k17F_ok.2 Y15 hr7 hd7 o0 Y14 h17 Y14 Y14 (fun S h=>line_take0A (x:=2) (L:=[3,4]) Y15 h)).mono ?_)
  rintro r s8 ⟨rfl,hs⟩
  rw [(k17_send l0).2.2.1] at hs ⊢
  have hr8:s8.blk s1.nxt=some (lnRow (s.nxt+5) (.sl .any (([3,4]:List Int).map (PV.int .i64))) (.sl .nil []) (.sl .nil []) (.sl .nil []) (.sl (.tok (s1.nxt+2) 3) (([⟨1,0,k17F⟩,⟨2,0,k17F⟩]:List Snt).map Snt.pv))):=Y55
  have hx8:s8.nxt=s1.nxt+3:=by rw [hs];simp only [putDev_nxt,nxt_set,nxt_new,hx7]
  have hd8:DevAt s.nxt (k17E (Dev.zero 8)) s8:=by rw [hs];exact DevAt.put ((hd7.sv Y14 _).sv Y14 _) (l1.trans l0.symm)
  have hw8:∀ j,j<s.nxt→s8.blk j=s.blk j:=fun j hj=>by rw [hs];simp (disch:=first | omega |(simp only [nxt_set,nxt_new,putDev_nxt]<;>omega) | fail) only [blk_set_ne,blk_new_ne,blk_set_self,blk_new_eq,putDev_hi,putDev_lo];exact hw7 j hj
  have h18:s8.blk (s1.nxt+2)=some (.tok 2):=by rw [hs];simp (disch:=first | omega |(simp only [nxt_set,nxt_new,putDev_nxt]<;>omega) | fail) only [blk_set_ne,blk_new_ne,blk_set_self,blk_new_eq,putDev_hi,putDev_lo]<;>first | done | rfl | exact h17
  clear hs
  refine ro (pre:=[_,_]) (k:=?_)
  refine RunO.callw au au au Y19 ((line_SendT (c0:=.sl .any (([4]:List Int).map (PV.int .i64))) (c1:=.sl .nil []) (c2:=.sl .nil []) (c3:=.sl .nil []) (f:=3) (l:=[⟨1,0,k17F⟩,⟨2,0,k17F⟩]) (t:=s1.nxt+2) Y15 (tn:=0) (tick:=3) k17F_ok.1 k17F_ok.2 Y15 hr8 hd8 o1 Y14 h18 Y14 Y14 (fun S h=>line_take0A (x:=3) (L:=[4]) Y15 h)).mono ?_)
  rintro r s9 ⟨rfl,hs⟩
  rw [(k17_send l1).2.2.2.1] at hs ⊢
  have hr9:s9.blk s1.nxt=some (lnRow (s.nxt+5) (.sl .any (([4]:List Int).map (PV.int .i64))) (.sl .nil []) (.sl .nil []) (.sl .nil []) (.sl (.tok (s1.nxt+2) 3) (([⟨1,0,k17F⟩,⟨2,0,k17F⟩,⟨3,0,k17F⟩]:List Snt).map Snt.pv))):=Y55
  have hx9:s9.nxt=s1.nxt+3:=by rw [hs];simp only [putDev_nxt,nxt_set,nxt_new,hx8]
  have hd9:DevAt s.nxt (k17E (k17E (Dev.zero 8))) s9:=by rw [hs];exact DevAt.put ((hd8.sv Y14 _).sv Y14 _) (l2.trans l1.symm)
  have hw9:∀ j,j<s.nxt→s9.blk j=s.blk j:=fun j hj=>by rw [hs];simp (disch:=first | omega |(simp only [nxt_set,nxt_new,putDev_nxt]<;>omega) | fail) only [blk_set_ne,blk_new_ne,blk_set_self,blk_new_eq,putDev_hi,putDev_lo];exact hw8 j hj
  have h19:s9.blk (s1.nxt+2)=some (.tok 3):=by rw [hs];simp (disch:=first | omega |(simp only [nxt_set,nxt_new,putDev_nxt]<;>omega) | fail) only [blk_set_ne,blk_new_ne,blk_set_self,blk_new_eq,putDev_hi,putDev_lo]<;>first | done | rfl | exact h18
  clear hs
  refine ro (pre:=[_,_]) (k:=?_)
  refine RunO.callw au au au Y19 ((line_SendT (c0:=.sl .any []) (c1:=.sl .nil []) (c2:=.sl .nil []) (c3:=.sl .nil []) (f:=4) (l:=[⟨1,0,k17F⟩,⟨2,0,k17F⟩,⟨3,0,k17F⟩]) (t:=s1.nxt+2) Y15 (tn:=0) (tick:=4) k17F_ok.1 k17F_ok.2 Y15 hr9 hd9 o2 Y14 h19 Y14 Y14 (fun S h=>line_take0A (x:=4) (L:=[]) Y15 h)).mono ?_)
  rintro r s10 ⟨rfl,hs⟩
  rw [(k17_send l2).2.2.2.2] at hs ⊢
  have hr10:s10.blk s1.nxt=some (lnRow (s.nxt+5) (.sl .any []) (.sl .nil []) (.sl .nil []) (.sl .nil []) (.sl (.tok (s1.nxt+2) 3) (([⟨1,0,k17F⟩,⟨2,0,k17F⟩,⟨3,0,k17F⟩,⟨4,0,k17F⟩]:List Snt).map Snt.pv))):=Y55
  have hx10:s10.nxt=s1.nxt+3:=by rw [hs];simp only [putDev_nxt,nxt_set,nxt_new,hx9]
  have hd10:DevAt s.nxt (k17E (k17E (Dev.zero 8))) s10:=by rw [hs];exact DevAt.put ((hd9.sv Y14 _).sv Y14 _) (l2.trans l2.symm)
  have hw10:∀ j,j<s.nxt→s10.blk j=s.blk j:=fun j hj=>by rw [hs];simp (disch:=first | omega |(simp only [nxt_set,nxt_new,putDev_nxt]<;>omega) | fail) only [blk_set_ne,blk_new_ne,blk_set_self,blk_new_eq,putDev_hi,putDev_lo];exact hw9 j hj
  have h110:s10.blk (s1.nxt+2)=some (.tok 4):=by rw [hs];simp (disch:=first | omega |(simp only [nxt_set,nxt_new,putDev_nxt]<;>omega) | fail) only [blk_set_ne,blk_new_ne,blk_set_self,blk_new_eq,putDev_hi,putDev_lo]<;>first | done | rfl | exact h19
  clear hs
  refine ro (pre:=[_,_]) (k:=?_)
  refine RunO.callw au au au Y19 ((line_SendT (c0:=.sl .any []) (c1:=.sl .nil []) (c2:=.sl .nil []) (c3:=.sl .nil []) (f:=0) (l:=[⟨1,0,k17F⟩,⟨2,0,k17F⟩,⟨3,0,k17F⟩,⟨4,0,k17F⟩]) (t:=s1.nxt+2) Y15 (tn:=0) (tick:=5) k17F_ok.1 k17F_ok.2 Y15 hr10 hd10 o2 Y14 h110 Y14 Y14 (fun S h=>by
    have h2:=line_take0 (k:=.any) h
    have e:S.set s1.nxt (S.blk s1.nxt)=S:=St.eq_of rfl fun j=>by (rw [blk_set];split<;>first | rfl |(rename_i e;rw [e]))
    rw [h] at e
    rw [show some (lnRow (s.nxt+5) _ _ _ _ _)=_ from rfl] at e
    rw [e];exact h2)).mono ?_)
  rintro r s11 ⟨rfl,hs⟩
  rw [(k17_send l2).1] at hs ⊢
  have hr11:s11.blk s1.nxt=some (lnRow (s.nxt+5) (.sl .any []) (.sl .nil []) (.sl .nil []) (.sl .nil []) (.sl (.tok (s1.nxt+2) 3) (([⟨1,0,k17F⟩,⟨2,0,k17F⟩,⟨3,0,k17F⟩,⟨4,0,k17F⟩,⟨5,0,k17F⟩]:List Snt).map Snt.pv))):=Y55
  have hx11:s11.nxt=s1.nxt+3:=by rw [hs];simp only [putDev_nxt,nxt_set,nxt_new,hx10]
  have hd11:DevAt s.nxt (k17E (k17E (k17E (Dev.zero 8)))) s11:=by rw [hs];exact DevAt.put ((hd10.sv Y14 _).sv Y14 _) (l3.trans l2.symm)
  have hw11:∀ j,j<s.nxt→s11.blk j=s.blk j:=fun j hj=>by rw [hs];simp (disch:=first | omega |(simp only [nxt_set,nxt_new,putDev_nxt]<;>omega) | fail) only [blk_set_ne,blk_new_ne,blk_set_self,blk_new_eq,putDev_hi,putDev_lo];exact hw10 j hj
  have h111:s11.blk (s1.nxt+2)=some (.tok 5):=by rw [hs];simp (disch:=first | omega |(simp only [nxt_set,nxt_new,putDev_nxt]<;>omega) | fail) only [blk_set_ne,blk_new_ne,blk_set_self,blk_new_eq,putDev_hi,putDev_lo]<;>first | done | rfl | exact h110
  clear hs
  refine rh [1,2,3,4,5,6,7,8,9] (k:=rs (k:=rr (k:=ro (pre:=[_]) (k:=?_))))
  refine RunO.callw au au au Y19 ((ref5_Read (b:=flipL k17F) (flip_ok k17F_ok.1) (by rw [flip_len];exact k17F_ok.2)).mono ?_)
  rintro r s9 ⟨rfl,hs⟩
  subst s9
  rw [show rtuF (flipL k17F)=((0,[]),14) from rtu_broken Y226 Y15 Y15]
  refine rh [1,2,3,4,5,6,8,9,12] (k:=rs (k:=rr (k:=ro (pre:=[_]) (k:=?_))))
  refine RunO.callw au au au Y19 ((ref5_Read (b:=frameF [134,4]) (frameF_ok (by intro x hx;simp only [List.mem_cons,List.not_mem_nil,or_false] at hx;rcases hx with rfl | rfl<;>constructor<;>decide)) (Nat.le_trans (frameF_len _) Y15)).mono ?_)
  rintro r s9 ⟨rfl,hs⟩
  subst s9
  rw [show rtuF (frameF [134,4])=((17,[134,4]),0) from rtu_frame Y15 Y15]
  refine rh [1,2,3,4,5,6,9,12,14,15] (k:=rs (k:=rr (k:=ro (pre:=[_]) (k:=?_))))
  refine RunO.callw au au au Y19 ((line_Sent (l:=[⟨1,0,k17F⟩,⟨2,0,k17F⟩,⟨3,0,k17F⟩,⟨4,0,k17F⟩,⟨5,0,k17F⟩]) Y15 (by intro x hx;simp only [List.mem_cons,List.not_mem_nil,or_false] at hx;rcases hx with rfl | rfl | rfl | rfl | rfl<;>exact k17F_ok.2) hr11).mono ?_)
  rintro r s9 ⟨rfl,hs⟩
  subst s9
  refine rh [1,2,3,4,5,6,9,12,14,15,16] (k:=rs (k:=rr (k:=ro (pre:=[_]) (k:=?_))))
  refine RunO.callw au au au Y19 ((line_Device hr11).mono ?_)
  rintro r s9 ⟨rfl,hs⟩
  subst s9
  refine RunO.callw au au au Y19 ((device_Counts hd11).mono ?_)
  rintro r s9 ⟨rfl,hs⟩
  subst s9
  rw [show ((k17E (k17E (k17E (Dev.zero 8))))).msgs=3 from Y15]
  refine rh [1,2,3,4,5,6,9,12,14,15,16,17] (k:=rs (k:=?_))
  have hst1:((ByteArray.mk [UInt8.ofNat (Int.toNat 4),UInt8.ofNat (Int.toNat 134)].reverse.toArray).toList==(ByteArray.mk #[134,4]).toList)=true:=by decide +kernel
  have hbs:∀ l:List UInt8,(l==l)=true:=fun l=>beq_self_eq_true l
  have H:=aj hst1 (aj hbs H)
  refine Run.drawC [] [0] Tryz.mixed Y19 ?_
  refine DetC.pre (pre:=[_,_]) au ?_
  refine DetC.gdo au au ?_
  refine DetC.gdo au au ?_
  refine DetC.pre (pre:=[_,_]) au ?_
  refine DetC.gdo au au ?_
  refine DetC.gdo au au ?_
  refine DetC.gdo au au ?_
  refine DetC.pre (pre:=[_,_]) au ?_
  refine DetC.gdo au au ?_
  refine DetC.gdo au au ?_
  refine DetC.gdo au au ?_
  refine DetC.pre (pre:=[_,_]) au ?_
  refine DetC.gdo au au ?_
  refine DetC.gdo au au ?_
  refine DetC.pre (pre:=[_,_]) au ?_
  refine DetC.gdo au au ?_
  refine DetC.gdo au au ?_
  refine DetC.pre (pre:=[_,_]) au ?_
  refine DetC.gdo au au ?_
  refine DetC.gdo au au ?_
  refine DetC.gdo au au ?_
  refine DetC.pre (pre:=[_,_]) au ?_
  refine DetC.gdo au au ?_
  refine DetC.gdo au au ?_
  refine DetC.gdo au au ?_
  refine DetC.gdo au au ?_
  refine DetC.gdo au au ?_
  refine DetC.pre (pre:=[_,_]) au ?_
  refine DetC.gdo au au ?_
  refine DetC.gdo au au ?_
  refine DetC.gdo au au ?_
  refine DetC.pre (pre:=[_,_]) au ?_
  refine DetC.gdo au au ?_
  refine DetC.gdo au au ?_
  refine DetC.gdo au au ?_
  refine DetC.gdo au au ?_
  refine DetC.gdo au au ?_
  refine DetC.pre (pre:=[_,_]) au ?_
  refine DetC.gdo au au ?_
  refine DetC.gdo au au ?_
  refine DetC.gdo au au ?_
  refine DetC.gdo au au ?_
  refine DetC.gdo au au ?_
  refine DetC.gdo au au ?_
  refine DetC.gdo au au ?_
  refine DetC.gdo au au ?_
  refine DetC.pre (pre:=[_,_]) au ?_
  refine DetC.gdo au au ?_
  refine DetC.gdo au au ?_
  refine DetC.pre (pre:=[_,_]) au ?_
  refine DetC.gdo au au ?_
  refine DetC.call au au au Y19 (line_Left0 (L:=[]) hr11) ?_
  refine DetC.gdo au au ?_
  refine DetC.pre (pre:=[_,_]) au ?_
  refine DetC.gdo au au ?_
  refine DetC.call au au au Y19 (line_LeftN) ?_
  refine DetC.gdo au au ?_
  refine DetC.all au ?_
  refine re (k:=rR (k:=?_))
  exact Ret.pure (r':=.bool true) (by simp only [Tryz.f13,go_sem,↓reduceIte]<;>rfl) rfl Y307 hwf (fun i hi=>hw11 i hi) ⟨rfl,rfl⟩
end Go.Proofs
namespace Go.Proofs
open Go.PM
set_option maxHeartbeats 2000000
structure Ak where
 tenant:Int
 fault:Int
 tick:Int
 hurt:Bool
 data:List Int
def Ak.pv (x:Ak):PV:=.agg [.int .i64 x.tenant,.int .i64 x.fault,.int .i64 x.tick,.bool x.hurt,.sl .unk (x.data.map (PV.int .u8))]
attribute [local go_sem] weaks_bools Req.pv
theorem Y342 {p:Prop} (h:p:=by simp only [Tryz.f24,go_sem,↓reduceIte]<;>rfl):p:=h
set_option maxRecDepth 100000 in
theorem law17_frame {tl:List Int} (htl:tl.length*8≤140737488351232) {i:Nat} (hi:i≤100) {b:List Int} (hb:OkB b) (hbl:b.length≤1000) {s:St}:ACalls Tryz.prog 24 [.sl .unk (tl.map (PV.int .i64)),.int .i64 (i:Int),.sl .unk (b.map (PV.int .u8))] s (fun r s'=>∃ fr:List Int,r=.sl .unk (fr.map (PV.int .u8))∧OkB fr∧fr.length≤140737488350000∧s'=s):=by
 refine go Tryz.func24 (k:=fun hwf H=>?_)
 have hw9:IntKind.i64.wrap (9*(i:Int))=((9*i:Nat):Int):=Y21
 have hT:Tp.ok ⟨tl,9*i⟩:=⟨htl,by show 9*i≤tl.length+1000;omega⟩
 have H:=aj hw9 H
 refine rs (k:=rg [0,1,2] (k:=rs (k:=rg [2,7] (k:=rs (k:=rs (k:=rr (k:=ro (pre:=[_]) (k:=?_))))))))
 refine RunO.callw au au au Y19 ((tape_Next (t:=⟨tl,9*i⟩) hT blk_new_eq).mono ?_)
 rintro r s1 ⟨rfl,hs⟩
 have hT1:=hT.nx 6
 have hr1:s1.blk s.nxt=some (.row 39 [Tp.pv (Tp.nx ⟨tl,9*i⟩ 6)]):=by rw [hs];exact blk_set_self _ _ _
 have lo1:∀ j,j<s.nxt→s1.blk j=s.blk j:=fun j hj=>by rw [hs,blk_set_ne Y14,blk_new_ne Y14]
 clear hs
 obtain ⟨v,hv⟩:∃ v,(Tp.val ⟨tl,9*i⟩ 6)=v:=⟨_,rfl⟩
 rw [hv]
 refine rl [2,7,16] (k:=rb (k:=rs (k:=rg [2,7,16,17] (k:=rc (ht:=fun hc0=>?_) (hf:=fun hc0=>?_)))))
 ·refine rs (k:=rg [6] (k:=rR (k:=?_)))
  exact Ret.pure (r':=.sl .unk (b.map (PV.int .u8))) Y342 Y334 Y20 hwf (fun i hi=>lo1 i hi) ⟨_,rfl,hb,Y14,rfl⟩
 ·refine rs (k:=rg [2,7,20] (k:=rc (ht:=fun hc1=>?_) (hf:=fun hc1=>?_)))
  ·refine rs (k:=rr (k:=ro (pre:=[_]) (k:=?_)))
   refine RunO.callw au au au Y19 ((tape_Next hT1 hr1).mono ?_)
   rintro r s2 ⟨rfl,hs⟩
   have lo2:∀ j,j<s.nxt→s2.blk j=s.blk j:=fun j hj=>by rw [hs,blk_set_ne Y14];exact lo1 j hj
   clear hs
   have hvb:=Tp.val_bound (Tp.nx ⟨tl,9*i⟩ 6) (n:=30) Y15
   obtain ⟨a,ha⟩:∃ a,(Tp.val (Tp.nx ⟨tl,9*i⟩ 6) 30)=a:=⟨_,rfl⟩
   rw [ha] at hvb ⊢
   have hwa:IntKind.i64.wrap (1+a)=1+a:=wrap_i64 Y14
   have hwa2:IntKind.i64.wrap (a+1)=1+a:=Y21
   have H:=aj hwa (aj hwa2 H)
   refine ro (pre:=[_,_]) (k:=rC (h:=ref5_Frame hb Y14) (k:=rh [8] (k:=rs (k:=rg [6] (k:=rR (k:=?_))))))
   exact Ret.pure (r':=.sl .unk ((frameA (1+a) b).1.map (PV.int .u8))) Y342 Y334 Y20 hwf (fun i hi=>lo2 i hi) ⟨_,rfl,(frameA_okG hb).1,(frameA_okG hb).2,rfl⟩
  ·refine rk (k:=rB (k:=rs (k:=rr (k:=ro (pre:=[_]) (k:=?_)))))
   refine RunO.callw au au au Y19 ((tape_Request hT1 hr1).mono ?_)
   rintro r s2 ⟨q,T2,rfl,hs,hT2,hqo,hqr⟩
   have lo2:∀ j,j<s.nxt→s2.blk j=s.blk j:=fun j hj=>by rw [hs,blk_set_ne Y14];exact lo1 j hj
   clear hs
   refine rC (h:=ref17_Frame hqo) (k:=rh [6] (k:=rR (k:=?_)))
   exact Ret.pure (r':=.sl .unk ((frameF (bytesF q)).map (PV.int .u8))) Y342 Y334 Y20 hwf (fun i hi=>lo2 i hi) ⟨_,rfl,frameF_ok (bytesF_okM hqo),Nat.le_trans (frameF_len _) Y15,rfl⟩
theorem law17_sent {l:List Snt} (hl:l.length≤100000) {s:St}:ACalls Tryz.prog 27 [.sl .unk (l.map Snt.pv),.sl .unk (l.map Snt.pv)] s (fun r s'=>r=.bool true∧s'=s):=by
 refine go Tryz.func27 (k:=fun hwf H=>?_)
 refine rs (k:=rg [0,1] (k:=rs (k:=rs (k:=rg [0,1,10] (k:=rc (ht:=fun hc0=>?_) (hf:=fun hc0=>?_))))))
 ·cases hc0
 ·refine rk (k:=rs (k:=rs (k:=rg [0,1,12,13] (k:=rb (k:=?_)))))
  refine Run.loop (fun e s'=>s'=s∧∃ i:Nat,e=[(0,.sl .unk (l.map Snt.pv)),(1,.sl .unk (l.map Snt.pv)),(12,.int .i64 (l.length:Int)),(13,.int .i64 (i:Int))]∧i≤l.length) (fun e s'=>l.length-ivar e 13) ?_ ?_
  ·exact ⟨rfl,0,rfl,Nat.zero_le _⟩
  rintro e s' ⟨rfl,i,rfl,hi⟩
  refine rs (k:=rg [0,1,12,13,14] (k:=rs (k:=rc (ht:=fun hc1=>?_) (hf:=fun hc1=>?_))))
  ·refine rk (k:=rs (k:=rb (k:=rs (k:=rg [0,1,5,12,13] (k:=rs (k:=?_))))))
   have hil:i<l.length:=Y71
   obtain ⟨x,hxe⟩:∃ z_,l[i]'hil=z_:=⟨_,rfl⟩
   have hxx:(l.map Snt.pv)[i]? =some (.agg [.int .i64 x.tick,.int .i64 x.tenant,.sl .unk (x.data.map (PV.int .u8))]):=Y394
   have hilT:(i<l.length)=True:=eq_true hil
   have hbs:∀ l:List UInt8,(l==l)=true:=fun l=>beq_self_eq_true l
   have hw:IntKind.i64.wrap ((i:Int)+1)=((i+1:Nat):Int):=Y21
   have H:=aj hxx (aj hilT (aj hbs (aj hw H)))
   refine Run.drawC [] [0,1,12,13,54] Tryz.mixed Y19 ?_
   refine DetC.pre (pre:=[_,_,_,_,_,_,_,_,_,_,_,_]) au ?_
   refine DetC.gdo au au ?_
   refine DetC.gdo au au ?_
   refine DetC.gdo au au ?_
   refine DetC.gdo au au ?_
   refine DetC.gdo au au ?_
   refine DetC.gdo au au ?_
   refine DetC.gdo au au ?_
   refine DetC.gdo au au ?_
   refine DetC.gdo au au ?_
   refine DetC.gdo au au ?_
   refine DetC.gdo au au ?_
   refine DetC.pre (pre:=[_,_]) au ?_
   refine DetC.gdo au au ?_
   refine DetC.gdo au au ?_
   refine DetC.gdo au au ?_
   refine DetC.gdo au au ?_
   refine DetC.gdo au au ?_
   refine DetC.gdo au au ?_
   refine DetC.gdo au au ?_
   refine DetC.gdo au au ?_
   refine DetC.gdo au au ?_
   refine DetC.gdo au au ?_
   refine DetC.gdo au au ?_
   refine DetC.gdo au au ?_
   refine DetC.gdo au au ?_
   refine DetC.all au ?_
   refine re (k:=rc (ht:=fun hc2=>?_) (hf:=fun hc2=>?_))
   ·cases hc2
   ·refine rk (k:=rB (k:=rg [0,1,12,13] (k:=?_)))
    refine Run.lp ⟨⟨rfl,i+1,rfl,Y14⟩,?_⟩
    simp only [ivar,go_sem,↓reduceIte,Nat.reduceEqDiff]
    omega
  ·refine rX (k:=rs (k:=rg [4] (k:=rR (k:=?_))))
   exact Ret.pure (r':=.bool true) (by simp only [Tryz.f27,go_sem,↓reduceIte]<;>rfl) rfl Y307 hwf (fun _ _=>rfl) ⟨rfl,rfl⟩
attribute [local go_sem] set_set weaks_bools
set_option maxRecDepth 100000 in
theorem law17_play {tl:List Int} (htl:tl.length*8≤140737488351232) {ak:List Ak} (hasl:ak.length<140737488355328) (hasd:∀ x∈ak,OkB x.data∧x.data.length<140737488355328) {s:St}:ACalls Tryz.prog 7 [.sl .unk (tl.map (PV.int .i64)),.sl .unk (ak.map Ak.pv)] s (fun r s'=>r=.bool true∧s'=s):=by
 refine go Tryz.func7 (k:=fun hwf H=>?_)
 have o0:(Dev.zero 60).ok:=Dev.zero_ok Y15 Y15
 refine rs (k:=rg [0,1] (k:=rs (k:=rr (k:=?_))))
 refine RunO.callw au au au Y19 ((device_New (n:=60) Y15 Y15).mono ?_)
 rintro r s1 ⟨rfl,hA1,hlo1,hx1⟩
 have H:=aj hx1 H
 refine RunO.callw au au au Y19 ((line_New).mono ?_)
 rintro r s2 ⟨rfl,hs⟩
 have hr2:s2.blk (s.nxt+6)=some (lnRow (s.nxt+5) (.sl .nil []) (.sl .nil []) (.sl .nil []) (.sl .nil []) (.sl .nil [])):=by rw [hs,← hx1];exact blk_new_eq
 have hx2:s2.nxt=s.nxt+7:=by rw [hs];simp only [nxt_new,hx1]
 have hA2:DevAt s.nxt (Dev.zero 60) s2:=by rw [hs];exact hA1.nw Y14 _
 have hlo2:∀ j,j<s.nxt→s2.blk j=s.blk j:=fun j hj=>by rw [hs,blk_new_ne Y14];exact hlo1 j hj
 clear hs
 have H:=aj hx2 H
 refine RunO.callw au au au Y19 ((ref8_NewDevice (n:=60) Y15 Y15).mono ?_)
 rintro r s3 ⟨rfl,hA3,hlo3,hx3⟩
 rw [hx2] at hA3 hlo3 hx3 ⊢
 have hx3:s3.nxt=s.nxt+13:=Y14
 have H:=aj hx3 H
 refine rh [0,1,5,6] (k:=rs (k:=rs (k:=rg [0,1,5,6,7] (k:=rb (k:=?_)))))
 refine Run.loop (fun e s'=>∃ (i:Nat) (D:Dev) (FS:Nat→List Int) (l:List Snt) (nA nW:Nat→Option Nat),e=[(0,.sl .unk (tl.map (PV.int .i64))),(1,.sl .unk (ak.map Ak.pv)),(5,.ptr (s.nxt+6) 0 0),(6,.ptr (s.nxt+13) 0 0),(7,.int .i64 (i:Int))]∧i≤60∧D.ok∧FOk FS∧l.length≤i∧(∀ x∈l,x.data.length≤140737488350000)∧L2 s D D FS FS l l nA nW s') (fun e s'=>60-ivar e 7) ?_ ?_
 ·refine ⟨0,Dev.zero 60,fun _=>[],[],fun _=>none,fun _=>none,rfl,Nat.zero_le _,o0,fun T=>⟨Y67,fun f hf=>(by cases hf)⟩,Nat.le_refl _,fun x hx=>(by cases hx),?_⟩
  have hT:∀ (s':St) (T:Nat),T<4→∃ x,[PV.sl .nil [],PV.sl .nil [],PV.sl .nil [],PV.sl .nil []][T]? =some x∧TkB s' 1 (([]:List Int).map (PV.int .i64)) (s.nxt+14) x none:=fun s' T hT=>by
   obtain rfl | rfl | rfl | rfl:T=0∨T=1∨T=2∨T=3:=Y14
   all_goals exact ⟨_,rfl,.inl rfl,rfl⟩
  refine ⟨⟨⟨[_,_,_,_],.sl .nil [],?_,rfl,hT _,rfl,rfl⟩,fun i j t h=>(by cases h),fun i t h=>(by cases h),Y14,?_,fun _ _=>rfl⟩,⟨⟨[_,_,_,_],.sl .nil [],?_,rfl,hT _,rfl,rfl⟩,fun i j t h=>(by cases h),fun i t h=>(by cases h),Y14,?_,fun _ _=>rfl⟩,?_,?_,fun i j t h=>(by cases h),fun j hj=>?_⟩
  ·rw [blk_new_ne Y14,hlo3 _ Y14];exact hr2
  ·show s.nxt+14≤s3.nxt+1;omega
  ·rw [← hx3];exact blk_new_eq
  ·show s.nxt+14≤s3.nxt+1;omega
  ·exact hA2.eqv5 fun j h1 h2=>by rw [blk_new_ne Y14,hlo3 _ Y14]
  ·exact hA3.eqv5 fun j h1 h2=>by rw [blk_new_ne Y14]
  ·rw [blk_new_ne Y14,hlo3 _ Y14];exact hlo2 j hj
 rintro e S0 ⟨i,D,FS,l,nA,nW,rfl,hi,oD,hF,hll,hld,hP⟩
 have hx0:=hP.A.nx
 obtain ⟨xs,st0,hr0,hxl,_,hst0⟩:=hP.W.row
 unfold lnR at hr0
 obtain ⟨k0,rfl⟩:∃ k0,st0=.sl k0 (l.map Snt.pv):=by
  cases hn:nW 4 with
  | none=>rw [hn] at hst0;exact ⟨_,by rw [hst0.1,hst0.2]⟩
  | some t=>rw [hn] at hst0;exact ⟨_,hst0.1⟩
 have n5:∀ v:PV,List.drop 5 (PV.ptr (s.nxt+7+5) 0 0::(xs++[v]))=[v]:=fun v=>Y167
 have H:=aj hr0 (aj n5 H)
 refine rs (k:=rs (k:=rg [0,1,5,6,7,26] (k:=rc (ht:=fun hc0=>?_) (hf:=fun hc0=>?_))))
 ·refine rk (k:=rs (k:=rb (k:=rs (k:=?_))))
  have hil:i<ak.length:=by have h:=hc0;simp at h;omega
  have hi60:i<60:=by have h:=hc0;simp at h;omega
  obtain ⟨x,hxe⟩:∃ z_,ak[i]'hil=z_:=⟨_,rfl⟩
  have hxx:(ak.map Ak.pv)[i]? =some (.agg [.int .i64 x.tenant,.int .i64 x.fault,.int .i64 x.tick,.bool x.hurt,.sl .unk (x.data.map (PV.int .u8))]):=Y394
  obtain ⟨hxo,hxl⟩:=hasd x Y185
  have hilT:(i<ak.length)=True:=eq_true hil
  have hw:IntKind.i64.wrap ((i:Int)+1)=((i+1:Nat):Int):=Y21
  have H:=aj hxx (aj hilT (aj hw H))
  refine rg [0,1,5,6,7,8] (k:=rs (k:=rs (k:=?_)))
  refine Run.genS fun S1 hS=>?_
  have hP1:L2 s D D FS FS l l nA nW S1:=by rw [hS];exact hP.nw _
  have hx1:S1.blk S0.nxt=some (.row 25 [.agg [.int .i64 x.tenant,.int .i64 x.fault,.int .i64 x.tick,.bool x.hurt,.sl .unk (x.data.map (PV.int .u8))]]):=by rw [hS];exact blk_new_eq
  have hn1:S0.nxt<S1.nxt:=by rw [hS];exact Nat.lt_succ_self _
  clear hS
  have H:=aj hx1 H
  refine rr (k:=ro (pre:=[_,_,_]) (k:=rg1 (k:=rC (h:=line_DevM hP1.A) (k:=rg1 (k:=rh [0,1,5,6,7,8,39] (k:=rc (ht:=fun hc1=>?_) (hf:=fun hc1=>?_)))))))
  ·cases hc1
  ·refine rk (k:=rs (k:=rs (k:=rg [0,1,5,6,7,8,41] (k:=?_))))
   refine Run.join (fun e S9=>∃ (D9:Dev) (F9:Nat→List Int) (l9:List Snt) (n9 m9:Nat→Option Nat),e=[(0,.sl .unk (tl.map (PV.int .i64))),(1,.sl .unk (ak.map Ak.pv)),(5,.ptr (s.nxt+6) 0 0),(6,.ptr (s.nxt+13) 0 0),(7,.int .i64 (i:Int))]∧D9.ok∧FOk F9∧l9.length≤i+1∧(∀ x∈l9,x.data.length≤140737488350000)∧L2 s D9 D9 F9 F9 l9 l9 n9 m9 S9) ?_ ?_
   ·rintro e S9 ⟨D9,F9,l9,n9,m9,rfl,oD9,hF9,hl9,hld9,hP9⟩
    have hx9:=hP9.A.nx
    obtain ⟨ys,st9,hr9,hyl,hys,hst9⟩:=hP9.W.row
    unfold lnR at hr9
    have hdv9:=hP9.dW.dv
    unfold refRow at hdv9
    have H:=aj hr9 (aj hdv9 H)
    refine rs (k:=rs (k:=rg [0,1,5,6,7,10] (k:=rb (k:=?_))))
    refine Run.loop (fun e s'=>s'=S9∧∃ k:Int,e=[(0,.sl .unk (tl.map (PV.int .i64))),(1,.sl .unk (ak.map Ak.pv)),(5,.ptr (s.nxt+6) 0 0),(6,.ptr (s.nxt+13) 0 0),(7,.int .i64 (i:Int)),(10,.int .i64 k)]∧ -1≤k∧k≤5) (fun e s'=>match e.get 10 with | .int _ n=>(5-n).toNat | _=>0) ?_ ?_
    ·exact ⟨rfl,-1,rfl,Y15,Y15⟩
    rintro e s8 ⟨hs8,k,rfl,hk1,hk2⟩
    subst s8
    refine rs (k:=rs (k:=rg [0,1,5,6,7,10,83] (k:=rc (ht:=fun hc5=>?_) (hf:=fun hc5=>?_))))
    ·refine rk (k:=rs (k:=rb (k:=rs (k:=?_))))
     have hwk:IntKind.i64.wrap (k+1)=k+1:=wrap_i64 Y14
     have hk5:k≤4:=of_decide_eq_true hc5
     have H:=aj hwk H
     refine rg [0,1,5,6,7,10,11] (k:=rs (k:=?_))
     refine Run.join (fun e s'=>e=[(0,.sl .unk (tl.map (PV.int .i64))),(1,.sl .unk (ak.map Ak.pv)),(5,.ptr (s.nxt+6) 0 0),(6,.ptr (s.nxt+13) 0 0),(7,.int .i64 (i:Int)),(10,.int .i64 k),(11,.int .i64 (leftF F9 k:Nat))]∧s'=S9) ?_ ?_
     ·rintro e s9 ⟨rfl,hs⟩
      subst s9
      refine rs (k:=rr (k:=ro (pre:=[_,_]) (k:=rC (h:=line_LeftM hP9.A k) (k:=rh [0,1,5,6,7,10,103] (k:=rc (ht:=fun hc7=>?_) (hf:=fun hc7=>?_))))))
      ·cases hc7
      ·refine rk (k:=rB (k:=rg [0,1,5,6,7,10] (k:=?_)))
       refine Run.lp ⟨⟨rfl,k+1,rfl,Y14,Y14⟩,?_⟩
       simp only [go_sem,↓reduceIte,Nat.reduceEqDiff]
       omega
     intro hJs18
     refine rs (k:=rg [0,1,5,6,7,10,11,91] (k:=rc (ht:=fun hc6=>?_) (hf:=fun hc6=>?_)))
     ·have hk4:0≤k∧k<4:=by simpa using hc6
      obtain ⟨T,rfl⟩:∃ T:Nat,k=T:=⟨k.toNat,Y14⟩
      obtain ⟨y,hyy,hyk⟩:=hys T Y14
      obtain ⟨kk,rfl⟩:=hyk.sl
      have hdr:=drop_one (st:=st9) (p:=.ptr (s.nxt+7+5) 0 0) hyy
      have ht4:((T:Int)<((4:Nat):Int))=True:=eq_true Y14
      have H:=aj hdr (aj ht4 H)
      refine rg [0,1,5,6,7,10,11] (k:=?_)
      exact hJs18 _ _ ⟨by rw [leftF_row hk4];rfl,rfl⟩
     ·refine rk (k:=?_)
      have hk4:¬ (0≤k∧k<4):=by simpa using hc6
      refine Run.prune [0,1,5,6,7,10,11] rfl ?_
      exact hJs18 _ _ ⟨by unfold leftF;rw [if_neg hk4];rfl,rfl⟩
    ·refine rX (k:=rs (k:=rr (k:=ro (pre:=[_]) (k:=rC (h:=line_DevM hP9.A) (k:=rC (h:=device_Counts hP9.dA) (k:=rh [0,1,5,6,7,12,13] (k:=rs (k:=rg [0,1,5,6,7,129] (k:=rc (ht:=fun hc8=>?_) (hf:=fun hc8=>?_))))))))))
     ·cases hc8
     ·refine rk (k:=rB (k:=rg [0,1,5,6,7] (k:=?_)))
      refine Run.lp ⟨⟨i+1,D9,F9,l9,n9,m9,rfl,Y14,oD9,hF9,hl9,hld9,hP9⟩,?_⟩
      simp only [ivar,go_sem,↓reduceIte,Nat.reduceEqDiff]
      omega
   intro hJc2
   refine rc (ht:=fun hc2=>?_) (hf:=fun hc2=>?_)
   ·refine rs (k:=?_)
    obtain ⟨SA,nA',cA,hA',fA⟩:=line_HurtM hP1.A x.tenant x.fault
    have hPA:=hP1.opA hA' (hP1.dA.eq4 hP1.A Y14 fA) (fA.wide _)
    have hxA:=hP1.frA (fA.wide _) hx1 Y14 hn1
    have hnA:=fA.nx
    obtain ⟨SW,nW',cW,hW',fW⟩:=ref17_HurtM hPA.W x.tenant x.fault
    have hPW:=hPA.opW hW' (hPA.dW.eq4 hPA.W Y14 fW) (fW.wide _)
    have hxW:=hPA.frW (fW.wide _) hxA Y14 Y14
    have hnW:=fW.nx
    have hbb:∀ b:Bool,(b==b)=true:=fun b=>beq_self_eq_true b
    have nxe:∀ j,j≤13→(s.nxt+j=S0.nxt)=False:=fun j h=>eq_false Y14
    have H:=aj hxA (aj hxW (aj hbb H))
    refine rH 13 [5,11] [[false,false],[true,false],[true,true]] [S1,SA,SW] Tryz.mixed (k:=?_)
    refine dP [0] (pre:=[_,_,_,_,_]) (k:=?_)
    refine dX (v:=.bool (hurtB FS x.tenant x.fault)) [(0,1)] (h:=by intro q0 hq0;rw [List.mem_singleton.1 hq0];exact cA) (k:=?_)
    refine dP [0,1] (pre:=[_,_,_,_,_]) (k:=?_)
    refine dX (v:=.bool (hurtB FS x.tenant x.fault)) [(1,2)] (h:=by intro q0 hq0;rw [List.mem_singleton.1 hq0];exact cW) (k:=?_)
    refine dA [2] (k:=rl [0,1,5,6,7,54] (k:=rc (ht:=fun hc3=>?_) (hf:=fun hc3=>?_)))
    ·cases hc3
    ·refine rk (k:=?_)
     refine Run.prune [0,1,5,6,7] rfl ?_
     exact hJc2 _ _ ⟨D,_,l,_,_,rfl,oD,hF.hurt _ _,Y14,hld,hPW⟩
   ·refine rs (k:=?_)
    have hm1:(if (60:Int)<(x.data.length:Int) then (60:Int) else (x.data.length:Int))=((min x.data.length 60:Nat):Int):=by split<;>omega
    have hm2:(if (x.data.length:Int)<60 then (x.data.length:Int) else (60:Int))=((min x.data.length 60:Nat):Int):=by split<;>omega
    have hm3:((0:Int)≤((min x.data.length 60:Nat):Int))=True:=eq_true Y14
    have hm4:(((min x.data.length 60:Nat):Int)≤(x.data.length:Int))=True:=eq_true Y14
    have hm5:PV.weaks ((x.data.map (PV.int .u8)).take (min x.data.length 60))=((x.data.take (min x.data.length 60)).map (PV.int .u8)):=by rw [← List.map_take,weaks_u8]
    have H:=aj hm5 (aj hm1 (aj hm2 (aj hm3 (aj hm4 H))))
    refine rr (k:=ro (pre:=[_,_,_,_,_,_,_,_,_]) (k:=?_))
    refine RunO.callw au au au Y19 ((law17_frame (i:=i) (b:=x.data.take (min x.data.length 60)) htl Y14 (hxo.take _) (by rw [List.length_take];omega)).mono ?_)
    rintro r s9 ⟨fr,rfl,hfo,hfl,hs⟩
    subst s9
    refine rh [0,1,5,6,7,8,9] (k:=rs (k:=?_))
    obtain ⟨⟨B,D'⟩,hsd⟩:∃ Z,sendF (takeQ FS x.tenant) D fr=Z:=⟨_,rfl⟩
    have hdo:=sendF_okG oD (f:=takeQ FS x.tenant) hfo
    rw [hsd] at hdo
    obtain ⟨SA,nA',cA,hA',dA',fA⟩:=line_SendM (tick:=x.tick) hP1.A hP1.dA oD Y14 hF Y14 hfo hfl hsd hdo.2
    have hPA:=hP1.opA hA' dA' fA
    have hxA:=hP1.frA fA hx1 Y14 hn1
    have hnA:=fA.nx
    obtain ⟨SW,nW',cW,hW',dW',fW⟩:=ref17_SendM (tick:=x.tick) hPA.W hPA.dW oD Y14 hF Y14 hfo hfl hsd hdo.2
    have hPW:=hPA.opW hW' dW' fW
    have hxW:=hPA.frW fW hxA Y14 Y14
    have hnW:=fW.nx
    have hbs:∀ l:List UInt8,(l==l)=true:=fun l=>beq_self_eq_true l
    have H:=aj hxA (aj hxW (aj hbs H))
    refine rH 17 [6,14] [[false,false],[true,false],[true,true]] [S1,SA,SW] Tryz.mixed (k:=?_)
    refine dP [0] (pre:=[_,_,_,_,_,_]) (k:=?_)
    refine dX (v:=.sl .unk (B.map (PV.int .u8))) [(0,1)] (h:=by intro q0 hq0;rw [List.mem_singleton.1 hq0];exact cA) (k:=?_)
    refine dP [0,1,2] (pre:=[_,_,_,_,_,_,_]) (k:=?_)
    refine dX (v:=.sl .unk (B.map (PV.int .u8))) [(1,2)] (h:=by intro q0 hq0;rw [List.mem_singleton.1 hq0];exact cW) (k:=?_)
    refine dA [2] (k:=rl [0,1,5,6,7,81] (k:=rc (ht:=fun hc4=>?_) (hf:=fun hc4=>?_)))
    ·cases hc4
    ·refine rk (k:=?_)
     refine Run.prune [0,1,5,6,7] rfl ?_
     exact hJc2 _ _ ⟨D',_,_,_,_,rfl,hdo.1,hF.take _,Y110,fun y hy=>(by rcases List.mem_append.1 hy with h | h;exact hld y h;rw [List.mem_singleton.1 h];exact hfl),hPW⟩
 ·refine rX (k:=rs (k:=?_))
  have hws:PV.weaks (l.map Snt.pv)=l.map Snt.pv:=weaks_map_id Snt.pv (fun q=>by simp only [Snt.pv,PV.weak,PV.weaks,weaks_u8]) l
  have H:=aj hws H
  refine Run.drawC [] [4] Tryz.mixed Y19 ?_
  refine DetC.pre (pre:=[_,_,_]) au ?_
  refine DetC.gdo au au ?_
  refine DetC.call au au au Y19 (line_SentM hP.A Y14 (fun x hx=>by have:=hld x hx;omega)) ?_
  refine DetC.gdo au au ?_
  refine DetC.gdo au au ?_
  refine DetC.gdo au au ?_
  refine DetC.gdo au au ?_
  refine DetC.call au au au Y19 (law17_sent Y14) ?_
  refine DetC.all au ?_
  refine re (k:=rR (k:=?_))
  exact Ret.pure (r':=.bool true) (by simp only [Tryz.f7,go_sem,↓reduceIte]<;>rfl) rfl Y307 hwf (fun i hi=>hP.low i hi) ⟨rfl,rfl⟩
end Go.Proofs
namespace Go.Proofs
open Go.PM
set_option maxHeartbeats 2000000
attribute [local go_sem] set_set weaks_bools
set_option maxRecDepth 100000 in
theorem law17_Plays {tl:List Int} (htl:tl.length*8≤140737488351232) {ak:List Ak} (hasl:ak.length*56≤140737488351232) (hasd:∀ x∈ak,OkB x.data∧x.data.length<140737488355328) {s:St}:ACalls Tryz.prog 4 [.sl .unk (tl.map (PV.int .i64)),.sl .unk (ak.map Ak.pv)] s (fun r s'=>r=.bool true∧s'=s):=by
 refine go Tryz.func4 (k:=fun hwf H=>?_)
 refine rs (k:=rg [0,1] (k:=rs (k:=rg [0,1,5] (k:=rs (k:=rs (k:=rg [0,1,5,9,10] (k:=rb (k:=?_))))))))
 refine Run.loop (fun e s'=>∃ (i:Nat) (bs:List Ak) (kk:SK),e=[(0,.sl .unk (tl.map (PV.int .i64))),(1,.sl .unk (ak.map Ak.pv)),(5,.sl kk (bs.map Ak.pv)),(9,.int .i64 (ak.length:Int)),(10,.int .i64 (i:Int))]∧i≤ak.length∧bs.length=i∧(∀ x∈bs,OkB x.data∧x.data.length<140737488355328)∧(∀ j,j<s.nxt→s'.blk j=s.blk j)∧s.nxt≤s'.nxt∧Grows s' kk bs.length (Tryz.prog.cellsOf 25)∧(∀ t z,kk=.tok t z→s.nxt≤t∧t<s'.nxt)) (fun e s'=>ak.length-ivar e 10) ?_ ?_
 ·exact ⟨0,[],.nil,rfl,Nat.zero_le _,rfl,fun q hq=>(List.not_mem_nil hq).elim,fun _ _=>rfl,Nat.le_refl _,.inl ⟨rfl,rfl⟩,fun t z e=>Y66⟩
 rintro e S0 ⟨i,bs,kk,rfl,hi,hbl,hbsd,hlo,hnx,hgr,htk⟩
 refine rs (k:=rg [0,1,5,9,10,11] (k:=rs (k:=rc (ht:=fun hc0=>?_) (hf:=fun hc0=>?_))))
 ·refine rk (k:=rs (k:=rb (k:=rs (k:=?_))))
  have hil:i<ak.length:=Y74
  obtain ⟨x,hxe⟩:∃ z_,ak[i]'hil=z_:=⟨_,rfl⟩
  have hxx:(ak.map Ak.pv)[i]? =some (.agg [.int .i64 x.tenant,.int .i64 x.fault,.int .i64 x.tick,.bool x.hurt,.sl .unk (x.data.map (PV.int .u8))]):=Y394
  obtain ⟨hxo,hxl⟩:=hasd x Y185
  have hilT:(i<ak.length)=True:=eq_true hil
  have hw:IntKind.i64.wrap ((i:Int)+1)=((i+1:Nat):Int):=Y21
  have H:=aj hxx (aj hilT (aj hw H))
  refine rg [0,1,5,6,9,10] (k:=rs (k:=rg [0,1,5,7,9,10] (k:=rs (k:=?_))))
  refine Run.genS fun S1 hS=>?_
  obtain ⟨p9,hp9⟩:∃ p,p=S0.nxt:=⟨_,rfl⟩
  rw [← hp9]
  have hx1:S1.blk p9=some (.row 25 [.agg [.int .i64 x.tenant,.int .i64 x.fault,.int .i64 x.tick,.bool x.hurt,.sl .unk (x.data.map (PV.int .u8))]]):=by rw [hS,hp9];exact blk_new_eq
  have hn1:S1.nxt=p9+1:=by rw [hS,hp9];rfl
  have hgr0:Grows ((S1.set p9 (some (.row 25 [.agg [.int .i64 (withinI x.tenant 0 3),.int .i64 (withinI x.fault 0 4),.int .i64 x.tick,.bool x.hurt,.sl .unk (x.data.map (PV.int .u8))]])))) kk bs.length (Tryz.prog.cellsOf 25):=by
   rw [hS]
   exact hgr.mono fun t e=>by rw [blk_set_ne (by have:=(htk _ _ e).2;omega),blk_new_ne (by have:=(htk _ _ e).2;omega)]
  have lo1:∀ j,j<s.nxt→S1.blk j=s.blk j:=fun j hj=>by rw [hS,blk_new_ne Y14];exact hlo j hj
  clear hS
  have H:=aj hx1 H
  refine rH 10 [7,9] [[false,false],[true,false],[true,true]] [S1,(S1.set p9 (some (.row 25 [.agg [.int .i64 (withinI x.tenant 0 3),.int .i64 x.fault,.int .i64 x.tick,.bool x.hurt,.sl .unk (x.data.map (PV.int .u8))]]))),(S1.set p9 (some (.row 25 [.agg [.int .i64 (withinI x.tenant 0 3),.int .i64 (withinI x.fault 0 4),.int .i64 x.tick,.bool x.hurt,.sl .unk (x.data.map (PV.int .u8))]])))] Tryz.mixed (k:=?_)
  refine dP [0] (pre:=[_,_]) (k:=?_)
  refine dC [0] (h:=fun s _=>within_ (lo:=0) (hi:=3) Y15 Y15 Y15) (k:=?_)
  refine dP [0] (pre:=[_,_]) (k:=?_)
  refine dC [0] (h:=fun s _=>within_ (lo:=0) (hi:=4) Y15 Y15 Y15) (k:=?_)
  refine dP [0] (pre:=[_]) (k:=?_)
  refine dE [(0,1)] (k:=?_)
  refine dP [1] (pre:=[_]) (k:=?_)
  refine dE [(1,2)] (k:=?_)
  refine DetHC.nil ?_
  refine rl [0,1,5,7,9,10] (k:=?_)
  have hgr1:=hgr0
  have hsx:s.nxt≤p9:=Y14
  refine rr (k:=ro (pre:=[_,_]) (k:=rO (k:=?_)))
  refine RunO.grow (xs:=bs.map Ak.pv) (ys:=[(⟨withinI x.tenant 0 3,withinI x.fault 0 4,x.tick,x.hurt,x.data⟩:Ak)].map Ak.pv) au au (by simp only [go_sem,Ak.pv,List.map_cons,List.map_nil,↓reduceIte,H]<;>rfl) Tryz.td22 (by rw [Tryz.zp25];rfl) (isEls_map (P:=Tryz.prog) (e:=25) (f:=Ak.pv) (fun a=>⟨rfl,by rw [Tryz.cz25];rfl⟩) _) (isEls_map (P:=Tryz.prog) (e:=25) (f:=Ak.pv) (fun a=>⟨rfl,by rw [Tryz.cz25];rfl⟩) [(⟨withinI x.tenant 0 3,withinI x.fault 0 4,x.tick,x.hurt,x.data⟩:Ak)]) (by rw [Tryz.by25];decide) (by rw [Tryz.by25,List.length_map,List.length_map];simp;omega) (by rw [List.length_map];exact hgr1) Y67 ?_
  intro k' s3 hgr' htm
  refine rh [0,1,5,9,10] (k:=rB (k:=rg [0,1,5,9,10] (k:=?_)))
  rw [List.length_map] at hgr'
  refine Run.lp ⟨⟨i+1,bs++[(⟨withinI x.tenant 0 3,withinI x.fault 0 4,x.tick,x.hurt,x.data⟩:Ak)],k',by rw [List.map_append];rfl,Y14,by rw [List.length_append,hbl];rfl,fun y hy=>?_,fun j hj=>?_,?_,by rw [List.length_append];exact hgr',fun t z e=>?_⟩,?_⟩
  ·rcases List.mem_append.1 hy with hy | hy
   ·exact hbsd y hy
   ·rw [List.mem_singleton.1 hy];exact ⟨hxo,hxl⟩
  ·rw [htm.rest j (by show j<S1.nxt;omega) (fun z e=>by have:=(htk _ _ e).1;omega),blk_set_ne Y14];exact lo1 j hj
  ·have h9:S1.nxt≤s3.nxt:=htm.nxt
   omega
  ·have h9:S1.nxt≤s3.nxt:=htm.nxt
   rcases htm.fresh t z e with ⟨z',h⟩ | ⟨h1,h2⟩
   ·have:=htk t z' h;omega
   ·have h1:S1.nxt≤t:=h1
    omega
  ·exact Y75
 ·refine rX (k:=rs (k:=?_))
  have hwk:∀ l:List Ak,PV.weaks (l.map Ak.pv)=l.map Ak.pv:=fun l=>weaks_map_id Ak.pv (fun q=>by simp only [Ak.pv,PV.weak,PV.weaks,weaks_u8]) l
  have H:=aj hwk H
  refine rr (k:=ro (pre:=[_,_]) (k:=rC (h:=law17_play htl Y14 hasd) (k:=ro (pre:=[_]) (k:=rg1 (k:=rg1 (k:=rC (h:=law17_play htl Y14 hbsd) (k:=ro (pre:=[_,_]) (k:=rC (h:=law17_known) (k:=rh [4] (k:=rR (k:=?_)))))))))))
  exact Ret.pure (r':=.bool true) (by simp only [Tryz.f4,go_sem,↓reduceIte]<;>rfl) rfl Y307 hwf (fun i hi=>hlo i hi) ⟨rfl,rfl⟩
attribute [local go_sem] set_set weaks_bools
end Go.Proofs
namespace Go.Proofs
open Go.PM
set_option maxHeartbeats 2000000
theorem rd_ask:Rd Tryz.prog 25 true fun p=>∃ q:Ak,p=q.pv∧OkB q.data∧q.data.length<140737488355328 :=
 Rd.mono (rd_struct (fs:=[(0,3,1),(1,3,1),(2,2,1),(3,4,1),(4,23,1)]) Y19 (.cons (rd_int (k:=.i64) Y19) (.cons (rd_int (k:=.i64) Y19) (.cons (rd_int (k:=.i64) Y19) (.cons (rd_bool Y19)
  (.cons (rd_slice (e:=5) Y19 (by rw [Tryz.cz5];decide) (rd_int (k:=.u8) Y19)) (.nil _))))))) (by
  rintro p ⟨ps,rfl,_,_,rfl,⟨a,rfl,ha⟩,_,_,rfl,⟨b,rfl,hb⟩,_,_,rfl,⟨c,rfl,hc⟩,_,_,rfl,⟨d,rfl⟩,_,_,rfl,⟨bs,rfl,hbs,bb⟩,rfl⟩
  obtain ⟨lb,rfl,kb⟩:=choose_list (f:=PV.int .u8) (q:=fun n=>U8 n) (l:=bs) fun x hx=>by
   obtain ⟨y,rfl,hy⟩:=hbs x hx
   exact ⟨y,rfl,wf_u8 hy⟩
  rw [List.length_map,Tryz.by5] at bb
  have hr:reachBytes=140737488351232:=rfl
  exact ⟨⟨a,b,c,d,lb⟩,rfl,kb,by show lb.length<_;omega⟩)
theorem rd_asks:Rd Tryz.prog 22 false fun p=>∃ qs:List Ak,p=.sl .unk (qs.map Ak.pv)∧qs.length*56≤140737488351232∧∀ q∈qs,OkB q.data∧q.data.length<140737488355328 :=
 Rd.mono (rd_slice (e:=25) Y19 (by rw [Tryz.cz25];decide) rd_ask) (by
  rintro p ⟨els,rfl,h,hb⟩
  obtain ⟨qs,rfl,k⟩:=choose_list (f:=Ak.pv) (q:=fun q=>OkB q.data∧q.data.length<140737488355328) h
  rw [List.length_map,Tryz.by25] at hb
  have hr:reachBytes=140737488351232:=rfl
  exact ⟨qs,rfl,Y14,k⟩)
end Go.Proofs

import Derived.Test.YtdeiiaohdcpecaaGreatB2
import Derived.Test.YtdeiiaohdcpecaaGreatB1
set_option linter.unusedVariables false
set_option linter.unusedSimpArgs false
namespace Go.Proofs
open Go.PM
set_option maxHeartbeats 2000000
def listsF (q:Req):Bool:=if q.fn=5 then decide (q.bits.length=1) else if q.fn=6∨q.fn=8 then decide (q.vals.length=1) else if q.fn=15 then decide ((q.bits.length:Int)=q.count∧q.bits.length≤2040) else if q.fn=16 then decide ((q.vals.length:Int)=q.count∧q.vals.length≤127) else if q.fn=23 then decide (q.vals.length≤127) else true
attribute [local go_sem] weaks_bools Req.pv
theorem Y197 {p:Prop} (h:p:=by exact Bool.noConfusion (hc1.symm.trans hc2)):p:=h
theorem ref3_lists {q:Req} {s:St}:ACalls Tryz.prog 55 [q.pv] s (fun r s'=>r=.bool (listsF q)∧s'=s):=by
 refine go Tryz.func55 (k:=fun hwf H=>?_)
 refine rs (k:=rg [1] (k:=rs (k:=?_)))
 refine Run.drawC [] [1,3,4] Tryz.mixed Y26 ?_
 refine DetC.all au ?_
 refine re (k:=rs (k:=rs (k:=rg [1,3,4,12] (k:=rb (k:=rs (k:=rg [1,3,4,12,13] (k:=rc (ht:=fun hc0=>?_) (hf:=fun hc0=>?_))))))))
 refine jO 1 ?_;rotate_left
 refine rs (k:=rs (k:=rg [1,3,4,12,17] (k:=rc (ht:=fun hc1=>?_) (hf:=fun hc1=>?_))))
 refine rk (k:=rc (ht:=fun hc2=>?_) (hf:=fun hc2=>?_))
 refine jO 1 ?_;rotate_left
 ·exact Y197
 refine rg [1,3,4,12,17] (k:=rc (ht:=fun hc2=>?_) (hf:=fun hc2=>?_))
 refine jO 1 ?_;rotate_left
 refine rs (k:=rg [1,3,4,12,22] (k:=rc (ht:=fun hc3=>?_) (hf:=fun hc3=>?_)))
 refine jO 1 ?_;rotate_left
 refine rs (k:=rg [1,4,12,32] (k:=rc (ht:=fun hc4=>?_) (hf:=fun hc4=>?_)))
 refine jO 1 ?_;rotate_left
 refine rs (k:=rg [4,42] (k:=rc (ht:=fun hc5=>?_) (hf:=fun hc5=>?_)))
 refine jO 1 ?_;rotate_left
 refine rk (k:=rB (k:=rs (k:=rg [2] (k:=rR (k:=rP (by simp only [Tryz.f55,go_sem];rfl) hwf ⟨?_,rfl⟩)))))
 refine jO 2 ?_;rotate_left
 any_goals
  refine jI 1 ?_
  refine rs (k:=rg [2] (k:=rR (k:=rP (by simp only [Tryz.f55,go_sem];rfl) hwf ⟨?_,rfl⟩)))
  refine jO 2 ?_;rotate_left
 any_goals
  refine jI 2 ?_
  simp only [decide_eq_true_eq,decide_eq_false_iff_not] at *
  refine jO 3 ?_;rotate_left
 any_goals
  refine jI 3 ?_
  unfold listsF
  refine jO 4 ?_;rotate_left
 any_goals
  refine jI 4 ?_
  simp only [PV.weak]
  refine jO 5 ?_;rotate_left
 any_goals
  refine jI 5 ?_
  congr 1
  refine jO 6 ?_;rotate_left
 any_goals
  refine jI 6 ?_
  first
   |(rw [if_pos Y21];rw [Bool.eq_iff_iff];simp only [Bool.and_eq_true,decide_eq_true_eq];omega)
   |(rw [if_neg Y21,if_pos Y21];rw [Bool.eq_iff_iff];simp only [Bool.and_eq_true,decide_eq_true_eq];omega)
   |(rw [if_neg Y21,if_neg Y21,if_pos Y21];rw [Bool.eq_iff_iff];simp only [Bool.and_eq_true,decide_eq_true_eq];omega)
   |(rw [if_neg Y21,if_neg Y21,if_neg Y21,if_pos Y21];rw [Bool.eq_iff_iff];simp only [Bool.and_eq_true,decide_eq_true_eq];omega)
   |(rw [if_neg Y21,if_neg Y21,if_neg Y21,if_neg Y21,if_pos Y21];rw [Bool.eq_iff_iff];simp only [Bool.and_eq_true,decide_eq_true_eq];omega)
   |(rw [if_neg Y21,if_neg Y21,if_neg Y21,if_neg Y21,if_neg Y21])
end Go.Proofs
namespace Go.Proofs
open Go.PM
set_option maxHeartbeats 2000000
theorem okB_uses (fn:Int):OkB (usesF fn):=by
 unfold usesF
 repeat' split
 all_goals (intro x hx;first |(exact absurd hx List.not_mem_nil) |(simp only [List.mem_cons,List.not_mem_nil,or_false] at hx;unfold U8;omega))
theorem len_uses (fn:Int):(usesF fn).length≤1000:=by
 unfold usesF
 repeat' split
 all_goals simp
attribute [local go_sem] weaks_bools Req.pv
theorem Y35 {p:Prop} (h:p:=by
 refine rs (k:=rg [2] (k:=rR (k:=rP (by simp only [Tryz.f28,go_sem];rfl) hwf ⟨?_,rfl⟩)))
 first
  |(have h0:hasF q.fn=false:=by simpa using hc0
    unfold rightF
    rw [if_pos h0];rfl)
  |(have h0:hasF q.fn=true:=by simpa using hc0
    refine congrArg (PV.int .i64) ?_
    unfold rightF
    rw [if_neg (by rw [h0];decide)]
    obtain ⟨nb,hnb⟩:∃ n,q.bits.length=n:=⟨_,rfl⟩
    obtain ⟨nv,hnv⟩:∃ n,q.vals.length=n:=⟨_,rfl⟩
    simp only [listsF,hnb,hnv,bitsF,valsF] at *
    clear H hnb hnv hwf hc0
    rcases has_cases h0 with e | e | e | e | e | e | e | e | e | e | e | e <;>
    ·try simp only [usesF,fieldsF,wordF,e,decide_eq_true_eq,decide_eq_false_iff_not,Bool.not_eq_true',Bool.not_eq_false',Bool.or_eq_true,Bool.or_eq_false_iff,Bool.and_eq_true,Bool.and_eq_false_iff,List.mem_cons,List.not_mem_nil,Int.reduceEq,Int.reduceLE,Int.reduceNeg,or_false,or_true,true_or,false_or,if_true,if_false,true_and,and_true,false_and,and_false,not_true_eq_false,not_false_eq_true,ite_true,ite_false,or_self,and_self,reduceCtorEq] at hc1
     try simp only [usesF,fieldsF,wordF,e,decide_eq_true_eq,decide_eq_false_iff_not,Bool.not_eq_true',Bool.not_eq_false',Bool.or_eq_true,Bool.or_eq_false_iff,Bool.and_eq_true,Bool.and_eq_false_iff,List.mem_cons,List.not_mem_nil,Int.reduceEq,Int.reduceLE,Int.reduceNeg,or_false,or_true,true_or,false_or,if_true,if_false,true_and,and_true,false_and,and_false,not_true_eq_false,not_false_eq_true,ite_true,ite_false,or_self,and_self,reduceCtorEq] at hc2
     simp only [usesF,fieldsF,wordF,e,decide_eq_true_eq,decide_eq_false_iff_not,Bool.not_eq_true',Bool.not_eq_false',Bool.or_eq_true,Bool.or_eq_false_iff,Bool.and_eq_true,Bool.and_eq_false_iff,List.mem_cons,List.not_mem_nil,Int.reduceEq,Int.reduceLE,Int.reduceNeg,or_false,or_true,true_or,false_or,if_true,if_false,true_and,and_true,false_and,and_false,not_true_eq_false,not_false_eq_true,ite_true,ite_false,or_self,and_self,reduceCtorEq]
     repeat' split
     all_goals first | rfl | omega)):p:=h
set_option maxRecDepth 100000 in
theorem ref3_Right {q:Req} {s:St}:ACalls Tryz.prog 28 [q.pv] s (fun r s'=>r=.int .i64 (rightF q)∧s'=s):=by
 refine go Tryz.func28 (k:=fun hwf H=>?_)
 refine rs (k:=rg [1] (k:=rs (k:=rs (k:=rr (k:=ro (pre:=[_,_]) (k:=rC (h:=ref3_Has) (k:=rh [1,7] (k:=rc (ht:=fun hc0=>?_) (hf:=fun hc0=>?_)))))))))
 ·exact Y35
 ·refine rk (k:=rs (k:=rr (k:=ro (pre:=[_,_]) (k:=rC (h:=ref3_uses) (k:=rh [1,3] (k:=rs (k:=rs (k:=rrA [some 11,some 12,some 13,some 14,some 15,some 16,some 17,some 18,some 19,some 20,some 21,some 22,some 23,some 24,some 25,some 26,some 27,some 28,some 29,some 30,some 31,some 32,some 33,some 34,some 35,some 36,some 37,some 38,some 39,some 40,some 41,some 42,some 43,some 44,some 45,some 46,some 47,some 48,some 49,some 50,some 51,some 52,some 53,some 54,some 55,some 56,some 57,some 58,some 59,some 60,some 61,some 62,some 63,some 64,some 65,some 66,some 67,some 68,some 69,some 70,some 71,some 72,some 73,some 74,some 75,some 76,some 77,some 78,some 79,some 80,some 81,some 82,some 83,some 84,some 85] (k:=fun ops hops=>?_)))))))))
  have H:=aj hops H
  refine ro (pre:=[_]) (k:=rC (h:=ref3_in (okB_uses q.fn) (len_uses q.fn)) (k:=ro (pre:=[_,_,_,_,_,_,_,_]) (k:=rG (h:=fun hb=>ref3_in (okB_uses q.fn) (len_uses q.fn)) (k:=ro (pre:=[_,_,_,_,_,_,_,_,_]) (k:=rG (h:=fun hb=>ref3_in (okB_uses q.fn) (len_uses q.fn)) (k:=ro (pre:=[_,_,_,_,_,_,_,_,_]) (k:=rG (h:=fun hb=>ref3_in (okB_uses q.fn) (len_uses q.fn)) (k:=?_))))))))
  refine ro (pre:=[_,_,_,_,_,_,_,_,_]) (k:=rG (h:=fun hb=>ref3_in (okB_uses q.fn) (len_uses q.fn)) (k:=ro (pre:=[_,_,_,_,_,_,_,_,_,_]) (k:=rG (h:=fun hb=>ref3_in (okB_uses q.fn) (len_uses q.fn)) (k:=ro (pre:=[_,_,_,_,_,_,_,_,_,_]) (k:=rG (h:=fun hb=>ref3_in (okB_uses q.fn) (len_uses q.fn)) (k:=rh [1,85] (k:=rc (ht:=fun hc1=>?_) (hf:=fun hc1=>?_))))))))
  ·exact Y35
  ·refine rk (k:=rs (k:=rs (k:=rr (k:=ro (pre:=[_,_]) (k:=rC (h:=ref3_word) (k:=ro (pre:=[_,_,_,_]) (k:=rG (h:=fun hb=>ref3_word) (k:=ro (pre:=[_,_,_,_,_]) (k:=rG (h:=fun hb=>ref3_word) (k:=ro (pre:=[_,_,_,_,_]) (k:=rG (h:=fun hb=>ref3_word) (k:=ro (pre:=[_,_,_,_]) (k:=rG (h:=fun hb=>ref3_lists (q:=q)) (k:=ra (k:=?_)))))))))))))))
   refine rl [112] (k:=rc (ht:=fun hc2=>?_) (hf:=fun hc2=>?_))
   ·exact Y35
   ·refine rk (k:=rs (k:=rg [2] (k:=rR (k:=rP (by simp only [Tryz.f28,go_sem];rfl) hwf ⟨?_,rfl⟩))))
    first
     |(have h0:hasF q.fn=false:=by simpa using hc0
       unfold rightF
       rw [if_pos h0];rfl)
     |(have h0:hasF q.fn=true:=by simpa using hc0
       refine congrArg (PV.int .i64) ?_
       unfold rightF
       rw [if_neg (by rw [h0];decide)]
       obtain ⟨nb,hnb⟩:∃ n,q.bits.length=n:=⟨_,rfl⟩
       obtain ⟨nv,hnv⟩:∃ n,q.vals.length=n:=⟨_,rfl⟩
       simp only [listsF,hnb,hnv,bitsF,valsF] at *
       clear H hnb hnv hwf hc0
       rcases has_cases h0 with e | e | e | e | e | e | e | e | e | e | e | e <;>
       ·try simp only [usesF,fieldsF,wordF,e,decide_eq_true_eq,decide_eq_false_iff_not,Bool.not_eq_true',Bool.not_eq_false',Bool.or_eq_true,Bool.or_eq_false_iff,Bool.and_eq_true,Bool.and_eq_false_iff,List.mem_cons,List.not_mem_nil,Int.reduceEq,Int.reduceLE,Int.reduceNeg,or_false,or_true,true_or,false_or,if_true,if_false,true_and,and_true,false_and,and_false,not_true_eq_false,not_false_eq_true,ite_true,ite_false,or_self,and_self,reduceCtorEq] at hc1
        try simp only [usesF,fieldsF,wordF,e,decide_eq_true_eq,decide_eq_false_iff_not,Bool.not_eq_true',Bool.not_eq_false',Bool.or_eq_true,Bool.or_eq_false_iff,Bool.and_eq_true,Bool.and_eq_false_iff,List.mem_cons,List.not_mem_nil,Int.reduceEq,Int.reduceLE,Int.reduceNeg,or_false,or_true,true_or,false_or,if_true,if_false,true_and,and_true,false_and,and_false,not_true_eq_false,not_false_eq_true,ite_true,ite_false,or_self,and_self,reduceCtorEq] at hc2
        simp only [usesF,fieldsF,wordF,e,decide_eq_true_eq,decide_eq_false_iff_not,Bool.not_eq_true',Bool.not_eq_false',Bool.or_eq_true,Bool.or_eq_false_iff,Bool.and_eq_true,Bool.and_eq_false_iff,List.mem_cons,List.not_mem_nil,Int.reduceEq,Int.reduceLE,Int.reduceNeg,or_false,or_true,true_or,false_or,if_true,if_false,true_and,and_true,false_and,and_false,not_true_eq_false,not_false_eq_true,ite_true,ite_false,or_self,and_self,reduceCtorEq]
        repeat' split
        all_goals first | rfl | omega)
end Go.Proofs
namespace Go.Proofs
open Go.PM
set_option maxHeartbeats 2000000
theorem clonem_u8_nil {xs:List Int} (hx:xs=[]) {s:St}:ACalls Tryz.prog 49 [.sl .nil []] s (fun r s'=>∃ kk,r=.sl kk []∧Made s s' kk xs.length (Tryz.prog.cellsOf 5)):=by
 refine go Tryz.func49 (k:=fun hwf H=>?_)
 refine rs (k:=rg [0] (k:=rs (k:=rs (k:=rg [0,4] (k:=rc (ht:=fun hc0=>?_) (hf:=fun hc0=>?_))))))
 ·refine rs (k:=rg [2] (k:=rR (k:=?_)))
  subst hx
  exact Ret.all Y142 ⟨.nil,rfl,.inl ⟨.inl rfl,rfl,rfl⟩⟩
 ·cases hc0
theorem Y88 {p:Prop} (h:p:=by rw [Tryz.by5];simp;try omega):p:=h
theorem clonem_u8_any {xs:List Int} (hb:xs.length*1≤140737488355328) {s:St}:ACalls Tryz.prog 49 [.sl .any (xs.map (PV.int .u8))] s (fun r s'=>∃ kk,r=.sl kk (xs.map (PV.int .u8))∧Made s s' kk xs.length (Tryz.prog.cellsOf 5)):=by
 refine go Tryz.func49 (k:=fun hwf H=>?_)
 refine rs (k:=rg [0] (k:=rs (k:=rs (k:=rg [0,4] (k:=rc (ht:=fun hc0=>?_) (hf:=fun hc0=>?_))))))
 ·cases hc0
 ·refine rk (k:=rs (k:=rr (k:=rO (k:=ro (pre:=[_]) (k:=?_)))))
  refine RunO.made au au au Tryz.td41 Y80 (isEls_map (P:=Tryz.prog) (e:=5) (f:=PV.int .u8) (fun a=>⟨rfl,Y30⟩) _) Y31 Y88 (.inr rfl) ?_
  intro k1 s1 hm1
  refine rh [2] (k:=rR (k:=?_))
  exact Ret.all Y142 ⟨k1,rfl,by simpa using hm1⟩
theorem clonem_u8 {xs:List Int} (hb:xs.length*1≤140737488355328) {s:St}:ACalls Tryz.prog 49 [.sl .unk (xs.map (PV.int .u8))] s (fun r s'=>∃ kk,r=.sl kk (xs.map (PV.int .u8))∧Made s s' kk xs.length (Tryz.prog.cellsOf 5)) :=
 ACalls.unk1 (fun h=>by have h':=List.map_eq_nil_iff.1 h;rw [h];exact clonem_u8_nil h') (clonem_u8_any hb)
theorem octet_PutX {l:List Int} {n:Int} (hl:l.length+2≤140737488355328) {s:St}:ACalls Tryz.prog 72 [.sl .unk (l.map (PV.int .u8)),.int .i64 n] s (fun r s'=>r=.sl (.tok s.nxt 1) ((l++num2 n).map (PV.int .u8))∧s'=s.new (.tok (l.length+2))):=by
 refine go Tryz.func72 (k:=fun hwf H=>?_)
 refine rs (k:=rg [0,1] (k:=rs (k:=rr (k:=ro (pre:=[_]) (k:=?_)))))
 refine RunO.call au au Y26 ((clonem_u8 (xs:=l) Y21).mono ?_)
 rintro r s1 ⟨kk,rfl,hm⟩
 refine ro (pre:=[_,_,_,_,_]) (k:=rO (k:=?_))
 refine RunO.append au au au Tryz.td41 Y80 (isEls_map (P:=Tryz.prog) (e:=5) (f:=PV.int .u8) (fun a=>⟨rfl,Y30⟩) _) (isEls_map (P:=Tryz.prog) (e:=5) (f:=PV.int .u8) (fun a=>⟨rfl,Y30⟩) [_,_]) Y31 Y88 (Made.append (by simpa using hm) Y23) ?_
 refine rh [4] (k:=rR (k:=?_))
 exact Ret.all (by simp only [Tryz.f72,go_sem,↓reduceIte]<;>rfl) ⟨by simp [num2,u8_wrap,u8_hi,Tryz.cz5],Y23⟩
theorem ref1_PutX {l:List Int} {n:Int} (hn:I64 n) (hl:l.length+2≤140737488355328) {s:St}:ACalls Tryz.prog 56 [.sl .unk (l.map (PV.int .u8)),.int .i64 n] s (fun r s'=>r=.sl (.tok s.nxt 1) ((l++num2 n).map (PV.int .u8))∧s'=s.new (.tok (l.length+2))):=by
 refine go Tryz.func56 (k:=fun hwf H=>?_)
 refine rs (k:=rg [0,1] (k:=rs (k:=rr (k:=rO (k:=ro (pre:=[_]) (k:=?_))))))
 refine RunO.made au au au Tryz.td41 Y80 (isEls_map (P:=Tryz.prog) (e:=5) (f:=PV.int .u8) (fun a=>⟨rfl,Y30⟩) _) Y31 Y88 (.inr rfl) ?_
 intro k1 s1 hm1
 refine ro (pre:=[_,_,_,_,_,_]) (k:=rO (k:=?_))
 refine RunO.append au au au Tryz.td41 Y80 (isEls_map (P:=Tryz.prog) (e:=5) (f:=PV.int .u8) (fun a=>⟨rfl,Y30⟩) _) (isEls_map (P:=Tryz.prog) (e:=5) (f:=PV.int .u8) (fun a=>⟨rfl,Y30⟩) [_,_]) Y31 Y88 (Made.append (by simpa using hm1) Y23) ?_
 refine rh [4] (k:=rR (k:=?_))
 exact Ret.all (by simp only [Tryz.f56,go_sem,↓reduceIte]<;>rfl) ⟨by simp [num2,u8_wrap,u8_hi,Tryz.cz5,u64_wrap,hi_u64'],Y23⟩
theorem Y147 {p:Prop} (h:p:=by rw [u8_wrap];omega):p:=h
theorem Y318 {p:Prop} (h:p:=by simp [PV.weak,weaks_map,u8_wrap,Function.comp_def]<;>rfl):p:=h
theorem pdu_counted {l:List Int} (hl:l.length≤255) {s:St}:ACalls Tryz.prog 108 [.sl .unk (l.map (PV.int .u8))] s (fun r s'=>r=.sl .unk (((l.length:Int)::l).map (PV.int .u8))∧s'=s):=by
 refine go Tryz.func108 (k:=fun hwf H=>?_)
 have hw1:IntKind.u8.wrap (l.length:Int)=l.length:=Y147
 have H:=aj hw1 H
 refine rs (k:=rg [0] (k:=rs (k:=rr (k:=ro (pre:=[_,_,_]) (k:=rO (k:=ro (pre:=[_]) (k:=?_)))))))
 refine RunO.grow' au au au Tryz.td41 Y80 (isEls_map (P:=Tryz.prog) (e:=5) (f:=PV.int .u8) (fun a=>⟨rfl,Y30⟩) [_]) (isEls_map (P:=Tryz.prog) (e:=5) (f:=PV.int .u8) (fun a=>⟨rfl,Y30⟩) _) Y31 Y81 (.inr (.inl (.inl rfl))) ?_
 intro k2 s2 hgr htm
 refine rh [2] (k:=rR (k:=?_))
 refine Ret.pure (by simp only [Tryz.f108,go_sem]<;>rfl) (r':=.sl .unk (((l.length:Int)::l).map (PV.int .u8))) Y318 Y27 hwf Y82 ⟨?_,rfl⟩
 ·rfl
theorem reply_counted {fn:Int} {l:List Int} (hf:0≤fn∧fn≤255) (hl:l.length≤255) {s:St}:ACalls Tryz.prog 69 [.int .i64 fn,.sl .unk (l.map (PV.int .u8))] s (fun r s'=>r=.sl .unk ((fn::(l.length:Int)::l).map (PV.int .u8))∧s'=s):=by
 refine go Tryz.func69 (k:=fun hwf H=>?_)
 have hw1:IntKind.u8.wrap (l.length:Int)=l.length:=Y147
 have hw2:IntKind.u8.wrap fn=fn:=Y147
 have H:=aj hw1 (aj hw2 H)
 refine rs (k:=rg [0,1] (k:=rs (k:=rr (k:=ro (pre:=[_,_,_,_,_]) (k:=rO (k:=ro (pre:=[_]) (k:=?_)))))))
 refine RunO.grow' au au au Tryz.td41 Y80 (isEls_map (P:=Tryz.prog) (e:=5) (f:=PV.int .u8) (fun a=>⟨rfl,Y30⟩) [_,_]) (isEls_map (P:=Tryz.prog) (e:=5) (f:=PV.int .u8) (fun a=>⟨rfl,Y30⟩) _) Y31 Y81 (.inr (.inl (.inl rfl))) ?_
 intro k2 s2 hgr htm
 refine rh [4] (k:=rR (k:=?_))
 refine Ret.pure (by simp only [Tryz.f69,go_sem]<;>rfl) (r':=.sl .unk ((fn::(l.length:Int)::l).map (PV.int .u8))) Y318 Y27 hwf Y82 ⟨?_,rfl⟩
 ·rfl
theorem octet_PutL {l L:List Int} {n:Int} (hL:L=l++num2 n) (hl:l.length+2≤140737488355328) {s:St}:ACalls Tryz.prog 72 [.sl .unk (l.map (PV.int .u8)),.int .i64 n] s (fun r s'=>r=.sl .unk (L.map (PV.int .u8))∧s'=s):=by
 subst hL;exact octet_Put hl
theorem octet_PutXL {l L:List Int} {n:Int} (hL:L=l++num2 n) (hl:l.length+2≤140737488355328) {s:St}:ACalls Tryz.prog 72 [.sl .unk (l.map (PV.int .u8)),.int .i64 n] s (fun r s'=>r=.sl (.tok s.nxt 1) (L.map (PV.int .u8))∧s'=s.new (.tok L.length)):=by
 have hll:L.length=l.length+2:=by rw [hL];simp [num2]
 rw [hll];subst hL;exact octet_PutX hl
theorem ref1_PutL {l L:List Int} {n:Int} (hL:L=l++num2 n) (hn:I64 n) (hl:l.length+2≤140737488355328) {s:St}:ACalls Tryz.prog 56 [.sl .unk (l.map (PV.int .u8)),.int .i64 n] s (fun r s'=>r=.sl .unk (L.map (PV.int .u8))∧s'=s):=by
 subst hL;exact ref1_Put hn hl
theorem ref1_PutXL {l L:List Int} {n:Int} (hL:L=l++num2 n) (hn:I64 n) (hl:l.length+2≤140737488355328) {s:St}:ACalls Tryz.prog 56 [.sl .unk (l.map (PV.int .u8)),.int .i64 n] s (fun r s'=>r=.sl (.tok s.nxt 1) (L.map (PV.int .u8))∧s'=s.new (.tok L.length)):=by
 have hll:L.length=l.length+2:=by rw [hL];simp [num2]
 rw [hll];subst hL;exact ref1_PutX hn hl
theorem pdu_countedL {l L:List Int} (hL:L=(l.length:Int)::l) (hl:l.length≤255) {s:St}:ACalls Tryz.prog 108 [.sl .unk (l.map (PV.int .u8))] s (fun r s'=>r=.sl .unk (L.map (PV.int .u8))∧s'=s):=by
 subst hL;exact pdu_counted hl
theorem reply_countedL {fn:Int} {l L:List Int} (hL:L=fn::(l.length:Int)::l) (hf:0≤fn∧fn≤255) (hl:l.length≤255) {s:St}:ACalls Tryz.prog 69 [.int .i64 fn,.sl .unk (l.map (PV.int .u8))] s (fun r s'=>r=.sl .unk (L.map (PV.int .u8))∧s'=s):=by
 subst hL;exact reply_counted hf hl
theorem octet_BytesL {l:List Int} {L:List Int} (hL:L=l.flatMap num2) (hl:l.length≤100000000) {s:St}:ACalls Tryz.prog 71 [.sl .unk (l.map (PV.int .u16))] s (fun r s'=>r=.sl .unk (L.map (PV.int .u8))∧s'=s):=by
 subst hL;exact octet_Bytes hl
theorem ref1_BytesL {l:List Int} {L:List Int} (hL:L=l.flatMap num2) (hl:l.length≤100000000) {s:St}:ACalls Tryz.prog 59 [.sl .unk (l.map (PV.int .u16))] s (fun r s'=>r=.sl .unk (L.map (PV.int .u8))∧s'=s):=by
 subst hL;exact ref1_Bytes hl
end Go.Proofs
namespace Go.Proofs
open Go.PM
set_option maxHeartbeats 2000000
attribute [local go_sem] weaks_bools Req.pv
theorem Y36 {p:Prop} (h:p:=by exact (fun i hi=>by first | rfl |(have h0:=ltn hi;have h1:=lte hi;simp only [go_sem,Nat.add_assoc,Nat.reduceAdd,↓reduceIte,h0,h1]))):p:=h
theorem Y89 {p:Prop} (h:p:=by simp (disch:=omega) only [go_sem]<;>rfl):p:=h
theorem Y198 {p:Prop} (h:p:=by have:=hR.nv;simp only [valsF,decide_eq_true_eq,decide_eq_false_iff_not] at *;simp [*] at this;omega):p:=h
theorem Y251 {p:Prop} (h:p:=by simp only [PV.blw,PV.blws,and_true];exact ⟨fun t z e=>Y20,blws_u8 _ _⟩):p:=h
set_option maxRecDepth 100000 in
theorem pdu_Bytes {q:Req} (hq:q.ok) {s:St}:ACalls Tryz.prog 84 [q.pv] s (fun r s'=>r=.tuple [.sl .unk ((bytesF q).map (PV.int .u8)),.int .i64 (rightF q)]∧s'=s):=by
 refine go Tryz.func84 (k:=fun hwf H=>?_)
 refine rs (k:=rg [1] (k:=rs (k:=rs (k:=rr (k:=ro (pre:=[_]) (k:=rC (h:=pdu_Right (q:=q)) (k:=rh [1,4] (k:=rs (k:=rg [1,4,10] (k:=rc (ht:=fun hc0=>?_) (hf:=fun hc0=>?_)))))))))))
 refine jO 1 ?_;rotate_left
 refine rk (k:=rs (k:=?_))
 have hr0:rightF q=0:=Y86
 have hR:=right0 hr0
 have hfn:=has_cases hR.has
 have hu8:IntKind.u8.wrap q.fn=q.fn:=Y147
 have hmv:=hR.mv
 have hmb:=hR.mb
 have hpl:=packB_len q.bits
 obtain ⟨V,hV⟩:∃ V,V=q.vals.flatMap num2:=⟨_,rfl⟩
 have hvl:V.length=2*q.vals.length:=by rw [hV];exact flat2_len _
 obtain ⟨L1,hL1⟩:∃ L,L=[q.fn]++num2 q.at_:=⟨_,rfl⟩
 obtain ⟨L2,hL2⟩:∃ L,L=L1++num2 q.count:=⟨_,rfl⟩
 obtain ⟨L3,hL3⟩:∃ L,L=L2++num2 q.wat:=⟨_,rfl⟩
 obtain ⟨L4,hL4⟩:∃ L,L=L3++num2 q.vals.length:=⟨_,rfl⟩
 obtain ⟨L5,hL5⟩:∃ L,L=[q.fn]++num2 q.sub:=⟨_,rfl⟩
 obtain ⟨L6,hL6⟩:∃ L,L=L1++num2 q.and_:=⟨_,rfl⟩
 obtain ⟨L7,hL7⟩:∃ L,L=L6++num2 q.or_:=⟨_,rfl⟩
 obtain ⟨C,hC⟩:∃ C,C=(V.length:Int)::V:=⟨_,rfl⟩
 obtain ⟨B,hB⟩:∃ B,B=((packB q.bits).length:Int)::packB q.bits:=⟨_,rfl⟩
 obtain ⟨X9,hX9⟩:∃ X,X=L5++V:=⟨_,rfl⟩
 obtain ⟨X18,hX18⟩:∃ X,X=L1++V:=⟨_,rfl⟩
 obtain ⟨X24,hX24⟩:∃ X,X=L2++B:=⟨_,rfl⟩
 obtain ⟨X26,hX26⟩:∃ X,X=L2++C:=⟨_,rfl⟩
 obtain ⟨X28,hX28⟩:∃ X,X=L4++C:=⟨_,rfl⟩
 have hll1:L1.length=3:=by rw [hL1];simp [num2]
 have hll2:L2.length=5:=by rw [hL2];simp [num2,hll1]
 have hll3:L3.length=7:=by rw [hL3];simp [num2,hll2]
 have hll4:L4.length=9:=by rw [hL4];simp [num2,hll3]
 have hll5:L5.length=3:=by rw [hL5];simp [num2]
 have hll6:L6.length=5:=by rw [hL6];simp [num2,hll1]
 have hcl:C.length=V.length+1:=by rw [hC];rfl
 have hbl:B.length=(packB q.bits).length+1:=by rw [hB];rfl
 have hCn:C≠[]:=by rw [hC];simp
 have hBn:B≠[]:=by rw [hB];simp
 have h16a:IntKind.i64.wrap q.and_=q.and_:=wrap_i64 (by have:=hq.and_;unfold U16 at this;omega)
 have h16o:IntKind.i64.wrap q.or_=q.or_:=wrap_i64 (by have:=hq.or_;unfold U16 at this;omega)
 have H:=aj hu8 (aj h16a (aj h16o H))
 refine rr (k:=ro (pre:=[_,_,_]) (k:=rO (k:=rh [1,5] (k:=rs (k:=rs (k:=rg [1,5,17] (k:=rb (k:=rs (k:=rg [1,5,17,18] (k:=rc (ht:=fun hc1=>?_) (hf:=fun hc1=>?_)))))))))))
 refine jO 1 ?_;rotate_left
 refine rs (k:=rg [1,5,21] (k:=rc (ht:=fun hc2=>?_) (hf:=fun hc2=>?_)))
 refine rs (k:=?_)
 have hv1:q.vals.length=1:=Y198
 have hvn:V≠[]:=by intro h;rw [h] at hvl;simp at hvl;omega
 refine Run.drawM 7 [3] [(s.new (.row 47 [.agg [.int .i64 q.fn,.int .i64 q.at_,.int .i64 q.count,.int .i64 q.wat,.int .i64 q.sub,.sl .unk (q.bits.map PV.bool),.sl .unk (q.vals.map (PV.int .u16)),.int .u16 q.and_,.int .u16 q.or_]])),((s.new (.row 47 [.agg [.int .i64 q.fn,.int .i64 q.at_,.int .i64 q.count,.int .i64 q.wat,.int .i64 q.sub,.sl .unk (q.bits.map PV.bool),.sl .unk (q.vals.map (PV.int .u16)),.int .u16 q.and_,.int .u16 q.or_]])).new (.tok L5.length))] Tryz.mixed Y26 Y26 ?_
 refine DetBC.pre (pre:=[_,_,_]) Y22 List.mem_cons_self au ?_
 refine DetBC.callE Y22 List.mem_cons_self au au au Y26 (octet_PutXL (l:=[q.fn]) hL5 Y23) ?_
 refine DetBC.pre (pre:=[_,_]) Y22 (List.mem_cons_of_mem _ List.mem_cons_self) au ?_
 refine DetBC.call Y22 au au au Y26 (List.mem_cons_of_mem _ List.mem_cons_self) (fun s _=>octet_BytesL hV Y21) ?_
 refine DetBC.nil (List.mem_cons_of_mem _ List.mem_cons_self) ?_
 refine RunO.append au au au Tryz.td41 Y80 (isEls_map (P:=Tryz.prog) (e:=5) (f:=PV.int .u8) (fun a=>⟨rfl,Y30⟩) _) (isEls_map (P:=Tryz.prog) (e:=5) (f:=PV.int .u8) (fun a=>⟨rfl,Y30⟩) _) Y31 Y88 (aAppend_tokL hX9 hvn Y89 rfl Tryz.cz5) ?_
 refine jO 2 ?_;rotate_left
 refine rk (k:=rB (k:=rs (k:=rr (k:=ro (pre:=[_,_,_]) (k:=?_)))))
 refine RunO.callw au au au Y26 ((octet_PutXL (l:=[q.fn]) hL1 Y23).mono ?_)
 rintro r s1 ⟨rfl,rfl⟩
 refine rh [1,5] (k:=rs (k:=rs (k:=rg [1,5,36] (k:=rb (k:=rs (k:=rg [1,5,36,37] (k:=rc (ht:=fun hc3=>?_) (hf:=fun hc3=>?_))))))))
 refine rs (k:=rg [1,5,6] (k:=rs (k:=rs (k:=?_))))
 obtain ⟨b,hb⟩:∃ b,q.bits=[b]:=by
  have:=hR.nb
  simp only [bitsF,decide_eq_true_eq] at *
  simp [*] at this
  exact List.length_eq_one_iff.1 Y21
 have hb2:(q.bits.map PV.bool)[0]? =some (.bool b):=by rw [hb];rfl
 have hb3:(0<q.bits.length)=True:=by rw [hb];simp
 have H:=aj hb2 (aj hb3 H)
 refine rg [5,6,42] (k:=rc (ht:=fun hc4=>?_) (hf:=fun hc4=>?_))
 refine rg [5,6] (k:=rs (k:=rr (k:=ro (pre:=[_,_]) (k:=?_))))
 refine jO 3 ?_;rotate_left
 refine rk (k:=rs (k:=rr (k:=ro (pre:=[_,_]) (k:=?_))))
 refine jO 3 ?_;rotate_left
 refine rs (k:=rg [1,5,36,46] (k:=rc (ht:=fun hc5=>?_) (hf:=fun hc5=>?_)))
 refine rs (k:=?_)
 have hv1:q.vals.length=1:=Y198
 have hvn:V≠[]:=by intro h;rw [h] at hvl;simp at hvl;omega
 refine rr (k:=ro (pre:=[_,_,_]) (k:=rC (h:=octet_BytesL hV Y21) (k:=?_)))
 refine RunO.append au au au Tryz.td41 Y80 (isEls_map (P:=Tryz.prog) (e:=5) (f:=PV.int .u8) (fun a=>⟨rfl,Y30⟩) _) (isEls_map (P:=Tryz.prog) (e:=5) (f:=PV.int .u8) (fun a=>⟨rfl,Y30⟩) _) Y31 Y88 (aAppend_tokL hX18 hvn Y89 rfl Tryz.cz5) ?_
 refine jO 2 ?_;rotate_left
 refine rs (k:=rg [1,5,53] (k:=rc (ht:=fun hc6=>?_) (hf:=fun hc6=>?_)))
 refine rs (k:=?_)
 refine Run.drawC [] [2,3] Tryz.mixed Y26 ?_
 refine DetC.pre (pre:=[_,_,_,_]) au ?_
 refine DetC.call au au au Y26 (octet_PutL hL6 Y21) ?_
 refine DetC.pre (pre:=[_,_,_]) au ?_
 refine DetC.call au au au Y26 (octet_PutL hL7 Y21) ?_
 refine DetC.all au ?_
 refine re (k:=rR (k:=?_))
 refine jO 4 ?_;rotate_left
 refine rk (k:=rB (k:=rs (k:=rr (k:=ro (pre:=[_,_,_]) (k:=?_)))))
 refine RunO.callw au au au Y26 ((octet_PutXL hL2 Y21).mono ?_)
 rintro r s1 ⟨rfl,rfl⟩
 refine rh [1,5] (k:=rs (k:=rs (k:=rg [1,5,69] (k:=rb (k:=rs (k:=rg [1,5,69,70] (k:=rc (ht:=fun hc7=>?_) (hf:=fun hc7=>?_))))))))
 refine rr (k:=ro (pre:=[_,_,_]) (k:=rC (h:=octet_Pack (l:=q.bits) Y21) (k:=rC (h:=pdu_countedL hB Y21) (k:=?_))))
 refine RunO.append au au au Tryz.td41 Y80 (isEls_map (P:=Tryz.prog) (e:=5) (f:=PV.int .u8) (fun a=>⟨rfl,Y30⟩) _) (isEls_map (P:=Tryz.prog) (e:=5) (f:=PV.int .u8) (fun a=>⟨rfl,Y30⟩) _) Y31 Y88 (aAppend_tokL hX24 hBn Y89 rfl Tryz.cz5) ?_
 refine jO 5 ?_;rotate_left
 refine rs (k:=rg [1,5,69,78] (k:=rc (ht:=fun hc8=>?_) (hf:=fun hc8=>?_)))
 refine rr (k:=ro (pre:=[_,_,_]) (k:=rC (h:=octet_BytesL hV Y21) (k:=rC (h:=pdu_countedL hC Y21) (k:=?_))))
 refine RunO.append au au au Tryz.td41 Y80 (isEls_map (P:=Tryz.prog) (e:=5) (f:=PV.int .u8) (fun a=>⟨rfl,Y30⟩) _) (isEls_map (P:=Tryz.prog) (e:=5) (f:=PV.int .u8) (fun a=>⟨rfl,Y30⟩) _) Y31 Y88 (aAppend_tokL hX26 hCn Y89 rfl Tryz.cz5) ?_
 refine jO 5 ?_;rotate_left
 refine rs (k:=rg [1,5,86] (k:=rc (ht:=fun hc9=>?_) (hf:=fun hc9=>?_)))
 refine Run.drawM 12 [7] [(((s.new (.row 47 [.agg [.int .i64 q.fn,.int .i64 q.at_,.int .i64 q.count,.int .i64 q.wat,.int .i64 q.sub,.sl .unk (q.bits.map PV.bool),.sl .unk (q.vals.map (PV.int .u16)),.int .u16 q.and_,.int .u16 q.or_]])).new (.tok L1.length)).new (.tok L2.length)),((((s.new (.row 47 [.agg [.int .i64 q.fn,.int .i64 q.at_,.int .i64 q.count,.int .i64 q.wat,.int .i64 q.sub,.sl .unk (q.bits.map PV.bool),.sl .unk (q.vals.map (PV.int .u16)),.int .u16 q.and_,.int .u16 q.or_]])).new (.tok L1.length)).new (.tok L2.length)).new (.tok L4.length))] Tryz.mixed Y26 Y26 ?_
 refine DetBC.pre (pre:=[_,_,_]) Y22 List.mem_cons_self au ?_
 refine DetBC.call Y22 au au au Y26 List.mem_cons_self (fun s _=>octet_PutL hL3 Y21) ?_
 refine DetBC.pre (pre:=[_,_,_]) Y22 List.mem_cons_self au ?_
 refine DetBC.callE Y22 List.mem_cons_self au au au Y26 (octet_PutXL hL4 Y21) ?_
 refine DetBC.pre (pre:=[_,_]) Y22 (List.mem_cons_of_mem _ List.mem_cons_self) au ?_
 refine DetBC.call Y22 au au au Y26 (List.mem_cons_of_mem _ List.mem_cons_self) (fun s _=>octet_BytesL hV Y21) ?_
 refine DetBC.call Y22 au au au Y26 (List.mem_cons_of_mem _ List.mem_cons_self) (fun s _=>pdu_countedL hC Y21) ?_
 refine DetBC.nil (List.mem_cons_of_mem _ List.mem_cons_self) ?_
 refine RunO.append au au au Tryz.td41 Y80 (isEls_map (P:=Tryz.prog) (e:=5) (f:=PV.int .u8) (fun a=>⟨rfl,Y30⟩) _) (isEls_map (P:=Tryz.prog) (e:=5) (f:=PV.int .u8) (fun a=>⟨rfl,Y30⟩) _) Y31 Y88 (aAppend_tokL hX28 hCn Y89 rfl Tryz.cz5) ?_
 refine jO 5 ?_;rotate_left
 refine rk (k:=rB (k:=rs (k:=rr (k:=ro (pre:=[_]) (k:=rC (h:=clip_u8) (k:=rh [2,3] (k:=rR (k:=?_))))))))
 refine jO 4 ?_;rotate_left
 any_goals
  refine jI 3 ?_
  refine RunO.callw au au au Y26 ((octet_Put (l:=L1) Y21).mono ?_)
  refine jO 6 ?_;rotate_left
 any_goals
  refine jI 5 ?_
  refine rh [5] (k:=rB (k:=rs (k:=rr (k:=ro (pre:=[_]) (k:=rC (h:=clip_u8) (k:=rh [2,3] (k:=rR (k:=?_))))))))
  refine jO 4 ?_;rotate_left
 any_goals
  refine jI 6 ?_
  rintro r s1 ⟨rfl,hs⟩
  refine jO 7 ?_;rotate_left
 any_goals
  refine jI 1 ?_
  refine rs (k:=rg [2,3] (k:=rR (k:=?_)))
  refine jO 4 ?_;rotate_left
 any_goals
  refine jI 7 ?_
  subst s1
  refine jO 2 ?_;rotate_left
 any_goals
  refine jI 2 ?_
  refine rh [2,3] (k:=rR (k:=?_))
  refine jO 4 ?_;rotate_left
 any_goals
  refine jI 4 ?_
  refine Ret.pure (r':=.tuple [.sl .unk ((bytesF q).map (PV.int .u8)),.int .i64 (rightF q)]) (by simp only [Tryz.f84,go_sem,↓reduceIte]<;>rfl) ?_ Y251 hwf Y36 ⟨rfl,rfl⟩
  refine jO 8 ?_;rotate_left
 any_goals
  refine jI 8 ?_
  simp only [PV.weak,PV.weaks,weaks_u8]
  refine jO 9 ?_;rotate_left
 any_goals
  refine jI 9 ?_
  first
   |(have hr0':¬ rightF q=0:=by simpa using hc0
     unfold bytesF
     rw [if_neg hr0']
     rfl)
   |(rw [hr0]
     refine congrArg (fun x=>PV.tuple [PV.sl .unk x,.int .i64 0]) ?_
     first | refine congrArg (List.map (PV.int .u8)) ?_ | refine congrArg (List.map (PV.int .u8)) (a₂:=[q.fn]) ?_
     clear hll1 hll2 hll3 hll4 hll5 hll6 hcl hbl hCn hBn hvl hpl hu8 hwf h16a h16o H
     simp only [decide_eq_true_eq,decide_eq_false_iff_not] at *
     simp [bytesF,writeF, *])
end Go.Proofs
namespace Go.Proofs
open Go.PM
set_option maxHeartbeats 2000000
theorem ref3_row {xs ys zs:List Int} (hz:zs=xs++((ys.length:Int)::ys)) (hx:xs.length≤1000) (hy:ys.length≤255) {t:Nat} {s:St} (ht:s.blk t=some (.tok xs.length)):ACalls Tryz.prog 57 [.sl (.tok t 1) (xs.map (PV.int .u8)),.sl .unk (ys.map (PV.int .u8))] s (fun r s'=>r=.sl .unk (zs.map (PV.int .u8))∧s'=s.set t none):=by
 refine go Tryz.func57 (k:=fun hwf H=>?_)
 have hw1:IntKind.u8.wrap (ys.length:Int)=ys.length:=Y147
 have H:=aj hw1 H
 obtain ⟨X1,hX1⟩:∃ X,X=xs++[(ys.length:Int)]:=⟨_,rfl⟩
 have htl:=lt_blk hwf ht
 refine rs (k:=rg [0,1] (k:=rs (k:=rr (k:=ro (pre:=[_,_,_,_]) (k:=rO (k:=?_))))))
 refine RunO.append au au au Tryz.td41 Y80 (isEls_map (P:=Tryz.prog) (e:=5) (f:=PV.int .u8) (fun a=>⟨rfl,Y30⟩) _) (isEls_map (P:=Tryz.prog) (e:=5) (f:=PV.int .u8) (fun a=>⟨rfl,Y30⟩) _) Y31 Y88 (aAppend_tokL (f:=PV.int .u8) (ys:=[(ys.length:Int)]) hX1 Y23 ht rfl Tryz.cz5) ?_
 refine ro (pre:=[_]) (k:=?_)
 refine RunO.grow' au au au Tryz.td41 Y80 (isEls_map (P:=Tryz.prog) (e:=5) (f:=PV.int .u8) (fun a=>⟨rfl,Y30⟩) X1) (isEls_map (P:=Tryz.prog) (e:=5) (f:=PV.int .u8) (fun a=>⟨rfl,Y30⟩) ys) Y31 (by rw [Tryz.by5,List.length_map,List.length_map,hX1,List.length_append];simp;omega) (by rw [Tryz.cz5];exact .inr (.inr ⟨t,rfl,by simp (disch:=omega) only [go_sem,List.length_map]<;>rfl⟩)) ?_
 intro k2 s2 hgr htm
 refine rh [4] (k:=rR (k:=?_))
 refine Ret.drop t (r':=.sl .unk (zs.map (PV.int .u8))) (by simp only [Tryz.f57,go_sem,↓reduceIte]<;>rfl) (by rw [PV.weak,← List.map_append,weaks_u8,hz,hX1];simp) Y27 hwf (fun i hi hit=>?_) ⟨rfl,rfl⟩
 rw [htm.rest i (by simpa only [nxt_set] using hi) (fun z e=>hit (by cases e;rfl)),blk_set,if_neg hit]
attribute [local go_sem] weaks_bools Req.pv
theorem Y252 {p:Prop} (h:p:=by first | exact .inl (of_decide_eq_true hc6) | exact .inr (of_decide_eq_true hc7)):p:=h
set_option maxRecDepth 100000 in
theorem ref3_write {q:Req} (hq:q.ok) (hr:rightF q=0) {s:St}:ACalls Tryz.prog 29 [q.pv] s (fun r s'=>r=.sl .unk ((writeF q).map (PV.int .u8))∧s'=s):=by
 refine go Tryz.func29 (k:=fun hwf H=>?_)
 refine rs (k:=rg [1] (k:=rs (k:=?_)))
 have hR:=right0 hr
 have hfn:=has_cases hR.has
 have hu8:IntKind.u8.wrap q.fn=q.fn:=Y147
 have hmv:=hR.mv
 have hmb:=hR.mb
 have hpl:=packB_len q.bits
 have ia:=hq.at_
 have ic:=hq.count
 have iw:=hq.wat
 have is_:=hq.sub
 have ie:I64 65280:=Y24
 have iz:I64 0:=Y24
 have ivl:I64 (q.vals.length:Int):=Y77
 obtain ⟨V,hV⟩:∃ V,V=q.vals.flatMap num2:=⟨_,rfl⟩
 have hvl:V.length=2*q.vals.length:=by rw [hV];exact flat2_len _
 obtain ⟨v,hv⟩:∃ v,v=(q.vals[0]?).getD 0:=⟨_,rfl⟩
 have hv16:U16 v:=by
  rw [hv]
  cases hx:q.vals[0]? with
  | none=>constructor<;>decide
  | some x=>exact hq.vals x (List.mem_of_getElem? hx)
 have iv:I64 v:=by unfold U16 at hv16;constructor<;>omega
 have iA:I64 q.and_:=by have:=hq.and_;unfold U16 at this;constructor<;>omega
 have iO:I64 q.or_:=by have:=hq.or_;unfold U16 at this;constructor<;>omega
 obtain ⟨L1,hL1⟩:∃ L,L=[q.fn]++num2 q.at_:=⟨_,rfl⟩
 obtain ⟨L2,hL2⟩:∃ L,L=L1++num2 q.count:=⟨_,rfl⟩
 obtain ⟨L3,hL3⟩:∃ L,L=L2++num2 q.wat:=⟨_,rfl⟩
 obtain ⟨L4,hL4⟩:∃ L,L=L3++num2 q.vals.length:=⟨_,rfl⟩
 obtain ⟨L5,hL5⟩:∃ L,L=[q.fn]++num2 q.sub:=⟨_,rfl⟩
 obtain ⟨L6,hL6⟩:∃ L,L=L1++num2 q.and_:=⟨_,rfl⟩
 obtain ⟨L7,hL7⟩:∃ L,L=L6++num2 q.or_:=⟨_,rfl⟩
 obtain ⟨L8,hL8⟩:∃ L,L=L5++num2 v:=⟨_,rfl⟩
 obtain ⟨L9,hL9⟩:∃ L,L=L1++num2 v:=⟨_,rfl⟩
 obtain ⟨La,hLa⟩:∃ L,L=L1++num2 65280:=⟨_,rfl⟩
 obtain ⟨Lb,hLb⟩:∃ L,L=L1++num2 0:=⟨_,rfl⟩
 obtain ⟨Xb,hXb⟩:∃ X,X=L2++(((packB q.bits).length:Int)::packB q.bits):=⟨_,rfl⟩
 obtain ⟨Xv,hXv⟩:∃ X,X=L2++((V.length:Int)::V):=⟨_,rfl⟩
 obtain ⟨Xw,hXw⟩:∃ X,X=L4++((V.length:Int)::V):=⟨_,rfl⟩
 have hll1:L1.length=3:=by rw [hL1];simp [num2]
 have hll2:L2.length=5:=by rw [hL2];simp [num2,hll1]
 have hll3:L3.length=7:=by rw [hL3];simp [num2,hll2]
 have hll4:L4.length=9:=by rw [hL4];simp [num2,hll3]
 have hll5:L5.length=3:=by rw [hL5];simp [num2]
 have hll6:L6.length=5:=by rw [hL6];simp [num2,hll1]
 have h16v:IntKind.i64.wrap v=v:=wrap_i64 (by unfold U16 at hv16;omega)
 have h16a:IntKind.i64.wrap q.and_=q.and_:=wrap_i64 (by have:=hq.and_;unfold U16 at this;omega)
 have h16o:IntKind.i64.wrap q.or_=q.or_:=wrap_i64 (by have:=hq.or_;unfold U16 at this;omega)
 have H:=aj hu8 (aj h16v (aj h16a (aj h16o H)))
 refine rr (k:=ro (pre:=[_,_,_]) (k:=rO (k:=rh [1,3] (k:=rs (k:=rr (k:=ro (pre:=[_,_,_]) (k:=rC (h:=ref1_PutL (l:=[q.fn]) hL1 ia Y23) (k:=rh [1,3,4] (k:=rs (k:=rs (k:=rg [1,3,4,15] (k:=rb (k:=rs (k:=rs (k:=rg [1,3,4,15,16] (k:=?_))))))))))))))))
 refine Run.join (fun e s'=>e=[(1,.ptr s.nxt 0 0),(3,.sl .clip [.int .u8 q.fn]),(4,.sl .unk (L1.map (PV.int .u8))),(15,.int .i64 q.fn),(16,.bool (decide (1≤q.fn∧q.fn≤4)))]∧s'=(s.new (.row 47 [.agg [.int .i64 q.fn,.int .i64 q.at_,.int .i64 q.count,.int .i64 q.wat,.int .i64 q.sub,.sl .unk (q.bits.map PV.bool),.sl .unk (q.vals.map (PV.int .u16)),.int .u16 q.and_,.int .u16 q.or_]]))) ?_ ?_
 rintro e s1 ⟨rfl,rfl⟩
 refine rc (ht:=fun hc3=>?_) (hf:=fun hc3=>?_)
 refine rs (k:=rr (k:=ro (pre:=[_,_,_]) (k:=rC (h:=ref1_PutL hL2 ic Y21) (k:=rh [2] (k:=rR (k:=?_))))))
 refine jO 1 ?_;rotate_left
 refine rs (k:=rg [1,3,4,15,25] (k:=rc (ht:=fun hc4=>?_) (hf:=fun hc4=>?_)))
 refine rs (k:=rs (k:=?_))
 obtain ⟨b,hb⟩:∃ b,q.bits=[b]:=by
  have:=hR.nb
  simp only [bitsF,decide_eq_true_eq] at *
  simp [*] at this
  exact List.length_eq_one_iff.1 Y21
 have hb2:(q.bits.map PV.bool)[0]? =some (.bool b):=by rw [hb];rfl
 have hb3:(0<q.bits.length)=True:=by rw [hb];simp
 have H:=aj hb2 (aj hb3 H)
 refine rg [4,30] (k:=rc (ht:=fun hc5=>?_) (hf:=fun hc5=>?_))
 refine rs (k:=rr (k:=ro (pre:=[_]) (k:=rC (h:=ref1_PutL hLa ie Y21) (k:=rh [2] (k:=rR (k:=?_))))))
 refine jO 1 ?_;rotate_left
 refine rk (k:=rs (k:=rr (k:=ro (pre:=[_]) (k:=rC (h:=ref1_PutL hLb iz Y21) (k:=rh [2] (k:=rR (k:=?_)))))))
 refine jO 1 ?_;rotate_left
 refine rs (k:=rg [1,3,4,15,35] (k:=rc (ht:=fun hc6=>?_) (hf:=fun hc6=>?_)))
 refine rs (k:=?_)
 have hv1:q.vals.length=1:=by
  have:=hR.nv
  have h68:q.fn=6∨q.fn=8:=Y252
  unfold valsF at this
  rw [if_pos h68] at this
  omega
 obtain ⟨v',hvv⟩:=List.length_eq_one_iff.1 hv1
 have hve:v'=v:=by rw [hv,hvv];rfl
 subst hve
 clear hv
 have hv2:(q.vals.map (PV.int .u16))[0]? =some (.int .u16 v'):=by rw [hvv];rfl
 have hv3:(0<q.vals.length)=True:=by rw [hvv];simp
 have H:=aj hv2 (aj hv3 H)
 refine rr (k:=ro (pre:=[_,_,_,_,_,_]) (k:=rC (h:=ref1_PutL hL9 iv Y21) (k:=rh [2] (k:=rR (k:=?_)))))
 refine jO 1 ?_;rotate_left
 refine rs (k:=rg [1,3,4,15,44] (k:=rc (ht:=fun hc7=>?_) (hf:=fun hc7=>?_)))
 refine rs (k:=?_)
 have hv1:q.vals.length=1:=by
  have:=hR.nv
  have h68:q.fn=6∨q.fn=8:=Y252
  unfold valsF at this
  rw [if_pos h68] at this
  omega
 obtain ⟨v',hvv⟩:=List.length_eq_one_iff.1 hv1
 have hve:v'=v:=by rw [hv,hvv];rfl
 subst hve
 clear hv
 have hv2:(q.vals.map (PV.int .u16))[0]? =some (.int .u16 v'):=by rw [hvv];rfl
 have hv3:(0<q.vals.length)=True:=by rw [hvv];simp
 have H:=aj hv2 (aj hv3 H)
 refine Run.drawC [] [2] Tryz.mixed Y26 ?_
 refine DetC.pre (pre:=[_,_,_]) au ?_
 refine DetC.call au au au Y26 (ref1_PutL (l:=[q.fn]) hL5 is_ Y23) ?_
 refine DetC.pre (pre:=[_,_,_,_,_]) au ?_
 refine DetC.call au au au Y26 (ref1_PutL hL8 iv Y21) ?_
 refine jO 2 ?_;rotate_left
 refine rs (k:=rg [1,3,4,15,56] (k:=rc (ht:=fun hc8=>?_) (hf:=fun hc8=>?_)))
 refine rs (k:=?_)
 refine Run.drawM 7 [3] [(s.new (.row 47 [.agg [.int .i64 q.fn,.int .i64 q.at_,.int .i64 q.count,.int .i64 q.wat,.int .i64 q.sub,.sl .unk (q.bits.map PV.bool),.sl .unk (q.vals.map (PV.int .u16)),.int .u16 q.and_,.int .u16 q.or_]])),((s.new (.row 47 [.agg [.int .i64 q.fn,.int .i64 q.at_,.int .i64 q.count,.int .i64 q.wat,.int .i64 q.sub,.sl .unk (q.bits.map PV.bool),.sl .unk (q.vals.map (PV.int .u16)),.int .u16 q.and_,.int .u16 q.or_]])).new (.tok L2.length))] Tryz.mixed Y26 Y26 ?_
 refine DetBC.pre (pre:=[_,_,_]) Y22 List.mem_cons_self au ?_
 refine DetBC.callE Y22 List.mem_cons_self au au au Y26 (ref1_PutXL hL2 ic Y21) ?_
 refine DetBC.pre (pre:=[_,_]) Y22 (List.mem_cons_of_mem _ List.mem_cons_self) au ?_
 refine DetBC.call Y22 au au au Y26 (List.mem_cons_of_mem _ List.mem_cons_self) (fun s _=>ref1_Pack (l:=q.bits) Y21) ?_
 refine DetBC.nil (List.mem_cons_of_mem _ List.mem_cons_self) ?_
 refine RunO.call au au Y26 ((ref3_row hXb Y21 Y21 Y89).mono ?_)
 refine jO 3 ?_;rotate_left
 refine rs (k:=rg [1,3,4,15,66] (k:=rc (ht:=fun hc9=>?_) (hf:=fun hc9=>?_)))
 refine rs (k:=?_)
 refine Run.drawM 7 [3] [(s.new (.row 47 [.agg [.int .i64 q.fn,.int .i64 q.at_,.int .i64 q.count,.int .i64 q.wat,.int .i64 q.sub,.sl .unk (q.bits.map PV.bool),.sl .unk (q.vals.map (PV.int .u16)),.int .u16 q.and_,.int .u16 q.or_]])),((s.new (.row 47 [.agg [.int .i64 q.fn,.int .i64 q.at_,.int .i64 q.count,.int .i64 q.wat,.int .i64 q.sub,.sl .unk (q.bits.map PV.bool),.sl .unk (q.vals.map (PV.int .u16)),.int .u16 q.and_,.int .u16 q.or_]])).new (.tok L2.length))] Tryz.mixed Y26 Y26 ?_
 refine DetBC.pre (pre:=[_,_,_]) Y22 List.mem_cons_self au ?_
 refine DetBC.callE Y22 List.mem_cons_self au au au Y26 (ref1_PutXL hL2 ic Y21) ?_
 refine DetBC.pre (pre:=[_,_]) Y22 (List.mem_cons_of_mem _ List.mem_cons_self) au ?_
 refine DetBC.call Y22 au au au Y26 (List.mem_cons_of_mem _ List.mem_cons_self) (fun s _=>ref1_BytesL hV Y21) ?_
 refine DetBC.nil (List.mem_cons_of_mem _ List.mem_cons_self) ?_
 refine RunO.call au au Y26 ((ref3_row hXv Y21 Y21 Y89).mono ?_)
 refine jO 3 ?_;rotate_left
 refine rs (k:=rg [1,3,4,15,76] (k:=rc (ht:=fun hc10=>?_) (hf:=fun hc10=>?_)))
 refine rs (k:=?_)
 refine Run.drawC [] [2] Tryz.mixed Y26 ?_
 refine DetC.pre (pre:=[_,_,_,_]) au ?_
 refine DetC.call au au au Y26 (ref1_PutL hL6 iA Y21) ?_
 refine DetC.pre (pre:=[_,_,_]) au ?_
 refine DetC.call au au au Y26 (ref1_PutL hL7 iO Y21) ?_
 refine jO 2 ?_;rotate_left
 refine rs (k:=rg [1,3,4,87] (k:=rc (ht:=fun hc11=>?_) (hf:=fun hc11=>?_)))
 refine rs (k:=?_)
 refine Run.drawM 11 [10] [(s.new (.row 47 [.agg [.int .i64 q.fn,.int .i64 q.at_,.int .i64 q.count,.int .i64 q.wat,.int .i64 q.sub,.sl .unk (q.bits.map PV.bool),.sl .unk (q.vals.map (PV.int .u16)),.int .u16 q.and_,.int .u16 q.or_]])),((s.new (.row 47 [.agg [.int .i64 q.fn,.int .i64 q.at_,.int .i64 q.count,.int .i64 q.wat,.int .i64 q.sub,.sl .unk (q.bits.map PV.bool),.sl .unk (q.vals.map (PV.int .u16)),.int .u16 q.and_,.int .u16 q.or_]])).new (.tok L4.length))] Tryz.mixed Y26 Y26 ?_
 refine DetBC.pre (pre:=[_,_,_]) Y22 List.mem_cons_self au ?_
 refine DetBC.call Y22 au au au Y26 List.mem_cons_self (fun s _=>ref1_PutL hL2 ic Y21) ?_
 refine DetBC.pre (pre:=[_,_]) Y22 List.mem_cons_self au ?_
 refine DetBC.call Y22 au au au Y26 List.mem_cons_self (fun s _=>ref1_PutL hL3 iw Y21) ?_
 refine DetBC.pre (pre:=[_,_,_]) Y22 List.mem_cons_self au ?_
 refine DetBC.callE Y22 List.mem_cons_self au au au Y26 (ref1_PutXL hL4 ivl Y21) ?_
 refine DetBC.nil (List.mem_cons_of_mem _ List.mem_cons_self) ?_
 refine rh [1,5] (k:=rs (k:=rr (k:=ro (pre:=[_,_,_]) (k:=rC (h:=ref1_BytesL hV Y21) (k:=?_)))))
 refine RunO.call au au Y26 ((ref3_row hXw Y21 Y21 Y89).mono ?_)
 refine jO 3 ?_;rotate_left
 refine rk (k:=rB (k:=rs (k:=rg [2] (k:=rR (k:=?_)))))
 refine jO 1 ?_;rotate_left
 intro hJc0
 refine rc (ht:=fun hc0=>?_) (hf:=fun hc0=>?_)
 ·refine rk (k:=?_)
  have hd:decide (1≤q.fn∧q.fn≤4)=decide (q.fn=1):=by
   rw [Bool.eq_iff_iff,decide_eq_true_eq,decide_eq_true_eq]
   simp only [decide_eq_true_eq,decide_eq_false_iff_not] at *
   omega
  exact hJc0 _ _ ⟨by rw [hd],rfl⟩
 ·refine rs (k:=rg [1,3,4,15,16] (k:=rc (ht:=fun hc1=>?_) (hf:=fun hc1=>?_)))
  ·refine rk (k:=?_)
   have hd:decide (1≤q.fn∧q.fn≤4)=decide (q.fn=2):=by
    rw [Bool.eq_iff_iff,decide_eq_true_eq,decide_eq_true_eq]
    simp only [decide_eq_true_eq,decide_eq_false_iff_not] at *
    omega
   exact hJc0 _ _ ⟨by rw [hd],rfl⟩
  ·refine rs (k:=rg [1,3,4,15,16] (k:=rc (ht:=fun hc2=>?_) (hf:=fun hc2=>?_)))
   ·refine rk (k:=?_)
    have hd:decide (1≤q.fn∧q.fn≤4)=decide (q.fn=3):=by
     rw [Bool.eq_iff_iff,decide_eq_true_eq,decide_eq_true_eq]
     simp only [decide_eq_true_eq,decide_eq_false_iff_not] at *
     omega
    exact hJc0 _ _ ⟨by rw [hd],rfl⟩
   ·refine rg [1,3,4,15,16] (k:=?_)
    have hd:decide (1≤q.fn∧q.fn≤4)=decide (q.fn=4):=by
     rw [Bool.eq_iff_iff,decide_eq_true_eq,decide_eq_true_eq]
     simp only [decide_eq_true_eq,decide_eq_false_iff_not] at *
     omega
    exact hJc0 _ _ ⟨by rw [hd],rfl⟩
 any_goals
  refine jI 3 ?_
  rintro r s1 ⟨rfl,rfl⟩
  refine jO 4 ?_;rotate_left
 any_goals
  refine jI 2 ?_
  refine DetC.all au ?_
  refine jO 5 ?_;rotate_left
 any_goals
  refine jI 4 ?_
  refine rh [2] (k:=rR (k:=?_))
  refine jO 1 ?_;rotate_left
 any_goals
  refine jI 5 ?_
  refine re (k:=rR (k:=?_))
  refine jO 1 ?_;rotate_left
 any_goals
  refine jI 1 ?_
  refine Ret.pure (r':=.sl .unk ((writeF q).map (PV.int .u8))) (by simp only [Tryz.f29,go_sem,↓reduceIte]<;>rfl) ?_ Y27 hwf Y36 ⟨rfl,rfl⟩
  refine jO 6 ?_;rotate_left
 any_goals
  refine jI 6 ?_
  simp only [PV.weak,weaks_u8]
  refine jO 7 ?_;rotate_left
 any_goals
  refine jI 7 ?_
  refine congrArg (fun x=>PV.sl .unk x) ?_
  refine jO 8 ?_;rotate_left
 any_goals
  refine jI 8 ?_
  first | refine congrArg (List.map (PV.int .u8)) ?_ | refine congrArg (List.map (PV.int .u8)) (a₂:=[q.fn]) ?_
  refine jO 9 ?_;rotate_left
 any_goals
  refine jI 9 ?_
  clear hll1 hll2 hll3 hll4 hll5 hll6 hvl hpl hu8 hwf h16a h16o h16v H
  refine jO 10 ?_;rotate_left
 any_goals
  refine jI 10 ?_
  simp only [decide_eq_true_eq,decide_eq_false_iff_not] at *
  refine jO 11 ?_;rotate_left
 any_goals
  refine jI 11 ?_
  first
   |(simp [writeF, *];done)
   |(have e:q.fn=17:=by omega
     simp [writeF,e];done)
   |(have e:q.fn=1∨q.fn=2∨q.fn=3∨q.fn=4:=by omega
     rcases e with e | e | e | e<;>simp [writeF,e,hL2,hL1])
end Go.Proofs
namespace Go.Proofs
open Go.PM
set_option maxHeartbeats 2000000
theorem pdu_num {b:List Int} (hb:OkB b) (hl:b.length≤140737488351232) {i:Int} {a:Int} (ha:1+2*i=a) (hi:0≤i∧i≤100) {s:St}:ACalls Tryz.prog 105 [.sl .unk (b.map (PV.int .u8)),.int .i64 i] s (fun r s'=>r=.int .i64 (num1 b a)∧s'=s):=by
 refine go Tryz.func105 (k:=fun hwf H=>?_)
 have hw1:IntKind.i64.wrap (2*i)=2*i:=wrap_i64 Y21
 have hw2:IntKind.i64.wrap (1+2*i)=a:=by rw [wrap_i64 Y21,ha]
 have H:=aj hw1 (aj hw2 H)
 refine rs (k:=rg [0,1] (k:=rs (k:=rr (k:=ro (pre:=[_,_,_,_]) (k:=rC (h:=octet_Get hb (a:=a) Y77 Y21) (k:=rh [5] (k:=rs (k:=rg [4] (k:=rR (k:=rP (by simp only [Tryz.f105,go_sem];rfl) hwf ⟨?_,rfl⟩))))))))))
 rfl
theorem pdu_words {b:List Int} (hb:OkB b) (hl:b.length≤140737488351232) {n:Nat} (hn:n≤100) {s:St}:ACalls Tryz.prog 106 [.sl .unk (b.map (PV.int .u8)),.int .i64 (n:Int)] s (fun r s'=>r=.sl .unk ((wordsE b n).map (PV.int .u16))∧s'=s):=by
 refine go Tryz.func106 (k:=fun hwf H=>?_)
 refine rs (k:=rg [0,1] (k:=rs (k:=rs (k:=rg [0,1,10] (k:=rc (ht:=fun hc0=>?_) (hf:=fun hc0=>?_))))))
 refine rs (k:=rg [4] (k:=rR (k:=rP (by simp only [Tryz.f106,go_sem];rfl) hwf ⟨?_,rfl⟩)))
 refine jO 1 ?_;rotate_left
 refine rk (k:=rs (k:=?_))
 have hlt:n<b.length:=Y33
 have hw1:IntKind.i64.wrap ((b.length:Int)-n)=((b.length-n:Nat):Int):=Y28
 have hm1:((b.length-n:Nat):Int).tmod 2=(((b.length-n)%2:Nat):Int):=Y249
 have hw2:IntKind.i64.wrap (((b.length-n)%2:Nat):Int)=(((b.length-n)%2:Nat):Int):=wrap_i64 Y21
 have hw3:IntKind.i64.wrap ((b.length:Int)-(((b.length-n)%2:Nat):Int))=((b.length-(b.length-n)%2:Nat):Int):=Y28
 have h20:((2:Int)=0)=False:=Y22
 have hd1:(0≤(n:Int))=True:=eq_true Y21
 have hd2:((n:Int)≤((b.length-(b.length-n)%2:Nat):Int))=True:=eq_true Y21
 have hd3:(((b.length-(b.length-n)%2:Nat):Int)≤(b.length:Int))=True:=eq_true Y21
 have htk:((((b.length-(b.length-n)%2:Nat):Int)-(n:Int)).toNat)=b.length-n-(b.length-n)%2:=Y21
 have hlm:((b.map (PV.int .u8)).drop n).take (b.length-n-(b.length-n)%2)=(((b.drop n).take (b.length-n-(b.length-n)%2)).map (PV.int .u8)):=by rw [List.map_take,List.map_drop]
 have H:=aj hw1 (aj hm1 (aj hw2 (aj hw3 (aj hd1 (aj hd2 (aj hd3 (aj htk (aj hlm (aj h20 H)))))))))
 refine rr (k:=ro (pre:=[_,_,_,_,_,_,_,_,_,_,_]) (k:=rC (h:=octet_Words (b:=(b.drop n).take (b.length-n-(b.length-n)%2)) (OkB.take (OkB.drop hb n) _) Y192) (k:=rh [5] (k:=rs (k:=rg [4] (k:=rR (k:=rP (by simp only [Tryz.f106,go_sem];rfl) hwf ⟨?_,rfl⟩)))))))
 refine jO 1 ?_;rotate_left
 any_goals
  refine jI 1 ?_
  first
   |(have:b.length≤n:=by have:=of_decide_eq_true hc0;omega
     have hz:wordsE b n=[]:=by unfold wordsE;rw [List.drop_eq_nil_of_le this,List.take_nil];rfl
     rw [hz];rfl)
   |(simp only [PV.weak,weaks_u16];rfl)
end Go.Proofs
namespace Go.Proofs
open Go.PM
set_option maxHeartbeats 2000000
theorem mem97 {x:Int}:97∈usesF x↔1≤x∧x≤4∨x=5∨x=6∨x=15∨x=16∨x=22∨x=23:=by
 unfold usesF
 repeat' split
 all_goals (simp only [List.mem_cons,List.not_mem_nil,Int.reduceEq,or_true,true_or,or_false,false_or,true_iff,false_iff];omega)
theorem mem99 {x:Int}:99∈usesF x↔1≤x∧x≤4∨x=15∨x=16∨x=23:=by
 unfold usesF
 repeat' split
 all_goals (simp only [List.mem_cons,List.not_mem_nil,Int.reduceEq,or_true,true_or,or_false,false_or,true_iff,false_iff];omega)
attribute [local go_sem] weaks_bools
theorem Y148 {p:Prop} (h:p:=by rw [List.getElem?_map,hx];rfl):p:=h
theorem Y199 {p:Prop} (h:p:=by unfold U8 at hx8;omega):p:=h
theorem Y319 {p:Prop} (h:p:=by have:=num1_u16 hb 3;rw [u16_wrap];unfold U16 at this;omega):p:=h
theorem Y320 {p:Prop} (h:p:=by have:=num1_u16 hb 5;rw [u16_wrap];unfold U16 at this;omega):p:=h
set_option maxRecDepth 100000 in
theorem pdu_guess {b:List Int} (hb:OkB b) (hl:b.length≤140737488351232) {x:Int} (hx:b[0]? =some x) {s:St}:ACalls Tryz.prog 83 [.sl .unk (b.map (PV.int .u8))] s (fun r s'=>r=(guessF b).pv∧s'=s):=by
 refine go Tryz.func83 (k:=fun hwf H=>?_)
 have hlt:0<b.length:=by cases b with | nil=>cases hx | cons _ _=>simp
 have hxx:(b.map (PV.int .u8))[0]? =some (.int .u8 x):=Y148
 have hlT:(0<b.length)=True:=eq_true hlt
 have hx8:U8 x:=hb x (List.mem_of_getElem? hx)
 have hxw:IntKind.i64.wrap x=x:=wrap_i64 Y199
 have hn3:IntKind.u16.wrap (num1 b 3)=num1 b 3:=Y319
 have hn5:IntKind.u16.wrap (num1 b 5)=num1 b 5:=Y320
 have hi3:I64 (num1 b 3):=by have:=num1_u16 hb 3;unfold U16 at this;constructor<;>omega
 have hm3:num1 b 3≤140737488351232:=by have:=num1_u16 hb 3;unfold U16 at this;omega
 have hg0:(b[0]?).getD 0=x:=by rw [hx];rfl
 have H:=aj hxx (aj hlT (aj hxw (aj hn3 (aj hn5 H))))
 refine rs (k:=rg [0,2] (k:=rs (k:=rg [0,2,3] (k:=rs (k:=rs (k:=rg [0,2,3,11] (k:=rb (k:=rs (k:=rg [0,2,3,11,12] (k:=rc (ht:=fun hc0=>?_) (hf:=fun hc0=>?_)))))))))))
 refine rs (k:=rg [2] (k:=rR (k:=?_)))
 refine jO 1 ?_;rotate_left
 refine rs (k:=rg [0,2,3,15] (k:=rc (ht:=fun hc1=>?_) (hf:=fun hc1=>?_)))
 refine rs (k:=rr (k:=ro (pre:=[_]) (k:=rC (h:=pdu_num (b:=b) hb hl (a:=1) Y21 Y21) (k:=ro (pre:=[_]) (k:=rC (h:=pdu_words (b:=b) hb hl (n:=3) Y21) (k:=rh [2,3] (k:=rs (k:=rg [2] (k:=rR (k:=?_))))))))))
 refine jO 1 ?_;rotate_left
 refine rk (k:=rB (k:=rs (k:=rr (k:=ro (pre:=[_]) (k:=rC (h:=pdu_num (b:=b) hb hl (a:=1) Y21 Y21) (k:=rh [0,2,3] (k:=rs (k:=rs (k:=rg [0,2,3,28] (k:=rb (k:=rs (k:=rg [0,2,3,28,32] (k:=rc (ht:=fun hc2=>?_) (hf:=fun hc2=>?_))))))))))))))
 refine rr (k:=ro (pre:=[_]) (k:=rC (h:=pdu_num (b:=b) hb hl (a:=3) Y21 Y21) (k:=ro (pre:=[_]) (k:=rO (k:=rh [2,3] (k:=rB (k:=rs (k:=rg [2] (k:=rR (k:=?_))))))))))
 refine jO 1 ?_;rotate_left
 refine rs (k:=rg [0,2,3,28,39] (k:=rc (ht:=fun hc3=>?_) (hf:=fun hc3=>?_)))
 refine rr (k:=ro (pre:=[_]) (k:=rC (h:=pdu_words (b:=b) hb hl (n:=3) Y21) (k:=rh [2,3] (k:=rB (k:=rs (k:=rg [2] (k:=rR (k:=?_))))))))
 refine jO 1 ?_;rotate_left
 refine rs (k:=rg [0,2,3,28,44] (k:=rc (ht:=fun hc4=>?_) (hf:=fun hc4=>?_)))
 refine rr (k:=ro (pre:=[_]) (k:=rC (h:=pdu_num (b:=b) hb hl (a:=3) Y21 Y21) (k:=ro (pre:=[_,_]) (k:=rC (h:=pdu_num (b:=b) hb hl (a:=5) Y21 Y21) (k:=rh [2,3] (k:=rB (k:=rs (k:=rg [2] (k:=rR (k:=?_))))))))))
 refine jO 1 ?_;rotate_left
 refine rs (k:=rg [0,2,3,28,54] (k:=rc (ht:=fun hc5=>?_) (hf:=fun hc5=>?_)))
 refine rs (k:=rr (k:=ro (pre:=[_]) (k:=rC (h:=pdu_num (b:=b) hb hl (a:=3) Y21 Y21) (k:=rh [0,2,3] (k:=rs (k:=rg [0,2,3,4] (k:=rs (k:=rg [0,2,3,4,62] (k:=rc (ht:=fun hc6=>?_) (hf:=fun hc6=>?_))))))))))
 have hlen:6≤b.length:=by have:=of_decide_eq_true hc6;omega
 have hd1:((6:Int)≤(b.length:Int))=True:=eq_true Y21
 have htk:((b.length:Int)-6).toNat=b.length-6:=Y21
 have hlm:((b.map (PV.int .u8)).drop (6:Int).toNat).take (b.length-6)=((b.drop 6).map (PV.int .u8)):=by show ((b.map (PV.int .u8)).drop 6).take (b.length-6)=_;rw [List.map_drop,List.take_of_length_le Y23]
 have hd2:((0:Int)≤6)=True:=Y22
 have hd3:((6:Int)=0)=False:=Y22
 have H:=aj hd1 (aj htk (aj hlm (aj hd2 (aj hd3 H))))
 refine Run.drawC [10] [2,3] Tryz.mixed Y26 ?_
 refine DetC.pre (pre:=[_,_,_,_,_]) au ?_
 refine DetC.call au au au Y26 (octet_Open (b:=b.drop 6) (hb.drop 6) Y192 hi3 (.inl hm3)) ?_
 refine DetC.pre (pre:=[_,_,_,_]) au ?_
 refine DetC.eff Y22 au au ?_
 refine DetC.nil ?_
 refine re (k:=rB (k:=rs (k:=rg [2] (k:=rR (k:=?_)))))
 refine jO 1 ?_;rotate_left
 refine rk (k:=rB (k:=rs (k:=rg [2] (k:=rR (k:=?_)))))
 refine jO 1 ?_;rotate_left
 refine rs (k:=rg [0,2,3,28,73] (k:=rc (ht:=fun hc7=>?_) (hf:=fun hc7=>?_)))
 refine rr (k:=ro (pre:=[_]) (k:=rC (h:=pdu_num (b:=b) hb hl (a:=3) Y21 Y21) (k:=ro (pre:=[_]) (k:=rC (h:=pdu_words (b:=b) hb hl (n:=6) Y21) (k:=rh [2,3] (k:=rB (k:=rs (k:=rg [2] (k:=rR (k:=?_))))))))))
 refine jO 1 ?_;rotate_left
 refine rs (k:=rg [0,2,3,81] (k:=rc (ht:=fun hc8=>?_) (hf:=fun hc8=>?_)))
 refine rr (k:=ro (pre:=[_]) (k:=rC (h:=pdu_num (b:=b) hb hl (a:=3) Y21 Y21) (k:=ro (pre:=[_]) (k:=rC (h:=pdu_num (b:=b) hb hl (a:=5) Y21 Y21) (k:=ro (pre:=[_]) (k:=rC (h:=pdu_words (b:=b) hb hl (n:=10) Y21) (k:=rh [2,3] (k:=rB (k:=rs (k:=rg [2] (k:=rR (k:=?_))))))))))))
 refine jO 1 ?_;rotate_left
 refine rr (k:=ro (pre:=[_]) (k:=rC (h:=pdu_num (b:=b) hb hl (a:=3) Y21 Y21) (k:=rh [2,3] (k:=rB (k:=rs (k:=rg [2] (k:=rR (k:=?_))))))))
 refine jO 1 ?_;rotate_left
 any_goals
  refine jI 1 ?_
  refine Ret.pure (r':=(guessF b).pv) (by simp only [Tryz.f83,go_sem,↓reduceIte]<;>rfl) ?_ (blw_req _ _) hwf Y36 ⟨rfl,rfl⟩
  refine jO 2 ?_;rotate_left
 any_goals
  refine jI 2 ?_
  simp only [PV.weak,PV.weaks,weaks_u16,weaks_bools]
  refine jO 3 ?_;rotate_left
 any_goals
  refine jI 3 ?_
  clear hxx hlT hxw hn3 hn5 H hi3 hwf hb hl hx8 hx
  refine jO 4 ?_;rotate_left
 any_goals
  refine jI 4 ?_
  simp only [decide_eq_true_eq,decide_eq_false_iff_not] at *
  refine jO 5 ?_;rotate_left
 any_goals
  refine jI 5 ?_
  try simp only [mem97,mem99] at hc0 hc1
  refine jO 6 ?_;rotate_left
 any_goals
  refine jI 6 ?_
  first
   |(exfalso;omega)
   |(simp only [guessF,hg0,Req.pv];simp [*];done)
   |(have h6n:¬ 6≤b.length:=by omega
     simp only [guessF,hg0,Req.pv];simp [*];done)
   |(have h6n:¬ 6<b.length:=by omega
     simp only [guessF,hg0,Req.pv];simp [*];done)
   |(have h6n:6<b.length:=by omega
     have h14:¬ (1≤x∧x≤4):=by omega
     simp only [guessF,hg0,Req.pv];simp [*];done)
   |(have h14:1≤x∧x≤4:=by omega
     simp only [guessF,hg0,Req.pv];simp [*];done)
   |(have h14:¬ (1≤x∧x≤4):=by omega
     simp only [guessF,hg0,Req.pv];simp [*];done)
   | skip
attribute [local go_sem] weaks_bools
attribute [local go_sem] weaks_bools Req.pv
theorem ref3_Bytes {q:Req} (hq:q.ok) {s:St}:ACalls Tryz.prog 13 [q.pv] s (fun r s'=>r=.tuple [.sl .unk ((bytesF q).map (PV.int .u8)),.int .i64 (rightF q)]∧s'=s):=by
 refine go Tryz.func13 (k:=fun hwf H=>?_)
 refine rs (k:=rg [1] (k:=rs (k:=rs (k:=rr (k:=ro (pre:=[_]) (k:=rC (h:=ref3_Right (q:=q)) (k:=rh [1,4] (k:=rs (k:=rg [1,4,8] (k:=rc (ht:=fun hc0=>?_) (hf:=fun hc0=>?_)))))))))))
 refine rs (k:=rg [2,3] (k:=rR (k:=rP (by simp only [Tryz.f13,go_sem];rfl) hwf ⟨?_,rfl⟩)))
 refine jO 1 ?_;rotate_left
 refine rk (k:=rs (k:=?_))
 have hr0:rightF q=0:=Y86
 refine rr (k:=ro (pre:=[_]) (k:=rC (h:=ref3_write hq hr0) (k:=rh [2,3] (k:=rR (k:=rP (by simp only [Tryz.f13,go_sem];rfl) hwf ⟨?_,rfl⟩)))))
 refine jO 1 ?_;rotate_left
 any_goals
  refine jI 1 ?_
  first
   |(have hr1:¬ rightF q=0:=by simpa using hc0
     unfold bytesF
     rw [if_neg hr1];rfl)
   |(unfold bytesF
     rw [if_pos hr0,hr0];simp only [PV.weak,PV.weaks,weaks_u8])
attribute [local go_sem] weaks_bools Req.pv
theorem pdu_Read {b:List Int} (hb:OkB b) (hl:b.length≤140737488351232) {s:St}:ACalls Tryz.prog 61 [.sl .unk (b.map (PV.int .u8))] s (fun r s'=>r=.tuple [(readF b).1.pv,.int .i64 (readF b).2]∧s'=s):=by
 refine go Tryz.func61 (k:=fun hwf H=>?_)
 refine rs (k:=rg [0,2] (k:=rs (k:=rb (k:=rs (k:=rg [0,2,7] (k:=rc (ht:=fun hc0=>?_) (hf:=fun hc0=>?_)))))))
 refine jO 1 ?_;rotate_left
 refine rs (k:=?_)
 have hlt:0<b.length:=by simp at hc0;cases b with | nil=>exact absurd rfl hc0 | cons _ _=>simp
 obtain ⟨x,hx⟩:∃ x,b[0]? =some x:=⟨b[0],List.getElem?_eq_getElem hlt⟩
 have hxx:(b.map (PV.int .u8))[0]? =some (.int .u8 x):=Y148
 have hlT:(0<b.length)=True:=eq_true hlt
 have hx8:U8 x:=hb x (List.mem_of_getElem? hx)
 have hxw:IntKind.i64.wrap x=x:=wrap_i64 Y199
 have hg0:(b[0]?).getD 0=x:=by rw [hx];rfl
 have hbl:(bytesF (guessF b)).length<140737488355328:=bytesF_len _
 have H:=aj hxx (aj hlT (aj hxw H))
 refine rr (k:=ro (pre:=[_,_,_,_]) (k:=rC (h:=pdu_function (fn:=x)) (k:=rh [0,2,12] (k:=rc (ht:=fun hc1=>?_) (hf:=fun hc1=>?_)))))
 refine jO 1 ?_;rotate_left
 refine rk (k:=rB (k:=rs (k:=rr (k:=ro (pre:=[_]) (k:=rC (h:=pdu_guess hb hl hx) (k:=rh [0,2,4] (k:=rs (k:=rs (k:=rr (k:=ro (pre:=[_]) (k:=rC (h:=pdu_Bytes (guessF_ok hb hl)) (k:=rh [0,2,4,5,6] (k:=rs (k:=rr (k:=ro (pre:=[_,_,_,_,_]) (k:=rG (h:=fun hb=>equal_u8 (xs:=bytesF (guessF b)) (ys:=b) hbl) (k:=?_)))))))))))))))))
 refine rh [2,4,34] (k:=rc (ht:=fun hc2=>?_) (hf:=fun hc2=>?_))
 refine jO 1 ?_;rotate_left
 refine rk (k:=rs (k:=rg [2,3] (k:=rR (k:=?_))))
 refine jO 2 ?_;rotate_left
 any_goals
  refine jI 1 ?_
  refine rs (k:=rg [2,3] (k:=rR (k:=?_)))
  refine jO 2 ?_;rotate_left
 any_goals
  refine jI 2 ?_
  refine Ret.pure (r':=.tuple [(readF b).1.pv,.int .i64 (readF b).2]) (by simp only [Tryz.f61,go_sem,↓reduceIte]<;>rfl) ?_ (by simp only [PV.blw,PV.blws,and_true,true_and];exact blw_req _ _) hwf Y36 ⟨rfl,rfl⟩
  refine jO 3 ?_;rotate_left
 any_goals
  refine jI 3 ?_
  simp only [PV.weak,PV.weaks,weaks_bools,weaks_u16]
  refine jO 4 ?_;rotate_left
 any_goals
  refine jI 4 ?_
  first
   |(have h0:b=[]:=by simp at hc0;exact hc0
     unfold readF;rw [if_pos h0];rfl)
   |(have h0:¬ b=[]:=by intro h;rw [h] at hlt;cases hlt
     have h1:hasF x=false:=by simpa using hc1
     unfold readF;rw [if_neg h0,hg0,if_pos h1];rfl)
   |(have h0:¬ b=[]:=by intro h;rw [h] at hlt;cases hlt
     have h1:¬ hasF x=false:=by simpa using hc1
     have h2:¬ (rightF (guessF b)=0∧writeF (guessF b)=b):=by
      rintro ⟨e1,e2⟩
      have e3:bytesF (guessF b)=b:=by unfold bytesF;rw [if_pos e1,e2]
      simp [e1,e3] at hc2
     unfold readF;rw [if_neg h0,hg0,if_neg h1,if_neg h2];rfl)
   |(have h0:¬ b=[]:=by intro h;rw [h] at hlt;cases hlt
     have h1:¬ hasF x=false:=by simpa using hc1
     have h2:rightF (guessF b)=0∧writeF (guessF b)=b:=by
      simp at hc2
      have e1:=hc2.1
      have e3:=hc2.2
      unfold bytesF at e3
      rw [if_pos e1] at e3
      exact ⟨e1,e3⟩
     unfold readF;rw [if_neg h0,hg0,if_neg h1,if_pos h2];rfl)
end Go.Proofs
namespace Go.Proofs
open Go.PM
set_option maxHeartbeats 2000000
theorem equal_bool {xs ys:List Bool} (nx:xs.length<140737488355328) {s:St}:ACalls Tryz.prog 119 [.sl .unk (xs.map PV.bool),.sl .unk (ys.map PV.bool)] s (fun r s'=>r=.bool (decide (xs=ys))∧s'=s):=by
 refine go Tryz.func119 (k:=fun hwf H=>?_)
 refine rs (k:=rg [0,1] (k:=rs (k:=rs (k:=rg [0,1,10] (k:=rc (ht:=fun hc0=>?_) (hf:=fun hc0=>?_))))))
 refine jO 1 ?_;rotate_left
 refine rk (k:=rs (k:=rs (k:=?_)))
 have hlen:xs.length=ys.length:=Y193
 refine rg [0,1,12,13] (k:=rb (k:=?_))
 refine Run.loop (fun e s'=>s'=s∧∃ i:Nat,e=[(0,.sl .unk (xs.map PV.bool)),(1,.sl .unk (ys.map PV.bool)),(12,.int .i64 xs.length),(13,.int .i64 i)]∧i≤xs.length∧xs.take i=ys.take i) (fun e s'=>xs.length-ivar e 13) ?_ ?_
 ·exact Y247
 rintro e s' ⟨hs,i,rfl,hi,hbe⟩
 subst s'
 refine rs (k:=rg [0,1,12,13,14] (k:=rs (k:=rc (ht:=fun hc1=>?_) (hf:=fun hc1=>?_))))
 refine rk (k:=rs (k:=rb (k:=rs (k:=?_))))
 have hil:i<xs.length:=Y79
 have hjl:i<ys.length:=Y21
 obtain ⟨x,hxe⟩:∃ z_,xs[i]'hil=z_:=⟨_,rfl⟩
 have hxx:(xs.map PV.bool)[i]? =some (.bool x):=Y140
 obtain ⟨y,hye⟩:∃ z_,ys[i]'hjl=z_:=⟨_,rfl⟩
 have hxy:(ys.map PV.bool)[i]? =some (.bool y):=by rw [map_get hjl,hye]
 have hw:IntKind.i64.wrap ((i:Int)+1)=((i+1:Nat):Int):=Y28
 have H:=aj hxx (aj hxy (aj hw H))
 refine rg [0,1,5,12,13] (k:=rs (k:=?_))
 refine Run.drawC [] [0,1,12,13,24] Tryz.mixed Y26 ?_
 refine DetC.all au ?_
 refine re (k:=rc (ht:=fun hc2=>?_) (hf:=fun hc2=>?_))
 refine jO 1 ?_;rotate_left
 ·exact Y29
 refine rX (k:=rs (k:=rg [4] (k:=rR (k:=rP (by simp only [Tryz.f119,go_sem];rfl) hwf ⟨?_,rfl⟩))))
 refine jO 2 ?_;rotate_left
 any_goals
  refine jI 1 ?_
  refine rs (k:=rg [4] (k:=rR (k:=rP (by simp only [Tryz.f119,go_sem];rfl) hwf ⟨?_,rfl⟩)))
  refine jO 2 ?_;rotate_left
 any_goals
  refine jI 2 ?_
  first
   |(have hne:xs≠ys:=by rintro rfl;simp at hc0
     rw [decide_eq_false hne];rfl)
   |(have hne:xs≠ys:=by
      rintro rfl
      rw [hxe] at hye
      subst hye
      simp at hc2
     rw [decide_eq_false hne];rfl)
   |(have hlen:xs.length=ys.length:=by simp at hc0;omega
     have:i=xs.length:=by have:=of_decide_eq_false hc1;omega
     rw [this,List.take_length,hlen,List.take_length] at hbe
     rw [decide_eq_true hbe];rfl)
theorem reply_within {n:Int} {s:St}:ACalls Tryz.prog 102 [.int .i64 n] s (fun r s'=>r=.bool (wordF n)∧s'=s):=by
 refine go Tryz.func102 (k:=fun hwf H=>?_)
 refine rs (k:=rg [0] (k:=rs (k:=rg [2] (k:=rR (k:=rP (by simp only [Tryz.f102,go_sem];rfl) hwf ⟨?_,rfl⟩)))))
 unfold wordF;by_cases h1:0≤n<;>by_cases h2:n≤65535<;>simp [h1,h2,PV.weak]
attribute [local go_sem] weaks_bools Rep.pv
set_option maxRecDepth 100000 in
theorem reply_Same {a b:Rep} (ha:a.ok) {s:St}:ACalls Tryz.prog 100 [a.pv,b.pv] s (fun r s'=>r=.bool (decide (a=b))∧s'=s):=by
 refine go Tryz.func100 (k:=fun hwf H=>?_)
 refine rs (k:=rg [2,3] (k:=rs (k:=rrA [some 5,some 6,some 7,some 8,some 9,some 10,some 11,some 12,some 13,some 14,some 15,some 16,some 17,some 18,some 19,some 20,some 21,some 22,some 23,some 24,some 25,some 26,some 27,some 28,some 29,some 30,some 31,some 32,some 33,some 34,some 35,some 36,some 37,some 38,some 39,some 40,some 41,some 42,some 43,some 44,some 45,some 46,some 47,some 48,some 49,some 50,some 51,some 52,some 53,some 54,some 55,some 56,some 57,some 58,some 59,some 60,some 61,some 62,some 63,some 64,some 65,some 66,some 67,some 68,some 69,some 70,some 71,some 72,some 4] (k:=fun ops hops=>?_))))
 have H:=aj hops H
 refine ro (pre:=[_,_,_,_,_,_,_,_,_,_,_,_,_,_,_,_,_,_,_,_,_,_,_,_,_,_,_,_,_,_,_,_,_,_,_,_,_,_,_,_,_,_,_,_,_,_,_,_,_,_,_,_]) (k:=rG (h:=fun hb=>equal_bool (xs:=a.bits) (ys:=b.bits) (by have:=ha.nb;omega)) (k:=ro (pre:=[_,_,_,_,_,_]) (k:=rG (h:=fun hb=>equal_u16 (xs:=a.vals) (ys:=b.vals) (by have:=ha.nv;omega)) (k:=?_))))
 refine ro (pre:=[_,_,_,_,_,_]) (k:=rG (h:=fun hb=>equal_u8 (xs:=a.data) (ys:=b.data) (by have:=ha.nd;omega)) (k:=rh [4] (k:=rR (k:=rP (by simp only [Tryz.f100,go_sem];rfl) hwf ⟨?_,rfl⟩))))
 simp only [PV.weak]
 congr 1
 rw [Bool.eq_iff_iff]
 simp only [Bool.and_eq_true,decide_eq_true_eq]
 constructor
 ·intro h
  cases a;cases b
  simp_all
 ·intro h
  subst h
  simp
theorem reply_Refuse {fn code:Int} (hf:I64 fn) (hc:I64 code) {s:St}:ACalls Tryz.prog 62 [.int .i64 fn,.int .i64 code] s (fun r s'=>r=(refuseP fn code).pv∧s'=s):=by
 refine go Tryz.func62 (k:=fun hwf H=>?_)
 have and127:ibits .and .i64 fn 127=fn%128:=ibits_and127 fn
 have and255:ibits .and .i64 code 255=code%256:=ibits_and255 code
 have H:=aj and127 (aj and255 H)
 have H:=aj and127 (aj and255 H)
 refine rs (k:=rg [0,1,4] (k:=rs (k:=rg [4] (k:=rR (k:=rP (by simp only [Tryz.f62,go_sem];rfl) hwf ⟨?_,rfl⟩)))))
 rfl
attribute [local go_sem] weaks_bools Req.pv
theorem Y321 {p:Prop} (h:p:=by exact Bool.noConfusion (hc3.symm.trans hc4)):p:=h
theorem Y322 {p:Prop} (h:p:=by simp only [Tryz.f109,go_sem];rfl):p:=h
set_option maxRecDepth 100000 in
theorem pdu_Counts {q:Req} {s:St}:ACalls Tryz.prog 109 [q.pv] s (fun r s'=>r=.bool (countF q)∧s'=s):=by
 refine go Tryz.func109 (k:=fun hwf H=>?_)
 refine rs (k:=rg [1] (k:=rs (k:=rs (k:=rr (k:=ro (pre:=[_]) (k:=rC (h:=pdu_Right (q:=q)) (k:=rh [1,6] (k:=rc (ht:=fun hc0=>?_) (hf:=fun hc0=>?_)))))))))
 refine jO 1 ?_;rotate_left
 refine rk (k:=rs (k:=rg [1] (k:=rs (k:=rs (k:=rg [1,8] (k:=rb (k:=rs (k:=rs (k:=rg [1,8,9] (k:=rc (ht:=fun hc1=>?_) (hf:=fun hc1=>?_)))))))))))
 refine rk (k:=rc (ht:=fun hc2=>?_) (hf:=fun hc2=>?_))
 refine jO 2 ?_;rotate_left
 ·exact Y197
 refine rg [1,8,9] (k:=rc (ht:=fun hc2=>?_) (hf:=fun hc2=>?_))
 refine jO 2 ?_;rotate_left
 refine rs (k:=rs (k:=rg [1,8,12] (k:=rc (ht:=fun hc3=>?_) (hf:=fun hc3=>?_))))
 refine rk (k:=rc (ht:=fun hc4=>?_) (hf:=fun hc4=>?_))
 refine jO 2 ?_;rotate_left
 ·exact Y321
 refine rg [1,8,12] (k:=rc (ht:=fun hc4=>?_) (hf:=fun hc4=>?_))
 refine jO 2 ?_;rotate_left
 refine rs (k:=rg [1,8,15] (k:=rc (ht:=fun hc5=>?_) (hf:=fun hc5=>?_)))
 refine jO 2 ?_;rotate_left
 refine rs (k:=rg [1,8,17] (k:=rc (ht:=fun hc6=>?_) (hf:=fun hc6=>?_)))
 refine jO 2 ?_;rotate_left
 refine rs (k:=rg [1,19] (k:=rc (ht:=fun hc7=>?_) (hf:=fun hc7=>?_)))
 refine rs (k:=rs (k:=rg [1,30] (k:=rc (ht:=fun hc8=>?_) (hf:=fun hc8=>?_))))
 refine jO 1 ?_;rotate_left
 refine rk (k:=rg [1,3] (k:=rB (k:=rs (k:=rg [2] (k:=rR (k:=rP Y322 hwf ⟨?_,rfl⟩))))))
 refine jO 3 ?_;rotate_left
 refine jO 1 ?_;rotate_left
 any_goals
  refine jI 2 ?_
  refine rg [1,3] (k:=rB (k:=rs (k:=rg [2] (k:=rR (k:=rP Y322 hwf ⟨?_,rfl⟩)))))
  refine jO 3 ?_;rotate_left
 any_goals
  refine jI 1 ?_
  refine rs (k:=rg [2] (k:=rR (k:=rP Y322 hwf ⟨?_,rfl⟩)))
  refine jO 3 ?_;rotate_left
 any_goals
  refine jI 3 ?_
  simp only [PV.weak]
  refine jO 4 ?_;rotate_left
 any_goals
  refine jI 4 ?_
  congr 1
  refine jO 5 ?_;rotate_left
 any_goals
  refine jI 5 ?_
  unfold countF
  refine jO 6 ?_;rotate_left
 any_goals
  refine jI 6 ?_
  simp only [Bool.not_eq_true',Bool.not_eq_false',Bool.or_eq_true,Bool.or_eq_false_iff,decide_eq_true_eq,decide_eq_false_iff_not] at *
  refine jO 7 ?_;rotate_left
 any_goals
  refine jI 7 ?_
  rw [Bool.eq_iff_iff]
  refine jO 8 ?_;rotate_left
 any_goals
  refine jI 8 ?_
  simp only [Bool.and_eq_true,decide_eq_true_eq,Bool.false_eq_true,false_iff,true_iff]
  refine jO 9 ?_;rotate_left
 any_goals
  refine jI 9 ?_
  first
   | omega
   |(simp only [*,Int.reduceEq,or_true,true_or,or_self,if_true,if_false,true_and,and_true,false_and,and_false,not_false_eq_true,ite_true,ite_false];first | done | omega)
   | skip
end Go.Proofs
namespace Go.Proofs
open Go.PM
set_option maxHeartbeats 2000000
attribute [local go_sem] set_set weaks_bools Rep.pv
set_option maxRecDepth 100000 in
theorem reply_has {r:Rep} {s:St}:ACalls Tryz.prog 101 [r.pv] s (fun v s'=>v=.tuple [(if hasF r.fn=true then hasP r else zeroP).pv,.bool (hasF r.fn)]∧s'=s):=by
 refine go Tryz.func101 (k:=fun hwf H=>?_)
 refine rs (k:=rg [1,2] (k:=rs (k:=rg [1,2] (k:=rs (k:=rs (k:=rg [1,2,8] (k:=rb (k:=rs (k:=rs (k:=rg [1,2,8,10] (k:=rc (ht:=fun hc0=>?_) (hf:=fun hc0=>?_))))))))))))
 refine rk (k:=rc (ht:=fun hc1=>?_) (hf:=fun hc1=>?_))
 refine jO 1 ?_;rotate_left
 ·exact Y315
 refine rg [1,2,8,10] (k:=rc (ht:=fun hc1=>?_) (hf:=fun hc1=>?_))
 refine jO 1 ?_;rotate_left
 refine rs (k:=rs (k:=rg [1,2,8,16] (k:=rc (ht:=fun hc2=>?_) (hf:=fun hc2=>?_))))
 refine rk (k:=rc (ht:=fun hc4=>?_) (hf:=fun hc4=>?_))
 refine jO 1 ?_;rotate_left
 ·exact Bool.noConfusion (hc2.symm.trans hc4)
 refine rs (k:=rg [1,2,8,16] (k:=rc (ht:=fun hc3=>?_) (hf:=fun hc3=>?_)))
 refine rk (k:=rc (ht:=fun hc4=>?_) (hf:=fun hc4=>?_))
 refine jO 1 ?_;rotate_left
 ·exact Y321
 refine rg [1,2,8,16] (k:=rc (ht:=fun hc4=>?_) (hf:=fun hc4=>?_))
 refine jO 1 ?_;rotate_left
 refine rs (k:=rg [1,2,8,23] (k:=rc (ht:=fun hc5=>?_) (hf:=fun hc5=>?_)))
 refine Run.drawM 8 [5,7] [((((s.new (.row 52 [.agg [.int .i64 r.fn,.int .i64 r.code,.int .i64 r.at_,.int .i64 r.count,.int .i64 r.sub,.sl .unk (r.bits.map PV.bool),.sl .unk (r.vals.map (PV.int .u16)),.int .u16 r.and_,.int .u16 r.or_,.sl .unk (r.data.map (PV.int .u8))]]))).new (.row 52 [.agg [.int .i64 0,.int .i64 0,.int .i64 0,.int .i64 0,.int .i64 0,.sl .nil [],.sl .nil [],.int .u16 0,.int .u16 0,.sl .nil []]])).set (s.nxt+1) (some (.row 52 [.agg [.int .i64 r.fn,.int .i64 0,.int .i64 0,.int .i64 0,.int .i64 0,.sl .nil [],.sl .nil [],.int .u16 0,.int .u16 0,.sl .nil []]]))),((((s.new (.row 52 [.agg [.int .i64 r.fn,.int .i64 r.code,.int .i64 r.at_,.int .i64 r.count,.int .i64 r.sub,.sl .unk (r.bits.map PV.bool),.sl .unk (r.vals.map (PV.int .u16)),.int .u16 r.and_,.int .u16 r.or_,.sl .unk (r.data.map (PV.int .u8))]]))).new (.row 52 [.agg [.int .i64 0,.int .i64 0,.int .i64 0,.int .i64 0,.int .i64 0,.sl .nil [],.sl .nil [],.int .u16 0,.int .u16 0,.sl .nil []]])).set (s.nxt+1) (some (.row 52 [.agg [.int .i64 r.fn,.int .i64 0,.int .i64 r.at_,.int .i64 0,.int .i64 0,.sl .nil [],.sl .nil [],.int .u16 0,.int .u16 0,.sl .nil []]]))),((((s.new (.row 52 [.agg [.int .i64 r.fn,.int .i64 r.code,.int .i64 r.at_,.int .i64 r.count,.int .i64 r.sub,.sl .unk (r.bits.map PV.bool),.sl .unk (r.vals.map (PV.int .u16)),.int .u16 r.and_,.int .u16 r.or_,.sl .unk (r.data.map (PV.int .u8))]]))).new (.row 52 [.agg [.int .i64 0,.int .i64 0,.int .i64 0,.int .i64 0,.int .i64 0,.sl .nil [],.sl .nil [],.int .u16 0,.int .u16 0,.sl .nil []]])).set (s.nxt+1) (some (.row 52 [.agg [.int .i64 r.fn,.int .i64 0,.int .i64 r.at_,.int .i64 0,.int .i64 0,.sl .unk (r.bits.map PV.bool),.sl .nil [],.int .u16 0,.int .u16 0,.sl .nil []]])))] Tryz.mixed Y26 Y26 ?_
 refine jO 2 ?_;rotate_left
 refine rs (k:=rg [1,2,8,31] (k:=rc (ht:=fun hc6=>?_) (hf:=fun hc6=>?_)))
 refine Run.drawM 8 [5,7] [((((s.new (.row 52 [.agg [.int .i64 r.fn,.int .i64 r.code,.int .i64 r.at_,.int .i64 r.count,.int .i64 r.sub,.sl .unk (r.bits.map PV.bool),.sl .unk (r.vals.map (PV.int .u16)),.int .u16 r.and_,.int .u16 r.or_,.sl .unk (r.data.map (PV.int .u8))]]))).new (.row 52 [.agg [.int .i64 0,.int .i64 0,.int .i64 0,.int .i64 0,.int .i64 0,.sl .nil [],.sl .nil [],.int .u16 0,.int .u16 0,.sl .nil []]])).set (s.nxt+1) (some (.row 52 [.agg [.int .i64 r.fn,.int .i64 0,.int .i64 0,.int .i64 0,.int .i64 0,.sl .nil [],.sl .nil [],.int .u16 0,.int .u16 0,.sl .nil []]]))),((((s.new (.row 52 [.agg [.int .i64 r.fn,.int .i64 r.code,.int .i64 r.at_,.int .i64 r.count,.int .i64 r.sub,.sl .unk (r.bits.map PV.bool),.sl .unk (r.vals.map (PV.int .u16)),.int .u16 r.and_,.int .u16 r.or_,.sl .unk (r.data.map (PV.int .u8))]]))).new (.row 52 [.agg [.int .i64 0,.int .i64 0,.int .i64 0,.int .i64 0,.int .i64 0,.sl .nil [],.sl .nil [],.int .u16 0,.int .u16 0,.sl .nil []]])).set (s.nxt+1) (some (.row 52 [.agg [.int .i64 r.fn,.int .i64 0,.int .i64 r.at_,.int .i64 0,.int .i64 0,.sl .nil [],.sl .nil [],.int .u16 0,.int .u16 0,.sl .nil []]]))),((((s.new (.row 52 [.agg [.int .i64 r.fn,.int .i64 r.code,.int .i64 r.at_,.int .i64 r.count,.int .i64 r.sub,.sl .unk (r.bits.map PV.bool),.sl .unk (r.vals.map (PV.int .u16)),.int .u16 r.and_,.int .u16 r.or_,.sl .unk (r.data.map (PV.int .u8))]]))).new (.row 52 [.agg [.int .i64 0,.int .i64 0,.int .i64 0,.int .i64 0,.int .i64 0,.sl .nil [],.sl .nil [],.int .u16 0,.int .u16 0,.sl .nil []]])).set (s.nxt+1) (some (.row 52 [.agg [.int .i64 r.fn,.int .i64 0,.int .i64 r.at_,.int .i64 0,.int .i64 0,.sl .nil [],.sl .unk (r.vals.map (PV.int .u16)),.int .u16 0,.int .u16 0,.sl .nil []]])))] Tryz.mixed Y26 Y26 ?_
 refine jO 2 ?_;rotate_left
 refine rs (k:=rg [1,2,8,39] (k:=rc (ht:=fun hc7=>?_) (hf:=fun hc7=>?_)))
 refine Run.drawM 8 [5,7] [((((s.new (.row 52 [.agg [.int .i64 r.fn,.int .i64 r.code,.int .i64 r.at_,.int .i64 r.count,.int .i64 r.sub,.sl .unk (r.bits.map PV.bool),.sl .unk (r.vals.map (PV.int .u16)),.int .u16 r.and_,.int .u16 r.or_,.sl .unk (r.data.map (PV.int .u8))]]))).new (.row 52 [.agg [.int .i64 0,.int .i64 0,.int .i64 0,.int .i64 0,.int .i64 0,.sl .nil [],.sl .nil [],.int .u16 0,.int .u16 0,.sl .nil []]])).set (s.nxt+1) (some (.row 52 [.agg [.int .i64 r.fn,.int .i64 0,.int .i64 0,.int .i64 0,.int .i64 0,.sl .nil [],.sl .nil [],.int .u16 0,.int .u16 0,.sl .nil []]]))),((((s.new (.row 52 [.agg [.int .i64 r.fn,.int .i64 r.code,.int .i64 r.at_,.int .i64 r.count,.int .i64 r.sub,.sl .unk (r.bits.map PV.bool),.sl .unk (r.vals.map (PV.int .u16)),.int .u16 r.and_,.int .u16 r.or_,.sl .unk (r.data.map (PV.int .u8))]]))).new (.row 52 [.agg [.int .i64 0,.int .i64 0,.int .i64 0,.int .i64 0,.int .i64 0,.sl .nil [],.sl .nil [],.int .u16 0,.int .u16 0,.sl .nil []]])).set (s.nxt+1) (some (.row 52 [.agg [.int .i64 r.fn,.int .i64 0,.int .i64 0,.int .i64 0,.int .i64 r.sub,.sl .nil [],.sl .nil [],.int .u16 0,.int .u16 0,.sl .nil []]]))),((((s.new (.row 52 [.agg [.int .i64 r.fn,.int .i64 r.code,.int .i64 r.at_,.int .i64 r.count,.int .i64 r.sub,.sl .unk (r.bits.map PV.bool),.sl .unk (r.vals.map (PV.int .u16)),.int .u16 r.and_,.int .u16 r.or_,.sl .unk (r.data.map (PV.int .u8))]]))).new (.row 52 [.agg [.int .i64 0,.int .i64 0,.int .i64 0,.int .i64 0,.int .i64 0,.sl .nil [],.sl .nil [],.int .u16 0,.int .u16 0,.sl .nil []]])).set (s.nxt+1) (some (.row 52 [.agg [.int .i64 r.fn,.int .i64 0,.int .i64 0,.int .i64 0,.int .i64 r.sub,.sl .nil [],.sl .unk (r.vals.map (PV.int .u16)),.int .u16 0,.int .u16 0,.sl .nil []]])))] Tryz.mixed Y26 Y26 ?_
 refine jO 2 ?_;rotate_left
 refine rs (k:=rs (k:=rg [1,2,8,47] (k:=rc (ht:=fun hc8=>?_) (hf:=fun hc8=>?_))))
 refine rk (k:=rc (ht:=fun hc9=>?_) (hf:=fun hc9=>?_))
 refine jO 3 ?_;rotate_left
 ·exact Bool.noConfusion (hc8.symm.trans hc9)
 refine rg [1,2,8,47] (k:=rc (ht:=fun hc9=>?_) (hf:=fun hc9=>?_))
 refine jO 3 ?_;rotate_left
 refine rs (k:=rg [1,2,8,56] (k:=rc (ht:=fun hc10=>?_) (hf:=fun hc10=>?_)))
 refine Run.drawM 12 [7,9,11] [((((s.new (.row 52 [.agg [.int .i64 r.fn,.int .i64 r.code,.int .i64 r.at_,.int .i64 r.count,.int .i64 r.sub,.sl .unk (r.bits.map PV.bool),.sl .unk (r.vals.map (PV.int .u16)),.int .u16 r.and_,.int .u16 r.or_,.sl .unk (r.data.map (PV.int .u8))]]))).new (.row 52 [.agg [.int .i64 0,.int .i64 0,.int .i64 0,.int .i64 0,.int .i64 0,.sl .nil [],.sl .nil [],.int .u16 0,.int .u16 0,.sl .nil []]])).set (s.nxt+1) (some (.row 52 [.agg [.int .i64 r.fn,.int .i64 0,.int .i64 0,.int .i64 0,.int .i64 0,.sl .nil [],.sl .nil [],.int .u16 0,.int .u16 0,.sl .nil []]]))),((((s.new (.row 52 [.agg [.int .i64 r.fn,.int .i64 r.code,.int .i64 r.at_,.int .i64 r.count,.int .i64 r.sub,.sl .unk (r.bits.map PV.bool),.sl .unk (r.vals.map (PV.int .u16)),.int .u16 r.and_,.int .u16 r.or_,.sl .unk (r.data.map (PV.int .u8))]]))).new (.row 52 [.agg [.int .i64 0,.int .i64 0,.int .i64 0,.int .i64 0,.int .i64 0,.sl .nil [],.sl .nil [],.int .u16 0,.int .u16 0,.sl .nil []]])).set (s.nxt+1) (some (.row 52 [.agg [.int .i64 r.fn,.int .i64 0,.int .i64 r.at_,.int .i64 0,.int .i64 0,.sl .nil [],.sl .nil [],.int .u16 0,.int .u16 0,.sl .nil []]]))),((((s.new (.row 52 [.agg [.int .i64 r.fn,.int .i64 r.code,.int .i64 r.at_,.int .i64 r.count,.int .i64 r.sub,.sl .unk (r.bits.map PV.bool),.sl .unk (r.vals.map (PV.int .u16)),.int .u16 r.and_,.int .u16 r.or_,.sl .unk (r.data.map (PV.int .u8))]]))).new (.row 52 [.agg [.int .i64 0,.int .i64 0,.int .i64 0,.int .i64 0,.int .i64 0,.sl .nil [],.sl .nil [],.int .u16 0,.int .u16 0,.sl .nil []]])).set (s.nxt+1) (some (.row 52 [.agg [.int .i64 r.fn,.int .i64 0,.int .i64 r.at_,.int .i64 0,.int .i64 0,.sl .nil [],.sl .nil [],.int .u16 r.and_,.int .u16 0,.sl .nil []]]))),((((s.new (.row 52 [.agg [.int .i64 r.fn,.int .i64 r.code,.int .i64 r.at_,.int .i64 r.count,.int .i64 r.sub,.sl .unk (r.bits.map PV.bool),.sl .unk (r.vals.map (PV.int .u16)),.int .u16 r.and_,.int .u16 r.or_,.sl .unk (r.data.map (PV.int .u8))]]))).new (.row 52 [.agg [.int .i64 0,.int .i64 0,.int .i64 0,.int .i64 0,.int .i64 0,.sl .nil [],.sl .nil [],.int .u16 0,.int .u16 0,.sl .nil []]])).set (s.nxt+1) (some (.row 52 [.agg [.int .i64 r.fn,.int .i64 0,.int .i64 r.at_,.int .i64 0,.int .i64 0,.sl .nil [],.sl .nil [],.int .u16 r.and_,.int .u16 r.or_,.sl .nil []]])))] Tryz.mixed Y26 Y26 ?_
 refine DetBC.pre (pre:=[_,_,_,_,_,_,_]) Y22 List.mem_cons_self au ?_
 refine DetBC.eff Y22 List.mem_cons_self au au ?_
 refine DetBC.pre (pre:=[_]) Y22 (List.mem_cons_of_mem _ List.mem_cons_self) au ?_
 refine DetBC.eff Y22 (List.mem_cons_of_mem _ List.mem_cons_self) au au ?_
 refine DetBC.pre (pre:=[_]) Y22 (List.mem_cons_of_mem _ (List.mem_cons_of_mem _ List.mem_cons_self)) au ?_
 refine DetBC.eff Y22 (List.mem_cons_of_mem _ (List.mem_cons_of_mem _ List.mem_cons_self)) au au ?_
 refine DetBC.nil (List.mem_cons_of_mem _ (List.mem_cons_of_mem _ (List.mem_cons_of_mem _ List.mem_cons_self))) ?_
 refine jO 4 ?_;rotate_left
 refine rs (k:=rg [1,2,67] (k:=rc (ht:=fun hc11=>?_) (hf:=fun hc11=>?_)))
 refine jO 1 ?_;rotate_left
 refine rs (k:=rg [2,3] (k:=rR (k:=?_)))
 refine jO 5 ?_;rotate_left
 any_goals
  refine jI 3 ?_
  refine Run.drawM 8 [5,7] [((((s.new (.row 52 [.agg [.int .i64 r.fn,.int .i64 r.code,.int .i64 r.at_,.int .i64 r.count,.int .i64 r.sub,.sl .unk (r.bits.map PV.bool),.sl .unk (r.vals.map (PV.int .u16)),.int .u16 r.and_,.int .u16 r.or_,.sl .unk (r.data.map (PV.int .u8))]]))).new (.row 52 [.agg [.int .i64 0,.int .i64 0,.int .i64 0,.int .i64 0,.int .i64 0,.sl .nil [],.sl .nil [],.int .u16 0,.int .u16 0,.sl .nil []]])).set (s.nxt+1) (some (.row 52 [.agg [.int .i64 r.fn,.int .i64 0,.int .i64 0,.int .i64 0,.int .i64 0,.sl .nil [],.sl .nil [],.int .u16 0,.int .u16 0,.sl .nil []]]))),((((s.new (.row 52 [.agg [.int .i64 r.fn,.int .i64 r.code,.int .i64 r.at_,.int .i64 r.count,.int .i64 r.sub,.sl .unk (r.bits.map PV.bool),.sl .unk (r.vals.map (PV.int .u16)),.int .u16 r.and_,.int .u16 r.or_,.sl .unk (r.data.map (PV.int .u8))]]))).new (.row 52 [.agg [.int .i64 0,.int .i64 0,.int .i64 0,.int .i64 0,.int .i64 0,.sl .nil [],.sl .nil [],.int .u16 0,.int .u16 0,.sl .nil []]])).set (s.nxt+1) (some (.row 52 [.agg [.int .i64 r.fn,.int .i64 0,.int .i64 r.at_,.int .i64 0,.int .i64 0,.sl .nil [],.sl .nil [],.int .u16 0,.int .u16 0,.sl .nil []]]))),((((s.new (.row 52 [.agg [.int .i64 r.fn,.int .i64 r.code,.int .i64 r.at_,.int .i64 r.count,.int .i64 r.sub,.sl .unk (r.bits.map PV.bool),.sl .unk (r.vals.map (PV.int .u16)),.int .u16 r.and_,.int .u16 r.or_,.sl .unk (r.data.map (PV.int .u8))]]))).new (.row 52 [.agg [.int .i64 0,.int .i64 0,.int .i64 0,.int .i64 0,.int .i64 0,.sl .nil [],.sl .nil [],.int .u16 0,.int .u16 0,.sl .nil []]])).set (s.nxt+1) (some (.row 52 [.agg [.int .i64 r.fn,.int .i64 0,.int .i64 r.at_,.int .i64 r.count,.int .i64 0,.sl .nil [],.sl .nil [],.int .u16 0,.int .u16 0,.sl .nil []]])))] Tryz.mixed Y26 Y26 ?_
  refine jO 2 ?_;rotate_left
 any_goals
  refine jI 2 ?_
  refine DetBC.pre (pre:=[_,_,_,_,_]) Y22 List.mem_cons_self au ?_
  refine jO 6 ?_;rotate_left
 any_goals
  refine jI 6 ?_
  refine DetBC.eff Y22 List.mem_cons_self au au ?_
  refine jO 7 ?_;rotate_left
 any_goals
  refine jI 7 ?_
  refine DetBC.pre (pre:=[_]) Y22 (List.mem_cons_of_mem _ List.mem_cons_self) au ?_
  refine jO 8 ?_;rotate_left
 any_goals
  refine jI 8 ?_
  refine DetBC.eff Y22 (List.mem_cons_of_mem _ List.mem_cons_self) au au ?_
  refine jO 9 ?_;rotate_left
 any_goals
  refine jI 9 ?_
  refine DetBC.nil (List.mem_cons_of_mem _ (List.mem_cons_of_mem _ List.mem_cons_self)) ?_
  refine jO 4 ?_;rotate_left
 any_goals
  refine jI 1 ?_
  refine rg [2] (k:=rB (k:=rs (k:=rg [2,3] (k:=rR (k:=?_)))))
  refine jO 5 ?_;rotate_left
 any_goals
  refine jI 4 ?_
  refine rl [2] (k:=rB (k:=rs (k:=rg [2,3] (k:=rR (k:=?_)))))
  refine jO 5 ?_;rotate_left
 any_goals
  refine jI 5 ?_
  refine Ret.pure (r':=.tuple [(if hasF r.fn=true then hasP r else zeroP).pv,.bool (hasF r.fn)]) (by simp only [Tryz.f101,go_sem,↓reduceIte]<;>rfl) ?_ (by simp only [PV.blw,PV.blws,and_true];exact blw_rep _ _) hwf Y36 ⟨rfl,rfl⟩
  refine jO 10 ?_;rotate_left
 any_goals
  refine jI 10 ?_
  simp only [PV.weak,PV.weaks,weaks_u16,weaks_bools,weaks_u8]
  refine jO 11 ?_;rotate_left
 any_goals
  refine jI 11 ?_
  clear H hwf
  refine jO 12 ?_;rotate_left
 any_goals
  refine jI 12 ?_
  simp only [decide_eq_true_eq,decide_eq_false_iff_not] at *
  refine jO 13 ?_;rotate_left
 any_goals
  refine jI 13 ?_
  have hhas:hasF r.fn=decide (1≤r.fn∧r.fn≤6∨r.fn=8∨r.fn=15∨r.fn=16∨r.fn=17∨r.fn=22∨r.fn=23):=rfl
  refine jO 14 ?_;rotate_left
 any_goals
  refine jI 14 ?_
  first
   |(have e:hasF r.fn=true:=by rw [hhas];exact decide_eq_true Y21
     rw [e]
     clear hhas e
     simp only [hasP,if_true]
     simp [Rep.pv, *];done)
   |(have e:hasF r.fn=false:=by rw [hhas];exact decide_eq_false Y21
     rw [e];rfl)
   | skip
end Go.Proofs
namespace Go.Proofs
open Go.PM
set_option maxHeartbeats 2000000
attribute [local go_sem] weaks_bools Rep.pv
theorem Y200 {p:Prop} (h:p:=by exact .inr (.inr (.inr (.inr (.inr (.inr (.inr (.inl Y21)))))))):p:=h
theorem Y253 {p:Prop} (h:p:=by exact .inr (.inr (.inr (.inr (.inr (.inr (.inl Y21))))))):p:=h
theorem Y254 {p:Prop} (h:p:=by exact .inr (.inr (.inr (.inr (.inl ⟨h.1,Y21⟩))))):p:=h
theorem Y323 {p:Prop} (h:p:=by simp only [Tryz.f68,go_sem];rfl):p:=h
theorem Y37 {p:Prop} (h:p:=by
 refine rs (k:=rg [2] (k:=rR (k:=rP Y323 hwf ⟨?_,rfl⟩)))
 refine congrArg (PV.int .i64) ?_
 simp only [Bool.not_eq_true',Bool.not_eq_false',Bool.or_eq_true,Bool.or_eq_false_iff,Bool.and_eq_true,Bool.and_eq_false_iff,decide_eq_true_eq,decide_eq_false_iff_not] at *
 first
  |(unfold goodF;rw [if_pos hc0,if_neg];intro h;obtain ⟨h1,h2,h3,h4,h5⟩:=h;rcases hc1 with (((h | h) | h) | h) | h<;>first | omega | exact h h5)
  |(unfold goodF;rw [if_pos hc0,if_pos];exact ⟨Y21,Y21,Y21,Y21,by simpa using hc1.2⟩)
  |(have e0:¬ ¬ r.code=0:=by simpa using hc0
    unfold goodF;rw [if_neg e0,if_pos hc2];done)
  |(have e0:¬ ¬ r.code=0:=by simpa using hc0
    have hXe:X=hasP r:=by rw [hX,if_pos hc2]
    unfold goodF;rw [if_neg e0,if_neg (by rw [hc2];decide),← hXe]
    first
    |(rw [if_neg]
      rintro (h | h | h | h | h | h | h | h | h)
      ·exact h hc3.1.1.1
      ·rw [hc3.1.1.2] at h;cases h
      ·rw [hc3.1.2] at h;cases h
      ·rw [hc3.2] at h;cases h
      all_goals omega)
    |(rw [if_pos]
      rcases hc5 with (h | h) | h
      ·exact Y253
      ·exact Y200
      ·exact .inr (.inr (.inr (.inr (.inr (.inr (.inr (.inr Y21))))))))
    |(rw [if_pos]
      rcases hc4 with h | h
      ·exact Y254
      ·exact .inr (.inr (.inr (.inr (.inr (.inl ⟨h.1,Y21⟩))))))
    |(rw [if_pos]
      rcases hc3 with ((h | h) | h) | h
      ·exact .inl h
      ·exact .inr (.inl h)
      ·exact .inr (.inr (.inl h))
      ·exact .inr (.inr (.inr (.inl h)))))
  | skip):p:=h
set_option maxRecDepth 100000 in
theorem reply_Right {r:Rep} (hr:r.ok) {s:St}:ACalls Tryz.prog 68 [r.pv] s (fun v s'=>v=.int .i64 (goodF r)∧s'=s):=by
 refine go Tryz.func68 (k:=fun hwf H=>?_)
 obtain ⟨X,hX⟩:∃ X,X=(if hasF r.fn=true then hasP r else zeroP):=⟨_,rfl⟩
 refine rs (k:=rg [1] (k:=rs (k:=rs (k:=rg [1,7] (k:=rc (ht:=fun hc0=>?_) (hf:=fun hc0=>?_))))))
 ·refine rs (k:=rs (k:=rr (k:=ro (pre:=[_,_,_,_,_,_,_,_,_,_,_,_,_,_,_,_,_,_,_,_,_,_,_,_,_]) (k:=rG (h:=fun hb=>reply_Same (a:=r) (b:=⟨r.fn,r.code,0,0,0,[],[],0,0,[]⟩) hr) (k:=rh [35] (k:=rc (ht:=fun hc1=>?_) (hf:=fun hc1=>?_)))))))
  ·exact Y37
  ·refine rk (k:=rs (k:=rg [2] (k:=rR (k:=rP Y323 hwf ⟨?_,rfl⟩))))
   refine congrArg (PV.int .i64) ?_
   simp only [Bool.not_eq_true',Bool.not_eq_false',Bool.or_eq_true,Bool.or_eq_false_iff,Bool.and_eq_true,Bool.and_eq_false_iff,decide_eq_true_eq,decide_eq_false_iff_not] at *
   first
    |(unfold goodF;rw [if_pos hc0,if_neg];intro h;obtain ⟨h1,h2,h3,h4,h5⟩:=h;rcases hc1 with (((h | h) | h) | h) | h<;>first | omega | exact h h5)
    |(unfold goodF;rw [if_pos hc0,if_pos];exact ⟨Y21,Y21,Y21,Y21,by simpa using hc1.2⟩)
    |(have e0:¬ ¬ r.code=0:=by simpa using hc0
      unfold goodF;rw [if_neg e0,if_pos hc2];done)
    |(have e0:¬ ¬ r.code=0:=by simpa using hc0
      have hXe:X=hasP r:=by rw [hX,if_pos hc2]
      unfold goodF;rw [if_neg e0,if_neg (by rw [hc2];decide),← hXe]
      first
      |(rw [if_neg]
        rintro (h | h | h | h | h | h | h | h | h)
        ·exact h hc3.1.1.1
        ·rw [hc3.1.1.2] at h;cases h
        ·rw [hc3.1.2] at h;cases h
        ·rw [hc3.2] at h;cases h
        all_goals omega)
      |(rw [if_pos]
        rcases hc5 with (h | h) | h
        ·exact Y253
        ·exact Y200
        ·exact .inr (.inr (.inr (.inr (.inr (.inr (.inr (.inr Y21))))))))
      |(rw [if_pos]
        rcases hc4 with h | h
        ·exact Y254
        ·exact .inr (.inr (.inr (.inr (.inr (.inl ⟨h.1,Y21⟩))))))
      |(rw [if_pos]
        rcases hc3 with ((h | h) | h) | h
        ·exact .inl h
        ·exact .inr (.inl h)
        ·exact .inr (.inr (.inl h))
        ·exact .inr (.inr (.inr (.inl h)))))
    | skip
 ·refine rk (k:=rs (k:=rr (k:=ro (pre:=[_]) (k:=rC (h:=(by rw [hX];exact reply_has (r:=r):ACalls Tryz.prog 101 [r.pv] _ (fun v s'=>v=.tuple [X.pv,.bool (hasF r.fn)]∧s'=_))) (k:=rh [1,3,4] (k:=rs (k:=rb (k:=rs (k:=rg [1,3,41] (k:=rc (ht:=fun hc2=>?_) (hf:=fun hc2=>?_)))))))))))
  ·exact Y37
  ·refine rs (k:=rr (k:=ro (pre:=[_,_]) (k:=rC (h:=reply_Same (a:=r) (b:=X) hr) (k:=ro (pre:=[_,_,_,_]) (k:=rG (h:=fun hb=>reply_within) (k:=ro (pre:=[_,_,_,_,_]) (k:=rG (h:=fun hb=>reply_within) (k:=ro (pre:=[_,_,_,_,_]) (k:=rG (h:=fun hb=>reply_within) (k:=rh [1,44] (k:=rc (ht:=fun hc3=>?_) (hf:=fun hc3=>?_))))))))))))
   ·exact Y37
   ·refine rs (k:=rg [1,67] (k:=rc (ht:=fun hc4=>?_) (hf:=fun hc4=>?_)))
    ·exact Y37
    ·refine rs (k:=rg [93] (k:=rc (ht:=fun hc5=>?_) (hf:=fun hc5=>?_)))
     ·exact Y37
     ·refine rk (k:=rB (k:=rs (k:=rg [2] (k:=rR (k:=rP Y323 hwf ⟨?_,rfl⟩)))))
      refine congrArg (PV.int .i64) ?_
      simp only [Bool.not_eq_true',Bool.not_eq_false',Bool.or_eq_true,Bool.or_eq_false_iff,Bool.and_eq_true,Bool.and_eq_false_iff,decide_eq_true_eq,decide_eq_false_iff_not] at *
      first
       |(unfold goodF;rw [if_pos hc0,if_neg];intro h;obtain ⟨h1,h2,h3,h4,h5⟩:=h;rcases hc1 with (((h | h) | h) | h) | h<;>first | omega | exact h h5)
       |(unfold goodF;rw [if_pos hc0,if_pos];exact ⟨Y21,Y21,Y21,Y21,by simpa using hc1.2⟩)
       |(have e0:¬ ¬ r.code=0:=by simpa using hc0
         unfold goodF;rw [if_neg e0,if_pos hc2];done)
       |(have e0:¬ ¬ r.code=0:=by simpa using hc0
         have hXe:X=hasP r:=by rw [hX,if_pos hc2]
         unfold goodF;rw [if_neg e0,if_neg (by rw [hc2];decide),← hXe]
         first
         |(rw [if_neg]
           rintro (h | h | h | h | h | h | h | h | h)
           ·exact h hc3.1.1.1
           ·rw [hc3.1.1.2] at h;cases h
           ·rw [hc3.1.2] at h;cases h
           ·rw [hc3.2] at h;cases h
           all_goals omega)
         |(rw [if_pos]
           rcases hc5 with (h | h) | h
           ·exact Y253
           ·exact Y200
           ·exact .inr (.inr (.inr (.inr (.inr (.inr (.inr (.inr Y21))))))))
         |(rw [if_pos]
           rcases hc4 with h | h
           ·exact Y254
           ·exact .inr (.inr (.inr (.inr (.inr (.inl ⟨h.1,Y21⟩))))))
         |(rw [if_pos]
           rcases hc3 with ((h | h) | h) | h
           ·exact .inl h
           ·exact .inr (.inl h)
           ·exact .inr (.inr (.inl h))
           ·exact .inr (.inr (.inr (.inl h)))))
       | skip
attribute [local go_sem] weaks_bools Rep.pv
theorem Y255 {p:Prop} (h:p:=by first | exact .inl (of_decide_eq_true hc9) | exact .inr (of_decide_eq_true hc10)):p:=h
set_option maxRecDepth 100000 in
theorem reply_Bytes {r:Rep} (hr:r.ok) {s:St}:ACalls Tryz.prog 33 [r.pv] s (fun v s'=>v=.tuple [.sl .unk ((repF r).map (PV.int .u8)),.int .i64 (goodF r)]∧s'=s):=by
 refine go Tryz.func33 (k:=fun hwf H=>?_)
 refine rs (k:=rg [1] (k:=rs (k:=rs (k:=rr (k:=ro (pre:=[_]) (k:=rC (h:=reply_Right hr) (k:=rh [1,4] (k:=rs (k:=rg [1,4,10] (k:=rc (ht:=fun hc0=>?_) (hf:=fun hc0=>?_)))))))))))
 refine rs (k:=rg [2,3] (k:=rR (k:=?_)))
 refine jO 1 ?_;rotate_left
 refine rk (k:=rs (k:=rs (k:=?_)))
 have hr0:goodF r=0:=Y86
 have hu8c:IntKind.u8.wrap r.code=r.code∨r.code=0:=by
  by_cases hcz:r.code=0
  ·exact .inr hcz
  ·have:=goodC hr0 hcz
   left;rw [u8_wrap];omega
 have hfr:0≤r.fn∧r.fn≤127:=by
  by_cases hcz:r.code=0
  ·have:=(good0 hr0 hcz).has
   have:=has_cases this
   omega
  ·have:=goodC hr0 hcz
   omega
 have hor:ibits .or .i64 r.fn 128=r.fn+128:=ibits_or128 Y21
 have hu8:IntKind.u8.wrap r.fn=r.fn:=Y147
 have hu8r:IntKind.u8.wrap (r.fn+128)=r.fn+128:=Y147
 have H:=aj hor (aj hu8 (aj hu8r H))
 refine rg [1,14] (k:=rc (ht:=fun hc1=>?_) (hf:=fun hc1=>?_))
 refine rs (k:=?_)
 have hcz:¬ r.code=0:=by simpa using hc1
 have hu8d:IntKind.u8.wrap r.code=r.code:=by rcases hu8c with h | h;exact h;exact absurd h hcz
 have H:=aj hu8d H
 refine rr (k:=ro (pre:=[_,_,_,_,_,_,_]) (k:=rO (k:=rh [2,3] (k:=rR (k:=?_)))))
 refine jO 1 ?_;rotate_left
 refine rk (k:=rs (k:=?_))
 have hcz:r.code=0:=by simpa using hc1
 have hG:=good0 hr0 hcz
 have hfn:=has_cases hG.has
 have hmv:=hG.mv
 have hmb:=hG.mb
 have hmd:=hG.md
 have hpl:=packB_len r.bits
 obtain ⟨V,hV⟩:∃ V,V=r.vals.flatMap num2:=⟨_,rfl⟩
 have hvl:V.length=2*r.vals.length:=by rw [hV];exact flat2_len _
 obtain ⟨L1,hL1⟩:∃ L,L=[r.fn]++num2 r.at_:=⟨_,rfl⟩
 obtain ⟨L2,hL2⟩:∃ L,L=L1++num2 r.count:=⟨_,rfl⟩
 obtain ⟨L5,hL5⟩:∃ L,L=[r.fn]++num2 r.sub:=⟨_,rfl⟩
 obtain ⟨L6,hL6⟩:∃ L,L=L1++num2 r.and_:=⟨_,rfl⟩
 obtain ⟨L7,hL7⟩:∃ L,L=L6++num2 r.or_:=⟨_,rfl⟩
 obtain ⟨La,hLa⟩:∃ L,L=L1++num2 65280:=⟨_,rfl⟩
 obtain ⟨Lb,hLb⟩:∃ L,L=L1++num2 0:=⟨_,rfl⟩
 obtain ⟨X6,hX6⟩:∃ L,L=L1++V:=⟨_,rfl⟩
 obtain ⟨X8,hX8⟩:∃ L,L=L5++V:=⟨_,rfl⟩
 obtain ⟨C,hC⟩:∃ C,C=r.fn::(V.length:Int)::V:=⟨_,rfl⟩
 obtain ⟨B,hB⟩:∃ B,B=r.fn::((packB r.bits).length:Int)::packB r.bits:=⟨_,rfl⟩
 obtain ⟨D,hD⟩:∃ D,D=r.fn::(r.data.length:Int)::r.data:=⟨_,rfl⟩
 have hll1:L1.length=3:=by rw [hL1];simp [num2]
 have hll2:L2.length=5:=by rw [hL2];simp [num2,hll1]
 have hll5:L5.length=3:=by rw [hL5];simp [num2]
 have hll6:L6.length=5:=by rw [hL6];simp [num2,hll1]
 have h16a:IntKind.i64.wrap r.and_=r.and_:=wrap_i64 (by have:=hr.and_;unfold U16 at this;omega)
 have h16o:IntKind.i64.wrap r.or_=r.or_:=wrap_i64 (by have:=hr.or_;unfold U16 at this;omega)
 have H:=aj h16a (aj h16o H)
 refine rr (k:=ro (pre:=[_,_,_]) (k:=rO (k:=rh [1,5] (k:=rs (k:=rs (k:=rg [1,5,28] (k:=rb (k:=rs (k:=rs (k:=rg [1,5,28,29] (k:=rc (ht:=fun hc2=>?_) (hf:=fun hc2=>?_))))))))))))
 refine rk (k:=rc (ht:=fun hc3=>?_) (hf:=fun hc3=>?_))
 refine jO 2 ?_;rotate_left
 ·exact Y146
 refine rg [1,5,28,29] (k:=rc (ht:=fun hc3=>?_) (hf:=fun hc3=>?_))
 refine jO 2 ?_;rotate_left
 refine rs (k:=rs (k:=rg [1,5,28,38] (k:=rc (ht:=fun hc4=>?_) (hf:=fun hc4=>?_))))
 refine rk (k:=rc (ht:=fun hc6=>?_) (hf:=fun hc6=>?_))
 refine jO 3 ?_;rotate_left
 ·exact Bool.noConfusion (hc4.symm.trans hc6)
 refine rs (k:=rg [1,5,28,38] (k:=rc (ht:=fun hc5=>?_) (hf:=fun hc5=>?_)))
 refine rk (k:=rc (ht:=fun hc6=>?_) (hf:=fun hc6=>?_))
 refine jO 3 ?_;rotate_left
 ·exact Bool.noConfusion (hc5.symm.trans hc6)
 refine rg [1,5,28,38] (k:=rc (ht:=fun hc6=>?_) (hf:=fun hc6=>?_))
 refine jO 3 ?_;rotate_left
 refine rs (k:=rg [1,5,28,48] (k:=rc (ht:=fun hc7=>?_) (hf:=fun hc7=>?_)))
 refine rs (k:=rg [1,5,6] (k:=rs (k:=rs (k:=?_))))
 have h5:r.fn=5:=by simpa using hc7
 obtain ⟨b,hb⟩:∃ b,r.bits=[b]:=List.length_eq_one_iff.1 (hG.b5 h5)
 have hb2:(r.bits.map PV.bool)[0]? =some (.bool b):=by rw [hb];rfl
 have hb3:(0<r.bits.length)=True:=by rw [hb];simp
 have H:=aj hb2 (aj hb3 H)
 refine rg [1,5,6,53] (k:=rc (ht:=fun hc8=>?_) (hf:=fun hc8=>?_))
 refine rg [1,5,6] (k:=rr (k:=ro (pre:=[_,_,_]) (k:=rC (h:=octet_PutL (l:=[r.fn]) hL1 Y23) (k:=ro (pre:=[_]) (k:=?_)))))
 refine jO 4 ?_;rotate_left
 refine rk (k:=rr (k:=ro (pre:=[_,_,_]) (k:=rC (h:=octet_PutL (l:=[r.fn]) hL1 Y23) (k:=ro (pre:=[_]) (k:=?_)))))
 refine jO 4 ?_;rotate_left
 refine rs (k:=rg [1,5,28,60] (k:=rc (ht:=fun hc9=>?_) (hf:=fun hc9=>?_)))
 have hvn:V≠[]:=by
  intro h
  have h68:r.fn=6∨r.fn=8:=Y255
  have:=hG.v6 h68
  rw [h] at hvl;simp at hvl;omega
 refine Run.drawM 7 [3] [(s.new (.row 52 [.agg [.int .i64 r.fn,.int .i64 r.code,.int .i64 r.at_,.int .i64 r.count,.int .i64 r.sub,.sl .unk (r.bits.map PV.bool),.sl .unk (r.vals.map (PV.int .u16)),.int .u16 r.and_,.int .u16 r.or_,.sl .unk (r.data.map (PV.int .u8))]])),((s.new (.row 52 [.agg [.int .i64 r.fn,.int .i64 r.code,.int .i64 r.at_,.int .i64 r.count,.int .i64 r.sub,.sl .unk (r.bits.map PV.bool),.sl .unk (r.vals.map (PV.int .u16)),.int .u16 r.and_,.int .u16 r.or_,.sl .unk (r.data.map (PV.int .u8))]])).new (.tok L1.length))] Tryz.mixed Y26 Y26 ?_
 refine DetBC.pre (pre:=[_,_,_]) Y22 List.mem_cons_self au ?_
 refine DetBC.callE Y22 List.mem_cons_self au au au Y26 (octet_PutXL (l:=[r.fn]) hL1 Y23) ?_
 refine DetBC.pre (pre:=[_,_]) Y22 (List.mem_cons_of_mem _ List.mem_cons_self) au ?_
 refine DetBC.call Y22 au au au Y26 (List.mem_cons_of_mem _ List.mem_cons_self) (fun s _=>octet_BytesL hV Y21) ?_
 refine DetBC.nil (List.mem_cons_of_mem _ List.mem_cons_self) ?_
 refine RunO.append au au au Tryz.td41 Y80 (isEls_map (P:=Tryz.prog) (e:=5) (f:=PV.int .u8) (fun a=>⟨rfl,Y30⟩) _) (isEls_map (P:=Tryz.prog) (e:=5) (f:=PV.int .u8) (fun a=>⟨rfl,Y30⟩) _) Y31 Y88 (aAppend_tokL hX6 hvn Y89 rfl Tryz.cz5) ?_
 refine jO 5 ?_;rotate_left
 refine rs (k:=rg [1,5,28,70] (k:=rc (ht:=fun hc10=>?_) (hf:=fun hc10=>?_)))
 have hvn:V≠[]:=by
  intro h
  have h68:r.fn=6∨r.fn=8:=Y255
  have:=hG.v6 h68
  rw [h] at hvl;simp at hvl;omega
 refine Run.drawM 7 [3] [(s.new (.row 52 [.agg [.int .i64 r.fn,.int .i64 r.code,.int .i64 r.at_,.int .i64 r.count,.int .i64 r.sub,.sl .unk (r.bits.map PV.bool),.sl .unk (r.vals.map (PV.int .u16)),.int .u16 r.and_,.int .u16 r.or_,.sl .unk (r.data.map (PV.int .u8))]])),((s.new (.row 52 [.agg [.int .i64 r.fn,.int .i64 r.code,.int .i64 r.at_,.int .i64 r.count,.int .i64 r.sub,.sl .unk (r.bits.map PV.bool),.sl .unk (r.vals.map (PV.int .u16)),.int .u16 r.and_,.int .u16 r.or_,.sl .unk (r.data.map (PV.int .u8))]])).new (.tok L5.length))] Tryz.mixed Y26 Y26 ?_
 refine DetBC.pre (pre:=[_,_,_]) Y22 List.mem_cons_self au ?_
 refine DetBC.callE Y22 List.mem_cons_self au au au Y26 (octet_PutXL (l:=[r.fn]) hL5 Y23) ?_
 refine DetBC.pre (pre:=[_,_]) Y22 (List.mem_cons_of_mem _ List.mem_cons_self) au ?_
 refine DetBC.call Y22 au au au Y26 (List.mem_cons_of_mem _ List.mem_cons_self) (fun s _=>octet_BytesL hV Y21) ?_
 refine DetBC.nil (List.mem_cons_of_mem _ List.mem_cons_self) ?_
 refine RunO.append au au au Tryz.td41 Y80 (isEls_map (P:=Tryz.prog) (e:=5) (f:=PV.int .u8) (fun a=>⟨rfl,Y30⟩) _) (isEls_map (P:=Tryz.prog) (e:=5) (f:=PV.int .u8) (fun a=>⟨rfl,Y30⟩) _) Y31 Y88 (aAppend_tokL hX8 hvn Y89 rfl Tryz.cz5) ?_
 refine jO 5 ?_;rotate_left
 refine rs (k:=rs (k:=rg [1,5,28,80] (k:=rc (ht:=fun hc11=>?_) (hf:=fun hc11=>?_))))
 refine rk (k:=rc (ht:=fun hc12=>?_) (hf:=fun hc12=>?_))
 refine jO 6 ?_;rotate_left
 ·exact Bool.noConfusion (hc11.symm.trans hc12)
 refine rg [1,5,28,80] (k:=rc (ht:=fun hc12=>?_) (hf:=fun hc12=>?_))
 refine jO 6 ?_;rotate_left
 refine rs (k:=rg [1,5,28,90] (k:=rc (ht:=fun hc13=>?_) (hf:=fun hc13=>?_)))
 refine Run.drawC [] [5] Tryz.mixed Y26 ?_
 refine DetC.pre (pre:=[_,_,_]) au ?_
 refine DetC.call au au au Y26 (octet_PutL (l:=[r.fn]) hL1 Y23) ?_
 refine DetC.pre (pre:=[_,_,_]) au ?_
 refine DetC.call au au au Y26 (octet_PutL hL6 Y21) ?_
 refine DetC.pre (pre:=[_,_,_]) au ?_
 refine DetC.call au au au Y26 (octet_PutL hL7 Y21) ?_
 refine jO 7 ?_;rotate_left
 refine rs (k:=rg [1,5,104] (k:=rc (ht:=fun hc14=>?_) (hf:=fun hc14=>?_)))
 refine rr (k:=ro (pre:=[_,_,_,_]) (k:=rC (h:=reply_countedL hD Y21 Y21) (k:=rh [5] (k:=rB (k:=rs (k:=rr (k:=ro (pre:=[_]) (k:=rC (h:=clip_u8) (k:=rh [2,3] (k:=rR (k:=?_)))))))))))
 refine jO 1 ?_;rotate_left
 ·refine rk (k:=rB (k:=rs (k:=?_)))
  exfalso
  simp only [decide_eq_true_eq,decide_eq_false_iff_not] at *
  omega
 any_goals
  refine jI 6 ?_
  refine Run.drawC [] [5] Tryz.mixed Y26 ?_
  refine jO 8 ?_;rotate_left
 any_goals
  refine jI 2 ?_
  refine Run.drawC [] [5] Tryz.mixed Y26 ?_
  refine jO 9 ?_;rotate_left
 any_goals
  refine jI 3 ?_
  refine Run.drawC [] [5] Tryz.mixed Y26 ?_
  refine jO 10 ?_;rotate_left
 any_goals
  refine jI 8 ?_
  refine DetC.pre (pre:=[_,_,_]) au ?_
  refine jO 11 ?_;rotate_left
 any_goals
  refine jI 9 ?_
  refine DetC.pre (pre:=[_,_,_,_]) au ?_
  refine jO 12 ?_;rotate_left
 any_goals
  refine jI 10 ?_
  refine DetC.pre (pre:=[_,_,_,_]) au ?_
  refine jO 13 ?_;rotate_left
 any_goals
  refine jI 11 ?_
  refine DetC.call au au au Y26 (octet_PutL (l:=[r.fn]) hL1 Y23) ?_
  refine jO 14 ?_;rotate_left
 any_goals
  refine jI 12 ?_
  refine DetC.call au au au Y26 (octet_Pack (l:=r.bits) Y21) ?_
  refine jO 15 ?_;rotate_left
 any_goals
  refine jI 13 ?_
  refine DetC.call au au au Y26 (octet_BytesL hV Y21) ?_
  refine jO 16 ?_;rotate_left
 any_goals
  refine jI 14 ?_
  refine DetC.pre (pre:=[_,_]) au ?_
  refine jO 17 ?_;rotate_left
 any_goals
  refine jI 4 ?_
  refine RunO.callw au au au Y26 ((octet_Put (l:=L1) Y21).mono ?_)
  refine jO 18 ?_;rotate_left
 any_goals
  refine jI 15 ?_
  refine DetC.call au au au Y26 (reply_countedL hB Y21 Y21) ?_
  refine jO 7 ?_;rotate_left
 any_goals
  refine jI 16 ?_
  refine DetC.call au au au Y26 (reply_countedL hC Y21 Y21) ?_
  refine jO 7 ?_;rotate_left
 any_goals
  refine jI 17 ?_
  refine DetC.call au au au Y26 (octet_PutL hL2 Y21) ?_
  refine jO 7 ?_;rotate_left
 any_goals
  refine jI 18 ?_
  rintro v s1 ⟨rfl,hs⟩
  refine jO 19 ?_;rotate_left
 any_goals
  refine jI 7 ?_
  refine DetC.all au ?_
  refine jO 20 ?_;rotate_left
 any_goals
  refine jI 19 ?_
  subst s1
  refine jO 5 ?_;rotate_left
 any_goals
  refine jI 5 ?_
  refine rh [5] (k:=rB (k:=rs (k:=rr (k:=ro (pre:=[_]) (k:=rC (h:=clip_u8) (k:=rh [2,3] (k:=rR (k:=?_))))))))
  refine jO 1 ?_;rotate_left
 any_goals
  refine jI 20 ?_
  refine re (k:=rB (k:=rs (k:=rr (k:=ro (pre:=[_]) (k:=rC (h:=clip_u8) (k:=rh [2,3] (k:=rR (k:=?_))))))))
  refine jO 1 ?_;rotate_left
 any_goals
  refine jI 1 ?_
  refine Ret.pure (r':=.tuple [.sl .unk ((repF r).map (PV.int .u8)),.int .i64 (goodF r)]) (by simp only [Tryz.f33,go_sem,↓reduceIte]<;>rfl) ?_ Y251 hwf Y36 ⟨rfl,rfl⟩
  refine jO 21 ?_;rotate_left
 any_goals
  refine jI 21 ?_
  simp only [PV.weak,PV.weaks,weaks_u8]
  refine jO 22 ?_;rotate_left
 any_goals
  refine jI 22 ?_
  first
   |(have hr0':¬ goodF r=0:=by simpa using hc0
     unfold repF
     rw [if_neg hr0']
     rfl)
   |(unfold repF layF
     rw [if_pos hr0,hr0,if_pos hcz]
     rfl)
   |(rw [hr0]
     refine congrArg (fun x=>PV.tuple [PV.sl .unk x,.int .i64 0]) ?_
     refine congrArg (List.map (PV.int .u8)) ?_
     clear hll1 hll2 hll5 hll6 hvl hpl hu8 hu8r hu8c hor hwf h16a h16o H hfr hc1
     simp only [decide_eq_true_eq,decide_eq_false_iff_not] at *
     have hcz':¬ ¬ r.code=0:=fun h=>h hcz
     unfold repF layF
     rw [if_pos hr0,if_neg hcz']
     clear hcz' hr0 hcz
     first
     |(simp [*];done)
     |(have e:r.fn=17:=by omega
       simp [*];done)
     | skip)
end Go.Proofs
namespace Go.Proofs
open Go.PM
set_option maxHeartbeats 2000000
attribute [local go_sem] weaks_bools Rep.pv
attribute [local go_sem] weaks_bools Rep.pv
end Go.Proofs
namespace Go.Proofs
open Go.PM
set_option maxHeartbeats 2000000
attribute [local go_sem] weaks_bools Rep.pv Req.pv
end Go.Proofs
namespace Go.Proofs
open Go.PM
set_option maxHeartbeats 2000000
attribute [local go_sem] set_set weaks_bools Req.pv Rep.pv
end Go.Proofs
namespace Go.Proofs
open Go.PM
set_option maxHeartbeats 2000000
theorem St.eq_of {a b:St} (h1:a.nxt=b.nxt) (h2:∀ i,a.blk i=b.blk i):a=b:=by
 cases a;cases b
 simp only [St.mk.injEq]
 exact ⟨h1,funext h2⟩
attribute [local go_sem] set_set
theorem Y113 {p:Prop} (h:p:=by simp (disch:=first | omega |(simp only [nxt_set,nxt_new]<;>omega) | fail) only [go_sem]):p:=h
theorem Y201 {p:Prop} (h:p:=by (simp only [blk_set,blk_new,nxt_new,nxt_set];(repeat' split)<;>first | rfl |(exfalso;omega))):p:=h
theorem Y90 {p:Prop} (h:p:=by intro q hq;simp only [List.mem_cons,List.not_mem_nil,or_false] at hq;rcases hq with rfl | rfl<;>refine ⟨Y113,?_⟩<;>first | rfl | exact St.eq_of rfl fun i=>Y201):p:=h
theorem Y91 {p:Prop} (h:p:=by intro q hq;simp only [List.mem_cons,List.not_mem_nil,or_false] at hq;rcases hq with rfl | rfl | rfl<;>refine ⟨Y113,?_⟩<;>first | rfl | exact St.eq_of rfl fun i=>Y201):p:=h
set_option maxRecDepth 100000 in
theorem store_New {n:Nat} {s:St} (h1:1≤n) (h2:n≤65536):ACalls Tryz.prog 25 [.int .i64 (n:Int)] s (fun r s'=>r=.ptr s.nxt 0 0∧s'=(((((((((((s.new (.row 121 [.agg [.sl .nil [],.sl .nil [],.sl .nil [],.sl .nil []]])).new .res).new .res).set (s.nxt+1) (some (.row 4 (List.replicate n (.bool false))))).set (s.nxt+2) (some (.row 39 (List.replicate n (.int .u16 0))))).set s.nxt (some (.row 121 [.agg [.own (s.nxt+1) 0 n,.sl .nil [],.own (s.nxt+2) 0 n,.sl .nil []]]))).new .res).new .res).set (s.nxt+3) (some (.row 4 (List.replicate n (.bool false))))).set (s.nxt+4) (some (.row 39 (List.replicate n (.int .u16 0))))).set s.nxt (some (.row 121 [.agg [.own (s.nxt+1) 0 n,.own (s.nxt+3) 0 n,.own (s.nxt+2) 0 n,.own (s.nxt+4) 0 n]])))):=by
 refine go Tryz.func25 (k:=fun hwf H=>?_)
 refine rs (k:=rg [0] (k:=rs (k:=rs (k:=rg [0,10] (k:=rc (ht:=fun hc0=>?_) (hf:=fun hc0=>?_))))))
 ·refine rs (k:=?_)
  exfalso
  simp only [Bool.or_eq_true,decide_eq_true_eq] at hc0
  omega
 ·refine rk (k:=rs (k:=rg [0,3] (k:=rs (k:=rs (k:=rg [0,3,13] (k:=rb (k:=?_)))))))
  refine Run.loop (fun e s'=>∃ i:Nat,i≤2∧e=[(0,.int .i64 (n:Int)),(3,.ptr s.nxt 0 0),(13,.int .i64 (i:Int))]∧s'=(if i=0 then (s.new (.row 121 [.agg [.sl .nil [],.sl .nil [],.sl .nil [],.sl .nil []]])) else if i=1 then ((((((s.new (.row 121 [.agg [.sl .nil [],.sl .nil [],.sl .nil [],.sl .nil []]])).new .res).new .res).set (s.nxt+1) (some (.row 4 (List.replicate n (.bool false))))).set (s.nxt+2) (some (.row 39 (List.replicate n (.int .u16 0))))).set s.nxt (some (.row 121 [.agg [.own (s.nxt+1) 0 n,.sl .nil [],.own (s.nxt+2) 0 n,.sl .nil []]]))) else (((((((((((s.new (.row 121 [.agg [.sl .nil [],.sl .nil [],.sl .nil [],.sl .nil []]])).new .res).new .res).set (s.nxt+1) (some (.row 4 (List.replicate n (.bool false))))).set (s.nxt+2) (some (.row 39 (List.replicate n (.int .u16 0))))).set s.nxt (some (.row 121 [.agg [.own (s.nxt+1) 0 n,.sl .nil [],.own (s.nxt+2) 0 n,.sl .nil []]]))).new .res).new .res).set (s.nxt+3) (some (.row 4 (List.replicate n (.bool false))))).set (s.nxt+4) (some (.row 39 (List.replicate n (.int .u16 0))))).set s.nxt (some (.row 121 [.agg [.own (s.nxt+1) 0 n,.own (s.nxt+3) 0 n,.own (s.nxt+2) 0 n,.own (s.nxt+4) 0 n]]))))) (fun e s'=>2-ivar e 13) ?_ ?_
  ·exact ⟨0,Y22,rfl,rfl⟩
  rintro e s' ⟨i,hi,rfl,hs⟩
  subst hs
  obtain rfl | rfl | rfl:i=0∨i=1∨i=2:=Y21
  ·refine rs (k:=rg [0,3,13,14] (k:=rs (k:=rc (ht:=fun hc1=>?_) (hf:=fun hc1=>?_))))
   ·refine rk (k:=rs (k:=rb (k:=rs (k:=rg [0,3,4,13] (k:=?_)))))
    refine Run.reserve (Run.reserve ?_)
    refine rH 16 [5,7,11,15] [[false,false,false,false],[true,false,false,false],[false,true,false,false],[true,true,false,false],[true,false,true,false],[true,true,true,false],[true,true,true,true]] [(((s.new (.row 121 [.agg [.sl .nil [],.sl .nil [],.sl .nil [],.sl .nil []]])).new .res).new .res),((((s.new (.row 121 [.agg [.sl .nil [],.sl .nil [],.sl .nil [],.sl .nil []]])).new .res).new .res).set (s.nxt+1) (some (.row 4 (List.replicate n (.bool false))))),((((s.new (.row 121 [.agg [.sl .nil [],.sl .nil [],.sl .nil [],.sl .nil []]])).new .res).new .res).set (s.nxt+2) (some (.row 39 (List.replicate n (.int .u16 0))))),(((((s.new (.row 121 [.agg [.sl .nil [],.sl .nil [],.sl .nil [],.sl .nil []]])).new .res).new .res).set (s.nxt+1) (some (.row 4 (List.replicate n (.bool false))))).set (s.nxt+2) (some (.row 39 (List.replicate n (.int .u16 0))))),(((((s.new (.row 121 [.agg [.sl .nil [],.sl .nil [],.sl .nil [],.sl .nil []]])).new .res).new .res).set (s.nxt+1) (some (.row 4 (List.replicate n (.bool false))))).set s.nxt (some (.row 121 [.agg [.own (s.nxt+1) 0 n,.sl .nil [],.sl .nil [],.sl .nil []]]))),((((((s.new (.row 121 [.agg [.sl .nil [],.sl .nil [],.sl .nil [],.sl .nil []]])).new .res).new .res).set (s.nxt+1) (some (.row 4 (List.replicate n (.bool false))))).set (s.nxt+2) (some (.row 39 (List.replicate n (.int .u16 0))))).set s.nxt (some (.row 121 [.agg [.own (s.nxt+1) 0 n,.sl .nil [],.sl .nil [],.sl .nil []]]))),((((((s.new (.row 121 [.agg [.sl .nil [],.sl .nil [],.sl .nil [],.sl .nil []]])).new .res).new .res).set (s.nxt+1) (some (.row 4 (List.replicate n (.bool false))))).set (s.nxt+2) (some (.row 39 (List.replicate n (.int .u16 0))))).set s.nxt (some (.row 121 [.agg [.own (s.nxt+1) 0 n,.sl .nil [],.own (s.nxt+2) 0 n,.sl .nil []]])))] Tryz.mixed (k:=?_)
    refine dP [0,1,2,3,4,5] (pre:=[_,_,_,_,_]) (k:=?_)
    refine DetHC.resMake (s.nxt+1) n [(0,1),(2,3)] _ Y26 pq au au au Tryz.td45 (by rw [Tryz.zp4]) Y21 (by rw [Tryz.by4];omega) Y90 ?_
    refine dP [0,1,4] (pre:=[_]) (k:=?_)
    refine DetHC.resMake (s.nxt+2) n [(0,2),(1,3),(4,5)] _ Y26 pq au au au Tryz.td23 (by rw [Tryz.zp39]) Y21 (by rw [Tryz.by39];omega) Y91 ?_
    refine dP [0,1,2,3] (pre:=[_,_,_]) (k:=?_)
    refine dE [(1,4),(3,5)] (k:=?_)
    refine dP [0,1,2,3,4,5] (pre:=[_,_,_]) (k:=?_)
    refine dE [(5,6)] (k:=?_)
    refine DetHC.nil ?_
    refine rl [0,3,13] (k:=rB (k:=rg [0,3,13] (k:=?_)))
    refine Run.lp ⟨⟨1,Y22,by rfl,by rfl⟩,?_⟩
    simp only [ivar,go_sem,↓reduceIte,Nat.reduceEqDiff]
    decide
   ·cases hc1
  ·refine rs (k:=rg [0,3,13,14] (k:=rs (k:=rc (ht:=fun hc1=>?_) (hf:=fun hc1=>?_))))
   ·refine rk (k:=rs (k:=rb (k:=rs (k:=rg [0,3,4,13] (k:=?_)))))
    refine Run.reserve (Run.reserve ?_)
    refine rH 16 [5,7,11,15] [[false,false,false,false],[true,false,false,false],[false,true,false,false],[true,true,false,false],[true,false,true,false],[true,true,true,false],[true,true,true,true]] [((((((((s.new (.row 121 [.agg [.sl .nil [],.sl .nil [],.sl .nil [],.sl .nil []]])).new .res).new .res).set (s.nxt+1) (some (.row 4 (List.replicate n (.bool false))))).set (s.nxt+2) (some (.row 39 (List.replicate n (.int .u16 0))))).set s.nxt (some (.row 121 [.agg [.own (s.nxt+1) 0 n,.sl .nil [],.own (s.nxt+2) 0 n,.sl .nil []]]))).new .res).new .res),(((((((((s.new (.row 121 [.agg [.sl .nil [],.sl .nil [],.sl .nil [],.sl .nil []]])).new .res).new .res).set (s.nxt+1) (some (.row 4 (List.replicate n (.bool false))))).set (s.nxt+2) (some (.row 39 (List.replicate n (.int .u16 0))))).set s.nxt (some (.row 121 [.agg [.own (s.nxt+1) 0 n,.sl .nil [],.own (s.nxt+2) 0 n,.sl .nil []]]))).new .res).new .res).set (s.nxt+3) (some (.row 4 (List.replicate n (.bool false))))),(((((((((s.new (.row 121 [.agg [.sl .nil [],.sl .nil [],.sl .nil [],.sl .nil []]])).new .res).new .res).set (s.nxt+1) (some (.row 4 (List.replicate n (.bool false))))).set (s.nxt+2) (some (.row 39 (List.replicate n (.int .u16 0))))).set s.nxt (some (.row 121 [.agg [.own (s.nxt+1) 0 n,.sl .nil [],.own (s.nxt+2) 0 n,.sl .nil []]]))).new .res).new .res).set (s.nxt+4) (some (.row 39 (List.replicate n (.int .u16 0))))),((((((((((s.new (.row 121 [.agg [.sl .nil [],.sl .nil [],.sl .nil [],.sl .nil []]])).new .res).new .res).set (s.nxt+1) (some (.row 4 (List.replicate n (.bool false))))).set (s.nxt+2) (some (.row 39 (List.replicate n (.int .u16 0))))).set s.nxt (some (.row 121 [.agg [.own (s.nxt+1) 0 n,.sl .nil [],.own (s.nxt+2) 0 n,.sl .nil []]]))).new .res).new .res).set (s.nxt+3) (some (.row 4 (List.replicate n (.bool false))))).set (s.nxt+4) (some (.row 39 (List.replicate n (.int .u16 0))))),((((((((((s.new (.row 121 [.agg [.sl .nil [],.sl .nil [],.sl .nil [],.sl .nil []]])).new .res).new .res).set (s.nxt+1) (some (.row 4 (List.replicate n (.bool false))))).set (s.nxt+2) (some (.row 39 (List.replicate n (.int .u16 0))))).set s.nxt (some (.row 121 [.agg [.own (s.nxt+1) 0 n,.sl .nil [],.own (s.nxt+2) 0 n,.sl .nil []]]))).new .res).new .res).set (s.nxt+3) (some (.row 4 (List.replicate n (.bool false))))).set s.nxt (some (.row 121 [.agg [.own (s.nxt+1) 0 n,.own (s.nxt+3) 0 n,.own (s.nxt+2) 0 n,.sl .nil []]]))),(((((((((((s.new (.row 121 [.agg [.sl .nil [],.sl .nil [],.sl .nil [],.sl .nil []]])).new .res).new .res).set (s.nxt+1) (some (.row 4 (List.replicate n (.bool false))))).set (s.nxt+2) (some (.row 39 (List.replicate n (.int .u16 0))))).set s.nxt (some (.row 121 [.agg [.own (s.nxt+1) 0 n,.sl .nil [],.own (s.nxt+2) 0 n,.sl .nil []]]))).new .res).new .res).set (s.nxt+3) (some (.row 4 (List.replicate n (.bool false))))).set (s.nxt+4) (some (.row 39 (List.replicate n (.int .u16 0))))).set s.nxt (some (.row 121 [.agg [.own (s.nxt+1) 0 n,.own (s.nxt+3) 0 n,.own (s.nxt+2) 0 n,.sl .nil []]]))),(((((((((((s.new (.row 121 [.agg [.sl .nil [],.sl .nil [],.sl .nil [],.sl .nil []]])).new .res).new .res).set (s.nxt+1) (some (.row 4 (List.replicate n (.bool false))))).set (s.nxt+2) (some (.row 39 (List.replicate n (.int .u16 0))))).set s.nxt (some (.row 121 [.agg [.own (s.nxt+1) 0 n,.sl .nil [],.own (s.nxt+2) 0 n,.sl .nil []]]))).new .res).new .res).set (s.nxt+3) (some (.row 4 (List.replicate n (.bool false))))).set (s.nxt+4) (some (.row 39 (List.replicate n (.int .u16 0))))).set s.nxt (some (.row 121 [.agg [.own (s.nxt+1) 0 n,.own (s.nxt+3) 0 n,.own (s.nxt+2) 0 n,.own (s.nxt+4) 0 n]])))] Tryz.mixed (k:=?_)
    refine dP [0,1,2,3,4,5] (pre:=[_,_,_,_,_]) (k:=?_)
    refine DetHC.resMake (s.nxt+3) n [(0,1),(2,3)] _ Y26 pq au au au Tryz.td45 (by rw [Tryz.zp4]) Y21 (by rw [Tryz.by4];omega) Y90 ?_
    refine dP [0,1,4] (pre:=[_]) (k:=?_)
    refine DetHC.resMake (s.nxt+4) n [(0,2),(1,3),(4,5)] _ Y26 pq au au au Tryz.td23 (by rw [Tryz.zp39]) Y21 (by rw [Tryz.by39];omega) Y91 ?_
    refine dP [0,1,2,3] (pre:=[_,_,_]) (k:=?_)
    refine dE [(1,4),(3,5)] (k:=?_)
    refine dP [0,1,2,3,4,5] (pre:=[_,_,_]) (k:=?_)
    refine dE [(5,6)] (k:=?_)
    refine DetHC.nil ?_
    refine rl [0,3,13] (k:=rB (k:=rg [0,3,13] (k:=?_)))
    refine Run.lp ⟨⟨2,Y22,by rfl,by rfl⟩,?_⟩
    simp only [ivar,go_sem,↓reduceIte,Nat.reduceEqDiff]
    decide
   ·cases hc1
  ·refine rs (k:=rg [0,3,13,14] (k:=rs (k:=rc (ht:=fun hc1=>?_) (hf:=fun hc1=>?_))))
   ·cases hc1
   ·refine rX (k:=rs (k:=rg [2] (k:=rR (k:=?_))))
    exact Ret.all (by simp only [Tryz.f25,go_sem,↓reduceIte]<;>rfl) ⟨rfl,rfl⟩
end Go.Proofs
namespace Go.Proofs
open Go.PM
set_option maxHeartbeats 2000000
theorem span_Right {a:Sp} {most:Int} (ha:a.ok) (hm:0≤most∧most≤4611686018427387904) {s:St}:ACalls Tryz.prog 153 [a.pv,.int .i64 most] s (fun r s'=>r=.bool (spRight a most)∧s'=s):=by
 refine go Tryz.func153 (k:=fun hwf H=>?_)
 refine rs (k:=rg [1,2] (k:=rs (k:=rg [4] (k:=rR (k:=rP (by simp only [Tryz.f153,go_sem];rfl) hwf ⟨?_,rfl⟩)))))
 simp only [spRight]
 have hw:0≤a.pos→a.pos≤most→IntKind.i64.wrap (most-a.pos)=most-a.pos:=fun h h'=>wrap_i64 Y21
 by_cases h1:0≤a.pos<;>by_cases h2:1≤a.cnt<;>by_cases h3:a.pos≤most<;>simp [h1,h2,h3,PV.weak]
 rw [hw h1 h3]
theorem span_right {a:Sp} (ha:a.ok) {s:St}:ACalls Tryz.prog 137 [a.pv] s (fun r s'=>r=.bool (spRight a great)∧s'=s):=by
 refine go Tryz.func137 (k:=fun hwf H=>?_)
 refine rs (k:=rg [1] (k:=rs (k:=rr (k:=ro (pre:=[_]) (k:=rC (h:=span_Right (a:=a) ha Y22) (k:=rh [2] (k:=rR (k:=rP (by simp only [Tryz.f137,go_sem];rfl) hwf ⟨?_,rfl⟩))))))))
 rfl
theorem span_end {a:Sp} {s:St}:ACalls Tryz.prog 140 [a.pv] s (fun r s'=>r=.int .i64 (IntKind.i64.wrap (a.pos+a.cnt))∧s'=s):=by
 refine go Tryz.func140 (k:=fun hwf H=>?_)
 refine rs (k:=rg [1] (k:=rs (k:=rg [2] (k:=rR (k:=rP (by simp only [Tryz.f140,go_sem];rfl) hwf ⟨?_,rfl⟩)))))
 rfl
theorem span_Meet {a b:Sp} (ha:a.ok) (hb:b.ok) {s:St}:ACalls Tryz.prog 143 [a.pv,b.pv] s (fun r s'=>r=.tuple [(spMeet a b).pv,.bool (spMeets a b)]∧s'=s):=by
 refine go Tryz.func143 (k:=fun hwf H=>?_)
 refine rs (k:=rg [2,3,4] (k:=rs (k:=rg [2,3,4,6] (k:=rs (k:=rs (k:=rr (k:=ro (pre:=[_]) (k:=rC (h:=span_right (a:=a) ha) (k:=ro (pre:=[_,_]) (k:=rQ 16 (ht:=fun hg3=>?_) (hf:=fun hg3=>?_)))))))))))
 refine rg0 (k:=rg0 (k:=rg0 (k:=rh [2,3,4,6,20] (k:=rc (ht:=fun hc0=>?_) (hf:=fun hc0=>?_)))))
 refine jO 1 ?_;rotate_left
 ·cases hc0
 refine rg1 (k:=rC (h:=span_right (a:=b) hb) (k:=rg1 (k:=rh [2,3,4,6,20] (k:=rc (ht:=fun hc0=>?_) (hf:=fun hc0=>?_)))))
 refine jO 1 ?_;rotate_left
 refine rk (k:=rs (k:=rs (k:=?_)))
 refine Run.drawC [] [4,6,7] Tryz.mixed Y26 ?_
 refine DetC.pre (pre:=[_]) au ?_
 refine DetC.call au au au Y26 (span_end (a:=a)) ?_
 refine DetC.pre (pre:=[_]) au ?_
 refine DetC.call au au au Y26 (span_end (a:=b)) ?_
 refine DetC.all au ?_
 refine re (k:=rs (k:=rg [4,6,7,29] (k:=rc (ht:=fun hc1=>?_) (hf:=fun hc1=>?_))))
 refine jO 1 ?_;rotate_left
 refine rk (k:=rs (k:=rg [4,5] (k:=rR (k:=rP (by simp only [Tryz.f143,go_sem];rfl) hwf ⟨?_,rfl⟩))))
 refine jO 2 ?_;rotate_left
 any_goals
  refine jI 1 ?_
  refine rs (k:=rg [4,5] (k:=rR (k:=rP (by simp only [Tryz.f143,go_sem];rfl) hwf ⟨?_,rfl⟩)))
  refine jO 2 ?_;rotate_left
 any_goals
  refine jI 2 ?_
  first
   |(have h:=spMeets_l (b:=b) hg3
     rw [h.1,h.2];rfl)
   |(have h:=spMeets_r (a:=a) hc0
     rw [h.1,h.2];rfl)
   |(have h:=spMeets_not hg3 hc0 hc1
     rw [h.1,h.2];rfl)
   |(have h:=spMeets_yes hg3 hc0 hc1
     rw [h.1,h.2];rfl)
end Go.Proofs
namespace Go.Proofs
open Go.PM
set_option maxHeartbeats 2000000
theorem Y324 {p:Prop} (h:p:=by simp only [Tryz.f12,go_sem];rfl):p:=h
theorem within_ {n lo hi:Int} (h0:0≤lo) (h1:lo≤hi) (h2:hi≤1152921504606846976) {s:St}:ACalls Tryz.prog 12 [.int .i64 n,.int .i64 lo,.int .i64 hi] s (fun r s'=>r=.int .i64 (withinI n lo hi)∧s'=s):=by
 refine go Tryz.func12 (k:=fun hwf H=>?_)
 have hb:=tmod_bound n (m:=hi-lo+1) Y21
 have hw1:IntKind.i64.wrap (hi-lo)=hi-lo:=wrap_i64 Y21
 have hw2:IntKind.i64.wrap (hi-lo+1)=hi-lo+1:=wrap_i64 Y21
 have hw3:IntKind.i64.wrap (n.tmod (hi-lo+1)+hi)=n.tmod (hi-lo+1)+hi:=wrap_i64 Y21
 have hw4:IntKind.i64.wrap (n.tmod (hi-lo+1)+hi-lo)=n.tmod (hi-lo+1)+hi-lo:=wrap_i64 Y21
 have hw5:IntKind.i64.wrap (n.tmod (hi-lo+1)+hi-lo+1)=n.tmod (hi-lo+1)+hi-lo+1:=wrap_i64 Y21
 have hne:(hi-lo+1=0)=False:=eq_false Y21
 have H:=aj hw1 (aj hw2 (aj hw3 (aj hw4 (aj hw5 (aj hne H)))))
 refine rs (k:=rg [0,1,2] (k:=rs (k:=rs (k:=rg [0,1,2,14] (k:=rc (ht:=fun hc0=>?_) (hf:=fun hc0=>?_))))))
 refine rs (k:=rg [6] (k:=rR (k:=rP Y324 hwf ⟨?_,rfl⟩)))
 refine jO 1 ?_;rotate_left
 refine rk (k:=rs (k:=rg [0,1,2] (k:=rs (k:=rs (k:=rg [0,1,2,23] (k:=rc (ht:=fun hc1=>?_) (hf:=fun hc1=>?_)))))))
 refine rg [0,1] (k:=rs (k:=rg [6] (k:=rR (k:=rP Y324 hwf ⟨?_,rfl⟩))))
 refine jO 1 ?_;rotate_left
 refine rk (k:=rs (k:=rg [6] (k:=rR (k:=rP Y324 hwf ⟨?_,rfl⟩))))
 refine jO 1 ?_;rotate_left
 any_goals
  refine jI 1 ?_
  unfold withinI
  refine jO 2 ?_;rotate_left
 any_goals
  refine jI 2 ?_
  first
   |(have h:lo≤n∧n≤hi:=by simpa using hc0
     rw [if_pos h];rfl)
   |(have h:¬ (lo≤n∧n≤hi):=by simpa using hc0
     have hm:=of_decide_eq_true hc1
     rw [if_neg h,if_pos hm,wrap_i64 Y21];rfl)
   |(have h:¬ (lo≤n∧n≤hi):=by simpa using hc0
     have hm:=of_decide_eq_false hc1
     rw [if_neg h,if_neg hm,wrap_i64 Y21];rfl)
theorem tape_Next {t:Tp} (ht:t.ok) {n:Int} {s:St} {tp:Nat} (hb:s.blk tp=some (.row 67 [t.pv])):ACalls Tryz.prog 47 [.ptr tp 0 0,.int .i64 n] s (fun r s'=>r=.int .i64 (t.val n)∧s'=s.set tp (some (.row 67 [(t.nx n).pv]))):=by
 refine go Tryz.func47 (k:=fun hwf H=>?_)
 rw [Tp.pv] at hb
 have hlen:=ht.len
 have hpos:=ht.pos
 have H:=aj hb H
 refine rs (k:=rg [0,1] (k:=rs (k:=rs (k:=?_))))
 refine Run.drawC [] [0,1,18] Tryz.mixed Y26 ?_
 refine DetC.all au ?_
 refine re (k:=rc (ht:=fun hc0=>?_) (hf:=fun hc0=>?_))
 refine rs (k:=rg [4] (k:=rR (k:=?_)))
 refine jO 1 ?_;rotate_left
 refine rk (k:=rs (k:=?_))
 have hc1:¬ (t.l.length≤t.pos∨n<1):=by simp only [Bool.or_eq_false_iff,decide_eq_false_iff_not] at hc0;omega
 have hw:IntKind.i64.wrap ((t.pos:Int)+1)=((t.pos+1:Nat):Int):=Y28
 have hw1:IntKind.i64.wrap (((t.pos+1:Nat):Int)-1)=((t.pos:Nat):Int):=Y28
 have hx:(t.l.map (PV.int .i64))[t.pos]? =some (.int .i64 (t.l[t.pos]?.getD 0)):=by rw [List.getElem?_map,List.getElem?_eq_getElem Y21];rfl
 have hn0:(n=0)=False:=eq_false Y21
 have hlt:((t.pos:Int)<(t.l.length:Int))=True:=eq_true Y21
 have H:=aj hw (aj hw1 (aj hx (aj hn0 (aj hlt H))))
 refine rg [0,1] (k:=rs (k:=?_))
 refine Run.drawC [] [4] Tryz.mixed Y26 ?_
 refine DetC.pre (pre:=[_,_,_,_,_,_,_,_,_,_,_]) au ?_
 refine DetC.call au au au Y26 (within_ (lo:=0) (hi:=1073741824) Y22 Y22 Y22) ?_
 refine DetC.all au ?_
 refine re (k:=rR (k:=?_))
 refine jO 1 ?_;rotate_left
 any_goals
  refine jI 1 ?_
  first
   |(have h0:t.l.length≤t.pos∨n<1:=by simp only [Bool.or_eq_true,decide_eq_true_eq] at hc0;omega
     refine Ret.all (by simp only [Tryz.f47,go_sem]<;>rfl) ⟨?_,?_⟩
     ·rw [Tp.val,if_pos h0]
     ·rw [Tp.nx,if_pos h0,Tp.pv];exact (St.set_self hb).symm)
   |(refine Ret.all (by simp only [Tryz.f47,go_sem]<;>rfl) ⟨?_,?_⟩
     ·rw [Tp.val,if_neg hc1]
     ·rw [Tp.nx,if_neg hc1];rfl)
end Go.Proofs
namespace Go.Proofs
open Go.PM
set_option maxHeartbeats 2000000
theorem Y202 {p:Prop} (h:p:=by
 refine rk (k:=rs (k:=rg [4] (k:=rR (k:=?_))))
 exact Ret.all (by simp only [Tryz.f175,go_sem,↓reduceIte]<;>rfl) ⟨rfl,rfl⟩):p:=h
theorem store_fl0 {s:St} {st b0 b1 v0 v1 n:Nat} (hst:s.blk st=some (.row 121 [.agg [.own b0 0 n,.own b1 0 n,.own v0 0 n,.own v1 0 n]])):ACalls Tryz.prog 175 [.ptr st 0 0,.int .i64 0] s (fun r s'=>r=.own b0 0 n∧s'=s):=by
 refine go Tryz.func175 (k:=fun hwf H=>?_)
 have f0:((0:Int)<((2:Nat):Int))=True:=Y22
 have f1:((1:Int)<((2:Nat):Int))=True:=Y22
 have ft:Int.toNat 1=1:=rfl
 have f2:((0:Int)≤1)=True:=Y22
 have H:=aj f0 (aj f1 (aj ft (aj f2 H)))
 have hw:IntKind.i64.wrap (0-2)= -2:=Y22
 have H:=aj hw H
 have H:=aj hst H
 refine rs (k:=rg [0,1] (k:=rs (k:=rs (k:=rg [0,1,10] (k:=rc (ht:=fun hc0=>?_) (hf:=fun hc0=>?_))))))
 ·cases hc0
 ·exact Y202
theorem store_fl1 {s:St} {st b0 b1 v0 v1 n:Nat} (hst:s.blk st=some (.row 121 [.agg [.own b0 0 n,.own b1 0 n,.own v0 0 n,.own v1 0 n]])):ACalls Tryz.prog 175 [.ptr st 0 0,.int .i64 1] s (fun r s'=>r=.own b1 0 n∧s'=s):=by
 refine go Tryz.func175 (k:=fun hwf H=>?_)
 have f0:((0:Int)<((2:Nat):Int))=True:=Y22
 have f1:((1:Int)<((2:Nat):Int))=True:=Y22
 have ft:Int.toNat 1=1:=rfl
 have f2:((0:Int)≤1)=True:=Y22
 have H:=aj f0 (aj f1 (aj ft (aj f2 H)))
 have hw:IntKind.i64.wrap (1-2)= -1:=Y22
 have H:=aj hw H
 have H:=aj hst H
 refine rs (k:=rg [0,1] (k:=rs (k:=rs (k:=rg [0,1,10] (k:=rc (ht:=fun hc0=>?_) (hf:=fun hc0=>?_))))))
 ·cases hc0
 ·exact Y202
theorem Y203 {p:Prop} (h:p:=by
 refine rk (k:=rs (k:=rg [4] (k:=rR (k:=?_))))
 exact Ret.all (by simp only [Tryz.f42,go_sem,↓reduceIte]<;>rfl) ⟨rfl,rfl⟩):p:=h
theorem store_fl2 {s:St} {st b0 b1 v0 v1 n:Nat} (hst:s.blk st=some (.row 121 [.agg [.own b0 0 n,.own b1 0 n,.own v0 0 n,.own v1 0 n]])):ACalls Tryz.prog 42 [.ptr st 0 0,.int .i64 2] s (fun r s'=>r=.own v0 0 n∧s'=s):=by
 refine go Tryz.func42 (k:=fun hwf H=>?_)
 have f0:((0:Int)<((2:Nat):Int))=True:=Y22
 have f1:((1:Int)<((2:Nat):Int))=True:=Y22
 have ft:Int.toNat 1=1:=rfl
 have f2:((0:Int)≤1)=True:=Y22
 have H:=aj f0 (aj f1 (aj ft (aj f2 H)))
 have hw:IntKind.i64.wrap (2-2)=0:=Y22
 have H:=aj hw H
 have H:=aj hst H
 refine rs (k:=rg [0,1] (k:=rs (k:=rs (k:=rg [0,1,10] (k:=rc (ht:=fun hc0=>?_) (hf:=fun hc0=>?_))))))
 ·cases hc0
 ·exact Y203
theorem store_fl3 {s:St} {st b0 b1 v0 v1 n:Nat} (hst:s.blk st=some (.row 121 [.agg [.own b0 0 n,.own b1 0 n,.own v0 0 n,.own v1 0 n]])):ACalls Tryz.prog 42 [.ptr st 0 0,.int .i64 3] s (fun r s'=>r=.own v1 0 n∧s'=s):=by
 refine go Tryz.func42 (k:=fun hwf H=>?_)
 have f0:((0:Int)<((2:Nat):Int))=True:=Y22
 have f1:((1:Int)<((2:Nat):Int))=True:=Y22
 have ft:Int.toNat 1=1:=rfl
 have f2:((0:Int)≤1)=True:=Y22
 have H:=aj f0 (aj f1 (aj ft (aj f2 H)))
 have hw:IntKind.i64.wrap (3-2)=1:=Y22
 have H:=aj hw H
 have H:=aj hst H
 refine rs (k:=rg [0,1] (k:=rs (k:=rs (k:=rg [0,1,10] (k:=rc (ht:=fun hc0=>?_) (hf:=fun hc0=>?_))))))
 ·cases hc0
 ·exact Y203
theorem store_Len {s:St} {st b0 b1 v0 v1 n:Nat} (hst:s.blk st=some (.row 121 [.agg [.own b0 0 n,.own b1 0 n,.own v0 0 n,.own v1 0 n]])):ACalls Tryz.prog 76 [.ptr st 0 0] s (fun r s'=>r=.int .i64 n∧s'=s):=by
 refine go Tryz.func76 (k:=fun hwf H=>?_)
 have f0:((0:Int)<((2:Nat):Int))=True:=Y22
 have f1:((1:Int)<((2:Nat):Int))=True:=Y22
 have ft:Int.toNat 1=1:=rfl
 have f2:((0:Int)≤1)=True:=Y22
 have H:=aj f0 (aj f1 (aj ft (aj f2 H)))
 have H:=aj hst H
 refine rs (k:=rg [0] (k:=rs (k:=rg [2] (k:=rR (k:=?_)))))
 exact Ret.all (by simp only [Tryz.f76,go_sem,↓reduceIte]<;>rfl) ⟨rfl,rfl⟩
theorem store_there {s:St} {st b0 b1 v0 v1 n:Nat} (hst:s.blk st=some (.row 121 [.agg [.own b0 0 n,.own b1 0 n,.own v0 0 n,.own v1 0 n]])) (hn:n≤65536) {a m:Int} (ha:I64 a):ACalls Tryz.prog 43 [.ptr st 0 0,.int .i64 a,.int .i64 m] s (fun r s'=>r=.bool (thereF n a m)∧s'=s):=by
 refine go Tryz.func43 (k:=fun hwf H=>?_)
 have H:=aj hst H
 refine rs (k:=rg [0,1,2] (k:=rs (k:=rr (k:=ro (pre:=[_,_,_,_,_,_,_,_,_]) (k:=rG (h:=fun hb=>store_Len hst) (k:=ro (pre:=[_,_,_,_,_]) (k:=rG (h:=fun hb=>store_Len hst) (k:=rh [6] (k:=rR (k:=?_))))))))))
 refine Ret.all (by simp only [Tryz.f43,go_sem,↓reduceIte]<;>rfl) ⟨?_,rfl⟩
 refine congrArg PV.bool ?_
 unfold thereF
 by_cases h0:0≤a
 ·by_cases h3:a≤n
  ·have hw:IntKind.i64.wrap ((n:Int)-a)=n-a:=wrap_i64 Y21
   rw [hw,Bool.eq_iff_iff]
   simp only [Bool.and_eq_true,decide_eq_true_eq]
   omega
  ·simp [h3]
 ·simp [h0]
theorem Y256 {p:Prop} (h:p:=by rw [Tryz.zp4];rfl):p:=h
theorem Y257 {p:Prop} (h:p:=by rw [Tryz.by4];decide):p:=h
theorem clone_own_bool {l ys:List Bool} {id off m:Nat} {s:St} (hb:s.blk id=some (.row 4 (l.map PV.bool))) (hys:(l.drop off).take m=ys) (hle:off+m≤l.length) (hl:l.length≤65536):ACalls Tryz.prog 89 [.own id off m] s (fun r s'=>r=.sl .unk (ys.map PV.bool)∧s'=s):=by
 refine go Tryz.func89 (k:=fun hwf H=>?_)
 have hyl:ys.length≤65536:=by rw [← hys,List.length_take,List.length_drop];omega
 refine rs (k:=rg [0] (k:=rs (k:=rs (k:=rg [0,4] (k:=rc (ht:=fun hc0=>?_) (hf:=fun hc0=>?_))))))
 ·cases hc0
 ·refine rk (k:=rs (k:=rr (k:=rO (k:=ro (pre:=[_]) (k:=?_)))))
  refine RunO.appendFrom (els:=l.map PV.bool) (ys:=ys.map PV.bool) au au au hb (by rw [← hys,List.map_take,List.map_drop]) (by rw [List.length_map];exact hle) Tryz.td45 Y256 (isEls_map (P:=Tryz.prog) (e:=4) (f:=PV.bool) (fun a=>⟨rfl,by rw [Tryz.cz4];rfl⟩) _) Y257 (by rw [Tryz.by4,List.length_map];omega) (.inr rfl) ?_
  intro k1 s1 hm1
  refine rh [2] (k:=rR (k:=?_))
  refine Ret.pure (r':=.sl .unk (ys.map PV.bool)) (by simp only [Tryz.f89,go_sem,↓reduceIte]<;>rfl) (by simp only [PV.weak,weaks_bools]) (by simp only [PV.blw];exact ⟨fun t z e=>Y20,(by rw [blws_boolsT];trivial)⟩) hwf (hm1.fr hwf).blk ⟨rfl,rfl⟩
theorem clone_own_uint16 {l ys:List Int} {id off m:Nat} {s:St} (hb:s.blk id=some (.row 39 (l.map (PV.int .u16)))) (hys:(l.drop off).take m=ys) (hle:off+m≤l.length) (hl:l.length≤65536):ACalls Tryz.prog 44 [.own id off m] s (fun r s'=>r=.sl .unk (ys.map (PV.int .u16))∧s'=s):=by
 refine go Tryz.func44 (k:=fun hwf H=>?_)
 have hyl:ys.length≤65536:=by rw [← hys,List.length_take,List.length_drop];omega
 refine rs (k:=rg [0] (k:=rs (k:=rs (k:=rg [0,4] (k:=rc (ht:=fun hc0=>?_) (hf:=fun hc0=>?_))))))
 ·cases hc0
 ·refine rk (k:=rs (k:=rr (k:=rO (k:=ro (pre:=[_]) (k:=?_)))))
  refine RunO.appendFrom (els:=l.map (PV.int .u16)) (ys:=ys.map (PV.int .u16)) au au au hb (by rw [← hys,List.map_take,List.map_drop]) (by rw [List.length_map];exact hle) Tryz.td23 Y143 (isEls_map (P:=Tryz.prog) (e:=39) (f:=(PV.int .u16)) (fun a=>⟨rfl,Y248⟩) _) Y144 (by rw [Tryz.by39,List.length_map];omega) (.inr rfl) ?_
  intro k1 s1 hm1
  refine rh [2] (k:=rR (k:=?_))
  refine Ret.pure (r':=.sl .unk (ys.map (PV.int .u16))) (by simp only [Tryz.f44,go_sem,↓reduceIte]<;>rfl) (by simp only [PV.weak,weaks_u16]) Y194 hwf (hm1.fr hwf).blk ⟨rfl,rfl⟩
theorem Y38 {p:Prop} (h:p:=by
 simp (disch:=omega) only [go_sem,H]
 rw [if_pos ⟨Y22,Y21,Y21⟩,if_neg (show ¬ ((x:Int)=n) from Y21)]
 by_cases hx0:(x:Int)=0
 ·rw [if_pos hx0]
  have:x=0:=by omega
  subst this
  simp
 ·rw [if_neg hx0]
  have:(((x+y:Nat):Int)-(x:Int)).toNat=y:=by omega
  rw [this]):p:=h
theorem Y92 {p:Prop} (h:p:=by simp only [PV.blw,PV.blws,blws_boolsT,and_true,true_and];exact fun t z e=>Y20):p:=h
theorem Y149 {p:Prop} (h:p:=by simp only [Tryz.f170,go_sem,↓reduceIte]<;>rfl):p:=h
theorem store_get0 {s:St} {st b0 b1 v0 v1 n:Nat} (hst:s.blk st=some (.row 121 [.agg [.own b0 0 n,.own b1 0 n,.own v0 0 n,.own v1 0 n]])) {l:List Bool} (hb:s.blk b0=some (.row 4 (l.map PV.bool))) (hn:l.length=n) (hn2:n≤65536) {a m:Int} (ha:I64 a) (hm:1≤m):ACalls Tryz.prog 170 [.ptr st 0 0,.int .i64 0,.int .i64 a,.int .i64 m] s (fun r s'=>r=.tuple [.sl .unk ((cutF l a m).map PV.bool),.bool (thereF n a m)]∧s'=s):=by
 refine go Tryz.func170 (k:=fun hwf H=>?_)
 have H:=aj hst (aj hb H)
 refine rs (k:=rg [0,1,2,3] (k:=rs (k:=rr (k:=ro (pre:=[_,_]) (k:=?_)))))
 refine RunO.callw au au au Y26 ((store_fl0 hst).mono ?_)
 rintro r s1 ⟨rfl,hs⟩
 subst s1
 refine rh [0,2,3,10] (k:=rs (k:=rs (k:=rr (k:=ro (pre:=[_,_,_,_,_,_]) (k:=rG (h:=fun hb=>store_there hst hn2 ha) (k:=rh [2,3,10,22] (k:=rc (ht:=fun hc0=>?_) (hf:=fun hc0=>?_))))))))
 refine rs (k:=rg [8,9] (k:=rR (k:=?_)))
 refine jO 1 ?_;rotate_left
 refine rk (k:=rs (k:=?_))
 have htT:thereF n a m=true:=Y86
 have htt:=htT
 unfold thereF at htt
 have htt:=of_decide_eq_true htt
 obtain ⟨x,rfl⟩:∃ x:Nat,a=x:=⟨a.toNat,(Int.toNat_of_nonneg htt.1).symm⟩
 obtain ⟨y,rfl⟩:∃ y:Nat,m=y:=⟨m.toNat,(Int.toNat_of_nonneg Y21).symm⟩
 have hw:IntKind.i64.wrap ((x:Int)+y)=((x+y:Nat):Int):=Y28
 have hsl:=aSlice_own (P:=Tryz.prog) (t:=45) (id:=b0) (off:=0) (len:=n) (a:=x) (m:=y) Tryz.td45 (by rw [Tryz.cz4];decide) rfl hb Y21 Y21
 rw [Nat.zero_add] at hsl
 have H:=aj hw H
 refine rr (k:=ro (pre:=[_,_,_,_,_]) (k:=?_))
 refine RunO.gdo au (v:=.own b0 x y) (s':=s) Y38 ?_
 refine rC (h:=clone_own_bool hb rfl Y21 Y21) (k:=rh [8,9] (k:=rR (k:=?_)))
 refine jO 1 ?_;rotate_left
 any_goals
  refine jI 1 ?_
  first
   |(have htF:thereF n a m=false:=by simpa using hc0
     refine Ret.pure (r':=.tuple [.sl .unk ((cutF l a m).map PV.bool),.bool (thereF n a m)]) Y149 ?_ Y92 hwf (fun _ _=>rfl) ⟨rfl,rfl⟩
     simp only [PV.weak,PV.weaks,weaks_bools]
     unfold cutF
     rw [hn,htF];rfl)
   |(refine Ret.pure (r':=.tuple [.sl .unk ((cutF l (x:Int) (y:Int)).map PV.bool),.bool (thereF n (x:Int) (y:Int))]) Y149 ?_ Y92 hwf (fun _ _=>rfl) ⟨rfl,rfl⟩
     simp only [PV.weak,PV.weaks,weaks_bools]
     unfold cutF
     rw [hn,htT,if_pos rfl];rfl)
theorem store_get1 {s:St} {st b0 b1 v0 v1 n:Nat} (hst:s.blk st=some (.row 121 [.agg [.own b0 0 n,.own b1 0 n,.own v0 0 n,.own v1 0 n]])) {l:List Bool} (hb:s.blk b1=some (.row 4 (l.map PV.bool))) (hn:l.length=n) (hn2:n≤65536) {a m:Int} (ha:I64 a) (hm:1≤m):ACalls Tryz.prog 170 [.ptr st 0 0,.int .i64 1,.int .i64 a,.int .i64 m] s (fun r s'=>r=.tuple [.sl .unk ((cutF l a m).map PV.bool),.bool (thereF n a m)]∧s'=s):=by
 refine go Tryz.func170 (k:=fun hwf H=>?_)
 have H:=aj hst (aj hb H)
 refine rs (k:=rg [0,1,2,3] (k:=rs (k:=rr (k:=ro (pre:=[_,_]) (k:=?_)))))
 refine RunO.callw au au au Y26 ((store_fl1 hst).mono ?_)
 rintro r s1 ⟨rfl,hs⟩
 subst s1
 refine rh [0,2,3,10] (k:=rs (k:=rs (k:=rr (k:=ro (pre:=[_,_,_,_,_,_]) (k:=rG (h:=fun hb=>store_there hst hn2 ha) (k:=rh [2,3,10,22] (k:=rc (ht:=fun hc0=>?_) (hf:=fun hc0=>?_))))))))
 refine rs (k:=rg [8,9] (k:=rR (k:=?_)))
 refine jO 1 ?_;rotate_left
 refine rk (k:=rs (k:=?_))
 have htT:thereF n a m=true:=Y86
 have htt:=htT
 unfold thereF at htt
 have htt:=of_decide_eq_true htt
 obtain ⟨x,rfl⟩:∃ x:Nat,a=x:=⟨a.toNat,(Int.toNat_of_nonneg htt.1).symm⟩
 obtain ⟨y,rfl⟩:∃ y:Nat,m=y:=⟨m.toNat,(Int.toNat_of_nonneg Y21).symm⟩
 have hw:IntKind.i64.wrap ((x:Int)+y)=((x+y:Nat):Int):=Y28
 have hsl:=aSlice_own (P:=Tryz.prog) (t:=45) (id:=b1) (off:=0) (len:=n) (a:=x) (m:=y) Tryz.td45 (by rw [Tryz.cz4];decide) rfl hb Y21 Y21
 rw [Nat.zero_add] at hsl
 have H:=aj hw H
 refine rr (k:=ro (pre:=[_,_,_,_,_]) (k:=?_))
 refine RunO.gdo au (v:=.own b1 x y) (s':=s) Y38 ?_
 refine rC (h:=clone_own_bool hb rfl Y21 Y21) (k:=rh [8,9] (k:=rR (k:=?_)))
 refine jO 1 ?_;rotate_left
 any_goals
  refine jI 1 ?_
  first
   |(have htF:thereF n a m=false:=by simpa using hc0
     refine Ret.pure (r':=.tuple [.sl .unk ((cutF l a m).map PV.bool),.bool (thereF n a m)]) Y149 ?_ Y92 hwf (fun _ _=>rfl) ⟨rfl,rfl⟩
     simp only [PV.weak,PV.weaks,weaks_bools]
     unfold cutF
     rw [hn,htF];rfl)
   |(refine Ret.pure (r':=.tuple [.sl .unk ((cutF l (x:Int) (y:Int)).map PV.bool),.bool (thereF n (x:Int) (y:Int))]) Y149 ?_ Y92 hwf (fun _ _=>rfl) ⟨rfl,rfl⟩
     simp only [PV.weak,PV.weaks,weaks_bools]
     unfold cutF
     rw [hn,htT,if_pos rfl];rfl)
theorem Y93 {p:Prop} (h:p:=by simp only [PV.blw,PV.blws,blws_u16T,and_true,true_and];exact fun t z e=>Y20):p:=h
theorem Y150 {p:Prop} (h:p:=by simp only [Tryz.f17,go_sem,↓reduceIte]<;>rfl):p:=h
theorem store_get2 {s:St} {st b0 b1 v0 v1 n:Nat} (hst:s.blk st=some (.row 121 [.agg [.own b0 0 n,.own b1 0 n,.own v0 0 n,.own v1 0 n]])) {l:List Int} (hb:s.blk v0=some (.row 39 (l.map (PV.int .u16)))) (hn:l.length=n) (hn2:n≤65536) {a m:Int} (ha:I64 a) (hm:1≤m):ACalls Tryz.prog 17 [.ptr st 0 0,.int .i64 2,.int .i64 a,.int .i64 m] s (fun r s'=>r=.tuple [.sl .unk ((cutF l a m).map (PV.int .u16)),.bool (thereF n a m)]∧s'=s):=by
 refine go Tryz.func17 (k:=fun hwf H=>?_)
 have H:=aj hst (aj hb H)
 refine rs (k:=rg [0,1,2,3] (k:=rs (k:=rr (k:=ro (pre:=[_,_]) (k:=?_)))))
 refine RunO.callw au au au Y26 ((store_fl2 hst).mono ?_)
 rintro r s1 ⟨rfl,hs⟩
 subst s1
 refine rh [0,2,3,10] (k:=rs (k:=rs (k:=rr (k:=ro (pre:=[_,_,_,_,_,_]) (k:=rG (h:=fun hb=>store_there hst hn2 ha) (k:=rh [2,3,10,22] (k:=rc (ht:=fun hc0=>?_) (hf:=fun hc0=>?_))))))))
 refine rs (k:=rg [8,9] (k:=rR (k:=?_)))
 refine jO 1 ?_;rotate_left
 refine rk (k:=rs (k:=?_))
 have htT:thereF n a m=true:=Y86
 have htt:=htT
 unfold thereF at htt
 have htt:=of_decide_eq_true htt
 obtain ⟨x,rfl⟩:∃ x:Nat,a=x:=⟨a.toNat,(Int.toNat_of_nonneg htt.1).symm⟩
 obtain ⟨y,rfl⟩:∃ y:Nat,m=y:=⟨m.toNat,(Int.toNat_of_nonneg Y21).symm⟩
 have hw:IntKind.i64.wrap ((x:Int)+y)=((x+y:Nat):Int):=Y28
 have hsl:=aSlice_own (P:=Tryz.prog) (t:=23) (id:=v0) (off:=0) (len:=n) (a:=x) (m:=y) Tryz.td23 (by rw [Tryz.cz39];decide) rfl hb Y21 Y21
 rw [Nat.zero_add] at hsl
 have H:=aj hw H
 refine rr (k:=ro (pre:=[_,_,_,_,_]) (k:=?_))
 refine RunO.gdo au (v:=.own v0 x y) (s':=s) Y38 ?_
 refine rC (h:=clone_own_uint16 hb rfl Y21 Y21) (k:=rh [8,9] (k:=rR (k:=?_)))
 refine jO 1 ?_;rotate_left
 any_goals
  refine jI 1 ?_
  first
   |(have htF:thereF n a m=false:=by simpa using hc0
     refine Ret.pure (r':=.tuple [.sl .unk ((cutF l a m).map (PV.int .u16)),.bool (thereF n a m)]) Y150 ?_ Y93 hwf (fun _ _=>rfl) ⟨rfl,rfl⟩
     simp only [PV.weak,PV.weaks,weaks_u16]
     unfold cutF
     rw [hn,htF];rfl)
   |(refine Ret.pure (r':=.tuple [.sl .unk ((cutF l (x:Int) (y:Int)).map (PV.int .u16)),.bool (thereF n (x:Int) (y:Int))]) Y150 ?_ Y93 hwf (fun _ _=>rfl) ⟨rfl,rfl⟩
     simp only [PV.weak,PV.weaks,weaks_u16]
     unfold cutF
     rw [hn,htT,if_pos rfl];rfl)
theorem store_get3 {s:St} {st b0 b1 v0 v1 n:Nat} (hst:s.blk st=some (.row 121 [.agg [.own b0 0 n,.own b1 0 n,.own v0 0 n,.own v1 0 n]])) {l:List Int} (hb:s.blk v1=some (.row 39 (l.map (PV.int .u16)))) (hn:l.length=n) (hn2:n≤65536) {a m:Int} (ha:I64 a) (hm:1≤m):ACalls Tryz.prog 17 [.ptr st 0 0,.int .i64 3,.int .i64 a,.int .i64 m] s (fun r s'=>r=.tuple [.sl .unk ((cutF l a m).map (PV.int .u16)),.bool (thereF n a m)]∧s'=s):=by
 refine go Tryz.func17 (k:=fun hwf H=>?_)
 have H:=aj hst (aj hb H)
 refine rs (k:=rg [0,1,2,3] (k:=rs (k:=rr (k:=ro (pre:=[_,_]) (k:=?_)))))
 refine RunO.callw au au au Y26 ((store_fl3 hst).mono ?_)
 rintro r s1 ⟨rfl,hs⟩
 subst s1
 refine rh [0,2,3,10] (k:=rs (k:=rs (k:=rr (k:=ro (pre:=[_,_,_,_,_,_]) (k:=rG (h:=fun hb=>store_there hst hn2 ha) (k:=rh [2,3,10,22] (k:=rc (ht:=fun hc0=>?_) (hf:=fun hc0=>?_))))))))
 refine rs (k:=rg [8,9] (k:=rR (k:=?_)))
 refine jO 1 ?_;rotate_left
 refine rk (k:=rs (k:=?_))
 have htT:thereF n a m=true:=Y86
 have htt:=htT
 unfold thereF at htt
 have htt:=of_decide_eq_true htt
 obtain ⟨x,rfl⟩:∃ x:Nat,a=x:=⟨a.toNat,(Int.toNat_of_nonneg htt.1).symm⟩
 obtain ⟨y,rfl⟩:∃ y:Nat,m=y:=⟨m.toNat,(Int.toNat_of_nonneg Y21).symm⟩
 have hw:IntKind.i64.wrap ((x:Int)+y)=((x+y:Nat):Int):=Y28
 have hsl:=aSlice_own (P:=Tryz.prog) (t:=23) (id:=v1) (off:=0) (len:=n) (a:=x) (m:=y) Tryz.td23 (by rw [Tryz.cz39];decide) rfl hb Y21 Y21
 rw [Nat.zero_add] at hsl
 have H:=aj hw H
 refine rr (k:=ro (pre:=[_,_,_,_,_]) (k:=?_))
 refine RunO.gdo au (v:=.own v1 x y) (s':=s) Y38 ?_
 refine rC (h:=clone_own_uint16 hb rfl Y21 Y21) (k:=rh [8,9] (k:=rR (k:=?_)))
 refine jO 1 ?_;rotate_left
 any_goals
  refine jI 1 ?_
  first
   |(have htF:thereF n a m=false:=by simpa using hc0
     refine Ret.pure (r':=.tuple [.sl .unk ((cutF l a m).map (PV.int .u16)),.bool (thereF n a m)]) Y150 ?_ Y93 hwf (fun _ _=>rfl) ⟨rfl,rfl⟩
     simp only [PV.weak,PV.weaks,weaks_u16]
     unfold cutF
     rw [hn,htF];rfl)
   |(refine Ret.pure (r':=.tuple [.sl .unk ((cutF l (x:Int) (y:Int)).map (PV.int .u16)),.bool (thereF n (x:Int) (y:Int))]) Y150 ?_ Y93 hwf (fun _ _=>rfl) ⟨rfl,rfl⟩
     simp only [PV.weak,PV.weaks,weaks_u16]
     unfold cutF
     rw [hn,htT,if_pos rfl];rfl)
theorem Y94 {p:Prop} (h:p:=by
 simp (disch:=omega) only [go_sem,H]
 rw [if_pos ⟨Y22,Y21⟩,if_neg (show ¬ ((p:Int)=n) from Y21)]
 by_cases hx0:(p:Int)=0
 ·rw [if_pos hx0]
  have:p=0:=Y21
  subst this
  simp
 ·rw [if_neg hx0]
  have:((n:Int)-(p:Int)).toNat=n-p:=Y21
  rw [this]):p:=h
theorem Y258 {p:Prop} (h:p:=by rw [List.length_map];omega):p:=h
theorem Y151 {p:Prop} (h:p:=by unfold aCopy;rw [hb];simp only;rw [if_pos ⟨Y258,trivial,Y258⟩];unfold overF;simp [List.map_take,List.map_drop]):p:=h
theorem store_put0 {s:St} {st b0 b1 v0 v1 n:Nat} (hst:s.blk st=some (.row 121 [.agg [.own b0 0 n,.own b1 0 n,.own v0 0 n,.own v1 0 n]])) {l x:List Bool} (hb:s.blk b0=some (.row 4 (l.map PV.bool))) (hn:l.length=n) (hn2:n≤65536) {a:Int} (ha:I64 a) (hx:x≠[]) (hst2:b0≠st):ACalls Tryz.prog 173 [.ptr st 0 0,.int .i64 0,.int .i64 a,.sl .unk (x.map PV.bool)] s (fun r s'=>r=.bool (thereF n a x.length)∧s'=(if thereF n a x.length=true then s.set b0 (some (.row 4 ((overF l a.toNat x).map PV.bool))) else s)):=by
 refine go Tryz.func173 (k:=fun hwf H=>?_)
 have H:=aj hst (aj hb H)
 refine rs (k:=rg [0,1,2,3] (k:=rs (k:=rr (k:=ro (pre:=[_,_]) (k:=?_)))))
 refine RunO.callw au au au Y26 ((store_fl0 hst).mono ?_)
 rintro r s1 ⟨rfl,hs⟩
 subst s1
 refine rh [0,2,3,9] (k:=rs (k:=rs (k:=rr (k:=ro (pre:=[_,_,_,_,_,_,_]) (k:=rG (h:=fun hb=>store_there hst hn2 ha) (k:=rh [2,3,9,22] (k:=rc (ht:=fun hc0=>?_) (hf:=fun hc0=>?_))))))))
 refine rs (k:=rg [8] (k:=rR (k:=?_)))
 refine jO 1 ?_;rotate_left
 refine rk (k:=rs (k:=?_))
 have hxl:1≤x.length:=List.length_pos_iff.2 hx
 have htT:thereF n a x.length=true:=Y86
 have htt:=htT
 unfold thereF at htt
 have htt:=of_decide_eq_true htt
 obtain ⟨p,hp⟩:∃ p:Nat,a=p:=⟨a.toNat,(Int.toNat_of_nonneg htt.1).symm⟩
 subst hp
 refine rr (k:=ro (pre:=[_,_]) (k:=?_))
 refine RunO.gdo au (v:=.own b0 p (n-p)) (s':=s) Y94 ?_
 refine ro (pre:=[_]) (k:=?_)
 refine RunO.copy (el:=4) (id:=b0) (off:=p) (len:=n-p) (ys:=x.map PV.bool) (s':=s.set b0 (some (.row 4 ((overF l p x).map PV.bool)))) au au au Tryz.td45 Y256 (isEls_map (P:=Tryz.prog) (e:=4) (f:=PV.bool) (fun a=>⟨rfl,by rw [Tryz.cz4];rfl⟩) _) Y151 ?_
 refine rl [] (k:=rs (k:=rg [8] (k:=rR (k:=?_))))
 refine jO 1 ?_;rotate_left
 any_goals
  refine jI 1 ?_
  first
   |(have htF:thereF n a x.length=false:=by simpa using hc0
     refine Ret.all (by simp only [Tryz.f173,go_sem,↓reduceIte]<;>rfl) ⟨by rw [htF],by rw [htF];rfl⟩)
   |(refine Ret.all (by simp only [Tryz.f173,go_sem,↓reduceIte]<;>rfl) ⟨by rw [htT],by rw [htT,if_pos rfl];rfl⟩)
theorem store_put3 {s:St} {st b0 b1 v0 v1 n:Nat} (hst:s.blk st=some (.row 121 [.agg [.own b0 0 n,.own b1 0 n,.own v0 0 n,.own v1 0 n]])) {l x:List Int} (hb:s.blk v1=some (.row 39 (l.map (PV.int .u16)))) (hn:l.length=n) (hn2:n≤65536) {a:Int} (ha:I64 a) (hx:x≠[]) (hst2:v1≠st):ACalls Tryz.prog 174 [.ptr st 0 0,.int .i64 3,.int .i64 a,.sl .unk (x.map (PV.int .u16))] s (fun r s'=>r=.bool (thereF n a x.length)∧s'=(if thereF n a x.length=true then s.set v1 (some (.row 39 ((overF l a.toNat x).map (PV.int .u16)))) else s)):=by
 refine go Tryz.func174 (k:=fun hwf H=>?_)
 have H:=aj hst (aj hb H)
 refine rs (k:=rg [0,1,2,3] (k:=rs (k:=rr (k:=ro (pre:=[_,_]) (k:=?_)))))
 refine RunO.callw au au au Y26 ((store_fl3 hst).mono ?_)
 rintro r s1 ⟨rfl,hs⟩
 subst s1
 refine rh [0,2,3,9] (k:=rs (k:=rs (k:=rr (k:=ro (pre:=[_,_,_,_,_,_,_]) (k:=rG (h:=fun hb=>store_there hst hn2 ha) (k:=rh [2,3,9,22] (k:=rc (ht:=fun hc0=>?_) (hf:=fun hc0=>?_))))))))
 refine rs (k:=rg [8] (k:=rR (k:=?_)))
 refine jO 1 ?_;rotate_left
 refine rk (k:=rs (k:=?_))
 have hxl:1≤x.length:=List.length_pos_iff.2 hx
 have htT:thereF n a x.length=true:=Y86
 have htt:=htT
 unfold thereF at htt
 have htt:=of_decide_eq_true htt
 obtain ⟨p,hp⟩:∃ p:Nat,a=p:=⟨a.toNat,(Int.toNat_of_nonneg htt.1).symm⟩
 subst hp
 refine rr (k:=ro (pre:=[_,_]) (k:=?_))
 refine RunO.gdo au (v:=.own v1 p (n-p)) (s':=s) Y94 ?_
 refine ro (pre:=[_]) (k:=?_)
 refine RunO.copy (el:=39) (id:=v1) (off:=p) (len:=n-p) (ys:=x.map (PV.int .u16)) (s':=s.set v1 (some (.row 39 ((overF l p x).map (PV.int .u16))))) au au au Tryz.td23 Y143 (isEls_map (P:=Tryz.prog) (e:=39) (f:=(PV.int .u16)) (fun a=>⟨rfl,Y248⟩) _) Y151 ?_
 refine rl [] (k:=rs (k:=rg [8] (k:=rR (k:=?_))))
 refine jO 1 ?_;rotate_left
 any_goals
  refine jI 1 ?_
  first
   |(have htF:thereF n a x.length=false:=by simpa using hc0
     refine Ret.all (by simp only [Tryz.f174,go_sem,↓reduceIte]<;>rfl) ⟨by rw [htF],by rw [htF];rfl⟩)
   |(refine Ret.all (by simp only [Tryz.f174,go_sem,↓reduceIte]<;>rfl) ⟨by rw [htT],by rw [htT,if_pos rfl];rfl⟩)
end Go.Proofs
namespace Go.Proofs
open Go.PM
set_option maxHeartbeats 2000000
def devRow (b:Nat) (D:Dev):Blk:=.row 89 [.agg [.ptr b 0 0,.int .u8 D.unit,.int .i64 D.msgs,.int .i64 D.exc]]
def stoRow (b n:Nat):Blk:=.row 121 [.agg [.own (b+1) 0 n,.own (b+3) 0 n,.own (b+2) 0 n,.own (b+4) 0 n]]
structure DevAt (b:Nat) (D:Dev) (s:St):Prop where
 st:s.blk b=some (stoRow b D.c0.length)
 c0:s.blk (b+1)=some (.row 4 (D.c0.map PV.bool))
 c1:s.blk (b+3)=some (.row 4 (D.c1.map PV.bool))
 v0:s.blk (b+2)=some (.row 39 (D.v0.map (PV.int .u16)))
 v1:s.blk (b+4)=some (.row 39 (D.v1.map (PV.int .u16)))
 dv:s.blk (b+5)=some (devRow b D)
def putDev (b:Nat) (D:Dev) (s:St):St:=((((s.set (b+1) (some (.row 4 (D.c0.map PV.bool)))).set (b+3) (some (.row 4 (D.c1.map PV.bool)))).set (b+2) (some (.row 39 (D.v0.map (PV.int .u16))))).set (b+4) (some (.row 39 (D.v1.map (PV.int .u16))))).set (b+5) (some (devRow b D))
theorem putDev_blk (b:Nat) (D:Dev) (s:St) (i:Nat):(putDev b D s).blk i=if i=b+5 then some (devRow b D) else if i=b+4 then some (.row 39 (D.v1.map (PV.int .u16))) else if i=b+2 then some (.row 39 (D.v0.map (PV.int .u16))) else if i=b+3 then some (.row 4 (D.c1.map PV.bool)) else if i=b+1 then some (.row 4 (D.c0.map PV.bool)) else s.blk i:=rfl
theorem putDev_nxt (b:Nat) (D:Dev) (s:St):(putDev b D s).nxt=s.nxt:=rfl
theorem DevAt.of {b:Nat} {D:Dev} {s:St} (h:DevAt b D s) {D':Dev} {s':St} (h0:s'.blk b=s.blk b) (hl:D'.c0.length=D.c0.length) (h1:s'.blk (b+1)=some (.row 4 (D'.c0.map PV.bool))) (h3:s'.blk (b+3)=some (.row 4 (D'.c1.map PV.bool)))
  (h2:s'.blk (b+2)=some (.row 39 (D'.v0.map (PV.int .u16)))) (h4:s'.blk (b+4)=some (.row 39 (D'.v1.map (PV.int .u16)))) (h5:s'.blk (b+5)=some (devRow b D')):DevAt b D' s':=⟨by rw [h0,hl];exact h.st,h1,h3,h2,h4,h5⟩
theorem DevAt.put {b:Nat} {D:Dev} {s:St} (h:DevAt b D s) {D':Dev} (hl:D'.c0.length=D.c0.length):DevAt b D' (putDev b D' s):=by
 refine ⟨?_,?_,?_,?_,?_,?_⟩<;>rw [putDev_blk]
 ·rw [if_neg Y21,if_neg Y21,if_neg Y21,if_neg Y21,if_neg Y21,hl];exact h.st
 ·rw [if_neg Y21,if_neg Y21,if_neg Y21,if_neg Y21,if_pos rfl]
 ·rw [if_neg Y21,if_neg Y21,if_neg Y21,if_pos rfl]
 ·rw [if_neg Y21,if_neg Y21,if_pos rfl]
 ·rw [if_neg Y21,if_pos rfl]
 ·rw [if_pos rfl]
theorem eq_putDev {b:Nat} {D:Dev} {s s':St} (hn:s'.nxt=s.nxt) (h:DevAt b D s') (hk:∀ i,i<b+1∨b+5<i→s'.blk i=s.blk i):s'=putDev b D s:=by
 refine St.eq_of hn fun i=>?_
 rw [putDev_blk]
 by_cases e5:i=b+5
 ·rw [if_pos e5,e5];exact h.dv
 rw [if_neg e5]
 by_cases e4:i=b+4
 ·rw [if_pos e4,e4];exact h.v1
 rw [if_neg e4]
 by_cases e2:i=b+2
 ·rw [if_pos e2,e2];exact h.v0
 rw [if_neg e2]
 by_cases e3:i=b+3
 ·rw [if_pos e3,e3];exact h.c1
 rw [if_neg e3]
 by_cases e1:i=b+1
 ·rw [if_pos e1,e1];exact h.c0
 rw [if_neg e1]
 exact hk i Y21
theorem putDev_self {b:Nat} {D:Dev} {s:St} (h:DevAt b D s):putDev b D s=s:=(eq_putDev rfl h fun _ _=>rfl).symm
theorem putDev_put {b:Nat} {D D':Dev} {s:St}:putDev b D' (putDev b D s)=putDev b D' s:=by
 refine St.eq_of rfl fun i=>?_
 simp only [putDev_blk]
 (repeat' split)<;>first | rfl |(exfalso;omega)
theorem putDev_wf {b:Nat} {D D':Dev} {s:St} (hA:DevAt b D s) (hwf:s.wf):(putDev b D' s).wf:=by
 intro i hi
 rw [putDev_nxt] at hi
 have h5:=lt_blk hwf hA.dv
 rw [putDev_blk,if_neg Y21,if_neg Y21,if_neg Y21,if_neg Y21,if_neg Y21]
 exact hwf i hi
theorem putDev_blw {b:Nat} {D D':Dev} {s:St} (hA:DevAt b D s) (hwf:s.wf) (i:Nat) (bl:Blk) (h:(putDev b D' s).blk i=some bl):s.blk i=some bl∨bl.blw s.nxt:=by
 have h0:=lt_blk hwf hA.st
 rw [putDev_blk] at h
 repeat' split at h
 ·cases h;right;simp only [devRow,Blk.blw,PV.blw,PV.blws,and_true];exact h0
 ·cases h;right;exact blws_u16 _ _
 ·cases h;right;exact blws_u16 _ _
 ·cases h;right;simp only [Blk.blw];rw [blws_boolsT];trivial
 ·cases h;right;simp only [Blk.blw];rw [blws_boolsT];trivial
 ·exact .inl h
theorem Ret.dev {fn:Func} {args:List PV} {s0 s:St} {Q:PV→St→Prop} {e:Env} {r r':PV} {b:Nat} {D:Dev} (D':Dev) (hA:DevAt b D s0) (hr:retv Tryz.prog fn.results.toList e s=some r) (hr':r'=r.weak) (hb:r'.blw s0.nxt) (hwf:s0.wf)
  (hk:∀ i,i<s0.nxt→s.blk i=(putDev b D' s0).blk i) (h:Q r' (putDev b D' s0)):Ret Tryz.prog fn args s0 Q e s :=
 Ret.put (putDev b D' s0) hr hr' hb (putDev_wf hA hwf) rfl hk (putDev_blw hA hwf) h
theorem DevAt.lt {b:Nat} {D:Dev} {s:St} (h:DevAt b D s) (hwf:s.wf):b+5<s.nxt:=lt_blk hwf h.dv
theorem device_space {fn:Int} {s:St}:ACalls Tryz.prog 171 [.int .i64 fn] s (fun r s'=>r=.int .i64 (if fn=1∨fn=5∨fn=15 then 0 else if fn=2 then 1 else if fn=4 then 2 else 3)∧s'=s):=by
 refine go Tryz.func171 (k:=fun hwf H=>?_)
 refine rs (k:=rg [0] (k:=rs (k:=rs (k:=rg [3] (k:=rb (k:=rs (k:=rs (k:=rg [3,4] (k:=rc (ht:=fun hc0=>?_) (hf:=fun hc0=>?_))))))))))
 refine rk (k:=rc (ht:=fun hc2=>?_) (hf:=fun hc2=>?_))
 refine jO 1 ?_;rotate_left
 ·exact Bool.noConfusion (hc0.symm.trans hc2)
 refine rs (k:=rg [3,4] (k:=rc (ht:=fun hc1=>?_) (hf:=fun hc1=>?_)))
 refine rk (k:=rc (ht:=fun hc2=>?_) (hf:=fun hc2=>?_))
 refine jO 1 ?_;rotate_left
 ·exact Y197
 refine rg [3,4] (k:=rc (ht:=fun hc2=>?_) (hf:=fun hc2=>?_))
 refine jO 1 ?_;rotate_left
 refine rs (k:=rg [3,8] (k:=rc (ht:=fun hc3=>?_) (hf:=fun hc3=>?_)))
 refine jO 1 ?_;rotate_left
 refine rs (k:=rg [10] (k:=rc (ht:=fun hc4=>?_) (hf:=fun hc4=>?_)))
 refine jO 1 ?_;rotate_left
 refine rk (k:=rB (k:=rs (k:=rg [2] (k:=rR (k:=rP (by simp only [Tryz.f171,go_sem];rfl) hwf ⟨?_,rfl⟩)))))
 refine jO 2 ?_;rotate_left
 any_goals
  refine jI 1 ?_
  refine rs (k:=rg [2] (k:=rR (k:=rP (by simp only [Tryz.f171,go_sem];rfl) hwf ⟨?_,rfl⟩)))
  refine jO 2 ?_;rotate_left
 any_goals
  refine jI 2 ?_
  simp only [decide_eq_true_eq,decide_eq_false_iff_not] at *
  refine jO 3 ?_;rotate_left
 any_goals
  refine jI 3 ?_
  refine congrArg (PV.int .i64) ?_
  refine jO 4 ?_;rotate_left
 any_goals
  refine jI 4 ?_
  first
   |(rw [if_pos Y21];done)
   |(rw [if_neg Y21,if_pos Y21];done)
   |(rw [if_neg Y21,if_neg Y21,if_pos Y21];done)
   |(rw [if_neg Y21,if_neg Y21,if_neg Y21];done)
attribute [local go_sem] weaks_bools Req.pv Rep.pv
theorem device_where {q:Req} (hq:q.ok) {s:St}:ACalls Tryz.prog 172 [q.pv] s (fun r s'=>r=(whereF q).pv∧s'=s):=by
 refine go Tryz.func172 (k:=fun hwf H=>?_)
 refine rs (k:=rg [1,2] (k:=rs (k:=rr (k:=ro (pre:=[_,_]) (k:=rC (h:=reply_Refuse (fn:=q.fn) (code:=2) hq.fn Y24) (k:=rh [2] (k:=rR (k:=?_))))))))
 exact Ret.pure (r':=(whereF q).pv) (by simp only [Tryz.f172,go_sem,↓reduceIte]<;>rfl) (by rfl) (blw_rep _ _) hwf Y36 ⟨rfl,rfl⟩
attribute [local go_sem] weaks_bools Rep.pv
theorem device_refuse {b:Nat} {D:Dev} {s:St} (hA:DevAt b D s) {fn code:Int} (hf:I64 fn) (hc:I64 code):ACalls Tryz.prog 159 [.ptr (b+5) 0 0,.int .i64 fn,.int .i64 code] s (fun r s'=>r=(refD D fn code).1.pv∧s'=putDev b (refD D fn code).2 s):=by
 refine go Tryz.func159 (k:=fun hwf H=>?_)
 have hdv:=hA.dv
 unfold devRow at hdv
 have hlt:=hA.lt hwf
 have hinc:IntKind.i64.wrap (D.exc+1)=inc D.exc:=rfl
 have H:=aj hinc H
 have H:=aj hdv H
 refine rs (k:=rg [0,1,2,6] (k:=rs (k:=rg [1,2,6] (k:=rs (k:=rr (k:=ro (pre:=[_,_]) (k:=rC (h:=reply_Refuse (fn:=fn) (code:=code) hf hc) (k:=rh [6] (k:=rR (k:=?_))))))))))
 exact Ret.dev (refD D fn code).2 hA (r':=(refD D fn code).1.pv) (by simp only [Tryz.f159,go_sem,↓reduceIte]<;>rfl) (by rfl) (blw_rep _ _) hwf (fun i hi=>by
  have h0:=ltn hi;have h1:=lte hi
  rw [putDev_blk]
  simp only [go_sem,Nat.add_assoc,Nat.reduceAdd,↓reduceIte,h0,h1]
  by_cases e5:i=b+5
  ·rw [if_pos e5,if_pos e5];rfl
  rw [if_neg e5,if_neg e5]
  by_cases e4:i=b+4
  ·rw [if_pos e4,e4];exact hA.v1
  rw [if_neg e4]
  by_cases e2:i=b+2
  ·rw [if_pos e2,e2];exact hA.v0
  rw [if_neg e2]
  by_cases e3:i=b+3
  ·rw [if_pos e3,e3];exact hA.c1
  rw [if_neg e3]
  by_cases e1:i=b+1
  ·rw [if_pos e1,e1];exact hA.c0
  rw [if_neg e1]) ⟨rfl,rfl⟩
set_option maxRecDepth 100000 in
theorem device_New {n:Nat} {s:St} (h1:1≤n) (h2:n≤65536):ACalls Tryz.prog 8 [.int .i64 (n:Int)] s (fun r s'=>r=.ptr (s.nxt+5) 0 0∧DevAt s.nxt (Dev.zero n) s'∧(∀ i,i<s.nxt→s'.blk i=s.blk i)∧s'.nxt=s.nxt+6):=by
 refine go Tryz.func8 (k:=fun hwf H=>?_)
 refine rs (k:=rg [0] (k:=rs (k:=rr (k:=ro (pre:=[_]) (k:=?_)))))
 refine RunO.callw au au au Y26 ((store_New h1 h2).mono ?_)
 rintro r s1 ⟨rfl,rfl⟩
 refine rh [3] (k:=rs (k:=rs (k:=rg [3,7] (k:=rc (ht:=fun hc0=>?_) (hf:=fun hc0=>?_)))))
 ·cases hc0
 refine rk (k:=rs (k:=rg [2] (k:=rR (k:=?_))))
 have L:∀ {p:Prop},p→p:=fun h=>h
 refine Ret.all (by simp only [Tryz.f8,go_sem,↓reduceIte]<;>rfl) ⟨rfl,⟨?_,?_,?_,?_,?_,?_⟩,fun i hi=>?_,rfl⟩
 ·simp (disch:=first | omega |(simp only [nxt_set,nxt_new]<;>omega) | fail) only [go_sem]
  simp [stoRow,Dev.zero]
 refine jO 1 ?_;rotate_left
 refine jO 1 ?_;rotate_left
 refine jO 1 ?_;rotate_left
 refine jO 1 ?_;rotate_left
 ·simp (disch:=first | omega |(simp only [nxt_set,nxt_new]<;>omega) | fail) only [go_sem,↓reduceIte,Nat.add_assoc,Nat.reduceAdd]
  simp [devRow,Dev.zero]
 ·have h0:=ltn hi;have h1:=lte hi
  simp (disch:=first | omega |(simp only [nxt_set,nxt_new]<;>omega) | fail) only [go_sem,Nat.add_assoc,Nat.reduceAdd,↓reduceIte,h0,h1]
 any_goals
  refine jI 1 ?_
  simp (disch:=first | omega |(simp only [nxt_set,nxt_new]<;>omega) | fail) only [go_sem]
  simp [Dev.zero]
end Go.Proofs
namespace Go.Proofs
open Go.PM
set_option maxHeartbeats 2000000
theorem DevAt.nw {b:Nat} {D:Dev} {s:St} (h:DevAt b D s) (hl:b+5<s.nxt) (x:Blk):DevAt b D (s.new x):=by
 have e:∀ i,i≤b+5→(s.new x).blk i=s.blk i:=fun i hi=>blk_new_ne Y21
 exact ⟨by rw [e _ Y21];exact h.st,by rw [e _ Y21];exact h.c0,by rw [e _ Y21];exact h.c1,by rw [e _ Y21];exact h.v0,by rw [e _ Y21];exact h.v1,by rw [e _ Y21];exact h.dv⟩
theorem count_of {q:Req} (h:countF q=true) (hf:q.fn=1∨q.fn=2∨q.fn=3∨q.fn=4∨q.fn=15∨q.fn=16∨q.fn=23):1≤q.count:=by
 have h:=(of_decide_eq_true h).2
 rcases hf with e | e | e | e | e | e | e<;>simp [e] at h<;>omega
theorem bits_of {q:Req} (hr:rightF q=0) (h:countF q=true) (hf:q.fn=5∨q.fn=15):q.bits≠[]:=by
 have hR:=right0 hr
 have hb:=hR.nb
 intro e
 rw [e] at hb
 rcases hf with e1 | e1
 ·unfold bitsF at hb;rw [if_pos e1] at hb;simp at hb
 ·have:=count_of h Y21
  unfold bitsF at hb;rw [if_neg Y21,if_pos e1] at hb;simp at hb;omega
theorem vals_of {q:Req} (hr:rightF q=0) (h:countF q=true) (hf:q.fn=6∨q.fn=8∨q.fn=16∨q.fn=23):q.vals≠[]:=by
 have hR:=right0 hr
 have hb:=hR.nv
 intro e
 rw [e] at hb
 rcases hf with e1 | e1 | e1 | e1
 ·unfold valsF at hb;rw [if_pos (.inl e1)] at hb;simp at hb
 ·unfold valsF at hb;rw [if_pos (.inr e1)] at hb;simp at hb
 ·have:=count_of h Y21
  unfold valsF at hb;rw [if_neg Y21,if_pos e1] at hb;simp at hb;omega
 ·have h:=(of_decide_eq_true h).2
  simp [e1,e] at h
attribute [local go_sem] weaks_bools Req.pv Rep.pv
theorem Y39 {p:Prop} (h:p:=by
 exact
                                                                 (fun i hi=>by
  have h0:=ltn hi;have h1:=lte hi
  rw [putDev_blk]
  simp only [go_sem,Nat.add_assoc,Nat.reduceAdd,↓reduceIte,h0,h1]
  (repeat' split)<;>first | rfl |(rename_i e;rw [e];first | exact hA.dv | exact hA.v1 | exact hA.v0 | exact hA.c1 | exact hA.c0) |(exfalso;omega))):p:=h
theorem Y40 {p:Prop} (h:p:=by
 exact
                                                                                         (fun i hi=>by
  have h0:=ltn hi;have h1:=lte hi
  rw [putDev_blk]
  simp only [go_sem,Nat.add_assoc,Nat.reduceAdd,↓reduceIte,h0,h1]
  (repeat' split)<;>first | rfl |(rename_i e;rw [e];first | exact hA.dv | exact hA.v1 | exact hA.v0 | exact hA.c1 | exact hA.c0) |(exfalso;omega))):p:=h
theorem Y95 {p:Prop} (h:p:=by show b+5<s.nxt+1;omega):p:=h
theorem Y96 {p:Prop} (h:p:=by rw [hB]):p:=h
theorem Y152 {p:Prop} (h:p:=by simp only [Tryz.f162,go_sem,↓reduceIte]<;>rfl):p:=h
set_option maxRecDepth 100000 in
theorem device_rd1 {b:Nat} {D:Dev} {s:St} (hA:DevAt b D s) (hD:D.ok) {q:Req} (hq:q.ok) (hr:rightF q=0) (hc:countF q=true) (hf:q.fn=1):ACalls Tryz.prog 162 [.ptr (b+5) 0 0,q.pv] s (fun r s'=>r=(bodyF D q).1.pv∧s'=putDev b (bodyF D q).2 s):=by
 refine go Tryz.func162 (k:=fun hwf H=>?_)
 have hdv:=hA.dv
 unfold devRow at hdv
 have hlt:=hA.lt hwf
 have hA1:∀ x y,DevAt b D ((s.new x).new y):=fun x y=>(hA.nw hlt x).nw Y95 y
 have hd1:=hD.h1
 have hd2:=hD.h2
 have hd3:=hD.c1
 have hd4:=hD.v0
 have hd5:=hD.v1
 have H:=aj hdv H
 have hsp:∀ s,ACalls Tryz.prog 171 [.int .i64 q.fn] s (fun r s'=>r=.int .i64 0∧s'=s):=fun s=>by rw [hf];simpa using device_space (fn:=1) (s:=s)
 have hcn:=count_of hc Y21
 refine rs (k:=rg [0,3,4] (k:=rs (k:=?_)))
 refine Run.drawC [] [3,4,5,6] Tryz.mixed Y26 ?_
 refine DetC.pre (pre:=[_,_,_,_,_,_]) au ?_
 refine DetC.call au au au Y26 (hsp _) ?_
 refine DetC.pre (pre:=[_,_,_,_]) au ?_
 refine DetC.call au au au Y26 (store_get0 (hA1 _ _).st (hA1 _ _).c0 Y21 hd2 hq.at_ hcn) ?_
 refine DetC.all au ?_
 refine re (k:=rs (k:=rs (k:=rg [3,4,5,23] (k:=rc (ht:=fun hc0=>?_) (hf:=fun hc0=>?_)))))
 have hc:=hc0
 refine rs (k:=rr (k:=ro (pre:=[_]) (k:=rC (h:=device_where hq) (k:=rh [4] (k:=rR (k:=?_))))))
 refine jO 1 ?_;rotate_left
 have hc:=hc0
 refine rk (k:=rs (k:=rg [4] (k:=rR (k:=?_))))
 refine jO 1 ?_;rotate_left
 any_goals
  refine jI 1 ?_
  first
   |(have hT:thereF D.c0.length q.at_ q.count=false:=by simpa using hc0
     have hB:bodyF D q=(whereF q,D):=by
      unfold bodyF;rw [if_pos Y21,hT,if_neg Bool.false_ne_true]
     refine Ret.dev D hA (r':=(whereF q:Rep).pv) Y152 ?_ (blw_rep _ _) hwf Y39 ⟨Y96,Y96⟩
     rfl)
   |(have hT:thereF D.c0.length q.at_ q.count=true:=by simpa using hc0
     have hB:bodyF D q=(⟨q.fn,0,0,0,0,cutF D.c0 q.at_ q.count,[],0,0,[]⟩,D):=by
      unfold bodyF;rw [if_pos Y21,hT,if_pos rfl]
     refine Ret.dev D hA (r':=(⟨q.fn,0,0,0,0,cutF D.c0 q.at_ q.count,[],0,0,[]⟩:Rep).pv) Y152 ?_ (blw_rep _ _) hwf Y40 ⟨Y96,Y96⟩
     simp only [Rep.pv,PV.weak,PV.weaks,weaks_u16,weaks_bools,weaks_u8];rfl)
attribute [local go_sem] weaks_bools Req.pv Rep.pv
set_option maxRecDepth 100000 in
theorem device_rd2 {b:Nat} {D:Dev} {s:St} (hA:DevAt b D s) (hD:D.ok) {q:Req} (hq:q.ok) (hr:rightF q=0) (hc:countF q=true) (hf:q.fn=2):ACalls Tryz.prog 162 [.ptr (b+5) 0 0,q.pv] s (fun r s'=>r=(bodyF D q).1.pv∧s'=putDev b (bodyF D q).2 s):=by
 refine go Tryz.func162 (k:=fun hwf H=>?_)
 have hdv:=hA.dv
 unfold devRow at hdv
 have hlt:=hA.lt hwf
 have hA1:∀ x y,DevAt b D ((s.new x).new y):=fun x y=>(hA.nw hlt x).nw Y95 y
 have hd1:=hD.h1
 have hd2:=hD.h2
 have hd3:=hD.c1
 have hd4:=hD.v0
 have hd5:=hD.v1
 have H:=aj hdv H
 have hsp:∀ s,ACalls Tryz.prog 171 [.int .i64 q.fn] s (fun r s'=>r=.int .i64 1∧s'=s):=fun s=>by rw [hf];simpa using device_space (fn:=2) (s:=s)
 have hcn:=count_of hc Y21
 refine rs (k:=rg [0,3,4] (k:=rs (k:=?_)))
 refine Run.drawC [] [3,4,5,6] Tryz.mixed Y26 ?_
 refine DetC.pre (pre:=[_,_,_,_,_,_]) au ?_
 refine DetC.call au au au Y26 (hsp _) ?_
 refine DetC.pre (pre:=[_,_,_,_]) au ?_
 refine DetC.call au au au Y26 (store_get1 (hA1 _ _).st (hA1 _ _).c1 Y21 hd2 hq.at_ hcn) ?_
 refine DetC.all au ?_
 refine re (k:=rs (k:=rs (k:=rg [3,4,5,23] (k:=rc (ht:=fun hc0=>?_) (hf:=fun hc0=>?_)))))
 have hc:=hc0
 refine rs (k:=rr (k:=ro (pre:=[_]) (k:=rC (h:=device_where hq) (k:=rh [4] (k:=rR (k:=?_))))))
 refine jO 1 ?_;rotate_left
 have hc:=hc0
 refine rk (k:=rs (k:=rg [4] (k:=rR (k:=?_))))
 refine jO 1 ?_;rotate_left
 any_goals
  refine jI 1 ?_
  first
   |(have hT:thereF D.c0.length q.at_ q.count=false:=by simpa using hc0
     have hB:bodyF D q=(whereF q,D):=by
      unfold bodyF;rw [if_neg Y21,if_pos Y21,hT,if_neg Bool.false_ne_true]
     refine Ret.dev D hA (r':=(whereF q:Rep).pv) Y152 ?_ (blw_rep _ _) hwf Y39 ⟨Y96,Y96⟩
     rfl)
   |(have hT:thereF D.c0.length q.at_ q.count=true:=by simpa using hc0
     have hB:bodyF D q=(⟨q.fn,0,0,0,0,cutF D.c1 q.at_ q.count,[],0,0,[]⟩,D):=by
      unfold bodyF;rw [if_neg Y21,if_pos Y21,hT,if_pos rfl]
     refine Ret.dev D hA (r':=(⟨q.fn,0,0,0,0,cutF D.c1 q.at_ q.count,[],0,0,[]⟩:Rep).pv) Y152 ?_ (blw_rep _ _) hwf Y40 ⟨Y96,Y96⟩
     simp only [Rep.pv,PV.weak,PV.weaks,weaks_u16,weaks_bools,weaks_u8];rfl)
attribute [local go_sem] weaks_bools Req.pv Rep.pv
theorem Y97 {p:Prop} (h:p:=by simp only [Tryz.f163,go_sem,↓reduceIte]<;>rfl):p:=h
set_option maxRecDepth 100000 in
theorem device_rd3 {b:Nat} {D:Dev} {s:St} (hA:DevAt b D s) (hD:D.ok) {q:Req} (hq:q.ok) (hr:rightF q=0) (hc:countF q=true) (hf:q.fn=3):ACalls Tryz.prog 163 [.ptr (b+5) 0 0,q.pv] s (fun r s'=>r=(bodyF D q).1.pv∧s'=putDev b (bodyF D q).2 s):=by
 refine go Tryz.func163 (k:=fun hwf H=>?_)
 have hdv:=hA.dv
 unfold devRow at hdv
 have hlt:=hA.lt hwf
 have hA1:∀ x y,DevAt b D ((s.new x).new y):=fun x y=>(hA.nw hlt x).nw Y95 y
 have hd1:=hD.h1
 have hd2:=hD.h2
 have hd3:=hD.c1
 have hd4:=hD.v0
 have hd5:=hD.v1
 have H:=aj hdv H
 have hsp:∀ s,ACalls Tryz.prog 171 [.int .i64 q.fn] s (fun r s'=>r=.int .i64 3∧s'=s):=fun s=>by rw [hf];simpa using device_space (fn:=3) (s:=s)
 have hcn:=count_of hc Y21
 refine rs (k:=rg [0,3,4] (k:=rs (k:=?_)))
 refine Run.drawC [] [3,4,5,6] Tryz.mixed Y26 ?_
 refine DetC.pre (pre:=[_,_,_,_,_,_]) au ?_
 refine DetC.call au au au Y26 (hsp _) ?_
 refine DetC.pre (pre:=[_,_,_,_]) au ?_
 refine DetC.call au au au Y26 (store_get3 (hA1 _ _).st (hA1 _ _).v1 Y21 hd2 hq.at_ hcn) ?_
 refine DetC.all au ?_
 refine re (k:=rs (k:=rs (k:=rg [3,4,5,23] (k:=rc (ht:=fun hc0=>?_) (hf:=fun hc0=>?_)))))
 have hc:=hc0
 refine rs (k:=rr (k:=ro (pre:=[_]) (k:=rC (h:=device_where hq) (k:=rh [4] (k:=rR (k:=?_))))))
 refine jO 1 ?_;rotate_left
 have hc:=hc0
 refine rk (k:=rs (k:=rg [4] (k:=rR (k:=?_))))
 refine jO 1 ?_;rotate_left
 any_goals
  refine jI 1 ?_
  first
   |(have hT:thereF D.c0.length q.at_ q.count=false:=by simpa using hc0
     have hB:bodyF D q=(whereF q,D):=by
      unfold bodyF;rw [if_neg Y21,if_neg Y21,if_pos Y21,hT,if_neg Bool.false_ne_true]
     refine Ret.dev D hA (r':=(whereF q:Rep).pv) Y97 ?_ (blw_rep _ _) hwf Y39 ⟨Y96,Y96⟩
     rfl)
   |(have hT:thereF D.c0.length q.at_ q.count=true:=by simpa using hc0
     have hB:bodyF D q=(⟨q.fn,0,0,0,0,[],cutF D.v1 q.at_ q.count,0,0,[]⟩,D):=by
      unfold bodyF;rw [if_neg Y21,if_neg Y21,if_pos Y21,hT,if_pos rfl]
     refine Ret.dev D hA (r':=(⟨q.fn,0,0,0,0,[],cutF D.v1 q.at_ q.count,0,0,[]⟩:Rep).pv) Y97 ?_ (blw_rep _ _) hwf Y40 ⟨Y96,Y96⟩
     simp only [Rep.pv,PV.weak,PV.weaks,weaks_u16,weaks_bools,weaks_u8];rfl)
attribute [local go_sem] weaks_bools Req.pv Rep.pv
set_option maxRecDepth 100000 in
theorem device_rd4 {b:Nat} {D:Dev} {s:St} (hA:DevAt b D s) (hD:D.ok) {q:Req} (hq:q.ok) (hr:rightF q=0) (hc:countF q=true) (hf:q.fn=4):ACalls Tryz.prog 163 [.ptr (b+5) 0 0,q.pv] s (fun r s'=>r=(bodyF D q).1.pv∧s'=putDev b (bodyF D q).2 s):=by
 refine go Tryz.func163 (k:=fun hwf H=>?_)
 have hdv:=hA.dv
 unfold devRow at hdv
 have hlt:=hA.lt hwf
 have hA1:∀ x y,DevAt b D ((s.new x).new y):=fun x y=>(hA.nw hlt x).nw Y95 y
 have hd1:=hD.h1
 have hd2:=hD.h2
 have hd3:=hD.c1
 have hd4:=hD.v0
 have hd5:=hD.v1
 have H:=aj hdv H
 have hsp:∀ s,ACalls Tryz.prog 171 [.int .i64 q.fn] s (fun r s'=>r=.int .i64 2∧s'=s):=fun s=>by rw [hf];simpa using device_space (fn:=4) (s:=s)
 have hcn:=count_of hc Y21
 refine rs (k:=rg [0,3,4] (k:=rs (k:=?_)))
 refine Run.drawC [] [3,4,5,6] Tryz.mixed Y26 ?_
 refine DetC.pre (pre:=[_,_,_,_,_,_]) au ?_
 refine DetC.call au au au Y26 (hsp _) ?_
 refine DetC.pre (pre:=[_,_,_,_]) au ?_
 refine DetC.call au au au Y26 (store_get2 (hA1 _ _).st (hA1 _ _).v0 Y21 hd2 hq.at_ hcn) ?_
 refine DetC.all au ?_
 refine re (k:=rs (k:=rs (k:=rg [3,4,5,23] (k:=rc (ht:=fun hc0=>?_) (hf:=fun hc0=>?_)))))
 have hc:=hc0
 refine rs (k:=rr (k:=ro (pre:=[_]) (k:=rC (h:=device_where hq) (k:=rh [4] (k:=rR (k:=?_))))))
 refine jO 1 ?_;rotate_left
 have hc:=hc0
 refine rk (k:=rs (k:=rg [4] (k:=rR (k:=?_))))
 refine jO 1 ?_;rotate_left
 any_goals
  refine jI 1 ?_
  first
   |(have hT:thereF D.c0.length q.at_ q.count=false:=by simpa using hc0
     have hB:bodyF D q=(whereF q,D):=by
      unfold bodyF;rw [if_neg Y21,if_neg Y21,if_neg Y21,if_pos Y21,hT,if_neg Bool.false_ne_true]
     refine Ret.dev D hA (r':=(whereF q:Rep).pv) Y97 ?_ (blw_rep _ _) hwf Y39 ⟨Y96,Y96⟩
     rfl)
   |(have hT:thereF D.c0.length q.at_ q.count=true:=by simpa using hc0
     have hB:bodyF D q=(⟨q.fn,0,0,0,0,[],cutF D.v0 q.at_ q.count,0,0,[]⟩,D):=by
      unfold bodyF;rw [if_neg Y21,if_neg Y21,if_neg Y21,if_pos Y21,hT,if_pos rfl]
     refine Ret.dev D hA (r':=(⟨q.fn,0,0,0,0,[],cutF D.v0 q.at_ q.count,0,0,[]⟩:Rep).pv) Y97 ?_ (blw_rep _ _) hwf Y40 ⟨Y96,Y96⟩
     simp only [Rep.pv,PV.weak,PV.weaks,weaks_u16,weaks_bools,weaks_u8];rfl)
end Go.Proofs
namespace Go.Proofs
open Go.PM
set_option maxHeartbeats 2000000
attribute [local go_sem] weaks_bools Req.pv Rep.pv
theorem Y153 {p:Prop} (h:p:=by simp only [Tryz.f164,go_sem,↓reduceIte]<;>rfl):p:=h
theorem Y325 {p:Prop} (h:p:=by rw [hye];rfl):p:=h
set_option maxRecDepth 100000 in
theorem device_wr5 {b:Nat} {D:Dev} {s:St} (hA:DevAt b D s) (hD:D.ok) {q:Req} (hq:q.ok) (hr:rightF q=0) (hc:countF q=true) (hf:q.fn=5):ACalls Tryz.prog 164 [.ptr (b+5) 0 0,q.pv] s (fun r s'=>r=(bodyF D q).1.pv∧s'=putDev b (bodyF D q).2 s):=by
 refine go Tryz.func164 (k:=fun hwf H=>?_)
 have hdv:=hA.dv
 unfold devRow at hdv
 have hlt:=hA.lt hwf
 have hA1:∀ x y,DevAt b D ((s.new x).new y):=fun x y=>(hA.nw hlt x).nw Y95 y
 have hd1:=hD.h1
 have hd2:=hD.h2
 have hd3:=hD.c1
 have hd4:=hD.v0
 have hd5:=hD.v1
 have H:=aj hdv H
 have hfT:decide (q.fn=15)=false:=by rw [hf];rfl
 have hne:=bits_of hr hc Y21
 have H:=aj hfT H
 refine rs (k:=rg [0,3,4] (k:=rs (k:=rs (k:=?_))))
 refine Run.drawCut 8 [] Tryz.mixed Y26 Y26 ?_
 refine DetC.all au ?_
 refine RunO.callw au au au Y26 ((store_put0 (hA1 _ _).st (hA1 _ _).c0 Y21 hd2 hq.at_ hne Y21).mono ?_)
 rintro r s1 ⟨rfl,hs⟩
 refine rh [3,4,14] (k:=rc (ht:=fun hc0=>?_) (hf:=fun hc0=>?_))
 have hc:=hc0
 refine rs (k:=?_)
 have hT:thereF D.c0.length q.at_ q.bits.length=false:=Y86
 rw [hT,if_neg Bool.false_ne_true] at hs
 subst hs
 refine rr (k:=ro (pre:=[_]) (k:=rC (h:=device_where hq) (k:=rh [4] (k:=rR (k:=?_)))))
 refine jO 1 ?_;rotate_left
 have hc:=hc0
 refine rk (k:=rs (k:=rs (k:=?_)))
 have hT:thereF D.c0.length q.at_ q.bits.length=true:=Y86
 rw [hT,if_pos rfl] at hs
 subst hs
 refine rg [3,4,19] (k:=rc (ht:=fun hc1=>?_) (hf:=fun hc1=>?_))
 ·cases hc1
 have hc:=hc1
 refine rk (k:=rs (k:=?_))
 obtain ⟨y,ys,hye⟩:∃ y ys,q.bits=y::ys:=by cases hh:q.bits with | nil=>exact absurd hh hne | cons y ys=>exact ⟨y,ys,rfl⟩
 have hy0:(q.bits[0]?).getD false=y:=Y325
 have hyy:(q.bits.map PV.bool)[0]? =some (.bool y):=Y325
 have hyl:(0<q.bits.length)=True:=by rw [hye];simp
 have H:=aj hyy (aj hyl H)
 refine Run.drawC [10] [4] Tryz.mixed Y26 ?_
 refine DetC.pre (pre:=[_,_,_,_,_,_,_,_,_,_]) au ?_
 refine DetC.eff Y22 au au ?_
 refine DetC.nil ?_
 refine re (k:=rR (k:=?_))
 refine jO 1 ?_;rotate_left
 any_goals
  refine jI 1 ?_
  first
   |(have hT:thereF D.c0.length q.at_ q.bits.length=false:=by simpa using hc0
     have hB:bodyF D q=(whereF q,D):=by
      unfold bodyF;rw [if_neg Y21,if_neg Y21,if_neg Y21,if_neg Y21,if_pos Y21,hT,if_neg Bool.false_ne_true]
     refine Ret.dev D hA (r':=(whereF q:Rep).pv) Y153 ?_ (blw_rep _ _) hwf Y39 ⟨Y96,Y96⟩
     rfl)
   |(have hT:thereF D.c0.length q.at_ q.bits.length=true:=by simpa using hc0
     have hB:bodyF D q=(⟨q.fn,0,q.at_,0,0,[(q.bits[0]?).getD false],[],0,0,[]⟩,{ D with c0:=overF D.c0 q.at_.toNat q.bits }):=by
      unfold bodyF;rw [if_neg Y21,if_neg Y21,if_neg Y21,if_neg Y21,if_pos Y21,hT,if_pos rfl,if_neg Y21]
     refine Ret.dev { D with c0:=overF D.c0 q.at_.toNat q.bits } hA (r':=(⟨q.fn,0,q.at_,0,0,[(q.bits[0]?).getD false],[],0,0,[]⟩:Rep).pv) Y153 ?_ (blw_rep _ _) hwf (fun i hi=>by
   have h0:=ltn hi;have h1:=lte hi
   rw [putDev_blk]
   simp only [go_sem,Nat.add_assoc,Nat.reduceAdd,↓reduceIte,h0,h1]
   (repeat' split)<;>first | rfl |(rename_i e;rw [e];first | exact hA.dv | exact hA.v1 | exact hA.v0 | exact hA.c1 | exact hA.c0) |(exfalso;omega)) ⟨Y96,Y96⟩
     simp only [Rep.pv,PV.weak,PV.weaks,weaks_u16,weaks_bools,weaks_u8,hy0];rfl)
attribute [local go_sem] weaks_bools Req.pv Rep.pv
theorem Y41 {p:Prop} (h:p:=by
 exact
                                                                                                          (fun i hi=>by
  have h0:=ltn hi;have h1:=lte hi
  rw [putDev_blk]
  simp only [go_sem,Nat.add_assoc,Nat.reduceAdd,↓reduceIte,h0,h1]
  (repeat' split)<;>first | rfl |(rename_i e;rw [e];first | exact hA.dv | exact hA.v1 | exact hA.v0 | exact hA.c1 | exact hA.c0) |(exfalso;omega))):p:=h
set_option maxRecDepth 100000 in
theorem device_wr15 {b:Nat} {D:Dev} {s:St} (hA:DevAt b D s) (hD:D.ok) {q:Req} (hq:q.ok) (hr:rightF q=0) (hc:countF q=true) (hf:q.fn=15):ACalls Tryz.prog 164 [.ptr (b+5) 0 0,q.pv] s (fun r s'=>r=(bodyF D q).1.pv∧s'=putDev b (bodyF D q).2 s):=by
 refine go Tryz.func164 (k:=fun hwf H=>?_)
 have hdv:=hA.dv
 unfold devRow at hdv
 have hlt:=hA.lt hwf
 have hA1:∀ x y,DevAt b D ((s.new x).new y):=fun x y=>(hA.nw hlt x).nw Y95 y
 have hd1:=hD.h1
 have hd2:=hD.h2
 have hd3:=hD.c1
 have hd4:=hD.v0
 have hd5:=hD.v1
 have H:=aj hdv H
 have hfT:decide (q.fn=15)=true:=by rw [hf];rfl
 have hne:=bits_of hr hc Y21
 have H:=aj hfT H
 refine rs (k:=rg [0,3,4] (k:=rs (k:=rs (k:=?_))))
 refine Run.drawCut 8 [] Tryz.mixed Y26 Y26 ?_
 refine DetC.all au ?_
 refine RunO.callw au au au Y26 ((store_put0 (hA1 _ _).st (hA1 _ _).c0 Y21 hd2 hq.at_ hne Y21).mono ?_)
 rintro r s1 ⟨rfl,hs⟩
 refine rh [3,4,14] (k:=rc (ht:=fun hc0=>?_) (hf:=fun hc0=>?_))
 have hc:=hc0
 refine rs (k:=?_)
 have hT:thereF D.c0.length q.at_ q.bits.length=false:=Y86
 rw [hT,if_neg Bool.false_ne_true] at hs
 subst hs
 refine rr (k:=ro (pre:=[_]) (k:=rC (h:=device_where hq) (k:=rh [4] (k:=rR (k:=?_)))))
 refine jO 1 ?_;rotate_left
 have hc:=hc0
 refine rk (k:=rs (k:=rs (k:=?_)))
 have hT:thereF D.c0.length q.at_ q.bits.length=true:=Y86
 rw [hT,if_pos rfl] at hs
 subst hs
 refine rg [3,4,19] (k:=rc (ht:=fun hc1=>?_) (hf:=fun hc1=>?_))
 have hc:=hc1
 refine rs (k:=rg [4] (k:=rR (k:=?_)))
 refine jO 1 ?_;rotate_left
 ·cases hc1
 any_goals
  refine jI 1 ?_
  first
   |(have hT:thereF D.c0.length q.at_ q.bits.length=false:=by simpa using hc0
     have hB:bodyF D q=(whereF q,D):=by
      unfold bodyF;rw [if_neg Y21,if_neg Y21,if_neg Y21,if_neg Y21,if_pos Y21,hT,if_neg Bool.false_ne_true]
     refine Ret.dev D hA (r':=(whereF q:Rep).pv) Y153 ?_ (blw_rep _ _) hwf Y39 ⟨Y96,Y96⟩
     rfl)
   |(have hT:thereF D.c0.length q.at_ q.bits.length=true:=by simpa using hc0
     have hB:bodyF D q=(⟨q.fn,0,q.at_,q.count,0,[],[],0,0,[]⟩,{ D with c0:=overF D.c0 q.at_.toNat q.bits }):=by
      unfold bodyF;rw [if_neg Y21,if_neg Y21,if_neg Y21,if_neg Y21,if_pos Y21,hT,if_pos rfl,if_pos hf]
     refine Ret.dev { D with c0:=overF D.c0 q.at_.toNat q.bits } hA (r':=(⟨q.fn,0,q.at_,q.count,0,[],[],0,0,[]⟩:Rep).pv) Y153 ?_ (blw_rep _ _) hwf Y41 ⟨Y96,Y96⟩
     simp only [Rep.pv,PV.weak,PV.weaks,weaks_u16,weaks_bools,weaks_u8];rfl)
attribute [local go_sem] weaks_bools Req.pv Rep.pv
theorem Y154 {p:Prop} (h:p:=by simp only [Tryz.f165,go_sem,↓reduceIte]<;>rfl):p:=h
theorem Y259 {p:Prop} (h:p:=by cases hh:q.vals with | nil=>exact absurd hh hne | cons y ys=>exact ⟨y,ys,rfl⟩):p:=h
set_option maxRecDepth 100000 in
theorem device_wr6 {b:Nat} {D:Dev} {s:St} (hA:DevAt b D s) (hD:D.ok) {q:Req} (hq:q.ok) (hr:rightF q=0) (hc:countF q=true) (hf:q.fn=6):ACalls Tryz.prog 165 [.ptr (b+5) 0 0,q.pv] s (fun r s'=>r=(bodyF D q).1.pv∧s'=putDev b (bodyF D q).2 s):=by
 refine go Tryz.func165 (k:=fun hwf H=>?_)
 have hdv:=hA.dv
 unfold devRow at hdv
 have hlt:=hA.lt hwf
 have hA1:∀ x y,DevAt b D ((s.new x).new y):=fun x y=>(hA.nw hlt x).nw Y95 y
 have hd1:=hD.h1
 have hd2:=hD.h2
 have hd3:=hD.c1
 have hd4:=hD.v0
 have hd5:=hD.v1
 have H:=aj hdv H
 have hfT:decide (q.fn=16)=false:=by rw [hf];rfl
 have hne:=vals_of hr hc Y21
 have H:=aj hfT H
 refine rs (k:=rg [0,3,4] (k:=rs (k:=rs (k:=?_))))
 refine Run.drawCut 8 [] Tryz.mixed Y26 Y26 ?_
 refine DetC.all au ?_
 refine RunO.callw au au au Y26 ((store_put3 (hA1 _ _).st (hA1 _ _).v1 Y21 hd2 hq.at_ hne Y21).mono ?_)
 rintro r s1 ⟨rfl,hs⟩
 refine rh [3,4,14] (k:=rc (ht:=fun hc0=>?_) (hf:=fun hc0=>?_))
 have hc:=hc0
 refine rs (k:=?_)
 have hT:thereF D.c0.length q.at_ q.vals.length=false:=Y86
 rw [hT,if_neg Bool.false_ne_true] at hs
 subst hs
 refine rr (k:=ro (pre:=[_]) (k:=rC (h:=device_where hq) (k:=rh [4] (k:=rR (k:=?_)))))
 refine jO 1 ?_;rotate_left
 have hc:=hc0
 refine rk (k:=rs (k:=rs (k:=?_)))
 have hT:thereF D.c0.length q.at_ q.vals.length=true:=Y86
 rw [hT,if_pos rfl] at hs
 subst hs
 refine rg [3,4,19] (k:=rc (ht:=fun hc1=>?_) (hf:=fun hc1=>?_))
 ·cases hc1
 have hc:=hc1
 refine rk (k:=rs (k:=?_))
 obtain ⟨y,ys,hye⟩:∃ y ys,q.vals=y::ys:=Y259
 have hy0:(q.vals[0]?).getD 0=y:=Y325
 have hyy:(q.vals.map (PV.int .u16))[0]? =some (.int .u16 y):=Y325
 have hyl:(0<q.vals.length)=True:=by rw [hye];simp
 have H:=aj hyy (aj hyl H)
 refine Run.drawC [10] [4] Tryz.mixed Y26 ?_
 refine DetC.pre (pre:=[_,_,_,_,_,_,_,_,_,_]) au ?_
 refine DetC.eff Y22 au au ?_
 refine DetC.nil ?_
 refine re (k:=rR (k:=?_))
 refine jO 1 ?_;rotate_left
 any_goals
  refine jI 1 ?_
  first
   |(have hT:thereF D.c0.length q.at_ q.vals.length=false:=by simpa using hc0
     have hB:bodyF D q=(whereF q,D):=by
      unfold bodyF;rw [if_neg Y21,if_neg Y21,if_neg Y21,if_neg Y21,if_neg Y21,if_pos Y21,hT,if_neg Bool.false_ne_true]
     refine Ret.dev D hA (r':=(whereF q:Rep).pv) Y154 ?_ (blw_rep _ _) hwf Y39 ⟨Y96,Y96⟩
     rfl)
   |(have hT:thereF D.c0.length q.at_ q.vals.length=true:=by simpa using hc0
     have hB:bodyF D q=(⟨q.fn,0,q.at_,0,0,[],[(q.vals[0]?).getD 0],0,0,[]⟩,{ D with v1:=overF D.v1 q.at_.toNat q.vals }):=by
      unfold bodyF;rw [if_neg Y21,if_neg Y21,if_neg Y21,if_neg Y21,if_neg Y21,if_pos Y21,hT,if_pos rfl,if_neg Y21]
     refine Ret.dev { D with v1:=overF D.v1 q.at_.toNat q.vals } hA (r':=(⟨q.fn,0,q.at_,0,0,[],[(q.vals[0]?).getD 0],0,0,[]⟩:Rep).pv) Y154 ?_ (blw_rep _ _) hwf (fun i hi=>by
   have h0:=ltn hi;have h1:=lte hi
   rw [putDev_blk]
   simp only [go_sem,Nat.add_assoc,Nat.reduceAdd,↓reduceIte,h0,h1]
   (repeat' split)<;>first | rfl |(rename_i e;rw [e];first | exact hA.dv | exact hA.v1 | exact hA.v0 | exact hA.c1 | exact hA.c0) |(exfalso;omega)) ⟨Y96,Y96⟩
     simp only [Rep.pv,PV.weak,PV.weaks,weaks_u16,weaks_bools,weaks_u8,hy0];rfl)
attribute [local go_sem] weaks_bools Req.pv Rep.pv
set_option maxRecDepth 100000 in
theorem device_wr16 {b:Nat} {D:Dev} {s:St} (hA:DevAt b D s) (hD:D.ok) {q:Req} (hq:q.ok) (hr:rightF q=0) (hc:countF q=true) (hf:q.fn=16):ACalls Tryz.prog 165 [.ptr (b+5) 0 0,q.pv] s (fun r s'=>r=(bodyF D q).1.pv∧s'=putDev b (bodyF D q).2 s):=by
 refine go Tryz.func165 (k:=fun hwf H=>?_)
 have hdv:=hA.dv
 unfold devRow at hdv
 have hlt:=hA.lt hwf
 have hA1:∀ x y,DevAt b D ((s.new x).new y):=fun x y=>(hA.nw hlt x).nw Y95 y
 have hd1:=hD.h1
 have hd2:=hD.h2
 have hd3:=hD.c1
 have hd4:=hD.v0
 have hd5:=hD.v1
 have H:=aj hdv H
 have hfT:decide (q.fn=16)=true:=by rw [hf];rfl
 have hne:=vals_of hr hc Y21
 have H:=aj hfT H
 refine rs (k:=rg [0,3,4] (k:=rs (k:=rs (k:=?_))))
 refine Run.drawCut 8 [] Tryz.mixed Y26 Y26 ?_
 refine DetC.all au ?_
 refine RunO.callw au au au Y26 ((store_put3 (hA1 _ _).st (hA1 _ _).v1 Y21 hd2 hq.at_ hne Y21).mono ?_)
 rintro r s1 ⟨rfl,hs⟩
 refine rh [3,4,14] (k:=rc (ht:=fun hc0=>?_) (hf:=fun hc0=>?_))
 have hc:=hc0
 refine rs (k:=?_)
 have hT:thereF D.c0.length q.at_ q.vals.length=false:=Y86
 rw [hT,if_neg Bool.false_ne_true] at hs
 subst hs
 refine rr (k:=ro (pre:=[_]) (k:=rC (h:=device_where hq) (k:=rh [4] (k:=rR (k:=?_)))))
 refine jO 1 ?_;rotate_left
 have hc:=hc0
 refine rk (k:=rs (k:=rs (k:=?_)))
 have hT:thereF D.c0.length q.at_ q.vals.length=true:=Y86
 rw [hT,if_pos rfl] at hs
 subst hs
 refine rg [3,4,19] (k:=rc (ht:=fun hc1=>?_) (hf:=fun hc1=>?_))
 have hc:=hc1
 refine rs (k:=rg [4] (k:=rR (k:=?_)))
 refine jO 1 ?_;rotate_left
 ·cases hc1
 any_goals
  refine jI 1 ?_
  first
   |(have hT:thereF D.c0.length q.at_ q.vals.length=false:=by simpa using hc0
     have hB:bodyF D q=(whereF q,D):=by
      unfold bodyF;rw [if_neg Y21,if_neg Y21,if_neg Y21,if_neg Y21,if_neg Y21,if_pos Y21,hT,if_neg Bool.false_ne_true]
     refine Ret.dev D hA (r':=(whereF q:Rep).pv) Y154 ?_ (blw_rep _ _) hwf Y39 ⟨Y96,Y96⟩
     rfl)
   |(have hT:thereF D.c0.length q.at_ q.vals.length=true:=by simpa using hc0
     have hB:bodyF D q=(⟨q.fn,0,q.at_,q.count,0,[],[],0,0,[]⟩,{ D with v1:=overF D.v1 q.at_.toNat q.vals }):=by
      unfold bodyF;rw [if_neg Y21,if_neg Y21,if_neg Y21,if_neg Y21,if_neg Y21,if_pos Y21,hT,if_pos rfl,if_pos hf]
     refine Ret.dev { D with v1:=overF D.v1 q.at_.toNat q.vals } hA (r':=(⟨q.fn,0,q.at_,q.count,0,[],[],0,0,[]⟩:Rep).pv) Y154 ?_ (blw_rep _ _) hwf Y41 ⟨Y96,Y96⟩
     simp only [Rep.pv,PV.weak,PV.weaks,weaks_u16,weaks_bools,weaks_u8];rfl)
end Go.Proofs
namespace Go.Proofs
open Go.PM
set_option maxHeartbeats 2000000
attribute [local go_sem] weaks_bools Req.pv Rep.pv
set_option maxRecDepth 100000 in
theorem device_ident {b:Nat} {D:Dev} {s:St} (hA:DevAt b D s) (hD:D.ok) {q:Req} (hq:q.ok) (hr:rightF q=0) (hc:countF q=true) (hf:q.fn=17):ACalls Tryz.prog 167 [.ptr (b+5) 0 0,q.pv] s (fun r s'=>r=(bodyF D q).1.pv∧s'=putDev b (bodyF D q).2 s):=by
 refine go Tryz.func167 (k:=fun hwf H=>?_)
 have hdv:=hA.dv
 unfold devRow at hdv
 have hlt:=hA.lt hwf
 have hA1:∀ x y,DevAt b D ((s.new x).new y):=fun x y=>(hA.nw hlt x).nw Y95 y
 have hd1:=hD.h1
 have hd2:=hD.h2
 have hd3:=hD.c1
 have hd4:=hD.v0
 have hd5:=hD.v1
 have H:=aj hdv H
 refine rs (k:=rg [0,3,4] (k:=rs (k:=?_)))
 refine Run.drawC [8] [4] Tryz.mixed Y26 ?_
 refine DetC.pre (pre:=[_,_,_,_,_,_,_,_]) au ?_
 refine DetC.eff Y22 au au ?_
 refine DetC.nil ?_
 refine re (k:=rR (k:=?_))
 first
  |(have hB:bodyF D q=(⟨q.fn,0,0,0,0,[],[],0,0,[D.unit,255]⟩,D):=by
     unfold bodyF;rw [if_neg Y21,if_neg Y21,if_neg Y21,if_neg Y21,if_neg Y21,if_neg Y21,if_neg Y21,if_pos Y21]
    refine Ret.dev D hA (r':=(⟨q.fn,0,0,0,0,[],[],0,0,[D.unit,255]⟩:Rep).pv) (by simp only [Tryz.f167,go_sem,↓reduceIte]<;>rfl) ?_ (blw_rep _ _) hwf (fun i hi=>by
  have h0:=ltn hi;have h1:=lte hi
  rw [putDev_blk]
  simp only [go_sem,Nat.add_assoc,Nat.reduceAdd,↓reduceIte,h0,h1]
  (repeat' split)<;>first | rfl |(rename_i e;rw [e];first | exact hA.dv | exact hA.v1 | exact hA.v0 | exact hA.c1 | exact hA.c0) |(exfalso;omega)) ⟨Y96,Y96⟩
    simp only [Rep.pv,PV.weak,PV.weaks,weaks_u16,weaks_bools,weaks_u8];rfl)
attribute [local go_sem] set_set weaks_bools Req.pv Rep.pv
theorem Y98 {p:Prop} (h:p:=by simp only [Tryz.f166,go_sem,↓reduceIte]<;>rfl):p:=h
theorem Y99 {p:Prop} (h:p:=by
 exact
                                                                    (fun i hi=>by
  have h0:=ltn hi;have h1:=lte hi
  rw [putDev_blk]
  simp only [go_sem,Nat.add_assoc,Nat.reduceAdd,↓reduceIte,h0,h1]
  (repeat' split)<;>first | rfl |(rename_i e;rw [e];first | exact hA.dv | exact hA.v1 | exact hA.v0 | exact hA.c1 | exact hA.c0) |(exfalso;omega))):p:=h
set_option maxRecDepth 100000 in
theorem device_diag {b:Nat} {D:Dev} {s:St} (hA:DevAt b D s) (hD:D.ok) {q:Req} (hq:q.ok) (hr:rightF q=0) (hc:countF q=true) (hf:q.fn=8):ACalls Tryz.prog 166 [.ptr (b+5) 0 0,q.pv] s (fun r s'=>r=(bodyF D q).1.pv∧s'=putDev b (bodyF D q).2 s):=by
 refine go Tryz.func166 (k:=fun hwf H=>?_)
 have hdv:=hA.dv
 unfold devRow at hdv
 have hlt:=hA.lt hwf
 have hA1:∀ x y,DevAt b D ((s.new x).new y):=fun x y=>(hA.nw hlt x).nw Y95 y
 have hd1:=hD.h1
 have hd2:=hD.h2
 have hd3:=hD.c1
 have hd4:=hD.v0
 have hd5:=hD.v1
 have H:=aj hdv H
 have hne:=vals_of hr hc Y21
 obtain ⟨y,ys,hye⟩:∃ y ys,q.vals=y::ys:=Y259
 have hy0:(q.vals[0]?).getD 0=y:=Y325
 have hyy:(q.vals.map (PV.int .u16))[0]? =some (.int .u16 y):=Y325
 have hyl:(0<q.vals.length)=True:=by rw [hye];simp
 have H:=aj hyy (aj hyl H)
 have h3:I64 3:=Y24
 refine rs (k:=rg [0,3,4] (k:=rs (k:=rg [0,3,4,5] (k:=rs (k:=rs (k:=rg [0,3,4,5,11] (k:=rb (k:=rs (k:=rg [0,3,4,5,11,15] (k:=rc (ht:=fun hc0=>?_) (hf:=fun hc0=>?_)))))))))))
 have hc:=hc0
 refine jO 1 ?_;rotate_left
 have hc:=hc0
 refine rs (k:=rg [0,3,4,5,11,17] (k:=rc (ht:=fun hc1=>?_) (hf:=fun hc1=>?_)))
 have hc:=hc1
 refine jO 2 ?_;rotate_left
 have hc:=hc1
 refine rs (k:=rs (k:=rg [0,3,4,5,11,25] (k:=rc (ht:=fun hc2=>?_) (hf:=fun hc2=>?_))))
 have hc:=hc2
 refine rk (k:=rc (ht:=fun hc4=>?_) (hf:=fun hc4=>?_))
 refine jO 3 ?_;rotate_left
 ·exact Bool.noConfusion (hc2.symm.trans hc4)
 have hc:=hc2
 refine rs (k:=rg [0,3,4,5,11,25] (k:=rc (ht:=fun hc3=>?_) (hf:=fun hc3=>?_)))
 have hc:=hc3
 refine rk (k:=rc (ht:=fun hc4=>?_) (hf:=fun hc4=>?_))
 refine jO 3 ?_;rotate_left
 ·exact Y321
 have hc:=hc3
 refine rg [0,3,4,5,25] (k:=rc (ht:=fun hc4=>?_) (hf:=fun hc4=>?_))
 refine jO 3 ?_;rotate_left
 have hc:=hc4
 refine jO 4 ?_;rotate_left
 any_goals
  refine jI 3 ?_
  have hc:=hc4
  refine jO 5 ?_;rotate_left
 any_goals
  refine jI 5 ?_
  refine rs (k:=rs (k:=rg [0,3,4,30] (k:=rc (ht:=fun hc5=>?_) (hf:=fun hc5=>?_))))
  refine jO 6 ?_;rotate_left
  refine jO 7 ?_;rotate_left
 any_goals
  refine jI 7 ?_
  have hc:=hc5
  refine jO 8 ?_;rotate_left
 any_goals
  refine jI 8 ?_
  refine rk (k:=rs (k:=rg [0,3,4,5] (k:=rs (k:=rg [0,3,4,5,41] (k:=rc (ht:=fun hc6=>?_) (hf:=fun hc6=>?_))))))
  refine jO 9 ?_;rotate_left
  refine jO 10 ?_;rotate_left
 any_goals
  refine jI 6 ?_
  have hc:=hc5
  refine jO 4 ?_;rotate_left
 any_goals
  refine jI 4 ?_
  refine rs (k:=rr (k:=ro (pre:=[_,_]) (k:=rC (h:=reply_Refuse (fn:=q.fn) (code:=3) hq.fn h3) (k:=rh [4] (k:=rR (k:=?_))))))
  refine jO 11 ?_;rotate_left
 any_goals
  refine jI 9 ?_
  have hc:=hc6
  refine jO 2 ?_;rotate_left
 any_goals
  refine jI 10 ?_
  have hc:=hc6
  refine jO 1 ?_;rotate_left
 any_goals
  refine jI 2 ?_
  refine rg [3,4,5] (k:=rB (k:=rs (k:=rr (k:=ro (pre:=[_,_,_,_,_]) (k:=rO (k:=rh [4] (k:=rR (k:=?_))))))))
  refine jO 11 ?_;rotate_left
 any_goals
  refine jI 1 ?_
  refine rk (k:=rB (k:=rs (k:=rr (k:=ro (pre:=[_,_,_,_,_]) (k:=rO (k:=rh [4] (k:=rR (k:=?_))))))))
  refine jO 11 ?_;rotate_left
 any_goals
  refine jI 11 ?_
  simp only [decide_eq_true_eq,decide_eq_false_iff_not,Bool.not_eq_true',Bool.not_eq_false'] at *
  refine jO 12 ?_;rotate_left
 any_goals
  refine jI 12 ?_
  first
   |(have hB:bodyF D q=(⟨q.fn,0,0,0,q.sub,[],[y],0,0,[]⟩,D):=by
      unfold bodyF;rw [if_neg Y21,if_neg Y21,if_neg Y21,if_neg Y21,if_neg Y21,if_neg Y21,if_pos Y21]
      unfold diagF
      simp only [hy0]
      rw [if_pos Y21]
     refine Ret.dev D hA (r':=(⟨q.fn,0,0,0,q.sub,[],[y],0,0,[]⟩:Rep).pv) Y98 ?_ (blw_rep _ _) hwf (fun i hi=>by
   have h0:=ltn hi;have h1:=lte hi
   rw [putDev_blk]
   simp only [go_sem,Nat.add_assoc,Nat.reduceAdd,↓reduceIte,h0,h1]
   (repeat' split)<;>first | rfl |(rename_i e;rw [e];first | exact hA.dv | exact hA.v1 | exact hA.v0 | exact hA.c1 | exact hA.c0) |(exfalso;omega)) ⟨Y96,Y96⟩
     simp only [Rep.pv,PV.weak,PV.weaks,weaks_u16,weaks_bools,weaks_u8];rfl)
   |(have hB:bodyF D q=(⟨q.fn,0,0,0,q.sub,[],[y],0,0,[]⟩,{ D with msgs:=0,exc:=0 }):=by
      unfold bodyF;rw [if_neg Y21,if_neg Y21,if_neg Y21,if_neg Y21,if_neg Y21,if_neg Y21,if_pos Y21]
      unfold diagF
      simp only [hy0]
      rw [if_neg Y21,if_pos Y21]
     refine Ret.dev { D with msgs:=0,exc:=0 } hA (r':=(⟨q.fn,0,0,0,q.sub,[],[y],0,0,[]⟩:Rep).pv) Y98 ?_ (blw_rep _ _) hwf (fun i hi=>by
   have h0:=ltn hi;have h1:=lte hi
   rw [putDev_blk]
   simp only [go_sem,Nat.add_assoc,Nat.reduceAdd,↓reduceIte,h0,h1]
   (repeat' split)<;>first | rfl |(rename_i e;rw [e];first | exact hA.dv | exact hA.v1 | exact hA.v0 | exact hA.c1 | exact hA.c0) |(exfalso;omega)) ⟨Y96,Y96⟩
     simp only [Rep.pv,PV.weak,PV.weaks,weaks_u16,weaks_bools,weaks_u8];rfl)
   |(have hB:bodyF D q=(refuseP q.fn 3,D):=by
      unfold bodyF;rw [if_neg Y21,if_neg Y21,if_neg Y21,if_neg Y21,if_neg Y21,if_neg Y21,if_pos Y21]
      unfold diagF
      simp only [hy0]
      rw [if_neg Y21,if_neg Y21,if_pos Y21,if_pos Y21]
     refine Ret.dev D hA (r':=(refuseP q.fn 3:Rep).pv) Y98 ?_ (blw_rep _ _) hwf Y99 ⟨Y96,Y96⟩
     rfl)
   |(have hB:bodyF D q=(⟨q.fn,0,0,0,q.sub,[],[IntKind.u16.wrap D.exc],0,0,[]⟩,D):=by
      unfold bodyF;rw [if_neg Y21,if_neg Y21,if_neg Y21,if_neg Y21,if_neg Y21,if_neg Y21,if_pos Y21]
      unfold diagF
      simp only [hy0]
      rw [if_neg Y21,if_neg Y21,if_pos Y21,if_neg Y21,if_pos Y21]
     refine Ret.dev D hA (r':=(⟨q.fn,0,0,0,q.sub,[],[IntKind.u16.wrap D.exc],0,0,[]⟩:Rep).pv) Y98 ?_ (blw_rep _ _) hwf (fun i hi=>by
   have h0:=ltn hi;have h1:=lte hi
   rw [putDev_blk]
   simp only [go_sem,Nat.add_assoc,Nat.reduceAdd,↓reduceIte,h0,h1]
   (repeat' split)<;>first | rfl |(rename_i e;rw [e];first | exact hA.dv | exact hA.v1 | exact hA.v0 | exact hA.c1 | exact hA.c0) |(exfalso;omega)) ⟨Y96,Y96⟩
     simp only [Rep.pv,PV.weak,PV.weaks,weaks_u16,weaks_bools,weaks_u8];rfl)
   |(have hB:bodyF D q=(⟨q.fn,0,0,0,q.sub,[],[IntKind.u16.wrap D.msgs],0,0,[]⟩,D):=by
      unfold bodyF;rw [if_neg Y21,if_neg Y21,if_neg Y21,if_neg Y21,if_neg Y21,if_neg Y21,if_pos Y21]
      unfold diagF
      simp only [hy0]
      rw [if_neg Y21,if_neg Y21,if_pos Y21,if_neg Y21,if_neg Y21]
     refine Ret.dev D hA (r':=(⟨q.fn,0,0,0,q.sub,[],[IntKind.u16.wrap D.msgs],0,0,[]⟩:Rep).pv) Y98 ?_ (blw_rep _ _) hwf (fun i hi=>by
   have h0:=ltn hi;have h1:=lte hi
   rw [putDev_blk]
   simp only [go_sem,Nat.add_assoc,Nat.reduceAdd,↓reduceIte,h0,h1]
   (repeat' split)<;>first | rfl |(rename_i e;rw [e];first | exact hA.dv | exact hA.v1 | exact hA.v0 | exact hA.c1 | exact hA.c0) |(exfalso;omega)) ⟨Y96,Y96⟩
     simp only [Rep.pv,PV.weak,PV.weaks,weaks_u16,weaks_bools,weaks_u8];rfl)
   |(have hB:bodyF D q=(refuseP q.fn 3,D):=by
      unfold bodyF;rw [if_neg Y21,if_neg Y21,if_neg Y21,if_neg Y21,if_neg Y21,if_neg Y21,if_pos Y21]
      unfold diagF
      simp only [hy0]
      rw [if_neg Y21,if_neg Y21,if_neg Y21]
     refine Ret.dev D hA (r':=(refuseP q.fn 3:Rep).pv) Y98 ?_ (blw_rep _ _) hwf Y99 ⟨Y96,Y96⟩
     rfl)
attribute [local go_sem] weaks_bools Req.pv Rep.pv
set_option maxRecDepth 100000 in
theorem device_mask {b:Nat} {D:Dev} {s:St} (hA:DevAt b D s) (hD:D.ok) {q:Req} (hq:q.ok) (hr:rightF q=0) (hc:countF q=true) (hf:q.fn=22):ACalls Tryz.prog 168 [.ptr (b+5) 0 0,q.pv] s (fun r s'=>r=(bodyF D q).1.pv∧s'=putDev b (bodyF D q).2 s):=by
 refine go Tryz.func168 (k:=fun hwf H=>?_)
 have hdv:=hA.dv
 unfold devRow at hdv
 have hlt:=hA.lt hwf
 have hA1:∀ x y,DevAt b D ((s.new x).new y):=fun x y=>(hA.nw hlt x).nw Y95 y
 have hd1:=hD.h1
 have hd2:=hD.h2
 have hd3:=hD.c1
 have hd4:=hD.v0
 have hd5:=hD.v1
 have H:=aj hdv H
 refine rs (k:=rg [0,3,4] (k:=rs (k:=?_)))
 refine Run.drawC [] [0,3,4,5,6] Tryz.mixed Y26 ?_
 refine DetC.pre (pre:=[_,_,_,_,_,_]) au ?_
 refine DetC.call au au au Y26 (store_get3 (hA1 _ _).st (hA1 _ _).v1 Y21 hd2 hq.at_ Y22) ?_
 refine DetC.all au ?_
 refine re (k:=rs (k:=rs (k:=rg [0,3,4,5,18] (k:=rc (ht:=fun hc0=>?_) (hf:=fun hc0=>?_)))))
 have hc:=hc0
 refine rs (k:=rr (k:=ro (pre:=[_]) (k:=rC (h:=device_where hq) (k:=rh [4] (k:=rR (k:=?_))))))
 refine jO 1 ?_;rotate_left
 have hc:=hc0
 refine rk (k:=rs (k:=?_))
 have hT:thereF D.c0.length q.at_ 1=true:=Y86
 have htt:=hT
 unfold thereF at htt
 have htt:=of_decide_eq_true htt
 have hat:q.at_.toNat<D.v1.length:=Y21
 have hcut:cutF D.v1 q.at_ 1=[(D.v1[q.at_.toNat]?).getD 0]:=by
  unfold cutF
  rw [show thereF D.v1.length q.at_ 1=true by rw [hd5];exact hT,if_pos rfl]
  show (D.v1.drop q.at_.toNat).take 1=_
  rw [List.drop_eq_getElem_cons hat,List.getElem?_eq_getElem hat]
  rfl
 have hm0:((cutF D.v1 q.at_ 1).map (PV.int .u16))[0]? =some (.int .u16 ((D.v1[q.at_.toNat]?).getD 0)):=by rw [hcut];rfl
 have hml:(0<(cutF D.v1 q.at_ 1).length)=True:=by rw [hcut];simp
 have hmf:ibits .or .u16 (ibits .and .u16 ((D.v1[q.at_.toNat]?).getD 0) q.and_) (ibits .andNot .u16 q.or_ q.and_)=maskF ((D.v1[q.at_.toNat]?).getD 0) q:=rfl
 have H:=aj hm0 (aj hml (aj hmf H))
 refine Run.drawCut 19 [] Tryz.mixed Y26 Y26 ?_
 refine DetC.all au ?_
 refine RunO.callw au au au Y26 ((store_put3 (hA1 _ _).st (hA1 _ _).v1 (x:=[maskF ((D.v1[q.at_.toNat]?).getD 0) q]) Y21 hd2 hq.at_ Y23 Y21).mono ?_)
 rintro r s1 ⟨rfl,hs⟩
 rw [show (([maskF ((D.v1[q.at_.toNat]?).getD 0) q]:List Int).length:Int)=1 from rfl,hT,if_pos rfl] at hs
 subst hs
 refine rl [3,4] (k:=rs (k:=rg [4] (k:=rR (k:=?_))))
 refine jO 1 ?_;rotate_left
 any_goals
  refine jI 1 ?_
  first
   |(have hT:thereF D.c0.length q.at_ 1=false:=by simpa using hc0
     have hB:bodyF D q=(whereF q,D):=by
      unfold bodyF;rw [if_neg Y21,if_neg Y21,if_neg Y21,if_neg Y21,if_neg Y21,if_neg Y21,if_neg Y21,if_neg Y21,if_pos Y21,hT,if_neg Bool.false_ne_true]
     refine Ret.dev D hA (r':=(whereF q:Rep).pv) (by simp only [Tryz.f168,go_sem,↓reduceIte]<;>rfl) ?_ (blw_rep _ _) hwf Y39 ⟨Y96,Y96⟩
     rfl)
   |(have hB:bodyF D q=(⟨q.fn,0,q.at_,0,0,[],[],q.and_,q.or_,[]⟩,{ D with v1:=overF D.v1 q.at_.toNat [maskF ((D.v1[q.at_.toNat]?).getD 0) q] }):=by
      unfold bodyF;rw [if_neg Y21,if_neg Y21,if_neg Y21,if_neg Y21,if_neg Y21,if_neg Y21,if_neg Y21,if_neg Y21,if_pos Y21,hT,if_pos rfl]
     refine Ret.dev { D with v1:=overF D.v1 q.at_.toNat [maskF ((D.v1[q.at_.toNat]?).getD 0) q] } hA (r':=(⟨q.fn,0,q.at_,0,0,[],[],q.and_,q.or_,[]⟩:Rep).pv) (by simp only [Tryz.f168,go_sem,↓reduceIte]<;>rfl) ?_ (blw_rep _ _) hwf (fun i hi=>by
   have h0:=ltn hi;have h1:=lte hi
   rw [putDev_blk]
   simp only [go_sem,Nat.add_assoc,Nat.reduceAdd,↓reduceIte,h0,h1]
   (repeat' split)<;>first | rfl |(rename_i e;rw [e];first | exact hA.dv | exact hA.v1 | exact hA.v0 | exact hA.c1 | exact hA.c0) |(exfalso;omega)) ⟨Y96,Y96⟩
     simp only [Rep.pv,PV.weak,PV.weaks,weaks_u16,weaks_bools,weaks_u8];rfl)
end Go.Proofs
namespace Go.Proofs
open Go.PM
set_option maxHeartbeats 2000000
attribute [local go_sem] weaks_bools Req.pv Rep.pv
theorem device_rv23 {b:Nat} {D:Dev} {s:St} (hA:DevAt b D s) (hd2:D.c0.length≤65536) (hd5:D.v1.length=D.c0.length) {q:Req} (hq:q.ok) (hcn:1≤q.count) (hf:q.fn=23):ACalls Tryz.prog 163 [.ptr (b+5) 0 0,q.pv] s (fun r s'=>r=(if thereF D.c0.length q.at_ q.count=true then ⟨q.fn,0,0,0,0,[],cutF D.v1 q.at_ q.count,0,0,[]⟩ else whereF q:Rep).pv∧s'=s):=by
 refine go Tryz.func163 (k:=fun hwf H=>?_)
 have hdv:=hA.dv
 unfold devRow at hdv
 have hlt:=hA.lt hwf
 have hA1:∀ x y,DevAt b D ((s.new x).new y):=fun x y=>(hA.nw hlt x).nw Y95 y
 have H:=aj hdv H
 have hsp:∀ s,ACalls Tryz.prog 171 [.int .i64 q.fn] s (fun r s'=>r=.int .i64 3∧s'=s):=fun s=>by rw [hf];simpa using device_space (fn:=23) (s:=s)
 refine rs (k:=rg [0,3,4] (k:=rs (k:=?_)))
 refine Run.drawC [] [3,4,5,6] Tryz.mixed Y26 ?_
 refine DetC.pre (pre:=[_,_,_,_,_,_]) au ?_
 refine DetC.call au au au Y26 (hsp _) ?_
 refine DetC.pre (pre:=[_,_,_,_]) au ?_
 refine DetC.call au au au Y26 (store_get3 (hA1 _ _).st (hA1 _ _).v1 Y21 hd2 hq.at_ hcn) ?_
 refine DetC.all au ?_
 refine re (k:=rs (k:=rs (k:=rg [3,4,5,23] (k:=rc (ht:=fun hc0=>?_) (hf:=fun hc0=>?_)))))
 refine rs (k:=rr (k:=ro (pre:=[_]) (k:=rC (h:=device_where hq) (k:=rh [4] (k:=rR (k:=?_))))))
 refine jO 1 ?_;rotate_left
 refine rk (k:=rs (k:=rg [4] (k:=rR (k:=?_))))
 refine jO 1 ?_;rotate_left
 any_goals
  refine jI 1 ?_
  first
   |(have hT:thereF D.c0.length q.at_ q.count=false:=by simpa using hc0
     refine Ret.pure (r':=(whereF q).pv) Y97 (by rfl) (blw_rep _ _) hwf Y36 ⟨by rw [hT,if_neg Bool.false_ne_true],rfl⟩)
   |(have hT:thereF D.c0.length q.at_ q.count=true:=by simpa using hc0
     refine Ret.pure (r':=(⟨q.fn,0,0,0,0,[],cutF D.v1 q.at_ q.count,0,0,[]⟩:Rep).pv) Y97 (by simp only [Rep.pv,PV.weak,PV.weaks,weaks_u16,weaks_bools,weaks_u8];rfl) (blw_rep _ _) hwf Y36 ⟨by rw [hT,if_pos rfl],rfl⟩)
attribute [local go_sem] weaks_bools Req.pv Rep.pv
theorem Y204 {p:Prop} (h:p:=by simp only [Tryz.f169,go_sem,↓reduceIte]<;>rfl):p:=h
set_option maxRecDepth 100000 in
theorem device_rw {b:Nat} {D:Dev} {s:St} (hA:DevAt b D s) (hD:D.ok) {q:Req} (hq:q.ok) (hr:rightF q=0) (hc:countF q=true) (hf:q.fn=23):ACalls Tryz.prog 169 [.ptr (b+5) 0 0,q.pv] s (fun r s'=>r=(bodyF D q).1.pv∧s'=putDev b (bodyF D q).2 s):=by
 refine go Tryz.func169 (k:=fun hwf H=>?_)
 have hdv:=hA.dv
 unfold devRow at hdv
 have hlt:=hA.lt hwf
 have hA1:∀ x y,DevAt b D ((s.new x).new y):=fun x y=>(hA.nw hlt x).nw Y95 y
 have hd1:=hD.h1
 have hd2:=hD.h2
 have hd3:=hD.c1
 have hd4:=hD.v0
 have hd5:=hD.v1
 have H:=aj hdv H
 have hk2:=hd2
 have hk5:=hd5
 have hne:=vals_of hr hc Y21
 have hcn:=count_of hc Y21
 have hA2:∀ x y,DevAt b { D with v1:=overF D.v1 q.wat.toNat q.vals } (((s.new x).new y).set (b+4) (some (.row 39 ((overF D.v1 q.wat.toNat q.vals).map (PV.int .u16))))):=fun x y=>(hA1 x y).of (blk_set_ne Y21) rfl (by rw [blk_set_ne Y21];exact (hA1 x y).c0) (by rw [blk_set_ne Y21];exact (hA1 x y).c1) (by rw [blk_set_ne Y21];exact (hA1 x y).v0) (by rw [blk_set_self]) (by rw [blk_set_ne Y21];exact (hA1 x y).dv)
 refine rs (k:=rg [0,3,4] (k:=rs (k:=?_)))
 refine Run.drawC [] [0,3,4,6] Tryz.mixed Y26 ?_
 refine DetC.pre (pre:=[_,_,_,_,_,_,_,_]) au ?_
 refine DetC.call au au au Y26 (store_get3 (hA1 _ _).st (hA1 _ _).v1 Y21 hk2 hq.at_ hcn) ?_
 refine DetC.all au ?_
 refine re (k:=rs (k:=rs (k:=?_)))
 refine Run.drawCut 11 [] Tryz.mixed Y26 Y26 ?_
 refine DetC.pre (pre:=[_,_,_]) au ?_
 rcases hd2:(!thereF D.c0.length q.at_ q.count) with _ | _
 have H:=aj hd2 H
 refine DetC.gdo au au ?_
 refine DetC.gdo au au ?_
 refine DetC.gdo au au ?_
 refine DetC.gdo au au ?_
 refine DetC.gdo au au ?_
 refine DetC.gdo au au ?_
 refine DetC.gdo au au ?_
 refine DetC.gdo au au ?_
 refine DetC.nil ?_
 refine RunO.callw au au au Y26 ((store_put3 (hA1 _ _).st (hA1 _ _).v1 (x:=q.vals) Y21 hk2 hq.wat hne Y21).mono ?_)
 rintro r s1 ⟨rfl,hs⟩
 refine rg1 (k:=rh [0,3,4,32] (k:=rc (ht:=fun hc0=>?_) (hf:=fun hc0=>?_)))
 refine jO 1 ?_;rotate_left
 have hc:=hc0
 refine rk (k:=rs (k:=?_))
 have hT2:thereF D.c0.length q.wat q.vals.length=true:=Y86
 rw [hT2,if_pos rfl] at hs
 subst hs
 refine rr (k:=ro (pre:=[_,_]) (k:=rC (h:=device_rv23 (hA2 _ _) hk2 (by show (overF D.v1 q.wat.toNat q.vals).length=_;rw [overF_len (by unfold thereF at hT2;have:=of_decide_eq_true hT2;omega)];exact hk5) hq hcn hf) (k:=rh [4] (k:=rR (k:=?_)))))
 refine jO 2 ?_;rotate_left
 have H:=aj hd2 H
 refine DetC.gskip' au ?_
 refine DetC.gskip' au ?_
 refine DetC.gskip' au ?_
 refine DetC.gskip' au ?_
 refine DetC.gskip' au ?_
 refine DetC.gskip' au ?_
 refine DetC.gskip' au ?_
 refine DetC.gskip' au ?_
 refine DetC.nil ?_
 refine rg0 (k:=rg0 (k:=rh [0,3,4,32] (k:=rc (ht:=fun hc0=>?_) (hf:=fun hc0=>?_))))
 refine jO 1 ?_;rotate_left
 ·cases hc0
 any_goals
  refine jI 1 ?_
  have hc:=hc0
  refine jO 3 ?_;rotate_left
 any_goals
  refine jI 3 ?_
  refine rs (k:=?_)
  refine jO 4 ?_;rotate_left
 any_goals
  refine jI 4 ?_
  first
   |(have hT2:thereF D.c0.length q.wat q.vals.length=false:=by simpa using hc0
     rw [hT2,if_neg Bool.false_ne_true] at hs
     subst hs)
   | skip
  refine jO 5 ?_;rotate_left
 any_goals
  refine jI 5 ?_
  refine rr (k:=ro (pre:=[_]) (k:=rC (h:=device_where hq) (k:=rh [4] (k:=rR (k:=?_)))))
  refine jO 2 ?_;rotate_left
 any_goals
  refine jI 2 ?_
  first
   |(have hT1:thereF D.c0.length q.at_ q.count=false:=by simpa using hd2
     have hB:bodyF D q=(whereF q,D):=by
      unfold bodyF;rw [if_neg Y21,if_neg Y21,if_neg Y21,if_neg Y21,if_neg Y21,if_neg Y21,if_neg Y21,if_neg Y21,if_neg Y21,if_neg (by rw [hT1];rintro ⟨h,_⟩;cases h)]
     refine Ret.dev D hA (r':=(whereF q:Rep).pv) Y204 ?_ (blw_rep _ _) hwf Y39 ⟨Y96,Y96⟩
     rfl)
   |(have hT1:thereF D.c0.length q.at_ q.count=true:=by simpa using hd2
     have hB:bodyF D q=(whereF q,D):=by
      unfold bodyF;rw [if_neg Y21,if_neg Y21,if_neg Y21,if_neg Y21,if_neg Y21,if_neg Y21,if_neg Y21,if_neg Y21,if_neg Y21,if_neg (by rw [hT2];rintro ⟨_,h⟩;cases h)]
     refine Ret.dev D hA (r':=(whereF q:Rep).pv) Y204 ?_ (blw_rep _ _) hwf Y39 ⟨Y96,Y96⟩
     rfl)
   |(have hT1:thereF D.c0.length q.at_ q.count=true:=by simpa using hd2
     have hB:bodyF D q=(⟨q.fn,0,0,0,0,[],cutF (overF D.v1 q.wat.toNat q.vals) q.at_ q.count,0,0,[]⟩,{ D with v1:=overF D.v1 q.wat.toNat q.vals }):=by
      unfold bodyF;rw [if_neg Y21,if_neg Y21,if_neg Y21,if_neg Y21,if_neg Y21,if_neg Y21,if_neg Y21,if_neg Y21,if_neg Y21,if_pos ⟨hT1,hT2⟩]
     refine Ret.dev { D with v1:=overF D.v1 q.wat.toNat q.vals } hA (r':=(⟨q.fn,0,0,0,0,[],cutF (overF D.v1 q.wat.toNat q.vals) q.at_ q.count,0,0,[]⟩:Rep).pv) Y204 ?_ (blw_rep _ _) hwf (fun i hi=>by
   have h0:=ltn hi;have h1:=lte hi
   rw [putDev_blk]
   simp only [go_sem,Nat.add_assoc,Nat.reduceAdd,↓reduceIte,h0,h1]
   (repeat' split)<;>first | rfl |(rename_i e;rw [e];first | exact hA.dv | exact hA.v1 | exact hA.v0 | exact hA.c1 | exact hA.c0) |(exfalso;omega)) ⟨Y96,Y96⟩
     simp only [Rep.pv,PV.weak,PV.weaks,weaks_u16,weaks_bools,weaks_u8];simp only [hT1,if_true,weaks_u16])
end Go.Proofs
namespace Go.Proofs
open Go.PM
set_option maxHeartbeats 2000000
theorem Y43 {p:Prop} (h:p:=by simp only [Tryz.f161,go_sem,↓reduceIte]<;>rfl):p:=h
theorem Y44 {p:Prop} (h:p:=by simp only [PV.blw,PV.blws,and_self]):p:=h
theorem Y42 {p:Prop} (h:p:=by
 refine rk (k:=rs (k:=rg [2] (k:=rR (k:=?_))))
 refine Ret.pure (r':=.nilf) Y43 (by rfl) Y44 hwf Y36 ⟨rfl,rfl⟩):p:=h
set_option maxRecDepth 100000 in
theorem device_does_0 {s:St}:ACalls Tryz.prog 161 [.int .i64 0] s (fun r s'=>r=.nilf∧s'=s):=by
 refine go Tryz.func161 (k:=fun hwf H=>?_)
 have f0:((0:Int)≤0)=True:=Y22
 have f1:((0:Int)<((24:Nat):Int))=True:=Y22
 have ft:Int.toNat 0=0:=rfl
 have f2:(decide ((24:Int)≤0))=false:=Y22
 have f3:(decide ((0:Int)<0))=false:=Y22
 have H:=aj f0 (aj f1 (aj ft (aj f2 (aj f3 H))))
 refine rs (k:=rg [0] (k:=rs (k:=rg [0,3] (k:=rs (k:=rs (k:=rg [0,3,10] (k:=rc (ht:=fun hc0=>?_) (hf:=fun hc0=>?_))))))))
 ·cases hc0
 ·exact Y42
theorem Y205 {p:Prop} (h:p:=by
 refine rk (k:=rs (k:=rg [2] (k:=rR (k:=?_))))
 refine Ret.pure (r':=.fn (.func 162) [] []) Y43 (by rfl) Y44 hwf Y36 ⟨rfl,rfl⟩):p:=h
set_option maxRecDepth 100000 in
theorem device_does_1 {s:St}:ACalls Tryz.prog 161 [.int .i64 1] s (fun r s'=>r=.fn (.func 162) [] []∧s'=s):=by
 refine go Tryz.func161 (k:=fun hwf H=>?_)
 have f0:((0:Int)≤1)=True:=Y22
 have f1:((1:Int)<((24:Nat):Int))=True:=Y22
 have ft:Int.toNat 1=1:=rfl
 have f2:(decide ((24:Int)≤1))=false:=Y22
 have f3:(decide ((1:Int)<0))=false:=Y22
 have H:=aj f0 (aj f1 (aj ft (aj f2 (aj f3 H))))
 refine rs (k:=rg [0] (k:=rs (k:=rg [0,3] (k:=rs (k:=rs (k:=rg [0,3,10] (k:=rc (ht:=fun hc0=>?_) (hf:=fun hc0=>?_))))))))
 ·cases hc0
 ·exact Y205
set_option maxRecDepth 100000 in
theorem device_does_2 {s:St}:ACalls Tryz.prog 161 [.int .i64 2] s (fun r s'=>r=.fn (.func 162) [] []∧s'=s):=by
 refine go Tryz.func161 (k:=fun hwf H=>?_)
 have f0:((0:Int)≤2)=True:=Y22
 have f1:((2:Int)<((24:Nat):Int))=True:=Y22
 have ft:Int.toNat 2=2:=rfl
 have f2:(decide ((24:Int)≤2))=false:=Y22
 have f3:(decide ((2:Int)<0))=false:=Y22
 have H:=aj f0 (aj f1 (aj ft (aj f2 (aj f3 H))))
 refine rs (k:=rg [0] (k:=rs (k:=rg [0,3] (k:=rs (k:=rs (k:=rg [0,3,10] (k:=rc (ht:=fun hc0=>?_) (hf:=fun hc0=>?_))))))))
 ·cases hc0
 ·exact Y205
theorem Y206 {p:Prop} (h:p:=by
 refine rk (k:=rs (k:=rg [2] (k:=rR (k:=?_))))
 refine Ret.pure (r':=.fn (.func 163) [] []) Y43 (by rfl) Y44 hwf Y36 ⟨rfl,rfl⟩):p:=h
set_option maxRecDepth 100000 in
theorem device_does_3 {s:St}:ACalls Tryz.prog 161 [.int .i64 3] s (fun r s'=>r=.fn (.func 163) [] []∧s'=s):=by
 refine go Tryz.func161 (k:=fun hwf H=>?_)
 have f0:((0:Int)≤3)=True:=Y22
 have f1:((3:Int)<((24:Nat):Int))=True:=Y22
 have ft:Int.toNat 3=3:=rfl
 have f2:(decide ((24:Int)≤3))=false:=Y22
 have f3:(decide ((3:Int)<0))=false:=Y22
 have H:=aj f0 (aj f1 (aj ft (aj f2 (aj f3 H))))
 refine rs (k:=rg [0] (k:=rs (k:=rg [0,3] (k:=rs (k:=rs (k:=rg [0,3,10] (k:=rc (ht:=fun hc0=>?_) (hf:=fun hc0=>?_))))))))
 ·cases hc0
 ·exact Y206
set_option maxRecDepth 100000 in
theorem device_does_4 {s:St}:ACalls Tryz.prog 161 [.int .i64 4] s (fun r s'=>r=.fn (.func 163) [] []∧s'=s):=by
 refine go Tryz.func161 (k:=fun hwf H=>?_)
 have f0:((0:Int)≤4)=True:=Y22
 have f1:((4:Int)<((24:Nat):Int))=True:=Y22
 have ft:Int.toNat 4=4:=rfl
 have f2:(decide ((24:Int)≤4))=false:=Y22
 have f3:(decide ((4:Int)<0))=false:=Y22
 have H:=aj f0 (aj f1 (aj ft (aj f2 (aj f3 H))))
 refine rs (k:=rg [0] (k:=rs (k:=rg [0,3] (k:=rs (k:=rs (k:=rg [0,3,10] (k:=rc (ht:=fun hc0=>?_) (hf:=fun hc0=>?_))))))))
 ·cases hc0
 ·exact Y206
theorem Y207 {p:Prop} (h:p:=by
 refine rk (k:=rs (k:=rg [2] (k:=rR (k:=?_))))
 refine Ret.pure (r':=.fn (.func 164) [] []) Y43 (by rfl) Y44 hwf Y36 ⟨rfl,rfl⟩):p:=h
set_option maxRecDepth 100000 in
theorem device_does_5 {s:St}:ACalls Tryz.prog 161 [.int .i64 5] s (fun r s'=>r=.fn (.func 164) [] []∧s'=s):=by
 refine go Tryz.func161 (k:=fun hwf H=>?_)
 have f0:((0:Int)≤5)=True:=Y22
 have f1:((5:Int)<((24:Nat):Int))=True:=Y22
 have ft:Int.toNat 5=5:=rfl
 have f2:(decide ((24:Int)≤5))=false:=Y22
 have f3:(decide ((5:Int)<0))=false:=Y22
 have H:=aj f0 (aj f1 (aj ft (aj f2 (aj f3 H))))
 refine rs (k:=rg [0] (k:=rs (k:=rg [0,3] (k:=rs (k:=rs (k:=rg [0,3,10] (k:=rc (ht:=fun hc0=>?_) (hf:=fun hc0=>?_))))))))
 ·cases hc0
 ·exact Y207
theorem Y208 {p:Prop} (h:p:=by
 refine rk (k:=rs (k:=rg [2] (k:=rR (k:=?_))))
 refine Ret.pure (r':=.fn (.func 165) [] []) Y43 (by rfl) Y44 hwf Y36 ⟨rfl,rfl⟩):p:=h
set_option maxRecDepth 100000 in
theorem device_does_6 {s:St}:ACalls Tryz.prog 161 [.int .i64 6] s (fun r s'=>r=.fn (.func 165) [] []∧s'=s):=by
 refine go Tryz.func161 (k:=fun hwf H=>?_)
 have f0:((0:Int)≤6)=True:=Y22
 have f1:((6:Int)<((24:Nat):Int))=True:=Y22
 have ft:Int.toNat 6=6:=rfl
 have f2:(decide ((24:Int)≤6))=false:=Y22
 have f3:(decide ((6:Int)<0))=false:=Y22
 have H:=aj f0 (aj f1 (aj ft (aj f2 (aj f3 H))))
 refine rs (k:=rg [0] (k:=rs (k:=rg [0,3] (k:=rs (k:=rs (k:=rg [0,3,10] (k:=rc (ht:=fun hc0=>?_) (hf:=fun hc0=>?_))))))))
 ·cases hc0
 ·exact Y208
set_option maxRecDepth 100000 in
theorem device_does_7 {s:St}:ACalls Tryz.prog 161 [.int .i64 7] s (fun r s'=>r=.nilf∧s'=s):=by
 refine go Tryz.func161 (k:=fun hwf H=>?_)
 have f0:((0:Int)≤7)=True:=Y22
 have f1:((7:Int)<((24:Nat):Int))=True:=Y22
 have ft:Int.toNat 7=7:=rfl
 have f2:(decide ((24:Int)≤7))=false:=Y22
 have f3:(decide ((7:Int)<0))=false:=Y22
 have H:=aj f0 (aj f1 (aj ft (aj f2 (aj f3 H))))
 refine rs (k:=rg [0] (k:=rs (k:=rg [0,3] (k:=rs (k:=rs (k:=rg [0,3,10] (k:=rc (ht:=fun hc0=>?_) (hf:=fun hc0=>?_))))))))
 ·cases hc0
 ·exact Y42
set_option maxRecDepth 100000 in
theorem device_does_8 {s:St}:ACalls Tryz.prog 161 [.int .i64 8] s (fun r s'=>r=.fn (.func 166) [] []∧s'=s):=by
 refine go Tryz.func161 (k:=fun hwf H=>?_)
 have f0:((0:Int)≤8)=True:=Y22
 have f1:((8:Int)<((24:Nat):Int))=True:=Y22
 have ft:Int.toNat 8=8:=rfl
 have f2:(decide ((24:Int)≤8))=false:=Y22
 have f3:(decide ((8:Int)<0))=false:=Y22
 have H:=aj f0 (aj f1 (aj ft (aj f2 (aj f3 H))))
 refine rs (k:=rg [0] (k:=rs (k:=rg [0,3] (k:=rs (k:=rs (k:=rg [0,3,10] (k:=rc (ht:=fun hc0=>?_) (hf:=fun hc0=>?_))))))))
 ·cases hc0
 ·refine rk (k:=rs (k:=rg [2] (k:=rR (k:=?_))))
  refine Ret.pure (r':=.fn (.func 166) [] []) Y43 (by rfl) Y44 hwf Y36 ⟨rfl,rfl⟩
set_option maxRecDepth 100000 in
theorem device_does_9 {s:St}:ACalls Tryz.prog 161 [.int .i64 9] s (fun r s'=>r=.nilf∧s'=s):=by
 refine go Tryz.func161 (k:=fun hwf H=>?_)
 have f0:((0:Int)≤9)=True:=Y22
 have f1:((9:Int)<((24:Nat):Int))=True:=Y22
 have ft:Int.toNat 9=9:=rfl
 have f2:(decide ((24:Int)≤9))=false:=Y22
 have f3:(decide ((9:Int)<0))=false:=Y22
 have H:=aj f0 (aj f1 (aj ft (aj f2 (aj f3 H))))
 refine rs (k:=rg [0] (k:=rs (k:=rg [0,3] (k:=rs (k:=rs (k:=rg [0,3,10] (k:=rc (ht:=fun hc0=>?_) (hf:=fun hc0=>?_))))))))
 ·cases hc0
 ·exact Y42
set_option maxRecDepth 100000 in
theorem device_does_10 {s:St}:ACalls Tryz.prog 161 [.int .i64 10] s (fun r s'=>r=.nilf∧s'=s):=by
 refine go Tryz.func161 (k:=fun hwf H=>?_)
 have f0:((0:Int)≤10)=True:=Y22
 have f1:((10:Int)<((24:Nat):Int))=True:=Y22
 have ft:Int.toNat 10=10:=rfl
 have f2:(decide ((24:Int)≤10))=false:=Y22
 have f3:(decide ((10:Int)<0))=false:=Y22
 have H:=aj f0 (aj f1 (aj ft (aj f2 (aj f3 H))))
 refine rs (k:=rg [0] (k:=rs (k:=rg [0,3] (k:=rs (k:=rs (k:=rg [0,3,10] (k:=rc (ht:=fun hc0=>?_) (hf:=fun hc0=>?_))))))))
 ·cases hc0
 ·exact Y42
set_option maxRecDepth 100000 in
theorem device_does_11 {s:St}:ACalls Tryz.prog 161 [.int .i64 11] s (fun r s'=>r=.nilf∧s'=s):=by
 refine go Tryz.func161 (k:=fun hwf H=>?_)
 have f0:((0:Int)≤11)=True:=Y22
 have f1:((11:Int)<((24:Nat):Int))=True:=Y22
 have ft:Int.toNat 11=11:=rfl
 have f2:(decide ((24:Int)≤11))=false:=Y22
 have f3:(decide ((11:Int)<0))=false:=Y22
 have H:=aj f0 (aj f1 (aj ft (aj f2 (aj f3 H))))
 refine rs (k:=rg [0] (k:=rs (k:=rg [0,3] (k:=rs (k:=rs (k:=rg [0,3,10] (k:=rc (ht:=fun hc0=>?_) (hf:=fun hc0=>?_))))))))
 ·cases hc0
 ·exact Y42
set_option maxRecDepth 100000 in
theorem device_does_12 {s:St}:ACalls Tryz.prog 161 [.int .i64 12] s (fun r s'=>r=.nilf∧s'=s):=by
 refine go Tryz.func161 (k:=fun hwf H=>?_)
 have f0:((0:Int)≤12)=True:=Y22
 have f1:((12:Int)<((24:Nat):Int))=True:=Y22
 have ft:Int.toNat 12=12:=rfl
 have f2:(decide ((24:Int)≤12))=false:=Y22
 have f3:(decide ((12:Int)<0))=false:=Y22
 have H:=aj f0 (aj f1 (aj ft (aj f2 (aj f3 H))))
 refine rs (k:=rg [0] (k:=rs (k:=rg [0,3] (k:=rs (k:=rs (k:=rg [0,3,10] (k:=rc (ht:=fun hc0=>?_) (hf:=fun hc0=>?_))))))))
 ·cases hc0
 ·exact Y42
set_option maxRecDepth 100000 in
theorem device_does_13 {s:St}:ACalls Tryz.prog 161 [.int .i64 13] s (fun r s'=>r=.nilf∧s'=s):=by
 refine go Tryz.func161 (k:=fun hwf H=>?_)
 have f0:((0:Int)≤13)=True:=Y22
 have f1:((13:Int)<((24:Nat):Int))=True:=Y22
 have ft:Int.toNat 13=13:=rfl
 have f2:(decide ((24:Int)≤13))=false:=Y22
 have f3:(decide ((13:Int)<0))=false:=Y22
 have H:=aj f0 (aj f1 (aj ft (aj f2 (aj f3 H))))
 refine rs (k:=rg [0] (k:=rs (k:=rg [0,3] (k:=rs (k:=rs (k:=rg [0,3,10] (k:=rc (ht:=fun hc0=>?_) (hf:=fun hc0=>?_))))))))
 ·cases hc0
 ·exact Y42
set_option maxRecDepth 100000 in
theorem device_does_14 {s:St}:ACalls Tryz.prog 161 [.int .i64 14] s (fun r s'=>r=.nilf∧s'=s):=by
 refine go Tryz.func161 (k:=fun hwf H=>?_)
 have f0:((0:Int)≤14)=True:=Y22
 have f1:((14:Int)<((24:Nat):Int))=True:=Y22
 have ft:Int.toNat 14=14:=rfl
 have f2:(decide ((24:Int)≤14))=false:=Y22
 have f3:(decide ((14:Int)<0))=false:=Y22
 have H:=aj f0 (aj f1 (aj ft (aj f2 (aj f3 H))))
 refine rs (k:=rg [0] (k:=rs (k:=rg [0,3] (k:=rs (k:=rs (k:=rg [0,3,10] (k:=rc (ht:=fun hc0=>?_) (hf:=fun hc0=>?_))))))))
 ·cases hc0
 ·exact Y42
set_option maxRecDepth 100000 in
theorem device_does_15 {s:St}:ACalls Tryz.prog 161 [.int .i64 15] s (fun r s'=>r=.fn (.func 164) [] []∧s'=s):=by
 refine go Tryz.func161 (k:=fun hwf H=>?_)
 have f0:((0:Int)≤15)=True:=Y22
 have f1:((15:Int)<((24:Nat):Int))=True:=Y22
 have ft:Int.toNat 15=15:=rfl
 have f2:(decide ((24:Int)≤15))=false:=Y22
 have f3:(decide ((15:Int)<0))=false:=Y22
 have H:=aj f0 (aj f1 (aj ft (aj f2 (aj f3 H))))
 refine rs (k:=rg [0] (k:=rs (k:=rg [0,3] (k:=rs (k:=rs (k:=rg [0,3,10] (k:=rc (ht:=fun hc0=>?_) (hf:=fun hc0=>?_))))))))
 ·cases hc0
 ·exact Y207
set_option maxRecDepth 100000 in
theorem device_does_16 {s:St}:ACalls Tryz.prog 161 [.int .i64 16] s (fun r s'=>r=.fn (.func 165) [] []∧s'=s):=by
 refine go Tryz.func161 (k:=fun hwf H=>?_)
 have f0:((0:Int)≤16)=True:=Y22
 have f1:((16:Int)<((24:Nat):Int))=True:=Y22
 have ft:Int.toNat 16=16:=rfl
 have f2:(decide ((24:Int)≤16))=false:=Y22
 have f3:(decide ((16:Int)<0))=false:=Y22
 have H:=aj f0 (aj f1 (aj ft (aj f2 (aj f3 H))))
 refine rs (k:=rg [0] (k:=rs (k:=rg [0,3] (k:=rs (k:=rs (k:=rg [0,3,10] (k:=rc (ht:=fun hc0=>?_) (hf:=fun hc0=>?_))))))))
 ·cases hc0
 ·exact Y208
set_option maxRecDepth 100000 in
theorem device_does_17 {s:St}:ACalls Tryz.prog 161 [.int .i64 17] s (fun r s'=>r=.fn (.func 167) [] []∧s'=s):=by
 refine go Tryz.func161 (k:=fun hwf H=>?_)
 have f0:((0:Int)≤17)=True:=Y22
 have f1:((17:Int)<((24:Nat):Int))=True:=Y22
 have ft:Int.toNat 17=17:=rfl
 have f2:(decide ((24:Int)≤17))=false:=Y22
 have f3:(decide ((17:Int)<0))=false:=Y22
 have H:=aj f0 (aj f1 (aj ft (aj f2 (aj f3 H))))
 refine rs (k:=rg [0] (k:=rs (k:=rg [0,3] (k:=rs (k:=rs (k:=rg [0,3,10] (k:=rc (ht:=fun hc0=>?_) (hf:=fun hc0=>?_))))))))
 ·cases hc0
 ·refine rk (k:=rs (k:=rg [2] (k:=rR (k:=?_))))
  refine Ret.pure (r':=.fn (.func 167) [] []) Y43 (by rfl) Y44 hwf Y36 ⟨rfl,rfl⟩
set_option maxRecDepth 100000 in
theorem device_does_18 {s:St}:ACalls Tryz.prog 161 [.int .i64 18] s (fun r s'=>r=.nilf∧s'=s):=by
 refine go Tryz.func161 (k:=fun hwf H=>?_)
 have f0:((0:Int)≤18)=True:=Y22
 have f1:((18:Int)<((24:Nat):Int))=True:=Y22
 have ft:Int.toNat 18=18:=rfl
 have f2:(decide ((24:Int)≤18))=false:=Y22
 have f3:(decide ((18:Int)<0))=false:=Y22
 have H:=aj f0 (aj f1 (aj ft (aj f2 (aj f3 H))))
 refine rs (k:=rg [0] (k:=rs (k:=rg [0,3] (k:=rs (k:=rs (k:=rg [0,3,10] (k:=rc (ht:=fun hc0=>?_) (hf:=fun hc0=>?_))))))))
 ·cases hc0
 ·exact Y42
set_option maxRecDepth 100000 in
theorem device_does_19 {s:St}:ACalls Tryz.prog 161 [.int .i64 19] s (fun r s'=>r=.nilf∧s'=s):=by
 refine go Tryz.func161 (k:=fun hwf H=>?_)
 have f0:((0:Int)≤19)=True:=Y22
 have f1:((19:Int)<((24:Nat):Int))=True:=Y22
 have ft:Int.toNat 19=19:=rfl
 have f2:(decide ((24:Int)≤19))=false:=Y22
 have f3:(decide ((19:Int)<0))=false:=Y22
 have H:=aj f0 (aj f1 (aj ft (aj f2 (aj f3 H))))
 refine rs (k:=rg [0] (k:=rs (k:=rg [0,3] (k:=rs (k:=rs (k:=rg [0,3,10] (k:=rc (ht:=fun hc0=>?_) (hf:=fun hc0=>?_))))))))
 ·cases hc0
 ·exact Y42
set_option maxRecDepth 100000 in
theorem device_does_20 {s:St}:ACalls Tryz.prog 161 [.int .i64 20] s (fun r s'=>r=.nilf∧s'=s):=by
 refine go Tryz.func161 (k:=fun hwf H=>?_)
 have f0:((0:Int)≤20)=True:=Y22
 have f1:((20:Int)<((24:Nat):Int))=True:=Y22
 have ft:Int.toNat 20=20:=rfl
 have f2:(decide ((24:Int)≤20))=false:=Y22
 have f3:(decide ((20:Int)<0))=false:=Y22
 have H:=aj f0 (aj f1 (aj ft (aj f2 (aj f3 H))))
 refine rs (k:=rg [0] (k:=rs (k:=rg [0,3] (k:=rs (k:=rs (k:=rg [0,3,10] (k:=rc (ht:=fun hc0=>?_) (hf:=fun hc0=>?_))))))))
 ·cases hc0
 ·exact Y42
set_option maxRecDepth 100000 in
theorem device_does_21 {s:St}:ACalls Tryz.prog 161 [.int .i64 21] s (fun r s'=>r=.nilf∧s'=s):=by
 refine go Tryz.func161 (k:=fun hwf H=>?_)
 have f0:((0:Int)≤21)=True:=Y22
 have f1:((21:Int)<((24:Nat):Int))=True:=Y22
 have ft:Int.toNat 21=21:=rfl
 have f2:(decide ((24:Int)≤21))=false:=Y22
 have f3:(decide ((21:Int)<0))=false:=Y22
 have H:=aj f0 (aj f1 (aj ft (aj f2 (aj f3 H))))
 refine rs (k:=rg [0] (k:=rs (k:=rg [0,3] (k:=rs (k:=rs (k:=rg [0,3,10] (k:=rc (ht:=fun hc0=>?_) (hf:=fun hc0=>?_))))))))
 ·cases hc0
 ·exact Y42
set_option maxRecDepth 100000 in
theorem device_does_22 {s:St}:ACalls Tryz.prog 161 [.int .i64 22] s (fun r s'=>r=.fn (.func 168) [] []∧s'=s):=by
 refine go Tryz.func161 (k:=fun hwf H=>?_)
 have f0:((0:Int)≤22)=True:=Y22
 have f1:((22:Int)<((24:Nat):Int))=True:=Y22
 have ft:Int.toNat 22=22:=rfl
 have f2:(decide ((24:Int)≤22))=false:=Y22
 have f3:(decide ((22:Int)<0))=false:=Y22
 have H:=aj f0 (aj f1 (aj ft (aj f2 (aj f3 H))))
 refine rs (k:=rg [0] (k:=rs (k:=rg [0,3] (k:=rs (k:=rs (k:=rg [0,3,10] (k:=rc (ht:=fun hc0=>?_) (hf:=fun hc0=>?_))))))))
 ·cases hc0
 ·refine rk (k:=rs (k:=rg [2] (k:=rR (k:=?_))))
  refine Ret.pure (r':=.fn (.func 168) [] []) Y43 (by rfl) Y44 hwf Y36 ⟨rfl,rfl⟩
set_option maxRecDepth 100000 in
theorem device_does_23 {s:St}:ACalls Tryz.prog 161 [.int .i64 23] s (fun r s'=>r=.fn (.func 169) [] []∧s'=s):=by
 refine go Tryz.func161 (k:=fun hwf H=>?_)
 have f0:((0:Int)≤23)=True:=Y22
 have f1:((23:Int)<((24:Nat):Int))=True:=Y22
 have ft:Int.toNat 23=23:=rfl
 have f2:(decide ((24:Int)≤23))=false:=Y22
 have f3:(decide ((23:Int)<0))=false:=Y22
 have H:=aj f0 (aj f1 (aj ft (aj f2 (aj f3 H))))
 refine rs (k:=rg [0] (k:=rs (k:=rg [0,3] (k:=rs (k:=rs (k:=rg [0,3,10] (k:=rc (ht:=fun hc0=>?_) (hf:=fun hc0=>?_))))))))
 ·cases hc0
 ·refine rk (k:=rs (k:=rg [2] (k:=rR (k:=?_))))
  refine Ret.pure (r':=.fn (.func 169) [] []) Y43 (by rfl) Y44 hwf Y36 ⟨rfl,rfl⟩
set_option maxRecDepth 100000 in
theorem device_does_out {fn:Int} (h:fn<0∨24≤fn) {s:St}:ACalls Tryz.prog 161 [.int .i64 fn] s (fun r s'=>r=.nilf∧s'=s):=by
 refine go Tryz.func161 (k:=fun hwf H=>?_)
 refine rs (k:=rg [0] (k:=rs (k:=rg [0,3] (k:=rs (k:=rs (k:=rg [0,3,10] (k:=rc (ht:=fun hc0=>?_) (hf:=fun hc0=>?_))))))))
 ·refine rs (k:=rg [2] (k:=rR (k:=?_)))
  refine Ret.pure (r':=.nilf) Y43 (by rfl) (by simp only [PV.blw]) hwf Y36 ⟨rfl,rfl⟩
 ·refine rk (k:=rs (k:=?_))
  exfalso
  simp only [Bool.or_eq_false_iff,decide_eq_false_iff_not] at hc0
  omega
theorem device_does_no {fn:Int} (h:hasF fn=false) {s:St}:ACalls Tryz.prog 161 [.int .i64 fn] s (fun r s'=>r=.nilf∧s'=s):=by
 have hn:=of_decide_eq_false h
 by_cases ho:fn<0∨24≤fn
 ·exact device_does_out ho
 ·have hk:fn=0∨fn=7∨fn=9∨fn=10∨fn=11∨fn=12∨fn=13∨fn=14∨fn=18∨fn=19∨fn=20∨fn=21:=Y21
  rcases hk with rfl | rfl | rfl | rfl | rfl | rfl | rfl | rfl | rfl | rfl | rfl | rfl
  ·exact device_does_0
  ·exact device_does_7
  ·exact device_does_9
  ·exact device_does_10
  ·exact device_does_11
  ·exact device_does_12
  ·exact device_does_13
  ·exact device_does_14
  ·exact device_does_18
  ·exact device_does_19
  ·exact device_does_20
  ·exact device_does_21
theorem device_does_body {q:Req} (h:hasF q.fn=true):∃ N:Nat,(∀ s,ACalls Tryz.prog 161 [.int .i64 q.fn] s (fun r s'=>r=.fn (.func N) [] []∧s'=s))∧callable Tryz.prog N=true ∧
  ∀ {b:Nat} {D:Dev} {s:St},DevAt b D s→D.ok→q.ok→rightF q=0→countF q=true→ACalls Tryz.prog N [.ptr (b+5) 0 0,q.pv] s (fun r s'=>r=(bodyF D q).1.pv∧s'=putDev b (bodyF D q).2 s):=by
 rcases has_cases h with e | e | e | e | e | e | e | e | e | e | e | e
 ·exact ⟨162,fun s=>by rw [e];exact device_does_1,Y26,fun h1 h2 h3 h4 h5=>device_rd1 h1 h2 h3 h4 h5 e⟩
 ·exact ⟨162,fun s=>by rw [e];exact device_does_2,Y26,fun h1 h2 h3 h4 h5=>device_rd2 h1 h2 h3 h4 h5 e⟩
 ·exact ⟨163,fun s=>by rw [e];exact device_does_3,Y26,fun h1 h2 h3 h4 h5=>device_rd3 h1 h2 h3 h4 h5 e⟩
 ·exact ⟨163,fun s=>by rw [e];exact device_does_4,Y26,fun h1 h2 h3 h4 h5=>device_rd4 h1 h2 h3 h4 h5 e⟩
 ·exact ⟨164,fun s=>by rw [e];exact device_does_5,Y26,fun h1 h2 h3 h4 h5=>device_wr5 h1 h2 h3 h4 h5 e⟩
 ·exact ⟨165,fun s=>by rw [e];exact device_does_6,Y26,fun h1 h2 h3 h4 h5=>device_wr6 h1 h2 h3 h4 h5 e⟩
 ·exact ⟨166,fun s=>by rw [e];exact device_does_8,Y26,fun h1 h2 h3 h4 h5=>device_diag h1 h2 h3 h4 h5 e⟩
 ·exact ⟨164,fun s=>by rw [e];exact device_does_15,Y26,fun h1 h2 h3 h4 h5=>device_wr15 h1 h2 h3 h4 h5 e⟩
 ·exact ⟨165,fun s=>by rw [e];exact device_does_16,Y26,fun h1 h2 h3 h4 h5=>device_wr16 h1 h2 h3 h4 h5 e⟩
 ·exact ⟨167,fun s=>by rw [e];exact device_does_17,Y26,fun h1 h2 h3 h4 h5=>device_ident h1 h2 h3 h4 h5 e⟩
 ·exact ⟨168,fun s=>by rw [e];exact device_does_22,Y26,fun h1 h2 h3 h4 h5=>device_mask h1 h2 h3 h4 h5 e⟩
 ·exact ⟨169,fun s=>by rw [e];exact device_does_23,Y26,fun h1 h2 h3 h4 h5=>device_rw h1 h2 h3 h4 h5 e⟩
end Go.Proofs
namespace Go.Proofs
open Go.PM
set_option maxHeartbeats 2000000
theorem putDev_hi {b:Nat} {D:Dev} {s:St} {i:Nat} (h:b+5<i):(putDev b D s).blk i=s.blk i:=by
 rw [putDev_blk,if_neg Y21,if_neg Y21,if_neg Y21,if_neg Y21,if_neg Y21]
theorem putDev_congr2 {b m:Nat} {D:Dev} {s s':St} (hk:∀ i,i<m→i<b+1∨b+5<i→s'.blk i=s.blk i) (i:Nat) (hi:i<m):(putDev b D s').blk i=(putDev b D s).blk i:=by
 rw [putDev_blk,putDev_blk]
 by_cases e5:i=b+5
 ·rw [if_pos e5,if_pos e5]
 by_cases e4:i=b+4
 ·rw [if_neg e5,if_neg e5,if_pos e4,if_pos e4]
 by_cases e2:i=b+2
 ·rw [if_neg e5,if_neg e5,if_neg e4,if_neg e4,if_pos e2,if_pos e2]
 by_cases e3:i=b+3
 ·rw [if_neg e5,if_neg e5,if_neg e4,if_neg e4,if_neg e2,if_neg e2,if_pos e3,if_pos e3]
 by_cases e1:i=b+1
 ·rw [if_neg e5,if_neg e5,if_neg e4,if_neg e4,if_neg e2,if_neg e2,if_neg e3,if_neg e3,if_pos e1,if_pos e1]
 rw [if_neg e5,if_neg e5,if_neg e4,if_neg e4,if_neg e2,if_neg e2,if_neg e3,if_neg e3,if_neg e1,if_neg e1]
 exact hk i hi Y21
theorem putDev_lo {b:Nat} {D:Dev} {s:St} {i:Nat} (h:i<b+1):(putDev b D s).blk i=s.blk i:=by
 rw [putDev_blk,if_neg Y21,if_neg Y21,if_neg Y21,if_neg Y21,if_neg Y21]
theorem I64_wrap (n:Int):I64 (IntKind.i64.wrap n):=by
 unfold IntKind.wrap
 simp [IntKind.signed,IntKind.bits]
 constructor<;>(split<;>omega)
def DOk (n:Nat) (z:Rep × Dev):Prop:=z.2.ok∧z.2.c0.length=n
theorem DOk.ite {n:Nat} {c:Prop} [Decidable c] {x y:Rep × Dev} (h1:c→DOk n x) (h2:¬ c→DOk n y):DOk n (if c then x else y):=by
 split
 ·exact h1 ‹_›
 ·exact h2 ‹_›
theorem u16_ibits (op:BinOp) (a b:Int):U16 (ibits op .u16 a b):=ibits_u16 _ _ _
theorem overF_ok {l x:List Int} (h:OkW l) (k:OkW x) (a:Nat):OkW (overF l a x):=by
 intro y hy
 unfold overF at hy
 rcases List.mem_append.1 hy with hy | hy
 ·rcases List.mem_append.1 hy with hy | hy
  ·exact h y (List.mem_of_mem_take hy)
  ·exact k y hy
 ·exact h y (List.mem_of_mem_drop hy)
theorem there_len {N:Nat} {a m:Int} (h:thereF N a m=true):0≤a∧0≤m∧a+m≤N:=by
 unfold thereF at h
 have:=of_decide_eq_true h
 omega
theorem bodyF_ok {D:Dev} (hD:D.ok) {q:Req} (hq:q.ok):(bodyF D q).2.ok∧(bodyF D q).2.c0.length=D.c0.length:=by
 have h1:=hD.h1;have h2:=hD.h2;have h3:=hD.c1;have h4:=hD.v0;have h5:=hD.v1
 have z:I64 0:=Y24
 have ok0:∀ {x:List Bool},thereF D.c0.length q.at_ x.length=true→({ D with c0:=overF D.c0 q.at_.toNat x }:Dev).ok∧(overF D.c0 q.at_.toNat x).length=D.c0.length:=by
  intro x hx
  have ht:=there_len hx
  have hl:(overF D.c0 q.at_.toNat x).length=D.c0.length:=overF_len Y21
  exact ⟨⟨by show 1≤(overF D.c0 q.at_.toNat x).length;omega,by show (overF D.c0 q.at_.toNat x).length≤65536;omega,by show D.c1.length=(overF D.c0 q.at_.toNat x).length;omega,by show D.v0.length=(overF D.c0 q.at_.toNat x).length;omega,by show D.v1.length=(overF D.c0 q.at_.toNat x).length;omega,hD.w0,hD.w1,hD.unit,hD.msgs,hD.exc⟩,hl⟩
 have ok1:∀ {x:List Int} {a:Int},OkW x→thereF D.c0.length a x.length=true→({ D with v1:=overF D.v1 a.toNat x }:Dev).ok:=by
  intro x a hw hx
  have ht:=there_len hx
  have hl:(overF D.v1 a.toNat x).length=D.v1.length:=overF_len Y21
  exact ⟨h1,h2,h3,h4,by show (overF D.v1 a.toNat x).length=D.c0.length;omega,hD.w0,overF_ok hD.w1 hw _,hD.unit,hD.msgs,hD.exc⟩
 have key:DOk D.c0.length (bodyF D q):=by
  unfold bodyF
  refine DOk.ite (fun _=>DOk.ite (fun _=>⟨hD,rfl⟩) (fun _=>⟨hD,rfl⟩)) fun _=>?_
  refine DOk.ite (fun _=>DOk.ite (fun _=>⟨hD,rfl⟩) (fun _=>⟨hD,rfl⟩)) fun _=>?_
  refine DOk.ite (fun _=>DOk.ite (fun _=>⟨hD,rfl⟩) (fun _=>⟨hD,rfl⟩)) fun _=>?_
  refine DOk.ite (fun _=>DOk.ite (fun _=>⟨hD,rfl⟩) (fun _=>⟨hD,rfl⟩)) fun _=>?_
  refine DOk.ite (fun _=>DOk.ite (fun ht=>ok0 ht) (fun _=>⟨hD,rfl⟩)) fun _=>?_
  refine DOk.ite (fun _=>DOk.ite (fun ht=>⟨ok1 hq.vals ht,rfl⟩) (fun _=>⟨hD,rfl⟩)) fun _=>?_
  refine DOk.ite (fun _=>?_) fun _=>?_
  ·unfold diagF
   refine DOk.ite (fun _=>⟨hD,rfl⟩) fun _=>?_
   refine DOk.ite (fun _=>⟨⟨h1,h2,h3,h4,h5,hD.w0,hD.w1,hD.unit,z,z⟩,rfl⟩) fun _=>?_
   refine DOk.ite (fun _=>DOk.ite (fun _=>⟨hD,rfl⟩) (fun _=>⟨hD,rfl⟩)) fun _=>⟨hD,rfl⟩
  refine DOk.ite (fun _=>⟨hD,rfl⟩) fun _=>?_
  refine DOk.ite (fun _=>DOk.ite (fun ht=>⟨ok1 (x:=[maskF _ q]) (fun y hy=>by rw [List.mem_singleton.1 hy];exact u16_ibits _ _ _) ht,rfl⟩) (fun _=>⟨hD,rfl⟩)) fun _=>?_
  exact DOk.ite (fun ht=>⟨ok1 hq.vals ht.2,rfl⟩) (fun _=>⟨hD,rfl⟩)
 exact key
theorem inc_ok {D:Dev} (hD:D.ok):({ D with msgs:=inc D.msgs }:Dev).ok:=⟨hD.h1,hD.h2,hD.c1,hD.v0,hD.v1,hD.w0,hD.w1,hD.unit,I64_wrap _,hD.exc⟩
theorem refD_ok {D:Dev} (hD:D.ok) (fn c:Int):(refD D fn c).2.ok:=⟨hD.h1,hD.h2,hD.c1,hD.v0,hD.v1,hD.w0,hD.w1,hD.unit,hD.msgs,I64_wrap _⟩
theorem doF_ok {D:Dev} (hD:D.ok) {q:Req} (hq:q.ok):(doF D q).2.ok∧(doF D q).2.c0.length=D.c0.length:=by
 have hb:=bodyF_ok (inc_ok hD) hq
 have key:DOk D.c0.length (doF D q):=by
  unfold doF
  dsimp only
  refine DOk.ite (fun _=>⟨refD_ok (inc_ok hD) _ _,rfl⟩) fun _=>?_
  refine DOk.ite (fun _=>⟨refD_ok (inc_ok hD) _ _,rfl⟩) fun _=>?_
  exact DOk.ite (fun _=>⟨refD_ok hb.1 _ _,hb.2⟩) fun _=>hb
 exact key
theorem DevAt.sv {b:Nat} {D:Dev} {s:St} (h:DevAt b D s) {i:Nat} (hi:b+5<i) (x:Option Blk):DevAt b D (s.set i x):=by
 have e:∀ j,j≤b+5→(s.set i x).blk j=s.blk j:=fun j hj=>blk_set_ne Y21
 exact ⟨by rw [e _ Y21];exact h.st,by rw [e _ Y21];exact h.c0,by rw [e _ Y21];exact h.c1,by rw [e _ Y21];exact h.v0,by rw [e _ Y21];exact h.v1,by rw [e _ Y21];exact h.dv⟩
def ROk (z:Rep × Dev):Prop:=z.1.ok
theorem ROk.ite {c:Prop} [Decidable c] {x y:Rep × Dev} (h1:c→ROk x) (h2:¬ c→ROk y):ROk (if c then x else y):=by
 split
 ·exact h1 ‹_›
 ·exact h2 ‹_›
theorem zI:I64 0:=Y24
theorem zU:U16 0:=Y24
theorem zW:OkW []:=fun x hx=>(List.not_mem_nil hx).elim
theorem refuseP_ok (fn code:Int):(refuseP fn code).ok:=⟨by show I64 (fn%128);constructor<;>omega,by show I64 (code%256);constructor<;>omega,zI,zI,zI,zW,zU,zU,OkB.nil,Y78,Y245,Y78⟩
theorem rep_ok {fn at_ count sub and_ or_:Int} {bits:List Bool} {vals data:List Int} (h1:I64 fn) (h2:I64 at_) (h3:I64 count) (h4:I64 sub) (h5:OkW vals) (h6:U16 and_) (h7:U16 or_) (h8:OkB data) (h9:bits.length≤65536) (h10:vals.length≤65536) (h11:data.length≤65536) :
  (⟨fn,0,at_,count,sub,bits,vals,and_,or_,data⟩:Rep).ok:=⟨h1,zI,h2,h3,h4,h5,h6,h7,h8,by show bits.length≤_;omega,by show vals.length*2≤_;omega,by show data.length≤_;omega⟩
theorem cutF_ok {l:List Int} (h:OkW l) (a m:Int):OkW (cutF l a m):=by
 unfold cutF
 split
 ·exact fun x hx=>h x (List.mem_of_mem_drop (List.mem_of_mem_take hx))
 ·exact zW
theorem cutF_len {α:Type} (l:List α) (a m:Int):(cutF l a m).length≤l.length:=by
 unfold cutF
 split
 ·rw [List.length_take,List.length_drop];omega
 ·simp
theorem OkW.one {v:Int} (h:U16 v):OkW [v]:=fun x hx=>by rw [List.mem_singleton.1 hx];exact h
theorem head_ok {l:List Int} (h:OkW l):U16 ((l[0]?).getD 0):=by
 cases hx:l[0]? with
 | none=>exact zU
 | some x=>exact h x (List.mem_of_getElem? hx)
theorem u16_wrap_ok (n:Int):U16 (IntKind.u16.wrap n):=by rw [u16_wrap];constructor<;>omega
theorem bodyF_rep {D:Dev} (hD:D.ok) {q:Req} (hq:q.ok):(bodyF D q).1.ok:=by
 have h1:=hD.h1;have h2:=hD.h2;have h3:=hD.c1;have h4:=hD.v0;have h5:=hD.v1
 have w:ROk (whereF q,D):=refuseP_ok _ _
 have n0:([]:List Bool).length≤65536:=Y22
 have n1:([]:List Int).length≤65536:=Y22
 have m1:∀ v:Int,[v].length≤65536:=fun v=>Y23
 have m2:∀ v:Bool,[v].length≤65536:=fun v=>Y23
 have key:ROk (bodyF D q):=by
  unfold bodyF
  refine ROk.ite (fun _=>ROk.ite (fun _=>rep_ok hq.fn zI zI zI zW zU zU OkB.nil (Nat.le_trans (cutF_len _ _ _) Y21) n1 n1) (fun _=>w)) fun _=>?_
  refine ROk.ite (fun _=>ROk.ite (fun _=>rep_ok hq.fn zI zI zI zW zU zU OkB.nil (Nat.le_trans (cutF_len _ _ _) Y21) n1 n1) (fun _=>w)) fun _=>?_
  refine ROk.ite (fun _=>ROk.ite (fun _=>rep_ok hq.fn zI zI zI (cutF_ok hD.w1 _ _) zU zU OkB.nil n0 (Nat.le_trans (cutF_len _ _ _) Y21) n1) (fun _=>w)) fun _=>?_
  refine ROk.ite (fun _=>ROk.ite (fun _=>rep_ok hq.fn zI zI zI (cutF_ok hD.w0 _ _) zU zU OkB.nil n0 (Nat.le_trans (cutF_len _ _ _) Y21) n1) (fun _=>w)) fun _=>?_
  refine ROk.ite (fun _=>ROk.ite (fun _=>?_) (fun _=>w)) fun _=>?_
  ·show Rep.ok (if q.fn=15 then _ else _)
   split
   ·exact rep_ok hq.fn hq.at_ hq.count zI zW zU zU OkB.nil n0 n1 n1
   ·exact rep_ok hq.fn hq.at_ zI zI zW zU zU OkB.nil (m2 _) n1 n1
  refine ROk.ite (fun _=>ROk.ite (fun _=>?_) (fun _=>w)) fun _=>?_
  ·show Rep.ok (if q.fn=16 then _ else _)
   split
   ·exact rep_ok hq.fn hq.at_ hq.count zI zW zU zU OkB.nil n0 n1 n1
   ·exact rep_ok hq.fn hq.at_ zI zI (OkW.one (head_ok hq.vals)) zU zU OkB.nil n0 (m1 _) n1
  refine ROk.ite (fun _=>?_) fun _=>?_
  ·unfold diagF
   refine ROk.ite (fun _=>rep_ok hq.fn zI zI hq.sub (OkW.one (head_ok hq.vals)) zU zU OkB.nil n0 (m1 _) n1) fun _=>?_
   refine ROk.ite (fun _=>rep_ok hq.fn zI zI hq.sub (OkW.one (head_ok hq.vals)) zU zU OkB.nil n0 (m1 _) n1) fun _=>?_
   exact ROk.ite (fun _=>ROk.ite (fun _=>refuseP_ok _ _) (fun _=>rep_ok hq.fn zI zI hq.sub (OkW.one (u16_wrap_ok _)) zU zU OkB.nil n0 (m1 _) n1)) fun _=>refuseP_ok _ _
  refine ROk.ite (fun _=>rep_ok hq.fn zI zI zI zW zU zU (OkB.cons hD.unit (OkB.cons Y24 OkB.nil)) n0 n1 Y23) fun _=>?_
  refine ROk.ite (fun _=>ROk.ite (fun _=>rep_ok hq.fn hq.at_ zI zI zW hq.and_ hq.or_ OkB.nil n0 n1 n1) (fun _=>w)) fun _=>?_
  refine ROk.ite (fun ht=>rep_ok hq.fn zI zI zI (cutF_ok (overF_ok hD.w1 hq.vals _) _ _) zU zU OkB.nil n0 (Nat.le_trans (cutF_len _ _ _) ?_) n1) (fun _=>w)
  have:=there_len ht.2
  rw [overF_len Y21];omega
 exact key
theorem doF_rep {D:Dev} (hD:D.ok) {q:Req} (hq:q.ok):(doF D q).1.ok:=by
 have hb:=bodyF_rep (inc_ok hD) hq
 have key:ROk (doF D q):=by
  unfold doF
  dsimp only
  refine ROk.ite (fun _=>refuseP_ok _ _) fun _=>?_
  refine ROk.ite (fun _=>refuseP_ok _ _) fun _=>?_
  exact ROk.ite (fun _=>refuseP_ok _ _) fun _=>hb
 exact key
attribute [local go_sem] set_set putDev_hi putDev_nxt weaks_bools Req.pv Rep.pv
theorem Y45 {p:Prop} (h:p:=by rw [hS];simp (disch:=first | omega |(simp only [nxt_set,nxt_new]<;>omega) | fail) only [go_sem]<;>rfl):p:=h
theorem Y46 {p:Prop} (h:p:=by rw [hS];simp (disch:=first | omega |(simp only [nxt_set,nxt_new]<;>omega) | fail) only [go_sem]):p:=h
theorem Y47 {p:Prop} (h:p:=by
 exact
                 (fun j hj hj2=>by
  have h0:=ltn hj;have h1:=lte hj;have h2:(j=S.nxt)=False:=eq_false (by rw [gn];omega)
  first
  | exact gf j hj Y21
  |(rcases hj2 with hj2 | hj2
    ·simp (disch:=first | omega |(simp only [nxt_set,nxt_new]<;>omega) | fail) only [h2,↓reduceIte,go_sem,putDev_lo,putDev_put];exact gf j hj Y21
    ·simp (disch:=first | omega |(simp only [nxt_set,nxt_new]<;>omega) | fail) only [h2,↓reduceIte,go_sem,putDev_hi,putDev_put];exact gf j hj Y21))):p:=h
theorem Y155 {p:Prop} (h:p:=by rw [hS];rfl):p:=h
theorem Y156 {p:Prop} (h:p:=by simp only [Tryz.f160,go_sem,↓reduceIte]<;>rfl):p:=h
theorem Y260 {p:Prop} (h:p:=by rw [e _ Y21 Y21];exact hA.st):p:=h
theorem Y261 {p:Prop} (h:p:=by rw [e _ Y21 Y21];exact hA.c0):p:=h
theorem Y262 {p:Prop} (h:p:=by rw [e _ Y21 Y21];exact hA.c1):p:=h
theorem Y263 {p:Prop} (h:p:=by rw [e _ Y21 Y21];exact hA.v0):p:=h
theorem Y264 {p:Prop} (h:p:=by rw [e _ Y21 Y21];exact hA.v1):p:=h
set_option maxRecDepth 100000 in
theorem device_DoNo {b:Nat} {D:Dev} {s:St} (hA:DevAt b D s) {q:Req} (hq:q.ok) (hh:hasF q.fn=false):ACalls Tryz.prog 160 [.ptr (b+5) 0 0,q.pv] s (fun r s'=>r=(doF D q).1.pv∧s'=putDev b (doF D q).2 s):=by
 refine go Tryz.func160 (k:=fun hwf H=>?_)
 have hdv:=hA.dv
 unfold devRow at hdv
 have hlt:=hA.lt hwf
 have h1c:I64 1:=Y24
 have h3c:I64 3:=Y24
 have hinc:IntKind.i64.wrap (D.msgs+1)=inc D.msgs:=rfl
 have H:=aj hdv (aj hinc H)
 refine rs (k:=rg [0,3,4] (k:=rs (k:=rg [0,3,4] (k:=rs (k:=?_)))))
 refine Run.genS fun S hS=>?_
 have g0:S.blk s.nxt=some (.row 47 [.agg [.int .i64 q.fn,.int .i64 q.at_,.int .i64 q.count,.int .i64 q.wat,.int .i64 q.sub,.sl .unk (q.bits.map PV.bool),.sl .unk (q.vals.map (PV.int .u16)),.int .u16 q.and_,.int .u16 q.or_]]):=Y45
 have g1:S.blk (s.nxt+1)=some (.row 52 [.agg [.int .i64 0,.int .i64 0,.int .i64 0,.int .i64 0,.int .i64 0,.sl .nil [],.sl .nil [],.int .u16 0,.int .u16 0,.sl .nil []]]):=Y45
 have gA:DevAt b { D with msgs:=inc D.msgs } S:=by
  have e:∀ i,i≤b+5→i≠b+5→S.blk i=s.blk i:=fun i h1 h2=>Y46
  exact ⟨Y260,Y261,Y262,Y263,Y264,Y45⟩
 have gn:S.nxt=s.nxt+2:=Y155
 have gf:∀ i,i<s.nxt→i≠b+5→S.blk i=s.blk i:=fun i h1 h2=>Y46
 clear hS
 have H:=aj g0 (aj g1 H)
 refine rr (k:=ro (pre:=[_,_]) (k:=rC (h:=device_does_no hh) (k:=rh [0,3,4,5] (k:=rs (k:=rb (k:=rs (k:=rg [0,3,4,5,17] (k:=rc (ht:=fun hc0=>?_) (hf:=fun hc0=>?_)))))))))
 ·refine rs (k:=rr (k:=ro (pre:=[_,_,_]) (k:=?_)))
  refine RunO.callw au au au Y26 ((device_refuse gA hq.fn h1c).mono ?_)
  rintro r s1 ⟨rfl,rfl⟩
  refine rh [4] (k:=rR (k:=?_))
  have hB:doF D q=refD { D with msgs:=inc D.msgs } q.fn 1:=by
   unfold doF
   dsimp only
   rw [if_pos hh]
  refine Ret.dev (doF D q).2 hA (r':=(doF D q).1.pv) Y156 ?_ (blw_rep _ _) hwf ?_ ⟨rfl,rfl⟩
  ·rw [hB];rfl
  ·rw [hB]
   exact (fun i hi=>by
     have h0:=ltn hi;have h1:=lte hi;have h2:(i=S.nxt)=False:=eq_false (by rw [gn];omega)
     simp (disch:=first | omega |(simp only [nxt_set,nxt_new]<;>omega) | fail) only [h2,go_sem,Nat.add_assoc,Nat.reduceAdd,↓reduceIte,h0,h1]
     exact putDev_congr2 (m:=s.nxt) Y47 i hi)
 ·cases hc0
attribute [local go_sem] set_set putDev_hi putDev_nxt weaks_bools Req.pv Rep.pv
theorem Y48 {p:Prop} (h:p:=by
 exact
    (fun i hi=>by
  have h0:=ltn hi;have h1:=lte hi;have h2:(i=S.nxt)=False:=eq_false (by rw [gn];omega)
  simp (disch:=first | omega |(simp only [nxt_set,nxt_new]<;>omega) | fail) only [h2,go_sem,Nat.add_assoc,Nat.reduceAdd,↓reduceIte,h0,h1]
  exact putDev_congr2 (m:=s.nxt) Y47 i hi)):p:=h
set_option maxRecDepth 100000 in
theorem device_DoYes {b:Nat} {D:Dev} {s:St} (hA:DevAt b D s) (hD:D.ok) {q:Req} (hq:q.ok) (hh:hasF q.fn=true):ACalls Tryz.prog 160 [.ptr (b+5) 0 0,q.pv] s (fun r s'=>r=(doF D q).1.pv∧s'=putDev b (doF D q).2 s):=by
 refine go Tryz.func160 (k:=fun hwf H=>?_)
 have hdv:=hA.dv
 unfold devRow at hdv
 have hlt:=hA.lt hwf
 have h1c:I64 1:=Y24
 have h3c:I64 3:=Y24
 have hinc:IntKind.i64.wrap (D.msgs+1)=inc D.msgs:=rfl
 have H:=aj hdv (aj hinc H)
 obtain ⟨Nf,hdoes,hcal,hbody⟩:=device_does_body hh
 obtain ⟨X,hX⟩:∃ X,X=bodyF { D with msgs:=inc D.msgs } q:=⟨_,rfl⟩
 refine rs (k:=rg [0,3,4] (k:=rs (k:=rg [0,3,4] (k:=rs (k:=?_)))))
 refine Run.genS fun S hS=>?_
 have g0:S.blk s.nxt=some (.row 47 [.agg [.int .i64 q.fn,.int .i64 q.at_,.int .i64 q.count,.int .i64 q.wat,.int .i64 q.sub,.sl .unk (q.bits.map PV.bool),.sl .unk (q.vals.map (PV.int .u16)),.int .u16 q.and_,.int .u16 q.or_]]):=Y45
 have g1:S.blk (s.nxt+1)=some (.row 52 [.agg [.int .i64 0,.int .i64 0,.int .i64 0,.int .i64 0,.int .i64 0,.sl .nil [],.sl .nil [],.int .u16 0,.int .u16 0,.sl .nil []]]):=Y45
 have gA:DevAt b { D with msgs:=inc D.msgs } S:=by
  have e:∀ i,i≤b+5→i≠b+5→S.blk i=s.blk i:=fun i h1 h2=>Y46
  exact ⟨Y260,Y261,Y262,Y263,Y264,Y45⟩
 have gn:S.nxt=s.nxt+2:=Y155
 have gf:∀ i,i<s.nxt→i≠b+5→S.blk i=s.blk i:=fun i h1 h2=>Y46
 clear hS
 have H:=aj g0 (aj g1 (aj gn H))
 refine rr (k:=ro (pre:=[_,_]) (k:=rC (h:=hdoes _) (k:=rh [0,3,4,5] (k:=rs (k:=rb (k:=rs (k:=rg [0,3,4,5,17] (k:=rc (ht:=fun hc0=>?_) (hf:=fun hc0=>?_)))))))))
 ·cases hc0
 refine rs (k:=rr (k:=ro (pre:=[_]) (k:=rC (h:=pdu_Right (q:=q)) (k:=ro (pre:=[_,_,_]) (k:=rG (h:=fun hb=>pdu_Counts (q:=q)) (k:=rh [0,3,4,5,24] (k:=rc (ht:=fun hc1=>?_) (hf:=fun hc1=>?_))))))))
 refine rs (k:=rr (k:=ro (pre:=[_,_,_]) (k:=?_)))
 refine RunO.callw au au au Y26 ((device_refuse gA hq.fn h3c).mono ?_)
 refine jO 1 ?_;rotate_left
 refine rk (k:=rB (k:=rs (k:=?_)))
 have hok:rightF q=0∧countF q=true:=by simpa using hc1
 have gA2:DevAt b X.2 (putDev b X.2 S):=gA.put (by rw [hX];exact (bodyF_ok (inc_ok hD) hq).2)
 refine rr (k:=ro (pre:=[_,_,_]) (k:=?_))
 refine RunO.callw au au au hcal ((hbody gA (inc_ok hD) hq hok.1 hok.2).mono ?_)
 rw [← hX]
 rintro r s1 ⟨rfl,rfl⟩
 refine rh [0,3,4,6] (k:=rs (k:=rs (k:=rg [0,3,4,6,43] (k:=rc (ht:=fun hc2=>?_) (hf:=fun hc2=>?_)))))
 refine rs (k:=?_)
 have hXc:I64 X.1.code:=by rw [hX];exact (bodyF_rep (inc_ok hD) hq).code
 refine rr (k:=ro (pre:=[_,_,_,_,_]) (k:=?_))
 refine RunO.callw au au au Y26 ((device_refuse ((gA2.nw (by rw [putDev_nxt];omega) _).sv Y21 _) hq.fn hXc).mono ?_)
 refine jO 1 ?_;rotate_left
 refine rk (k:=rs (k:=rg [4] (k:=rR (k:=?_))))
 refine jO 2 ?_;rotate_left
 any_goals
  refine jI 1 ?_
  rintro r s1 ⟨rfl,rfl⟩
  refine jO 3 ?_;rotate_left
 any_goals
  refine jI 3 ?_
  refine rh [4] (k:=rR (k:=?_))
  refine jO 2 ?_;rotate_left
 any_goals
  refine jI 2 ?_
  have h00:¬ hasF q.fn=false:=by rw [hh];decide
  refine jO 4 ?_;rotate_left
 any_goals
  refine jI 4 ?_
  first
   |(have hB:doF D q=refD { D with msgs:=inc D.msgs } q.fn 3:=by
      have hcc:¬ rightF q=0∨countF q=false:=by simpa using hc1
      unfold doF
      dsimp only
      rw [if_neg h00,if_pos hcc]
     refine Ret.dev (doF D q).2 hA (r':=(doF D q).1.pv) Y156 ?_ (blw_rep _ _) hwf ?_ ⟨rfl,rfl⟩
     ·rw [hB];rfl
     ·rw [hB]
      exact Y48)
   |(have hB:doF D q=refD X.2 q.fn X.1.code:=by
      have hcc:¬ (¬ rightF q=0∨countF q=false):=by rw [hok.1,hok.2];simp
      have hc3:¬ X.1.code=0:=by simpa using hc2
      unfold doF
      dsimp only
      rw [if_neg h00,if_neg hcc,← hX,if_pos hc3]
     refine Ret.dev (doF D q).2 hA (r':=(doF D q).1.pv) Y156 ?_ (blw_rep _ _) hwf ?_ ⟨rfl,rfl⟩
     ·rw [hB];rfl
     ·rw [hB]
      exact Y48)
   |(have hB:doF D q=X:=by
      have hcc:¬ (¬ rightF q=0∨countF q=false):=by rw [hok.1,hok.2];simp
      have hc3:¬ ¬ X.1.code=0:=by simpa using hc2
      unfold doF
      dsimp only
      rw [if_neg h00,if_neg hcc,← hX,if_neg hc3]
     refine Ret.dev (doF D q).2 hA (r':=(doF D q).1.pv) Y156 ?_ (blw_rep _ _) hwf ?_ ⟨rfl,rfl⟩
     ·rw [hB];simp only [Rep.pv,PV.weak,PV.weaks,weaks_u16,weaks_bools,weaks_u8]
     ·rw [hB]
      exact Y48)
end Go.Proofs
namespace Go.Proofs
open Go.PM
set_option maxHeartbeats 2000000
theorem device_Do {b:Nat} {D:Dev} {s:St} (hA:DevAt b D s) (hD:D.ok) {q:Req} (hq:q.ok):ACalls Tryz.prog 160 [.ptr (b+5) 0 0,q.pv] s (fun r s'=>r=(doF D q).1.pv∧s'=putDev b (doF D q).2 s):=by
 cases hh:hasF q.fn with
 | false=>exact device_DoNo hA hq hh
 | true=>exact device_DoYes hA hD hq hh
theorem u8_and127 {a:Int} (h:U8 a):ibits .and .u8 a 127=a%128:=by
 unfold U8 at h
 obtain ⟨n,rfl⟩:∃ n:Nat,a=n:=⟨a.toNat,(Int.toNat_of_nonneg h.1).symm⟩
 have hn:n<256:=Y21
 have:∀ m:Fin 256,ibits .and .u8 ((m.val:Nat):Int) 127=((m.val:Nat):Int)%128:=by decide +kernel
 exact this ⟨n,hn⟩
theorem zeroR_ok:zeroR.ok:=⟨zI,zI,zI,zI,zI,zW,zU,zU,Y22,Y22⟩
theorem readF_ok {l:List Int} (h:OkB l) (hl:l.length≤140737488351232):(readF l).1.ok:=by
 unfold readF
 repeat' split
 ·exact zeroR_ok
 ·exact zeroR_ok
 ·exact guessF_ok h hl
 ·exact zeroR_ok
theorem readF_nil {l:List Int} (h:¬ (readF l).2=13):l≠[]:=by
 rintro rfl
 exact h rfl
attribute [local go_sem] set_set putDev_hi putDev_nxt weaks_bools Req.pv Rep.pv
theorem Y157 {p:Prop} (h:p:=by simp only [Tryz.f158,go_sem,↓reduceIte]<;>rfl):p:=h
set_option maxRecDepth 100000 in
theorem device_Pdu {b:Nat} {D:Dev} {s:St} (hA:DevAt b D s) (hD:D.ok) {l:List Int} (hb:OkB l) (hl:l.length≤140737488351232):ACalls Tryz.prog 158 [.ptr (b+5) 0 0,.sl .unk (l.map (PV.int .u8))] s (fun r s'=>r=.sl .unk ((pduF D l).1.map (PV.int .u8))∧s'=putDev b (pduF D l).2 s):=by
 refine go Tryz.func158 (k:=fun hwf H=>?_)
 have hdv:=hA.dv
 unfold devRow at hdv
 have hlt:=hA.lt hwf
 have hA1:∀ x y,DevAt b D ((s.new x).new y):=fun x y=>(hA.nw hlt x).nw Y95 y
 have h1c:I64 1:=Y24
 have h3c:I64 3:=Y24
 have hinc:IntKind.i64.wrap (D.msgs+1)=inc D.msgs:=rfl
 have H:=aj hdv (aj hinc H)
 obtain ⟨q,hQ⟩:∃ q,q=(readF l).1:=⟨_,rfl⟩
 obtain ⟨E,hE⟩:∃ E,E=(readF l).2:=⟨_,rfl⟩
 have hqo:q.ok:=by rw [hQ];exact readF_ok hb hl
 have hrd:∀ s,ACalls Tryz.prog 61 [.sl .unk (l.map (PV.int .u8))] s (fun r s'=>r=.tuple [q.pv,.int .i64 E]∧s'=s):=fun s=>by rw [hQ,hE];exact pdu_Read hb hl
 refine rs (k:=rg [0,1] (k:=rs (k:=rr (k:=ro (pre:=[_]) (k:=rC (h:=hrd _) (k:=rh [0,1,5,6] (k:=rs (k:=rg [0,1,5,6,7] (k:=rs (k:=rs (k:=rg [0,1,5,7,15] (k:=rb (k:=rs (k:=rg [0,1,5,7,15,19] (k:=rc (ht:=fun hc0=>?_) (hf:=fun hc0=>?_))))))))))))))))
 refine rs (k:=rg [4] (k:=rR (k:=?_)))
 refine jO 1 ?_;rotate_left
 refine rs (k:=rg [0,1,5,7,15,21] (k:=rc (ht:=fun hc1=>?_) (hf:=fun hc1=>?_)))
 refine rs (k:=?_)
 have hne:l≠[]:=readF_nil (by rw [← hE];have:=of_decide_eq_false hc0;exact this)
 have hll:0<l.length:=List.length_pos_iff.2 hne
 obtain ⟨x,hx⟩:∃ x,l[0]? =some x:=⟨l[0],List.getElem?_eq_getElem hll⟩
 have hxx:(l.map (PV.int .u8))[0]? =some (.int .u8 x):=Y148
 have hlT:(0<l.length)=True:=eq_true hll
 have hx8:U8 x:=hb x (List.mem_of_getElem? hx)
 have hx0:(l[0]?).getD 0=x:=by rw [hx];rfl
 have ha127:ibits .and .u8 x 127=x%128:=u8_and127 hx8
 have hw:IntKind.i64.wrap (x%128)=x%128:=wrap_i64 Y21
 have hx64:I64 (x%128):=Y77
 have H:=aj hxx (aj hlT (aj ha127 (aj hw H)))
 refine rg [0,1,7] (k:=?_)
 refine Run.genS fun S hS=>?_
 have g0:S.blk s.nxt=some (.row 47 [.agg [.int .i64 q.fn,.int .i64 q.at_,.int .i64 q.count,.int .i64 q.wat,.int .i64 q.sub,.sl .unk (q.bits.map PV.bool),.sl .unk (q.vals.map (PV.int .u16)),.int .u16 q.and_,.int .u16 q.or_]]):=Y45
 have g1:S.blk (s.nxt+1)=some (.row 52 [.agg [.int .i64 0,.int .i64 0,.int .i64 0,.int .i64 0,.int .i64 0,.sl .nil [],.sl .nil [],.int .u16 0,.int .u16 0,.sl .nil []]]):=Y45
 have gA:DevAt b { D with msgs:=inc D.msgs } S:=by
  have e:∀ i,i≤b+5→i≠b+5→S.blk i=s.blk i:=fun i h1 h2=>Y46
  exact ⟨Y260,Y261,Y262,Y263,Y264,Y45⟩
 have gn:S.nxt=s.nxt+2:=Y155
 have gf:∀ i,i<s.nxt→i≠b+5→S.blk i=s.blk i:=fun i h1 h2=>Y46
 clear hS
 have H:=aj g0 (aj g1 H)
 refine rr (k:=ro (pre:=[_,_,_,_,_,_]) (k:=?_))
 refine RunO.callw au au au Y26 ((device_refuse gA hx64 h1c).mono ?_)
 refine jO 2 ?_;rotate_left
 refine rs (k:=rg [0,1,5,7,37] (k:=rc (ht:=fun hc2=>?_) (hf:=fun hc2=>?_)))
 refine rs (k:=?_)
 have hne:l≠[]:=readF_nil (by rw [← hE];have:=of_decide_eq_false hc0;exact this)
 have hll:0<l.length:=List.length_pos_iff.2 hne
 obtain ⟨x,hx⟩:∃ x,l[0]? =some x:=⟨l[0],List.getElem?_eq_getElem hll⟩
 have hxx:(l.map (PV.int .u8))[0]? =some (.int .u8 x):=Y148
 have hlT:(0<l.length)=True:=eq_true hll
 have hx8:U8 x:=hb x (List.mem_of_getElem? hx)
 have hx0:(l[0]?).getD 0=x:=by rw [hx];rfl
 have ha127:ibits .and .u8 x 127=x%128:=u8_and127 hx8
 have hw:IntKind.i64.wrap (x%128)=x%128:=wrap_i64 Y21
 have hx64:I64 (x%128):=Y77
 have H:=aj hxx (aj hlT (aj ha127 (aj hw H)))
 refine rg [0,1,7] (k:=?_)
 refine Run.genS fun S hS=>?_
 have g0:S.blk s.nxt=some (.row 47 [.agg [.int .i64 q.fn,.int .i64 q.at_,.int .i64 q.count,.int .i64 q.wat,.int .i64 q.sub,.sl .unk (q.bits.map PV.bool),.sl .unk (q.vals.map (PV.int .u16)),.int .u16 q.and_,.int .u16 q.or_]]):=Y45
 have g1:S.blk (s.nxt+1)=some (.row 52 [.agg [.int .i64 0,.int .i64 0,.int .i64 0,.int .i64 0,.int .i64 0,.sl .nil [],.sl .nil [],.int .u16 0,.int .u16 0,.sl .nil []]]):=Y45
 have gA:DevAt b { D with msgs:=inc D.msgs } S:=by
  have e:∀ i,i≤b+5→i≠b+5→S.blk i=s.blk i:=fun i h1 h2=>Y46
  exact ⟨Y260,Y261,Y262,Y263,Y264,Y45⟩
 have gn:S.nxt=s.nxt+2:=Y155
 have gf:∀ i,i<s.nxt→i≠b+5→S.blk i=s.blk i:=fun i h1 h2=>Y46
 clear hS
 have H:=aj g0 (aj g1 H)
 refine rr (k:=ro (pre:=[_,_,_,_,_,_]) (k:=?_))
 refine RunO.callw au au au Y26 ((device_refuse gA hx64 h3c).mono ?_)
 refine jO 2 ?_;rotate_left
 refine rr (k:=ro (pre:=[_,_]) (k:=?_))
 refine RunO.callw au au au Y26 ((device_Do (hA1 _ _) hD hqo).mono ?_)
 refine jO 2 ?_;rotate_left
 any_goals
  refine jI 2 ?_
  rintro r s1 ⟨rfl,rfl⟩
  refine jO 3 ?_;rotate_left
 any_goals
  refine jI 3 ?_
  refine rh [7] (k:=rB (k:=rs (k:=rr (k:=ro (pre:=[_]) (k:=rC (h:=reply_Bytes (by first | exact refuseP_ok _ _ | exact doF_rep hD hqo)) (k:=rh [8] (k:=rs (k:=rg [4] (k:=rR (k:=?_))))))))))
  refine jO 1 ?_;rotate_left
 any_goals
  refine jI 1 ?_
  first
   |(have hEk:E=15:=of_decide_eq_true hc1
     have hB:pduF D l=(repF (refD { D with msgs:=inc D.msgs } (x%128) 1).1,(refD { D with msgs:=inc D.msgs } (x%128) 1).2):=by
      unfold pduF
      rw [← hE,hEk,hx0]
      rfl
     refine Ret.dev (refD { D with msgs:=inc D.msgs } (x%128) 1).2 hA (r':=.sl .unk ((repF (refD { D with msgs:=inc D.msgs } (x%128) 1).1).map (PV.int .u8))) Y157 ?_ Y27 hwf ?_ ⟨Y96,Y96⟩
     ·simp only [PV.weak,weaks_u8]
     ·exact Y48)
   |(have hEk:E=12:=of_decide_eq_true hc2
     have hB:pduF D l=(repF (refD { D with msgs:=inc D.msgs } (x%128) 3).1,(refD { D with msgs:=inc D.msgs } (x%128) 3).2):=by
      unfold pduF
      rw [← hE,hEk,hx0]
      rfl
     refine Ret.dev (refD { D with msgs:=inc D.msgs } (x%128) 3).2 hA (r':=.sl .unk ((repF (refD { D with msgs:=inc D.msgs } (x%128) 3).1).map (PV.int .u8))) Y157 ?_ Y27 hwf ?_ ⟨Y96,Y96⟩
     ·simp only [PV.weak,weaks_u8]
     ·exact Y48)
   |(have hEk:E=13:=of_decide_eq_true hc0
     have hB:pduF D l=([],D):=by
      unfold pduF
      rw [← hE,if_pos hEk]
     refine Ret.dev D hA (r':=.sl .unk (([]:List Int).map (PV.int .u8))) Y157 ?_ Y27 hwf ?_ ⟨Y96,Y96⟩
     ·rfl
     ·rw [putDev_self hA]
      exact fun i hi=>by have h0:=ltn hi;have h1:=lte hi;simp only [go_sem,Nat.add_assoc,Nat.reduceAdd,↓reduceIte,h0,h1])
   |(have hB:pduF D l=(repF (doF D q).1,(doF D q).2):=by
      unfold pduF
      rw [← hE,if_neg (of_decide_eq_false hc0),if_neg (of_decide_eq_false hc1),if_neg (of_decide_eq_false hc2),← hQ]
     refine Ret.dev (doF D q).2 hA (r':=.sl .unk ((repF (doF D q).1).map (PV.int .u8))) Y157 ?_ Y27 hwf ?_ ⟨Y96,Y96⟩
     ·simp only [PV.weak,weaks_u8]
     ·exact (fun i hi=>by
      have h0:=ltn hi;have h1:=lte hi
      simp (disch:=first | omega |(simp only [nxt_set,nxt_new]<;>omega) | fail) only [go_sem,Nat.add_assoc,Nat.reduceAdd,↓reduceIte,h0,h1]
      exact putDev_congr2 (m:=s.nxt) (fun j hj hj2=>by
       have h0:=ltn hj;have h1:=lte hj
       simp (disch:=first | omega |(simp only [nxt_set,nxt_new]<;>omega) | fail) only [go_sem,Nat.add_assoc,Nat.reduceAdd,↓reduceIte,h0,h1]) i hi))
end Go.Proofs
namespace Go.Proofs
open Go.PM
set_option maxHeartbeats 2000000
theorem writeF_ok {q:Req} (hq:q.ok) (h:rightF q=0):OkB (writeF q):=by
 have hR:=right0 h
 have h1:=has_cases hR.has
 have h2:=hR.mb
 have h3:=hR.mv
 have h5:=packB_len q.bits
 have h6:=flat2_lenX q.vals
 unfold writeF
 refine OkB.cons ⟨Y21,Y21⟩ ?_
 repeat' split
 all_goals first
  | exact OkB.nil
  | exact (num2_ok _).append (flat2_okB _)
  | exact (num2_ok _).append (num2_ok _)
  | exact (num2_ok _).append ((num2_ok _).append (num2_ok _))
  | exact (num2_ok _).append ((num2_ok _).append (OkB.cons ⟨Y21,Y21⟩ (packB_ok _)))
  | exact (num2_ok _).append ((num2_ok _).append (OkB.cons ⟨Y21,Y21⟩ (flat2_okB _)))
  | exact (num2_ok _).append ((num2_ok _).append (((num2_ok _).append (num2_ok _)).append (OkB.cons ⟨Y21,Y21⟩ (flat2_okB _))))
  | exact (num2_ok _).append ((num2_ok _).append OkB.nil)
theorem repF_ok {R:Rep} (h:R.ok):OkB (repF R):=by
 unfold repF
 split
 ·exact layF_ok h ‹_›
 ·exact OkB.nil
theorem pduF_okB {D:Dev} (hD:D.ok) {l:List Int} (hb:OkB l) (hl:l.length≤140737488351232):OkB (pduF D l).1:=by
 unfold pduF
 split
 ·exact OkB.nil
 ·dsimp only
  split
  ·exact repF_ok (refuseP_ok _ _)
  ·split
   ·exact repF_ok (refuseP_ok _ _)
   ·exact repF_ok (doF_rep hD (readF_ok hb hl))
theorem putDev_set {b:Nat} {D:Dev} {S:St} {i:Nat} (h:b+5<i) (x:Option Blk):putDev b D (S.set i x)=(putDev b D S).set i x:=by
 refine St.eq_of' rfl fun j=>?_
 by_cases hj:j=i
 ·subst hj;rw [putDev_hi h,blk_set_self,blk_set_self]
 ·rw [blk_set_ne hj,putDev_blk,putDev_blk,blk_set_ne hj]
end Go.Proofs
namespace Go.Proofs
open Go.PM
set_option maxHeartbeats 2000000
theorem Y49 {p:Prop} (h:p:=by show wordF 0=true;decide):p:=h
theorem order_right {F A C:Int} (hF:1≤F∧F≤4) (hA:0≤A∧A≤65535) (hC:0≤C∧C≤65535):rightF ⟨F,A,C,0,0,[],[],0,0⟩=0:=by
 refine right_of ⟨decide_eq_true (by show 1≤F∧F≤6∨_;omega),decide_eq_true ?_,decide_eq_true hA,Y49,Y49,decide_eq_true hC,?_,?_,Y78,Y78⟩
 ·show (¬ F=8∧¬ F=17∨A=0)∧((1≤F∧F≤4∨_)∨_)∧(_∨(0:Int)=0)∧(_∨(0:Int)=0)∧(_∨(0:Int)=0∧(0:Int)=0)
  exact ⟨.inl Y21,.inl (.inl hF),.inr rfl,.inr rfl,.inr ⟨rfl,rfl⟩⟩
 ·show ((0:Nat):Int)=(if F=5 then 1 else if F=15 then C else 0)
  rw [if_neg Y21,if_neg Y21];rfl
 ·show ((0:Nat):Int)=(if F=6∨F=8 then 1 else if F=16 then C else if F=23 then ((0:Nat):Int) else 0)
  rw [if_neg Y21,if_neg Y21,if_neg Y21];rfl
theorem cutF_size {α:Type} (l:List α) {a m:Int} (h:thereF l.length a m=true):((cutF l a m).length:Int)=m:=by
 have ht:=there_len h
 unfold cutF
 rw [if_pos h,List.length_take,List.length_drop]
 omega
theorem doF_base {D:Dev} {q:Req} (hr:rightF q=0) (hc:countF q=true):doF D q=(if ¬ (bodyF { D with msgs:=inc D.msgs } q).1.code=0 then refD (bodyF { D with msgs:=inc D.msgs } q).2 q.fn (bodyF { D with msgs:=inc D.msgs } q).1.code else bodyF { D with msgs:=inc D.msgs } q):=by
 have hh:¬ hasF q.fn=false:=by
  intro h
  unfold rightF at hr
  rw [if_pos h] at hr
  exact absurd hr Y22
 unfold doF
 dsimp only
 rw [if_neg hh,if_neg (by rw [hr,hc];simp)]
theorem Y326 {p:Prop} (h:p:=by show 0≤(W.length:Int)∧(W.length:Int)≤65535;omega):p:=h
theorem right16 {K:Int} {W:List Int} (hK:0≤K∧K≤65535) (hl:W.length≤127):rightF ⟨16,K,W.length,0,0,[],W,0,0⟩=0 :=
 right_of ⟨by show hasF 16=true;decide,decide_eq_true Y23,decide_eq_true hK,Y49,Y49,decide_eq_true Y326,rfl,rfl,Y78,hl⟩
theorem right15 {K:Int} {W:List Bool} (hK:0≤K∧K≤65535) (hl:W.length≤2040):rightF ⟨15,K,W.length,0,0,W,[],0,0⟩=0 :=
 right_of ⟨by show hasF 15=true;decide,decide_eq_true Y23,decide_eq_true hK,Y49,Y49,decide_eq_true Y326,rfl,rfl,hl,Y78⟩
theorem right22 {K a o:Int} (hK:0≤K∧K≤65535):rightF ⟨22,K,0,0,0,[],[],a,o⟩=0 :=
 right_of ⟨by show hasF 22=true;decide,decide_eq_true Y23,decide_eq_true hK,Y49,Y49,Y49,rfl,rfl,Y78,Y78⟩
theorem DevAt.same {b:Nat} {D:Dev} {s s':St} (h:DevAt b D s) (e:∀ j,j≤b+5→s'.blk j=s.blk j):DevAt b D s' :=
 ⟨by rw [e _ Y21];exact h.st,by rw [e _ Y21];exact h.c0,by rw [e _ Y21];exact h.c1,by rw [e _ Y21];exact h.v0,by rw [e _ Y21];exact h.v1,by rw [e _ Y21];exact h.dv⟩
end Go.Proofs

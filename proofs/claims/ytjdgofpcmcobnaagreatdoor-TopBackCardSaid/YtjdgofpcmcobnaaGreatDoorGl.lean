/-
  Contracts: a simulation.
-/
import Derived.Test.YtjdgofpcmcobnaaGreatDoorGk
set_option maxRecDepth 100000
set_option maxHeartbeats 2000000
set_option linter.unusedVariables false
set_option linter.unusedSimpArgs false
namespace Go.Proofs.YtjdgofpcmcobnaaGreatDoor.AL
section
open Go Go.RowKit
@[simp] theorem no0(m  : Nat):(m=m+26)=False:=eq_false (by omega)
@[simp] theorem np0(m  : Nat):(m+26=m)=False:=eq_false (by omega)
@[simp] theorem nq0(j m  : Nat)(h:j<26):(j=m+26)=False:=eq_false (by omega)
@[simp] theorem nr0(j m  : Nat)(h:j<26):(m+26=j)=False:=eq_false (by omega)
@[simp] theorem no1(m a0:Nat):(m=m+26+a0)=False:=eq_false (by omega)
@[simp] theorem no4(m a0 a1 a2 a3:Nat):(m=m+26+a0+a1+a2+a3)=False:=eq_false (by omega)
structure Fnd where
 step:Int
 hz:Int
@[simp] def fRow(f:Fnd):List D:=[.int .i64 f.step,.int .i64 f.hz]
theorem run1a_imp(ns:List Node)(ds:List Dev)(st:List Int)(c:Int)(l:List Lk)(pr:List Int)(sk:List Int)(hsk:sk.length≤1000000)(fd:List Fnd)(hfd:fd.length≤1000)(k:Int)(s:Stp)(hk:(s.knd==1)=true)(hns:ins sk s.dev=false)(hz:List Int)(hhz:hz.length≤1000)(st2:List Int)(l2:List Lk)(pr2:List Int)(m nm:Nat)(hm:5≤m∧m≠24∧m≠25)(hnm:m≠nm)(hn2:5≤nm∧nm≠24∧nm≠25)(hst:∀ nm,m≠nm→Imp Tryz.prog G0 40 [netD ns ds,.os m st.length 0 st.length,gD c l pr,.agg (Zr s)] [(m,.arr 1 (Zb st))] nm (.tup [.sl (Zb hz),.os nm st.length 0 st.length,gD c l2 pr2,.bool true]) [(m,none),(nm,some (.arr 1 (Zb st2)))]):Imp Tryz.prog G0 38 [.int .i64 k,.agg (Zr s),.bp 4 0,.bp 0 0,.bp 1 0,.bp 2 0,.bp 24 0] [(0,.box [nsD ns,dsD ds]),(1,.box [.os m st.length 0 st.length]),(2,.box [.int .i64 c,lkD l,pvD pr]),(4,.box [.sl (Zb sk)]),(24,.box [.os 25 fd.length 0 fd.length]),(m,.arr 1 (Zb st)),(25,.arr 2 (fd.map fRow))] nm (.bool true) [(0,some (.box [nsD ns,dsD ds])),(1,some (.box [.os nm st.length 0 st.length])),(2,some (.box [.int .i64 c,lkD l2,pvD pr2])),(4,some (.box [.sl (Zb sk)])),(24,some (.box [.os 25 (fd++hz.map (Fnd.mk k)).length 0 (fd++hz.map (Fnd.mk k)).length])),(m,none),(nm,some (.arr 1 (Zb st2))),(25,some (.arr 2 ((fd++hz.map (Fnd.mk k)).map fRow)))]:=by
 refine ZC (gl:=[(0,.box [nsD ns,dsD ds]),(1,.box [.os m st.length 0 st.length]),(2,.box [.int .i64 c,lkD l,pvD pr]),(4,.box [.sl (Zb sk)]),(24,.box [.os 25 fd.length 0 fd.length]),(m,.arr 1 (Zb st)),(25,.arr 2 (fd.map fRow))]) (nx1:=m+26) (hgs:=by simp[show (m=0)=False from eq_false (by omega),show (0=m)=False from eq_false (by omega),show (m=1)=False from eq_false (by omega),show (1=m)=False from eq_false (by omega),show (m=2)=False from eq_false (by omega),show (2=m)=False from eq_false (by omega),show (m=4)=False from eq_false (by omega),show (4=m)=False from eq_false (by omega),show (m=24)=False from eq_false (by omega),show (24=m)=False from eq_false (by omega),show (m=25)=False from eq_false (by omega),show (25=m)=False from eq_false (by omega)]) Tryz.func38 rfl Tryz.ntmps38 ?_
 have hfd2:(fd.length:Int)≤1000:=by omega
 have na0:(m=0)=False:=eq_false (by omega)
 have nb0:(0=m)=False:=eq_false (by omega)
 have na1:(m=1)=False:=eq_false (by omega)
 have nb1:(1=m)=False:=eq_false (by omega)
 have na2:(m=2)=False:=eq_false (by omega)
 have nb2:(2=m)=False:=eq_false (by omega)
 have na4:(m=4)=False:=eq_false (by omega)
 have nb4:(4=m)=False:=eq_false (by omega)
 have na24:(m=24)=False:=eq_false (by omega)
 have nb24:(24=m)=False:=eq_false (by omega)
 have na25:(m=25)=False:=eq_false (by omega)
 have nb25:(25=m)=False:=eq_false (by omega)
 refine R2 [] (by simp[na0,nb0,na1,nb1,na2,nb2,na4,nb4,na24,nb24,na25,nb25];first|exact F3|exact F4) ?_
 refine R2 [] (by simp[na0,nb0,na1,nb1,na2,nb2,na4,nb4,na24,nb24,na25,nb25,hk];first|exact F3|exact F4) ?_
 refine R2 [.p ⟨_,_,_,ZG sk hsk s.dev⟩] (by simp[na0,nb0,na1,nb1,na2,nb2,na4,nb4,na24,nb24,na25,nb25,hns];first|exact F3|exact F4) ?_
 refine fl_F ?_
 refine R2 [.i ⟨_,_,_,_,_,_,hst (m+26+2+9+7+4) (by omega)⟩] (by simp[na0,nb0,na1,nb1,na2,nb2,na4,nb4,na24,nb24,na25,nb25];first|exact F3|exact F4) ?_
 refine R2 [] (by simp[na0,nb0,na1,nb1,na2,nb2,na4,nb4,na24,nb24,na25,nb25];first|exact F3|exact F4) ?_
 refine Zd (fun K0_1 hK0_1=>?_)
 refine Zg (X:=Nat) [0,4,5,6,12,13,14,42,43] [24,25] (fun x=>[(44,.int .i64 x)]) (fun x=>[(24,.box [.os 25 (fd.length+x) 0 (fd.length+x)]),(25,.arr 2 ((fd++(hz.take x).map (Fnd.mk k)).map fRow))]) (fun x=>x≤hz.length) (fun x=>hz.length - x) 0 (by simp) (by simp;omega) ?_
 simp only[KN,keep,but,reduceIte,Nat.reduceEqDiff,Nat.reduceBEq]
 rintro j hlej KL2 hKL2
 refine R2 [] (by simp[na0,nb0,na1,nb1,na2,nb2,na4,nb4,na24,nb24,na25,nb25];first|exact F3|exact F4) ?_
 refine fl_C (fun c6=>?_) (fun c6=>?_)
 ·have hlt:j<hz.length:=by simpa using c6
  have hkk:hz[j]? = some hz[j]:=by simp[hlt]
  have hd:=Lib.hid (List.drop_eq_getElem_cons hlt)
  have htk:List.take (j+1) (List.map (fRow ∘ Fnd.mk k) hz)=List.take j (List.map (fRow ∘ Fnd.mk k) hz)++[[.int .i64 k,.int .i64 hz[j]]]:=by rw[List.take_add_one];simp[hlt]
  generalize hz[j]=h at *
  refine Zd (fun K1_3 hK1_3=>?_)
  refine R2 [] (by simp[na0,nb0,na1,nb1,na2,nb2,na4,nb4,na24,nb24,na25,nb25,hkk];first|exact F3|exact F4) ?_
  refine R2 [] (by simp[na0,nb0,na1,nb1,na2,nb2,na4,nb4,na24,nb24,na25,nb25,hkk];first|exact F3|exact F4) ?_
  refine Zc (hK1_3 _ _ _ ?_)
  refine R2 [] (by simp[na0,nb0,na1,nb1,na2,nb2,na4,nb4,na24,nb24,na25,nb25,hkk];(try simp (disch:=omega) only[w64]);first|exact F3|exact F4) ?_
  exact hKL2 _ _ _ (j+1) (by omega) (by omega) (by simp[htk];omega)
 ·have hge:hz.length≤j:=by simpa using c6
  have hke:j=hz.length:=by have:j≤hz.length:=hlej;omega
  have hdn:=Lib.hid (List.drop_of_length_le hge)
  refine Ze (show K0_1 _ _ _ from hK0_1 _ _ _ ?_)
  refine R2 [] (by simp[na0,nb0,na1,nb1,na2,nb2,na4,nb4,na24,nb24,na25,nb25];first|exact F3|exact F4) ?_
  refine R2 [] (by simp[na0,nb0,na1,nb1,na2,nb2,na4,nb4,na24,nb24,na25,nb25];first|exact F3|exact F4) ?_
  refine Za ?_
  refine⟨.inr rfl,(m+26+2+9+7+4),?_⟩
  simp[hnm,show (nm=0)=False from eq_false (by omega),show (0=nm)=False from eq_false (by omega),show (nm=1)=False from eq_false (by omega),show (1=nm)=False from eq_false (by omega),show (nm=2)=False from eq_false (by omega),show (2=nm)=False from eq_false (by omega),show (nm=4)=False from eq_false (by omega),show (4=nm)=False from eq_false (by omega),show (nm=24)=False from eq_false (by omega),show (24=nm)=False from eq_false (by omega),show (nm=25)=False from eq_false (by omega),show (25=nm)=False from eq_false (by omega)]
  exact⟨hke,List.take_of_length_le (by simp;omega)⟩
theorem run1b_imp(ns:List Node)(ds:List Dev)(st:List Int)(c:Int)(l:List Lk)(pr:List Int)(sk:List Int)(hsk:sk.length≤1000000)(fd:List Fnd)(hfd:fd.length≤1000)(k:Int)(s:Stp)(hk:(s.knd==1)=false)(hk2:(s.knd==2)=true)(hns:ins sk s.dev=false)(hz:List Int)(hhz:hz.length≤1000)(st2:List Int)(l2:List Lk)(pr2:List Int)(m nm:Nat)(hm:5≤m∧m≠24∧m≠25)(hnm:m≠nm)(hn2:5≤nm∧nm≠24∧nm≠25)(hst:∀ nm,m≠nm→Imp Tryz.prog G0 40 [netD ns ds,.os m st.length 0 st.length,gD c l pr,.agg (Zr s)] [(m,.arr 1 (Zb st))] nm (.tup [.sl (Zb hz),.os nm st.length 0 st.length,gD c l2 pr2,.bool true]) [(m,none),(nm,some (.arr 1 (Zb st2)))]):Imp Tryz.prog G0 38 [.int .i64 k,.agg (Zr s),.bp 4 0,.bp 0 0,.bp 1 0,.bp 2 0,.bp 24 0] [(0,.box [nsD ns,dsD ds]),(1,.box [.os m st.length 0 st.length]),(2,.box [.int .i64 c,lkD l,pvD pr]),(4,.box [.sl (Zb sk)]),(24,.box [.os 25 fd.length 0 fd.length]),(m,.arr 1 (Zb st)),(25,.arr 2 (fd.map fRow))] nm (.bool true) [(0,some (.box [nsD ns,dsD ds])),(1,some (.box [.os nm st.length 0 st.length])),(2,some (.box [.int .i64 c,lkD l2,pvD pr2])),(4,some (.box [.sl (Zb sk)])),(24,some (.box [.os 25 (fd++hz.map (Fnd.mk k)).length 0 (fd++hz.map (Fnd.mk k)).length])),(m,none),(nm,some (.arr 1 (Zb st2))),(25,some (.arr 2 ((fd++hz.map (Fnd.mk k)).map fRow)))]:=by
 refine ZC (gl:=[(0,.box [nsD ns,dsD ds]),(1,.box [.os m st.length 0 st.length]),(2,.box [.int .i64 c,lkD l,pvD pr]),(4,.box [.sl (Zb sk)]),(24,.box [.os 25 fd.length 0 fd.length]),(m,.arr 1 (Zb st)),(25,.arr 2 (fd.map fRow))]) (nx1:=m+26) (hgs:=by simp[show (m=0)=False from eq_false (by omega),show (0=m)=False from eq_false (by omega),show (m=1)=False from eq_false (by omega),show (1=m)=False from eq_false (by omega),show (m=2)=False from eq_false (by omega),show (2=m)=False from eq_false (by omega),show (m=4)=False from eq_false (by omega),show (4=m)=False from eq_false (by omega),show (m=24)=False from eq_false (by omega),show (24=m)=False from eq_false (by omega),show (m=25)=False from eq_false (by omega),show (25=m)=False from eq_false (by omega)]) Tryz.func38 rfl Tryz.ntmps38 ?_
 have hfd2:(fd.length:Int)≤1000:=by omega
 have na0:(m=0)=False:=eq_false (by omega)
 have nb0:(0=m)=False:=eq_false (by omega)
 have na1:(m=1)=False:=eq_false (by omega)
 have nb1:(1=m)=False:=eq_false (by omega)
 have na2:(m=2)=False:=eq_false (by omega)
 have nb2:(2=m)=False:=eq_false (by omega)
 have na4:(m=4)=False:=eq_false (by omega)
 have nb4:(4=m)=False:=eq_false (by omega)
 have na24:(m=24)=False:=eq_false (by omega)
 have nb24:(24=m)=False:=eq_false (by omega)
 have na25:(m=25)=False:=eq_false (by omega)
 have nb25:(25=m)=False:=eq_false (by omega)
 refine R2 [] (by simp[na0,nb0,na1,nb1,na2,nb2,na4,nb4,na24,nb24,na25,nb25];first|exact F3|exact F4) ?_
 refine R2 [] (by simp[na0,nb0,na1,nb1,na2,nb2,na4,nb4,na24,nb24,na25,nb25,hk,hk2];first|exact F3|exact F4) ?_
 refine R2 [.p ⟨_,_,_,ZG sk hsk s.dev⟩] (by simp[na0,nb0,na1,nb1,na2,nb2,na4,nb4,na24,nb24,na25,nb25,hns];first|exact F3|exact F4) ?_
 refine fl_F ?_
 refine R2 [.i ⟨_,_,_,_,_,_,hst (m+26+2+9+7+4) (by omega)⟩] (by simp[na0,nb0,na1,nb1,na2,nb2,na4,nb4,na24,nb24,na25,nb25];first|exact F3|exact F4) ?_
 refine R2 [] (by simp[na0,nb0,na1,nb1,na2,nb2,na4,nb4,na24,nb24,na25,nb25];first|exact F3|exact F4) ?_
 refine Zd (fun K0_1 hK0_1=>?_)
 refine Zg (X:=Nat) [0,4,5,6,12,13,14,42,43] [24,25] (fun x=>[(44,.int .i64 x)]) (fun x=>[(24,.box [.os 25 (fd.length+x) 0 (fd.length+x)]),(25,.arr 2 ((fd++(hz.take x).map (Fnd.mk k)).map fRow))]) (fun x=>x≤hz.length) (fun x=>hz.length - x) 0 (by simp) (by simp;omega) ?_
 simp only[KN,keep,but,reduceIte,Nat.reduceEqDiff,Nat.reduceBEq]
 rintro j hlej KL2 hKL2
 refine R2 [] (by simp[na0,nb0,na1,nb1,na2,nb2,na4,nb4,na24,nb24,na25,nb25];first|exact F3|exact F4) ?_
 refine fl_C (fun c6=>?_) (fun c6=>?_)
 ·have hlt:j<hz.length:=by simpa using c6
  have hkk:hz[j]? = some hz[j]:=by simp[hlt]
  have hd:=Lib.hid (List.drop_eq_getElem_cons hlt)
  have htk:List.take (j+1) (List.map (fRow ∘ Fnd.mk k) hz)=List.take j (List.map (fRow ∘ Fnd.mk k) hz)++[[.int .i64 k,.int .i64 hz[j]]]:=by rw[List.take_add_one];simp[hlt]
  generalize hz[j]=h at *
  refine Zd (fun K1_3 hK1_3=>?_)
  refine R2 [] (by simp[na0,nb0,na1,nb1,na2,nb2,na4,nb4,na24,nb24,na25,nb25,hkk];first|exact F3|exact F4) ?_
  refine R2 [] (by simp[na0,nb0,na1,nb1,na2,nb2,na4,nb4,na24,nb24,na25,nb25,hkk];first|exact F3|exact F4) ?_
  refine Zc (hK1_3 _ _ _ ?_)
  refine R2 [] (by simp[na0,nb0,na1,nb1,na2,nb2,na4,nb4,na24,nb24,na25,nb25,hkk];(try simp (disch:=omega) only[w64]);first|exact F3|exact F4) ?_
  exact hKL2 _ _ _ (j+1) (by omega) (by omega) (by simp[htk];omega)
 ·have hge:hz.length≤j:=by simpa using c6
  have hke:j=hz.length:=by have:j≤hz.length:=hlej;omega
  have hdn:=Lib.hid (List.drop_of_length_le hge)
  refine Ze (show K0_1 _ _ _ from hK0_1 _ _ _ ?_)
  refine R2 [] (by simp[na0,nb0,na1,nb1,na2,nb2,na4,nb4,na24,nb24,na25,nb25];first|exact F3|exact F4) ?_
  refine R2 [] (by simp[na0,nb0,na1,nb1,na2,nb2,na4,nb4,na24,nb24,na25,nb25];first|exact F3|exact F4) ?_
  refine Za ?_
  refine⟨.inr rfl,(m+26+2+9+7+4),?_⟩
  simp[hnm,show (nm=0)=False from eq_false (by omega),show (0=nm)=False from eq_false (by omega),show (nm=1)=False from eq_false (by omega),show (1=nm)=False from eq_false (by omega),show (nm=2)=False from eq_false (by omega),show (2=nm)=False from eq_false (by omega),show (nm=4)=False from eq_false (by omega),show (4=nm)=False from eq_false (by omega),show (nm=24)=False from eq_false (by omega),show (24=nm)=False from eq_false (by omega),show (nm=25)=False from eq_false (by omega),show (25=nm)=False from eq_false (by omega)]
  exact⟨hke,List.take_of_length_le (by simp;omega)⟩
theorem run1c_imp(ns:List Node)(ds:List Dev)(st:List Int)(c:Int)(l:List Lk)(pr:List Int)(sk:List Int)(hsk:sk.length≤1000000)(fd:List Fnd)(hfd:fd.length≤1000)(k:Int)(s:Stp)(hk:(s.knd==1)=false)(hk2:(s.knd==2)=false)(l2:List Lk)(pr2:List Int)(m nm:Nat)(hm:5≤m∧m≠24∧m≠25)(hnm:m≠nm)(hn2:5≤nm∧nm≠24∧nm≠25)(hst:∀ nm,m≠nm→Imp Tryz.prog G0 40 [netD ns ds,.os m st.length 0 st.length,gD c l pr,.agg (Zr s)] [(m,.arr 1 (Zb st))] nm (.tup [.nils,.os m st.length 0 st.length,gD c l2 pr2,.bool true]) [(m,some (.arr 1 (Zb st)))]):Imp Tryz.prog G0 38 [.int .i64 k,.agg (Zr s),.bp 4 0,.bp 0 0,.bp 1 0,.bp 2 0,.bp 24 0] [(0,.box [nsD ns,dsD ds]),(1,.box [.os m st.length 0 st.length]),(2,.box [.int .i64 c,lkD l,pvD pr]),(4,.box [.sl (Zb sk)]),(24,.box [.os 25 fd.length 0 fd.length]),(m,.arr 1 (Zb st)),(25,.arr 2 (fd.map fRow))] nm (.bool true) [(0,some (.box [nsD ns,dsD ds])),(1,some (.box [.os m st.length 0 st.length])),(2,some (.box [.int .i64 c,lkD l2,pvD pr2])),(4,some (.box [.sl (Zb sk)])),(24,some (.box [.os 25 fd.length 0 fd.length])),(m,some (.arr 1 (Zb st))),(25,some (.arr 2 (fd.map fRow)))]:=by
 refine ZC (gl:=[(0,.box [nsD ns,dsD ds]),(1,.box [.os m st.length 0 st.length]),(2,.box [.int .i64 c,lkD l,pvD pr]),(4,.box [.sl (Zb sk)]),(24,.box [.os 25 fd.length 0 fd.length]),(m,.arr 1 (Zb st)),(25,.arr 2 (fd.map fRow))]) (nx1:=m+26) (hgs:=by simp[show (m=0)=False from eq_false (by omega),show (0=m)=False from eq_false (by omega),show (m=1)=False from eq_false (by omega),show (1=m)=False from eq_false (by omega),show (m=2)=False from eq_false (by omega),show (2=m)=False from eq_false (by omega),show (m=4)=False from eq_false (by omega),show (4=m)=False from eq_false (by omega),show (m=24)=False from eq_false (by omega),show (24=m)=False from eq_false (by omega),show (m=25)=False from eq_false (by omega),show (25=m)=False from eq_false (by omega)]) Tryz.func38 rfl Tryz.ntmps38 ?_
 have hfd2:(fd.length:Int)≤1000:=by omega
 have na0:(m=0)=False:=eq_false (by omega)
 have nb0:(0=m)=False:=eq_false (by omega)
 have na1:(m=1)=False:=eq_false (by omega)
 have nb1:(1=m)=False:=eq_false (by omega)
 have na2:(m=2)=False:=eq_false (by omega)
 have nb2:(2=m)=False:=eq_false (by omega)
 have na4:(m=4)=False:=eq_false (by omega)
 have nb4:(4=m)=False:=eq_false (by omega)
 have na24:(m=24)=False:=eq_false (by omega)
 have nb24:(24=m)=False:=eq_false (by omega)
 have na25:(m=25)=False:=eq_false (by omega)
 have nb25:(25=m)=False:=eq_false (by omega)
 refine R2 [] (by simp[na0,nb0,na1,nb1,na2,nb2,na4,nb4,na24,nb24,na25,nb25];first|exact F3|exact F4) ?_
 refine R2 [] (by simp[na0,nb0,na1,nb1,na2,nb2,na4,nb4,na24,nb24,na25,nb25,hk,hk2];first|exact F3|exact F4) ?_
 refine R2 [] (by simp[na0,nb0,na1,nb1,na2,nb2,na4,nb4,na24,nb24,na25,nb25];first|exact F3|exact F4) ?_
 refine fl_F ?_
 refine R2 [.i ⟨_,_,_,_,_,_,hst (m+26+2+9+7+4) (by omega)⟩] (by simp[na0,nb0,na1,nb1,na2,nb2,na4,nb4,na24,nb24,na25,nb25];first|exact F3|exact F4) ?_
 refine R2 [] (by simp[na0,nb0,na1,nb1,na2,nb2,na4,nb4,na24,nb24,na25,nb25];first|exact F3|exact F4) ?_
 refine Zd (fun K0_1 hK0_1=>?_)
 refine Zg (X:=Nat) [0,4,5,6,12,13,14,42,43] [] (fun x=>[(44,.int .i64 x)]) (fun x=>[]) (fun x=>x=0) (fun x=>0) 0 (rfl) (by simp;omega) ?_
 simp only[KN,keep,but,reduceIte,Nat.reduceEqDiff,Nat.reduceBEq]
 rintro j hj0 KL2 hKL2
 replace hj0:j=0:=hj0
 subst hj0
 refine R2 [] (by simp[na0,nb0,na1,nb1,na2,nb2,na4,nb4,na24,nb24,na25,nb25];first|exact F3|exact F4) ?_
 refine fl_F ?_
 refine Ze (show K0_1 _ _ _ from hK0_1 _ _ _ ?_)
 refine R2 [] (by simp[na0,nb0,na1,nb1,na2,nb2,na4,nb4,na24,nb24,na25,nb25];first|exact F3|exact F4) ?_
 refine R2 [] (by simp[na0,nb0,na1,nb1,na2,nb2,na4,nb4,na24,nb24,na25,nb25];first|exact F3|exact F4) ?_
 refine Za ?_
 refine⟨.inr rfl,m+26,?_⟩
 simp[hnm,na0,nb0,na1,nb1,na2,nb2,na4,nb4,na24,nb24,na25,nb25,show (nm=0)=False from eq_false (by omega),show (0=nm)=False from eq_false (by omega),show (nm=1)=False from eq_false (by omega),show (1=nm)=False from eq_false (by omega),show (nm=2)=False from eq_false (by omega),show (2=nm)=False from eq_false (by omega),show (nm=4)=False from eq_false (by omega),show (4=nm)=False from eq_false (by omega),show (nm=24)=False from eq_false (by omega),show (24=nm)=False from eq_false (by omega),show (nm=25)=False from eq_false (by omega),show (25=nm)=False from eq_false (by omega)]
end
section
open Go Go.RowKit
structure RunSt where
 st:List Int
 l:List Lk
 pr:List Int
 fd:List Fnd
def StepA(ns:List Node)(ds:List Dev)(c:Int)(sk:List Int)(k:Nat)(s:Stp)(a b:RunSt):Prop :=
 ((s.knd==1)=true∨((s.knd==1)=false∧(s.knd==2)=true))∧ins sk s.dev=false∧b.st.length=a.st.length∧∃ hz:List Int,hz.length≤1000∧b.fd=a.fd++hz.map (Fnd.mk (k:Int)) ∧
  ∀ m nm,m≠nm→Imp Tryz.prog G0 40 [netD ns ds,.os m a.st.length 0 a.st.length,gD c a.l a.pr,.agg (Zr s)] [(m,.arr 1 (Zb a.st))] nm (.tup [.sl (Zb hz),.os nm a.st.length 0 a.st.length,gD c b.l b.pr,.bool true]) [(m,none),(nm,some (.arr 1 (Zb b.st)))]
def StepB(ns:List Node)(ds:List Dev)(c:Int)(s:Stp)(a b:RunSt):Prop :=
 (s.knd==1)=false∧(s.knd==2)=false∧b.st=a.st∧b.fd=a.fd ∧
  ∀ m nm,m≠nm→Imp Tryz.prog G0 40 [netD ns ds,.os m a.st.length 0 a.st.length,gD c a.l a.pr,.agg (Zr s)] [(m,.arr 1 (Zb a.st))] nm (.tup [.nils,.os m a.st.length 0 a.st.length,gD c b.l b.pr,.bool true]) [(m,some (.arr 1 (Zb a.st)))]
structure RunOK(ns:List Node)(ds:List Dev)(c:Int)(sk:List Int)(ss:List Stp)(T:Nat→RunSt):Prop where
 step:∀ k (h:k<ss.length),StepA ns ds c sk k ss[k] (T k) (T (k+1))∨StepB ns ds c ss[k] (T k) (T (k+1))
 fd:∀ k,k≤ss.length→(T k).fd.length≤1000
theorem RunOK.len{ns:List Node}{ds:List Dev}{c:Int}{sk:List Int}{ss:List Stp}{T:Nat→RunSt}(h:RunOK ns ds c sk ss T):∀ k,k≤ss.length→(T k).st.length=(T 0).st.length
 | 0,_=>rfl
 | k+1,hk=>by
  rw[← h.len k (by omega)]
  rcases h.step k (by omega) with h1|h1
  ·exact h1.2.2.1
  ·rw[h1.2.2.1]
theorem scheck_pure(ns:List Node)(ds:List Dev)(hc:Zk ns ds=0)(st:List Int)(hs:StOK ds st)(c:Int)(hc7:0≤c∧c≤7)(l:List Lk)(hl:ZF ns ds l=0)(pr:List Int)(hp:pr.length≤1000000)(hr:risG ns.length (-1) pr=true)(nm:ByteArray)(h1:nm.size≤65536)(h2:YP nm=true)(ss:List Stp)(hsl:ss.length≤64)(hss:∀ s∈ss,StpOK ns.length ds.length s):Pure Tryz.prog G0 35 [netD ns ds,.sl (Zb st),gndD c l pr,.agg [.str nm,.sl (ss.map Zr)]] (.int .i64 0):=by
 refine Zh Tryz.func35 rfl Tryz.ntmps35 ?_
 refine R0 ?_
 refine R6 [.p ⟨_,_,_,Y3 ns ds st hc hs⟩] ?_
 refine R0 ?_
 refine fl_F ?_
 refine R6 [.p ⟨_,_,_,gcheck_pure ns ds c l pr hc7 hl hp hr⟩] ?_
 refine R0 ?_
 refine fl_F ?_
 refine R6 [.p ⟨_,_,_,pcheck_pure ns ds hc nm h1 h2 ss hsl hss⟩] ?_
 refine Za ?_
 simp
end
section
open Go Go.RowKit
@[simp] theorem gt26(m:Nat)(j:Nat)(h:j<26):j<m+26:=by omega
theorem run_imp(ns:List Node)(ds:List Dev)(hc:Zk ns ds=0)(hn:1≤ns.length)(hd0:0<ds.length)(st:List Int)(hs:StOK ds st)(c:Int)(hc7:0≤c∧c≤7)(nm0:ByteArray)(h1:nm0.size≤65536)(h2:YP nm0=true)(ss:List Stp)(hsl:ss.length≤64)(hss:∀ s∈ss,StpOK ns.length ds.length s)(sk:List Int)(hsk:sk.length≤1000000)(T:Nat→RunSt)(h0:T 0=⟨st,[],[],[]⟩)(hT:RunOK ns ds c sk ss T)(nm:Nat):Imp Tryz.prog G0 13 [netD ns ds,.sl (Zb st),.agg [.int .i64 c,.nils,.nils],.agg [.str nm0,.sl (ss.map Zr)],.sl (Zb sk)] [] nm (.tup [.sl ((T ss.length).fd.map fRow),.os nm st.length 0 st.length,gD c (T ss.length).l (T ss.length).pr,.int .i64 ss.length,.int .i64 0]) [(nm,some (.arr 1 (Zb (T ss.length).st)))]:=by
 refine ZC (gl:=[]) (nx1:=0) Tryz.func13 rfl Tryz.ntmps13 ?_
 obtain⟨g1,g2,_⟩:=Zj hc
 have hsn:=hs.1
 have hst0:st≠[]:=by intro e;subst e;simp at hsn;omega
 have hlE:ZF ns ds []=0:=by simp[ZF,hc,lkG]
 refine R0 ?_
 refine R [.p ⟨_,_,_,scheck_pure ns ds hc st hs c hc7 [] hlE [] (by simp) rfl nm0 h1 h2 ss hsl hss⟩] (by simp;first|exact F3|exact F4) (by exact Xw ⟨Le.refl _,Le.nils,Le.nils,trivial⟩) ?_
 refine R0 ?_
 refine fl_F ?_
 refine R [.b ⟨_,_,_,_,_,_,Z4 st (by omega) hst0 19⟩,.p ⟨_,_,_,copyN_pure c⟩] (by simp;first|exact F3|exact F4) (by first|exact Zs _|exact Zq _|exact Zt _|trivial|omega|(simp;done)|(simp;omega)) ?_
 refine R0 ?_
 refine awpL_ownB 24 0 2 [.nils] (by simp) (by simp) ?_
 refine R0 ?_
 refine R0 ?_
 refine Zd (fun K0_1 hK0_1=>?_)
 refine fl_loopN (X:=Nat×Nat) (fun x=>[(18,.int .i64 x.1),(6,.bp 1 0),(7,.bp 2 0),(8,.bp 3 0),(12,.bp 7 0),(16,.bp 24 0),(17,.fn (.func 38) [] [.bp 4 0,.bp 0 0,.bp 1 0,.bp 2 0,.bp 24 0])]) (fun x=>[(0,.box [nsD ns,dsD ds]),(1,.box [.os x.2 st.length 0 st.length]),(2,.box [.int .i64 c,lkD (T x.1).l,pvD (T x.1).pr]),(3,.box [.str nm0,.sl (ss.map Zr)]),(4,.box [.sl (Zb sk)]),(7,.box [.int .i64 0,.nils,.nils]),(24,.box [.os 25 (T x.1).fd.length 0 (T x.1).fd.length]),(x.2,.arr 1 (Zb (T x.1).st)),(25,.arr 2 ((T x.1).fd.map fRow))]) (fun x=>x.1≤ss.length∧(5≤x.2∧x.2≠7∧x.2≠24∧x.2≠25)) (fun x=>ss.length - x.1) (fun x=>x.2+26) (fun x hx=>by have:=hx.2;omega) (0,19) ⟨Nat.zero_le _,by decide⟩ (by simp[h0]) ?_
 rintro (⟨k,m⟩) hJ KL2 hKL2
 ·obtain⟨hk,hm⟩:=hJ
  replace hk:k≤ss.length:=hk
  replace hm:5≤m∧m≠7∧m≠24∧m≠25:=hm
  have hlk:(T k).st.length=st.length:=by rw[hT.len k hk,h0]
  have hfk:=hT.fd k hk
  have na0:(m=0)=False:=eq_false (by omega)
  have nb0:(0=m)=False:=eq_false (by omega)
  have na1:(m=1)=False:=eq_false (by omega)
  have nb1:(1=m)=False:=eq_false (by omega)
  have na2:(m=2)=False:=eq_false (by omega)
  have nb2:(2=m)=False:=eq_false (by omega)
  have na3:(m=3)=False:=eq_false (by omega)
  have nb3:(3=m)=False:=eq_false (by omega)
  have na4:(m=4)=False:=eq_false (by omega)
  have nb4:(4=m)=False:=eq_false (by omega)
  have na7:(m=7)=False:=eq_false (by omega)
  have nb7:(7=m)=False:=eq_false (by omega)
  have na24:(m=24)=False:=eq_false (by omega)
  have nb24:(24=m)=False:=eq_false (by omega)
  have na25:(m=25)=False:=eq_false (by omega)
  have nb25:(25=m)=False:=eq_false (by omega)
  rcases bf_ (decide (k<ss.length)) with h8_37|h8_37
  ·have hlt:k<ss.length:=by have:=of_decide_eq_true h8_37;omega
   have hkk:ss[k]? = some ss[k]:=by simp[hlt]
   have hl1:(T (k+1)).st.length=st.length:=by rw[hT.len (k+1) (by omega),h0]
   rcases hT.step k hlt with⟨hk1|⟨hk1,hk2⟩,hns,hle,hz,hhz,hfd,hst⟩|⟨hk1,hk2,hse,hfd,hst⟩
   ·have hst2:∀ nm,m≠nm→_:=fun nm h=>hst m nm h
    refine R2 [.i ⟨_,_,_,_,_,_,run1a_imp ns ds (T k).st c (T k).l (T k).pr sk hsk (T k).fd hfk k ss[k] hk1 hns hz hhz (T (k+1)).st (T (k+1)).l (T (k+1)).pr m (m+26+13) (by omega) (by omega) (by omega) hst2⟩] (by simp[hlk,na0,nb0,na1,nb1,na2,nb2,na3,nb3,na4,nb4,na7,nb7,na24,nb24,na25,nb25,h8_37,hkk,hlt];first|exact F3|exact F4) ?_
    refine fl_T ?_
    refine Zd (fun K1_3 hK1_3=>?_)
    refine R2 [] (by simp[hkk];(try simp (disch:=omega) only[w64]);first|exact F3|exact F4) ?_
    refine Zc (hK1_3 _ _ _ ?_)
    exact hKL2 _ _ _ (k+1,(m+26+13)) ⟨by show k+1≤_;omega,by show 5≤_∧_;omega⟩ (by show _<_;omega) (by simp[hl1,hfd];try omega)
   ·have hst2:∀ nm,m≠nm→_:=fun nm h=>hst m nm h
    refine R2 [.i ⟨_,_,_,_,_,_,run1b_imp ns ds (T k).st c (T k).l (T k).pr sk hsk (T k).fd hfk k ss[k] hk1 hk2 hns hz hhz (T (k+1)).st (T (k+1)).l (T (k+1)).pr m (m+26+13) (by omega) (by omega) (by omega) hst2⟩] (by simp[hlk,na0,nb0,na1,nb1,na2,nb2,na3,nb3,na4,nb4,na7,nb7,na24,nb24,na25,nb25,h8_37,hkk,hlt];first|exact F3|exact F4) ?_
    refine fl_T ?_
    refine Zd (fun K1_4 hK1_4=>?_)
    refine R2 [] (by simp[hkk];(try simp (disch:=omega) only[w64]);first|exact F3|exact F4) ?_
    refine Zc (hK1_4 _ _ _ ?_)
    exact hKL2 _ _ _ (k+1,(m+26+13)) ⟨by show k+1≤_;omega,by show 5≤_∧_;omega⟩ (by show _<_;omega) (by simp[hl1,hfd];try omega)
   ·have hst2:∀ nm,m≠nm→_:=fun nm h=>hst m nm h
    refine R2 [.i ⟨_,_,_,_,_,_,run1c_imp ns ds (T k).st c (T k).l (T k).pr sk hsk (T k).fd hfk k ss[k] hk1 hk2 (T (k+1)).l (T (k+1)).pr m (m+26+13) (by omega) (by omega) (by omega) hst2⟩] (by simp[hlk,na0,nb0,na1,nb1,na2,nb2,na3,nb3,na4,nb4,na7,nb7,na24,nb24,na25,nb25,h8_37,hkk,hlt];first|exact F3|exact F4) ?_
    refine fl_T ?_
    refine Zd (fun K1_5 hK1_5=>?_)
    refine R2 [] (by simp[hkk];(try simp (disch:=omega) only[w64]);first|exact F3|exact F4) ?_
    refine Zc (hK1_5 _ _ _ ?_)
    exact hKL2 _ _ _ (k+1,m) ⟨by show k+1≤_;omega,hm⟩ (by show _<_;omega) (by simp[hl1,hfd,hse,na0,nb0,na1,nb1,na2,nb2,na3,nb3,na4,nb4,na7,nb7,na24,nb24,na25,nb25];try omega)
  ·have hke:k=ss.length:=by have:=of_decide_eq_false h8_37;omega
   refine R2 [] (by simp[hlk,na0,nb0,na1,nb1,na2,nb2,na3,nb3,na4,nb4,na7,nb7,na24,nb24,na25,nb25,h8_37];first|exact F3|exact F4) ?_
   refine fl_F ?_
   refine Ze (show K0_1 _ _ _ from hK0_1 _ _ _ ?_)
   refine R0 ?_
   refine Za ?_
   refine⟨.inr rfl,m,?_⟩
   simp[hlk,na0,nb0,na1,nb1,na2,nb2,na3,nb3,na4,nb4,na7,nb7,na24,nb24,na25,nb25]
   simp[hke]
end
end Go.Proofs.YtjdgofpcmcobnaaGreatDoor.AL

/-
  The law, and that it gives true.
-/
import Derived.Test.YtjdgofpcmcobnaaGreatDoorGp
import Derived.Test.YtjdgofpcmcobnaaGreatDoorGt
import Derived.Test.YtjdgofpcmcobnaaGreatDoorGu
import Derived.Test.YtjdgofpcmcobnaaGreatDoorGla
import Derived.Test.YtjdgofpcmcobnaaGreatDoorGq
set_option maxRecDepth 100000
set_option maxHeartbeats 2000000
set_option linter.unusedVariables false
set_option linter.unusedSimpArgs false
namespace Go.Proofs.YtjdgofpcmcobnaaGreatDoor.AL
section
open Go Go.RowKit
def Prov32Q:Prop:=Pure Tryz.prog G0 72 [gQ 0 [] [3],.int .i64 2] (gQ 0 [] [2,3])
theorem prov32Q:Prov32Q:=provQ32_fact
theorem provQ_in{pr:List Int}(hp:prI pr){v:Nat}(hv:v=2∨v=3):∃ pr2,prI pr2∧ins pr2 v=true∧Pure Tryz.prog G0 72 [gQ 0 [] pr,.int .i64 v] (gQ 0 [] pr2):=by
 rcases hp with rfl|rfl|rfl|rfl<;>rcases hv with rfl|rfl
 ·exact⟨[2],.inr (.inl rfl),rfl,provQ0_2⟩
 ·exact⟨[3],.inr (.inr (.inl rfl)),rfl,provQ0_3⟩
 ·exact⟨[2],.inr (.inl rfl),rfl,provQ2_2⟩
 ·exact⟨[2,3],.inr (.inr (.inr rfl)),rfl,provQ2_3⟩
 ·exact⟨[2,3],.inr (.inr (.inr rfl)),rfl,prov32Q⟩
 ·exact⟨[3],.inr (.inr (.inl rfl)),rfl,provQ3_3⟩
 ·exact⟨[2,3],.inr (.inr (.inr rfl)),rfl,provQ23_2⟩
 ·exact⟨[2,3],.inr (.inr (.inr rfl)),rfl,provQ23_3⟩
structure GoodB(ns:List Node)(ds:List Dev)(F0:List Int)(a:RunSt):Prop where
 fd:a.fd=[]
 flt:FltIn ns.length ds a.st F0
 st:StOK ds a.st
def RunB(ns:List Node)(ds:List Dev)(F0:List Int):Nat→RunSt→List Stp→RunSt→Prop
 | _,a,[],b=>a=b
 | k,a,s::ss,b=>∃ m,(StepAQ ns ds 0 [] k s a m∨StepBQ ns ds 0 s a m)∧GoodB ns ds F0 m∧RunB ns ds F0 (k+1) m ss b
theorem RunB.append{ns:List Node}{ds:List Dev}{F0:List Int}:∀ {ss tt:List Stp} {k:Nat} {a m b:RunSt},RunB ns ds F0 k a ss m→RunB ns ds F0 (k+ss.length) m tt b→RunB ns ds F0 k a (ss++tt) b
 | [],tt,k,a,m,b,h1,h2=>by
  have e:a=m:=h1
  subst e
  exact h2
 | s::ss,tt,k,a,m,b,h1,h2=>by
  obtain⟨x,h3,h4,h5⟩:=h1
  refine⟨x,h3,h4,RunB.append h5 ?_⟩
  rw[show k+1+ss.length=k+(s::ss).length by simp;omega]
  exact h2
theorem RunB.fam{ns:List Node}{ds:List Dev}{F0:List Int}:∀ {ss:List Stp} {k:Nat} {a b:RunSt},GoodB ns ds F0 a→RunB ns ds F0 k a ss b→∃ T:Nat→RunSt,T 0=a∧T ss.length=b ∧
  (∀ j (h:j<ss.length),StepAQ ns ds 0 [] (k+j) ss[j] (T j) (T (j+1))∨StepBQ ns ds 0 ss[j] (T j) (T (j+1)))∧∀ j,j≤ss.length→GoodB ns ds F0 (T j)
 | [],k,a,b,hg,h=>⟨fun _=>a,rfl,h,(fun j h=>absurd h (Nat.not_lt_zero _)),fun j h=>hg⟩
 | s::ss,k,a,b,hg,h=>by
  obtain⟨m,h1,h2,h3⟩:=h
  obtain⟨T,t0,t1,t2,t3⟩:=RunB.fam h2 h3
  refine⟨fun j=>match j with|0=>a|j+1=>T j,rfl,t1,fun j hj=>?_,fun j hj=>?_⟩
  ·cases j with
   | zero=>show StepAQ ns ds 0 [] (k+0) s a (T 0)∨StepBQ ns ds 0 s a (T 0);rw[t0];exact h1
   | succ j =>
    have:=t2 j (by simpa using hj)
    rw[show k+1+j=k+(j+1) by omega] at this
    exact this
  ·cases j with
   | zero=>exact hg
   | succ j=>exact t3 j (by simpa using hj)
theorem perm5_parts{ns:List Node}{ds:List Dev}{pr0 s:List Int}{o:Opr}{d:Dev}(hd:ds[o.dev.toNat]? = some d)(h:ZS ns ds pr0 [5] s o=true)(pr:List Int)(h3:((o.pos==2)&&(d.kind==4))=true→ins pr d.a=true) :
  ((o.pos==2)&&(dutyL ns ds s o.dev.toNat==4))=false∧hazL ns ds s pr o.dev.toNat o.pos=[]:=by
 have h4:(((o.pos==2)&&(d.kind==4))&&!(ins pr d.a))=false:=by
  cases e:((o.pos==2)&&(d.kind==4)) with
  | false=>rfl
  | true=>rw[h3 e];rfl
 unfold ZS hazL at h
 unfold hazL
 rw[hd] at h ⊢
 simp only at h ⊢
 rw[h4]
 unfold hz4 selH at h ⊢
 generalize ((o.pos==2)&&(dutyL ns ds s o.dev.toNat==4))=b1 at *
 generalize badV d.kind o.pos (dutyL ns ds s o.dev.toNat)=b2 at *
 generalize (!(lostL (supL ns ds s) (supL ns ds (s.set o.dev.toNat o.pos))).isEmpty)=b3 at *
 generalize (((o.pos==2)&&(d.kind==4))&&!(ins pr0 d.a))=b4 at *
 cases b1<;>cases b2<;>cases b3<;>simp[ins] at h ⊢
theorem op_backB{ns:List Node}{ds:List Dev}(hc:Zk ns ds=0)(hn:ns.length=6){F0:List Int}{s:List Int}(hs:StOK ds s)(hfl:FltIn ns.length ds s F0){i:Nat}{d:Dev}(hd:MvOK ns ds i d){p:Int}(hp:p=1∨p=2)(hne:PO.at_ s i≠p)
  {pr0:List Int} (hpm:ZS ns ds pr0 [5] s ⟨(i:Int),p⟩=true) {pr:List Int} (hpr:prI pr) (k:Nat) :
  ∃ pr',prI pr'∧FltIn ns.length ds (s.set i p) F0∧RunB ns ds F0 k ⟨s,[],pr,[]⟩ (ZV ds ⟨i,p⟩) ⟨s.set i p,[],pr',[]⟩:=by
 obtain⟨hil,hdi⟩:=List.getElem?_eq_some_iff.1 hd.at_
 have hdn:ds[(⟨(i:Int),p⟩:Opr).dev.toNat]? = some d:=by simpa using hd.at_
 have hb1:((p==2)&&(dutyL ns ds s i==4))=false:=by
  have:=(perm5_parts hdn hpm [d.a] (fun _=>by simp[ins])).1
  simpa using this
 have hf:p=2→faultV d (colF ns.length ds (s.set i 2))=false:=fun e=>by
  apply Bool.eq_false_iff.2
  intro hf
  have h1:=hb1
  rw[e] at h1
  unfold dutyL dutyV at h1
  rw[hd.at_] at h1
  simp only at h1
  rw[if_pos hf] at h1
  exact absurd h1 (by decide)
 have hfl2:FltIn ns.length ds (s.set i p) F0:=by
  rcases hp with rfl|rfl
  ·exact (open_flt (ZM hc) _ _).trans hfl
  ·exact (close_flt (ZM hc) hd.at_ (hf rfl)).trans hfl
 have hst2:StOK ds (s.set i p):=Val12.set hs i hp
 have ho:HOK ds s 0 [] ⟨i,p⟩ i:=⟨hil,rfl,hp,hne,(fun x hx=>by rw[hd.at_] at hx;obtain rfl:=Option.some.inj hx;exact⟨hd.kd,hd.cp⟩),(fun x hx=>by cases hx),by simp,by decide⟩
 have hsl:(s.set i p).length=s.length:=by simp
 have last:∀ (pr:List Int) (_:prI pr) (_:hazL ns ds s pr i p=[]) (k:Nat),∃ pr',prI pr'∧RunB ns ds F0 k ⟨s,[],pr,[]⟩ [⟨p,i,0,0,0⟩] ⟨s.set i p,[],pr',[]⟩:=by
  intro pr hpr hz k
  rcases hp with rfl|rfl
  ·refine⟨pr,hpr,⟨s.set i 1,[],pr,[]⟩,.inl ⟨.inl rfl,rfl,hsl,[],by simp,rfl,fun m nm hmn=>?_⟩,⟨rfl,hfl2,hst2⟩,rfl⟩
   have:=step1_impQ ns ds hc (by omega) s hs 0 [] pr (prI_len hpr) i d hd.at_ ho m nm hmn
   rw[hz] at this
   exact this
  ·refine⟨(if ((2:Int)==2&&d.kind != 4)=true then [] else pr),by split;exact .inl rfl;exact hpr,⟨s.set i 2,[],_,[]⟩,.inl ⟨.inr ⟨rfl,rfl⟩,rfl,hsl,[],by simp,rfl,fun m nm hmn=>?_⟩,⟨rfl,hfl2,hst2⟩,rfl⟩
   have:=step2_impQ ns ds hc (by omega) s hs 0 [] pr (prI_len hpr) i d hd.at_ ho m nm hmn
   rw[hz] at this
   exact this
 have hzz:∀ pr,(((p==2)&&(d.kind==4))=true→ins pr d.a=true)→hazL ns ds s pr i p=[]:=fun pr h=>by
  have:=(perm5_parts hdn hpm pr h).2
  simpa using this
 rcases hp with rfl|rfl
 ·obtain⟨pr',h1,h2⟩:=last pr hpr (hzz pr (fun h=>by simp at h)) k
  have e:ZV ds ⟨i,1⟩=[⟨1,i,0,0,0⟩]:=by simp[ZV]
  rw[e]
  exact⟨pr',h1,hfl2,h2⟩
 ·by_cases h4:d.kind=4
  ·obtain⟨v,hv,hav⟩:∃ v:Nat,(v=2∨v=3)∧d.a=v:=by
    rcases hd.ea h4 with h|h
    ·exact⟨2,.inl rfl,h⟩
    ·exact⟨3,.inr rfl,h⟩
   obtain⟨pr2,hp2,hpi,hpv⟩:=provQ_in hpr hv
   have hvn:v<ns.length:=by omega
   have hdead:=prove_dead (ZM hc) hs.1 hd.at_ h4 (by rw[hav];exact hvn) (hf rfl)
   rw[hav,Int.toNat_natCast] at hdead
   obtain⟨pr',h1,h2⟩:=last pr2 hp2 (hzz pr2 (fun _=>by rw[hav];exact hpi)) (k+1)
   have e:ZV ds ⟨i,2⟩=[⟨5,0,v,0,0⟩]++[⟨2,i,0,0,0⟩]:=by simp[ZV,hd.at_,h4,hav]
   rw[e]
   refine⟨pr',h1,hfl2,⟨⟨s,[],pr2,[]⟩,.inr ⟨rfl,rfl,rfl,rfl,fun m nm hmn=>?_⟩,⟨rfl,hfl,hs⟩,h2⟩⟩
   exact step5_impQ ns ds hc (by omega) s hs 0 [] pr pr2 v hvn hdead hpv m nm hmn
  ·obtain⟨pr',h1,h2⟩:=last pr hpr (hzz pr (fun h=>by simp[h4] at h)) k
   have e:ZV ds ⟨i,2⟩=[⟨2,i,0,0,0⟩]:=by simp[ZV,hd.at_,h4]
   rw[e]
   exact⟨pr',h1,hfl2,h2⟩
theorem chain_backB{ns:List Node}{ds:List Dev}(hc:Zk ns ds=0)(hn:ns.length=6){F:List Int}(hF:StOK ds F)(hea:∀ d∈ds,d.kind=4→d.a=2∨d.a=3)(pr0:List Int) :
  ∀ (l:List (Nat×Nat)) (v w:Nat),PO.Chain (nxV (ZS ns ds pr0 [5]) F (movs ds 0 [])) v l w→∀ (k:Nat) (pr:List Int),prI pr→FltIn ns.length ds (Zi F (movs ds 0 []) v) F →
  (∃ pr',prI pr'∧RunB ns ds F k ⟨Zi F (movs ds 0 []) v,[],pr,[]⟩ (ZD ds (l.map fun p=>opA F (movs ds 0 []) p.1 p.2)) ⟨Zi F (movs ds 0 []) w,[],pr',[]⟩)∧(∀ x∈ZD ds (l.map fun p=>opA F (movs ds 0 []) p.1 p.2),StpOK ns.length ds.length x)
 | [],v,w,h,k,pr,hpr,_=>by
  have e:v=w:=h
  subst e
  exact⟨⟨pr,hpr,rfl⟩,fun x hx=>by cases hx⟩
 | (u,i)::l,v,w,h,k,pr,hpr,hfl=>by
  obtain⟨rfl,hi,hl⟩:=h
  have hi2:i<(movs ds 0 []).length∧permAt (ZS ns ds pr0 [5]) (movs ds 0 []) (Zi F (movs ds 0 []) u) i=true:=by
   unfold nxV at hi
   split at hi
   ·exact nextI_perm.1 hi
   ·cases hi
  obtain⟨hil,hpa⟩:=hi2
  obtain⟨m,hm⟩:∃ m,(movs ds 0 [])[i]? = some m:=⟨_,List.getElem?_eq_getElem hil⟩
  obtain⟨hml,hmd⟩:=Yv (List.mem_of_getElem? hm)
  obtain⟨d,hd⟩:∃ d,ds[m]? = some d:=⟨_,List.getElem?_eq_getElem hml⟩
  obtain⟨_,hk1,hcp,_⟩:=hmd d hd
  have hsO:StOK ds (Zi F (movs ds 0 []) u):=ZJ hF (fun x hx=>(Yv hx).1) u _
  have hat:=Val12.at_ hsO hml
  obtain⟨p,hp⟩:∃ p,3 - PO.at_ (Zi F (movs ds 0 []) u) m=p:=⟨_,rfl⟩
  have hp12:p=1∨p=2:=by omega
  have hgd:(movs ds 0 []).getD i 0=m:=by simp[List.getD_eq_getElem?_getD,hm]
  have hop:opA F (movs ds 0 []) u i=⟨m,p⟩:=by unfold opA;rw[hgd,hp]
  unfold permAt at hpa
  rw[hm] at hpa
  simp only at hpa
  rw[hp] at hpa
  have hmv:MvOK ns ds m d:=⟨hd,hk1,hcp,hea d (List.mem_of_getElem? hd)⟩
  have hx:=state_xor F (movs ds 0 []) (movs_nodup ds 0 []) u i m hm (by rw[hF.1];exact hml)
  rw[hp] at hx
  obtain⟨pr1,q1,q2,q3⟩:=op_backB hc hn hsO hfl hmv hp12 (by omega) hpa hpr k
  rw[← hx] at q2 q3
  have hsf:ZD ds (List.map (fun p=>opA F (movs ds 0 []) p.1 p.2) ((u,i)::l))=ZV ds ⟨m,p⟩++ZD ds (l.map fun p=>opA F (movs ds 0 []) p.1 p.2):=by
   rw[List.map_cons,ZD,List.flatMap_cons,hop];rfl
  obtain⟨⟨pr2,r1,r2⟩,r3⟩:=chain_backB hc hn hF hea pr0 l (u ^^^ 2 ^ i) w hl (k+(ZV ds ⟨m,p⟩).length) pr1 q1 q2
  refine⟨⟨pr2,r1,?_⟩,?_⟩
  ·rw[hsf];exact q3.append r2
  ·rw[hsf]
   intro x hx
   rcases List.mem_append.1 hx with hx|hx
   ·exact stepsO_ok hn hmv hp12 x hx
   ·exact r3 x hx
theorem LInv.tail{ds:List Dev}{F:List Int}{key:Int}{u:Lk}{l:List Lk}(h:LInv ds F key (u::l)):LInv ds F key l :=
 ⟨(List.pairwise_cons.1 h.srt).2,fun x hx=>h.e0 x (by simp[hx]),fun x hx=>h.kl x (by simp[hx]),fun x hx y hy=>h.kn x (by simp[hx]) y (by simp[hy])⟩
theorem unlock_backB{ns:List Node}{ds:List Dev}(hc:Zk ns ds=0)(hn:1≤ns.length){F:List Int}(hF:StOK ds F)(pr:List Int){key:Int}:∀ (L:List Lk) (k:Nat),LInv ds F key L→L.length≤128 →
  RunB ns ds F k ⟨F,L,pr,[]⟩ (unlS L) ⟨F,[],pr,[]⟩∧∀ x∈unlS L,StpOK ns.length ds.length x
 | [],k,_,_=>⟨rfl,fun x hx=>by cases hx⟩
 | u::l,k,hI,hl=>by
  obtain⟨r1,r2⟩:=unlock_backB hc hn hF pr l (k+1) hI.tail (by simp at hl;omega)
  have hE:=hI.ok hc hl
  obtain⟨e1,e2,_,_,e5,e6⟩:=lkE_0 (hI.e0 u (by simp))
  refine⟨⟨⟨F,l,pr,[]⟩,.inr ⟨rfl,rfl,rfl,rfl,fun m nm hmn=>step4_impQ ns ds hc hn F hF 0 u l hE pr m nm hmn⟩,⟨rfl,(fun _ _ h=>h),hF⟩,r1⟩,fun x hx=>?_⟩
  rcases List.mem_cons.1 hx with rfl|hx
  ·refine⟨by show (1:Int)≤4∧(4:Int)≤6;omega,?_⟩
   have h1:decide ((ds.length:Int)≤u.dev)=false:=by simp;omega
   simp[hasF,YQ,hasO]
   omega
  ·exact r2 x hx
end
section
open Go Go.RowKit
def nmP:ByteArray:=⟨#[80]⟩
def BckHyp(ns:List Node)(ds:List Dev)(st:List Int)(z:List Nat):Prop :=
  Pure Tryz.prog G0 11 [netD ns ds,.sl (Zb st),gndD 0 [] [],.sl (Zb (nats z)),.int .i64 1] (.tup [.agg [.str ⟨#[]⟩,.nils],.int .i64 15]) ∨
  ∃ (ss:List Stp) (fd:List Fnd) (L:List Lk) (pr:List Int) (F:List Int),
    Pure Tryz.prog G0 11 [netD ns ds,.sl (Zb st),gndD 0 [] [],.sl (Zb (nats z)),.int .i64 1] (.tup [.agg [.str nmI,.sl (ss.map Zr)],.int .i64 0]) ∧
    (∀ nm,Imp Tryz.prog G0 13 [netD ns ds,.sl (Zb st),.agg [.int .i64 0,.nils,.nils],.agg [.str nmI,.sl (ss.map Zr)],.sl (Zb [])] [] nm (.tup [.sl (fd.map fRow),.os nm st.length 0 st.length,gD 0 L pr,.int .i64 ss.length,.int .i64 0]) [(nm,some (.arr 1 (Zb F)))]) ∧
    StOK ds F∧F.length=st.length ∧
    (Pure Tryz.prog G0 21 [netD ns ds,.sl (Zb F),gndD 0 L pr,.sl (Zb st)] (.tup [.agg [.str ⟨#[]⟩,.nils],.int .i64 15]) ∨
     ∃ (qs:List Stp) (T:Nat→RunSt),Pure Tryz.prog G0 21 [netD ns ds,.sl (Zb F),gndD 0 L pr,.sl (Zb st)] (.tup [.agg [.str nmR,.sl (qs.map Zr)],.int .i64 0])∧qs.length≤64 ∧
      (T qs.length).st=st∧(T qs.length).l=[]∧(∀ k,k≤qs.length→FltIn ns.length ds (T k).st F∧StOK ds (T k).st) ∧
      ∀ k,k≤qs.length→∀ nm,Imp Tryz.prog G0 13 [netD ns ds,.sl (Zb F),.agg [.int .i64 0,lkD L,pvD pr],.agg [.str nmP,.sl ((qs.take k).map Zr)],.sl (Zb [])] [] nm (.tup [.sl [],.os nm F.length 0 F.length,gQ 0 (T k).l (T k).pr,.int .i64 k,.int .i64 0]) [(nm,some (.arr 1 (Zb (T k).st)))])
theorem prI_ris{pr:List Int}(h:prI pr){n:Nat}(hn:n=6):risG n (-1) pr=true:=by
 subst hn
 rcases h with rfl|rfl|rfl|rfl<;>decide
theorem chain_lt{perm:List Int→Opr→Bool}{st:List Int}{ms:List Nat}:∀ (l:List (Nat×Nat)) (v w:Nat),v<2 ^ ms.length→PO.Chain (nxV perm st ms) v l w→w<2 ^ ms.length
 | [],v,w,hv,hc=>by have e:v=w:=hc;omega
 | (u,i)::l,v,w,hv,hc=>by
  obtain⟨rfl,hi,hc⟩:=hc
  unfold nxV at hi
  rw[if_pos hv] at hi
  exact chain_lt l _ w (PO.xor_lt hv (nextI_perm.1 hi).1) hc
theorem half_back{ns:List Node}{ds:List Dev}(hc:Zk ns ds=0)(h6:ns.length=6)(hds:0<ds.length∧ds.length≤9)(hea:∀ d∈ds,d.kind=4→d.a=2∨d.a=3){B:List Int}(hB:Val12 ds.length B)(hm7:(movs ds 0 []).length≤7){cl:List (List Nat)}(hcl:colsF ds B (movs ds 0 [])=cl){ts:List Nat}(hnr:nearB cl ts=true){t:Nat}(ht:t∈ts)(ht7:t<2 ^ (movs ds 0 []).length)
    {f:Nat} (hf7:f<2 ^ (movs ds 0 []).length) {st F:List Int} (hst:Zi B (movs ds 0 []) t=st) (hF:Zi B (movs ds 0 []) f=F) {L:List Lk} {key:Int} (hI:LInv ds F key L) (hL:L.length≤11) {pr:List Int} (hpr:prI pr) :
    (Pure Tryz.prog G0 21 [netD ns ds,.sl (Zb F),gndD 0 L pr,.sl (Zb st)] (.tup [.agg [.str ⟨#[]⟩,.nils],.int .i64 15]) ∨
     ∃ (qs:List Stp) (T:Nat→RunSt),Pure Tryz.prog G0 21 [netD ns ds,.sl (Zb F),gndD 0 L pr,.sl (Zb st)] (.tup [.agg [.str nmR,.sl (qs.map Zr)],.int .i64 0])∧qs.length≤64 ∧
      (T qs.length).st=st∧(T qs.length).l=[]∧(∀ k,k≤qs.length→FltIn ns.length ds (T k).st F∧StOK ds (T k).st) ∧
      ∀ k,k≤qs.length→∀ nm,Imp Tryz.prog G0 13 [netD ns ds,.sl (Zb F),.agg [.int .i64 0,lkD L,pvD pr],.agg [.str nmP,.sl ((qs.take k).map Zr)],.sl (Zb [])] [] nm (.tup [.sl [],.os nm F.length 0 F.length,gQ 0 (T k).l (T k).pr,.int .i64 k,.int .i64 0]) [(nm,some (.arr 1 (Zb (T k).st)))]):=by
  have hms:∀ m∈movs ds 0 [],m<ds.length:=fun m hm=>(Yv hm).1
  have hFv:StOK ds F:=by rw[← hF];exact ZJ hB hms f _
  have hsv:StOK ds st:=by rw[← hst];exact ZJ hB hms t _
  have hlE:ZF ns ds []=0:=by simp[ZF,hc,lkG]
  have hLE:ZF ns ds L=0:=hI.ok hc (by omega)
  have hg:GOK ns ds 0 [] pr F:=⟨by decide,hlE,prI_len hpr,prI_ris hpr h6,by omega,fun k hk=>by cases hk⟩
  by_cases hd:(bckR ns ds pr F st).depth<0
  · exact .inl (restoreN_pure ns ds hc (by omega) F hFv hds.1 pr hg st hsv L hLE hd)
  · right
    have hd0:0≤(bckR ns ds pr F st).depth:=by omega
    have h9:=back_near h6 (pr:=pr) hB hm7 hcl hnr ht ht7 hf7 (by rw[hF,hst];exact hd0)
    rw[hF,hst] at h9
    have hinv:=(YI (ZS ns ds pr [5]) (eqB st) (fun _=>0) F (movs ds 0 [])).inv
    have h00:PO.at_ (bckR ns ds pr F st).out 0=0:=((hinv.found hd0).zero 0).2 rfl
    have hms6:(bckR ns ds pr F st).depth≤(2 ^ (movs ds 0 []).length:Nat):=by
      obtain⟨g,gs,hgs⟩:=List.exists_cons_of_ne_nil (hinv.found hd0).some_
      have hg:=((hinv.found hd0).goal g (by rw[hgs];simp)).2
      have:=(YI (ZS ns ds pr [5]) (eqB st) (fun _=>0) F (movs ds 0 [])).b g
      rw[hg] at this
      exact this
    obtain⟨b,hch,hgb,hlen⟩:=PO.find_chain hinv hd0 (2 ^ (movs ds 0 []).length+1) 0 (PO.good_start hinv hd0) (by
      show (bckR ns ds pr F st).depth - PO.at_ (bckR ns ds pr F st).out 0<_
      rw[h00]
      have h9:∀ (M:Nat) (x:Int),x≤(M:Int)→x - 0<((M+1:Nat):Int):=fun M x h=>by omega
      exact h9 _ _ hms6)
    obtain⟨l,hl⟩:∃ l,findP (ZS ns ds pr [5]) (eqB st) (fun _=>0) F (movs ds 0 [])=l:=⟨_,rfl⟩
    have hops:bckP ns ds pr F st=l.map fun p=>opA F (movs ds 0 []) p.1 p.2:=by unfold bckP;rw[hl]
    have hch2:PO.Chain (nxV (ZS ns ds pr [5]) F (movs ds 0 [])) 0 l b:=by rw[← hl];exact hch
    have hll:l.length≤9:=by
      have:((l.length:Nat):Int)=(bckR ns ds pr F st).depth - PO.at_ (bckR ns ds pr F st).out 0:=by rw[← hl];exact hlen
      rw[h00] at this
      omega
    have hend:Zi F (movs ds 0 []) b=st:=by
      unfold glV at hgb
      split at hgb
      · rename_i hok
        exact (eqB_iff (by rw[(ZJ hFv hms b _).1,hsv.1])).1 hok
      · cases hgb
    obtain⟨⟨pr',_,hrun⟩,hsok⟩:=chain_backB hc h6 hFv hea pr l 0 b hch2 (unlS L).length pr hpr (by rw[state_zero];exact fun _ _ h=>h)
    rw[state_zero,hend] at hrun
    obtain⟨hu,huok⟩:=unlock_backB hc (by omega) hFv pr L 0 hI (by omega)
    have hsl:=stepsF_len ds (l.map fun (p:Nat×Nat)=>opA F (movs ds 0 []) p.1 p.2) (l.map fun (p:Nat×Nat)=>opA F (movs ds 0 []) p.1 p.2).length
    rw[List.take_length,List.length_map] at hsl
    have hrs:=restoreS_pure ns ds hc (by omega) F hFv hds.1 pr hg st hsv L hLE hd0 (by rw[hops];omega)
    rw[hops] at hrs
    obtain⟨sf,hsf⟩:∃ sf,ZD ds (l.map fun (p:Nat×Nat)=>opA F (movs ds 0 []) p.1 p.2)=sf:=⟨_,rfl⟩
    rw[hsf] at hrs hrun hsok hsl
    have hall:=hu.append (by rw[Nat.zero_add];exact hrun)
    obtain⟨T,t0,t1,t2,t3⟩:=RunB.fam (F0:=F) (a:=⟨F,L,pr,[]⟩) ⟨rfl,(fun _ _ h=>h),hFv⟩ hall
    obtain⟨qs,hqs⟩:∃ qs,unlS L++sf=qs:=⟨_,rfl⟩
    have hql:qs.length≤64:=by rw[← hqs,List.length_append,unlS_len];omega
    have hqok:∀ s∈qs,StpOK ns.length ds.length s:=fun s hs=>by
      rw[← hqs] at hs
      rcases List.mem_append.1 hs with hs|hs
      · exact huok s hs
      · exact hsok s hs
    rw[hqs] at hrs t1 t2 t3
    refine⟨qs,T,hrs,hql,by rw[t1],by rw[t1],fun k hk=>⟨(t3 k hk).flt,(t3 k hk).st⟩,fun k hk nm=>?_⟩
    have hkl:(qs.take k).length=k:=by rw[List.length_take];omega
    have hT:RunOKQ ns ds 0 [] (qs.take k) T:=by
      refine⟨fun j hj=>?_,fun j hj=>?_⟩
      · have hj2:j<qs.length:=by rw[hkl] at hj;omega
        have:=t2 j hj2
        rw[Nat.zero_add] at this
        rw[List.getElem_take]
        exact this
      · rw[hkl] at hj
        rw[(t3 j (by omega)).fd];simp
    have:=run_impQ ns ds hc (by omega) hds.1 F hFv 0 (by decide) nmP (by decide) (by decide) (qs.take k) (by omega) (fun s hs=>hqok s (List.mem_of_mem_take hs)) [] (by simp) L hLE pr (prI_len hpr) (prI_ris hpr h6) T t0 hT nm
    rw[hkl,(t3 k hk).fd] at this
    exact this
end
section
open Go Go.RowKit
theorem lqD_nil:lqD []=.sl []:=rfl
theorem back_main(l:List Int)(hI:∀ (hl:l.length≤400),∃ z:List Nat,(zoneF (bayN (Yp l)).length (bayK (Yp l))).1=nats z∧(∀ v∈z,v<(bayN (Yp l)).length)∧z.length≤100∧ZOK (bayN (Yp l)) z∧Zk (bayN (Yp l)) (bayD (Yp l))=0∧(bayN (Yp l)).length=6∧8≤(bayD (Yp l)).length∧(bayD (Yp l)).length≤9∧StOK (bayD (Yp l)) (bayS (Yp l))∧DkOK (bayK (Yp l))∧BckHyp (bayN (Yp l)) (bayD (Yp l)) (bayS (Yp l)) z):Pure Tryz.prog G0 5 [.sl (Zb l)] (.bool true):=by
 refine Zh Tryz.func5 rfl Tryz.ntmps5 ?_
 refine R0 ?_
 refine R6 [.p ⟨_,_,_,few_pure l⟩] ?_
 refine Zn (b:=!(decide (l.length≤400))) (by simp) (fun c1=>?_) (fun c1=>?_)
 ·refine R6 [.p ⟨_,_,_,first_fact⟩] ?_
  refine Za ?_
  simp
 ·have hl:l.length≤400:=by simpa using c1
  have hd:=newDk_ok l hl
  have hbay:=fun nm h=>bay_imp (Yp l) hd nm h
  obtain⟨z,hz1,hzv,hzl,hzo,hc,hn6,hd8,hd9,hso0,hkk,hIs⟩:=hI hl
  clear hI
  generalize bayN (Yp l)=ns at *
  generalize bayD (Yp l)=ds at *
  generalize bayS (Yp l)=st at *
  generalize bayK (Yp l)=dk at *
  have hsl:=hso0.1
  have hzf:=zoneF_ok ns.length hkk
  have hzi:=fun nm h=>zone_imp dk hkk ns ds (by omega) (by omega) nm h
  rw[hz1] at hzi
  generalize (zoneF ns.length dk).2=d2 at *
  refine R6 [.i ⟨_,_,_,_,_,_,new_imp l 5⟩] ?_
  refine R6 [.i ⟨_,_,_,_,_,_,hbay 8 (by decide)⟩] ?_
  refine R6 [.i ⟨_,_,_,_,_,_,hzi 17 (by decide)⟩] ?_
  rcases hIs with hI|⟨ss,fd,L,pr,F,hI,hRun,hF,hFl,hRes⟩
  ·refine R [.p ⟨_,_,_,hI⟩] (by simp;first|exact F3|exact F4) (by exact Xw ⟨Le.refl _,Le.nils,Le.nils,trivial⟩) ?_
   refine R0 ?_
   refine fl_T ?_
   refine R6 [.p ⟨_,_,_,first_fact⟩] ?_
   refine Za ?_
   simp
  ·have hRun2:=fun nm=>(hRun nm).argsLe (A':=[netD ns ds,.sl (Zb st),.agg [.int .i64 0,.nils,.nils],.agg [.str nmI,.sl (ss.map Zr)],.nils]) ⟨Le.refl _,Le.refl _,Le.refl _,Le.refl _,Le.nils,trivial⟩
   have htk:List.take st.length (Zb F)=Zb F:=List.take_of_length_le (by simp;omega)
   have hst0:st.length≠0:=by omega
   have hFb:=rfaults_pure ns ds hc F hF
   have hbl:=Z3 (fltP (colF ns.length ds F)) ns.length
   refine R [.p ⟨_,_,_,hI⟩] (by simp;first|exact F3|exact F4) (by exact Xw ⟨Le.refl _,Le.nils,Le.nils,trivial⟩) ?_
   refine R0 ?_
   refine fl_F ?_
   refine R6 [.i ⟨_,_,_,_,_,_,hRun2 36⟩] ?_
   refine YT [36] ?_
   rcases hRes with hRes|⟨qs,T,hRes,hq64,hTst,hTnl,hTg,hRk⟩
   ·refine R2 [.p ⟨_,_,_,hRes⟩] (by simp[htk,hst0,hFl];first|exact F3|exact F4) ?_
    refine R0 ?_
    refine fl_F ?_
    refine R0 ?_
    refine fl_T ?_
    refine R6 [.p ⟨_,_,_,first_fact⟩] ?_
    refine Za ?_
    simp
   ·have hRk2:=fun k hk nm=>(hRk k hk nm).argsLe (A':=[netD ns ds,.sl (Zb F),.agg [.int .i64 0,lkD L,pvD pr],.agg [.str ⟨#[80]⟩,.sl ((qs.take k).map Zr)],.nils]) ⟨Le.refl _,Le.refl _,Le.refl _,Le.refl _,Le.nils,trivial⟩
    refine R2 [.p ⟨_,_,_,hRes⟩] (by simp[htk,hst0,hFl];first|exact F3|exact F4) ?_
    refine R0 ?_
    refine fl_F ?_
    refine R0 ?_
    refine fl_F ?_
    refine R6 [.p ⟨_,_,_,hFb⟩] ?_
    refine R0 ?_
    refine Zd (fun K0_1 hK0_1=>?_)
    refine Zg (X:=Nat) [4,5,10,11,14,16] [] (fun x=>[(18,.int .i64 x)]) (fun x=>[]) (fun x=>x≤qs.length) (fun x=>qs.length+1 - x) 0 (Nat.zero_le _) (by simp) ?_
    simp only[KN,keep,but,reduceIte,Nat.reduceEqDiff,Nat.reduceBEq]
    rintro k hk KL2 hKL2
    replace hk:k≤qs.length:=hk
    have hkd:decide (k≤qs.length)=true:=by simpa using hk
    obtain⟨hTf,hTk⟩:=hTg k hk
    have hTkl:(T k).st.length=F.length:=by rw[hTk.1,hF.1]
    have htk2:List.take F.length (Zb (T k).st)=Zb (T k).st:=List.take_of_length_le (by simp;omega)
    have hf0:F.length≠0:=by omega
    have hFk:=rfaults_pure ns ds hc (T k).st hTk
    have hsub:=fun x h=>flt_sub (x:=x) hTf h
    have hal:=Z3 (fltP (colF ns.length ds (T k).st)) ns.length
    generalize supN (fltP (colF ns.length ds (T k).st)) ns.length=af at *
    refine R2 [] (by simp[hkd];first|exact F3|exact F4) ?_
    refine fl_T ?_
    refine Zd (fun K1_3 hK1_3=>?_)
    refine R0 ?_
    refine R6 [.i ⟨_,_,_,_,_,_,hRk2 k hk 97⟩] ?_
    refine R2 [] (by simp[hkd];first|exact F3|exact F4) ?_
    refine fl_F ?_
    refine YT [97] ?_
    refine R2 [.p ⟨_,_,_,hFk⟩] (by simp[htk2,hf0,hTkl];first|exact F3|exact F4) ?_
    refine R0 ?_
    refine Zd (fun K2_4 hK2_4=>?_)
    refine Zg (X:=Nat) [4,5,10,11,14,16,18,21,22,141,142] [] (fun x=>[(143,.int .i64 x)]) (fun x=>[]) (fun x=>x≤af.length) (fun x=>af.length - x) 0 (by simp) (by simp) ?_
    simp only[KN,keep,but,reduceIte,Nat.reduceEqDiff,Nat.reduceBEq]
    rintro j hlej KL5 hKL5
    refine R0 ?_
    refine fl_C (fun c25=>?_) (fun c25=>?_)
    ·have hlt:j<af.length:=by simpa using c25
     have hkk:af[j]? = some af[j]:=by simp[hlt]
     have hd:=Lib.hid (List.drop_eq_getElem_cons hlt)
     have hxb:=hsub _ (List.getElem_mem hlt)
     generalize af[j]=x at *
     refine Zd (fun K3_6 hK3_6=>?_)
     refine R2 [] (by simp[hkk];first|exact F3|exact F4) ?_
     refine R2 [.p ⟨_,_,_,rhas_pure (supN (fltP (colF ns.length ds F)) ns.length) (by omega) x hxb⟩] (by simp[hkk];first|exact F3|exact F4) ?_
     refine fl_F ?_
     refine Zc (hK3_6 _ _ _ ?_)
     refine R2 [] (by simp[hkk];(try simp (disch:=omega) only[w64]);first|exact F3|exact F4) ?_
     exact hKL5 _ _ _ (j+1) (by omega) (by omega) (by simp)
    ·have hge:af.length≤j:=by simpa using c25
     have hke:j=af.length:=by have:j≤af.length:=hlej;omega
     have hdn:=Lib.hid (List.drop_of_length_le hge)
     refine Ze (show K2_4 _ _ _ from hK2_4 _ _ _ ?_)
     refine R0 ?_
     refine fl_C (fun c30=>?_) (fun c30=>?_)
     ·have hkq:k=qs.length:=by have h9:=c30;simp at h9;omega
      have hTs:(T k).st=st:=by rw[hkq];exact hTst
      have hTl:(T k).l=[]:=by rw[hkq];exact hTnl
      refine R2 [.p ⟨_,_,_,Customers_pure ns ds hc (by omega) (T k).st hTk⟩] (by simp[hTs];first|exact F3|exact F4) ?_
      refine R6 [.p ⟨_,_,_,Customers_pure ns ds hc (by omega) st hso0⟩] ?_
      refine R3 9 17 (by decide) [.p ⟨_,_,_,rints_pure st (by omega)⟩,.p ⟨_,_,_,first_fact⟩] (by simp[hTl,lqD_nil,hTs];first|exact F5|exact F6) (by first|trivial|omega|(simp;done)|(simp;omega)) (by simp[hTl,lqD_nil,hTs];first|exact F5|exact F6) (by first|trivial|omega|(simp;done)|(simp;omega)) (by simp[hTl,lqD_nil,hTs];first|exact F3|exact F4) (by first|trivial|omega|(simp;done)|(simp;omega)) ?_
      refine Za ?_
      simp
     ·have hkq:k≠qs.length:=by intro h9;subst h9;simp at c30
      refine Zc (hK1_3 _ _ _ ?_)
      refine R1 ?_
      exact hKL2 _ _ _ (k+1) (by show k+1≤_;omega) (by show _<_;omega) (by simp)
end
section
open Go Go.RowKit
def tsK(k:Nat):List Nat:=if k=1 then [48,49,50,52,56,112,113,114,116,120] else if k=2 then [112,113,114,116,120] else [48,49,50,52,56]
structure NearK(k:Nat)(x2:Int)(cl:List (List Nat)):Prop where
 cols:colsF (Zz k) (bsS k x2) (movs (Zz k) 0 [])=cl
 near:nearB cl (tsK k)=true
 len:(movs (Zz k) 0 []).length≤7
 lt:∀ t∈tsK k,t<2 ^ (movs (Zz k) 0 []).length
 val:Val12 (Zz k).length (bsS k x2)
theorem near_all{k:Nat}(hk:k<4){x2:Int}(hx:x2=1∨x2=2):∃ cl,NearK k x2 cl:=by
 rcases (by omega:k=0∨k=1∨k=2∨k=3) with rfl|rfl|rfl|rfl<;>rcases hx with rfl|rfl
 ·exact⟨_,cl01_ok,nr01_ok,by decide +kernel,by decide +kernel,⟨rfl,by decide +kernel⟩⟩
 ·exact⟨_,cl02_ok,nr02_ok,by decide +kernel,by decide +kernel,⟨rfl,by decide +kernel⟩⟩
 ·exact⟨_,cl11_ok,nr11_ok,by decide +kernel,by decide +kernel,⟨rfl,by decide +kernel⟩⟩
 ·exact⟨_,cl12_ok,nr12_ok,by decide +kernel,by decide +kernel,⟨rfl,by decide +kernel⟩⟩
 ·exact⟨_,cl21_ok,nr21_ok,by decide +kernel,by decide +kernel,⟨rfl,by decide +kernel⟩⟩
 ·exact⟨_,cl22_ok,nr22_ok,by decide +kernel,by decide +kernel,⟨rfl,by decide +kernel⟩⟩
 ·exact⟨_,cl31_ok,nr31_ok,by decide +kernel,by decide +kernel,⟨rfl,by decide +kernel⟩⟩
 ·exact⟨_,cl32_ok,nr32_ok,by decide +kernel,by decide +kernel,⟨rfl,by decide +kernel⟩⟩
theorem xtra_shape2(d:Dk):∃ k,(xtra d).1=xDs k∧((k=0∧(xtra d).2.1=[2])∨(k=1∧(xtra d).2.1=[1])∨(k=1∧(xtra d).2.1=[2])∨(k=2∧(xtra d).2.1=[1])∨(k=3∧(xtra d).2.1=[])):=by
 have hv:=d.nx.v_rng (a:=2) (by decide)
 unfold xtra
 split
 ·exact⟨0,rfl,.inl ⟨rfl,rfl⟩⟩
 ·split
  ·rcases (by omega:d.nx.v 2=0∨d.nx.v 2=1) with h|h
   ·exact⟨1,rfl,.inr (.inl ⟨rfl,by simp[h]⟩)⟩
   ·exact⟨1,rfl,.inr (.inr (.inl ⟨rfl,by simp[h]⟩))⟩
  ·split
   ·exact⟨2,rfl,.inr (.inr (.inr (.inl ⟨rfl,rfl⟩)))⟩
   ·exact⟨3,rfl,.inr (.inr (.inr (.inr ⟨rfl,rfl⟩)))⟩
theorem cut_shape(d:Dk)(st:List Int):(cutS d st).1=st∨(cutS d st).1=st.set 1 1∨(cutS d st).1=st.set 2 1∨(cutS d st).1=st.set 3 1∨(cutS d st).1=st.set 4 1∨(cutS d st).1=st.set 5 1:=by
 have hv:=d.nx.v_rng (a:=5) (by decide)
 unfold cutS
 split
 ·right
  rcases (by omega:d.nx.v 5=0∨d.nx.v 5=1∨d.nx.v 5=2∨d.nx.v 5=3∨d.nx.v 5=4) with h|h|h|h|h<;>simp[h]
 ·exact .inl rfl
def BaseK(k:Nat)(s:List Int):Prop:=∃ (x2:Int) (t:Nat),(x2=1∨x2=2)∧t∈tsK k∧Zi (bsS k x2) (movs (Zz k) 0 []) t=s
theorem base_any{k:Nat}{e:List Int}(x:Nat)(h:(Zi (bsS k 2) (movs (Zz k) 0 []) x=baseS++e∧Zi (bsS k 2) (movs (Zz k) 0 []) (x+1)=(baseS++e).set 1 1∧Zi (bsS k 2) (movs (Zz k) 0 []) (x+2)=(baseS++e).set 2 1)∧(Zi (bsS k 1) (movs (Zz k) 0 []) x=(baseS++e).set 3 1∧Zi (bsS k 2) (movs (Zz k) 0 []) (x+4)=(baseS++e).set 4 1∧Zi (bsS k 2) (movs (Zz k) 0 []) (x+8)=(baseS++e).set 5 1))
  (ht:x∈tsK k∧x+1∈tsK k∧x+2∈tsK k∧x+4∈tsK k∧x+8∈tsK k) {s:List Int} (hs:s=baseS++e∨s=(baseS++e).set 1 1∨s=(baseS++e).set 2 1∨s=(baseS++e).set 3 1∨s=(baseS++e).set 4 1∨s=(baseS++e).set 5 1):BaseK k s:=by
 obtain⟨⟨h0,h1,h2⟩,h3,h4,h5⟩:=h
 obtain⟨t0,t1,t2,t4,t8⟩:=ht
 rcases hs with rfl|rfl|rfl|rfl|rfl|rfl
 ·exact⟨2,x,.inr rfl,t0,h0⟩
 ·exact⟨2,x+1,.inr rfl,t1,h1⟩
 ·exact⟨2,x+2,.inr rfl,t2,h2⟩
 ·exact⟨1,x,.inl rfl,t0,h3⟩
 ·exact⟨2,x+4,.inr rfl,t4,h4⟩
 ·exact⟨2,x+8,.inr rfl,t8,h5⟩
theorem bay_base(d:Dk):∃ k,k<4∧bayD d=Zz k∧BaseK k (bayS d):=by
 obtain⟨k,h1,h2⟩:=xtra_shape2 (ZQ 6 d).2
 have hD:bayD d=Zz k:=by unfold bayD bayX Zz;rw[h1]
 have hc:=cut_shape (bayX d).2.2 (baseS++(bayX d).2.1)
 have hS:bayS d=(cutS (bayX d).2.2 (baseS++(bayX d).2.1)).1:=rfl
 rw[← hS] at hc
 unfold bayX at hc
 rcases h2 with⟨rfl,h2⟩|⟨rfl,h2⟩|⟨rfl,h2⟩|⟨rfl,h2⟩|⟨rfl,h2⟩<;>rw[h2] at hc
 ·exact⟨0,by omega,hD,base_any 48 (by decide +kernel) (by decide) hc⟩
 ·exact⟨1,by omega,hD,base_any 112 (by decide +kernel) (by decide) hc⟩
 ·exact⟨1,by omega,hD,base_any 48 (by decide +kernel) (by decide) hc⟩
 ·exact⟨2,by omega,hD,base_any 112 (by decide +kernel) (by decide) hc⟩
 ·exact⟨3,by omega,hD,base_any 48 (by decide +kernel) (by decide) hc⟩
theorem back_hyp(H:Prov32){ns:List Node}{ds:List Dev}(hc:Zk ns ds=0)(h6:ns.length=6)(hds:0<ds.length∧ds.length≤9){od1 od2:List Nat}(hN:NetOK ds od1 od2)(hea:∀ d∈ds,d.kind=4→d.a=2∨d.a=3)
  {B:List Int} (hB:Val12 ds.length B) (hm7:(movs ds 0 []).length≤7) {cl:List (List Nat)} (hcl:colsF ds B (movs ds 0 [])=cl) {ts:List Nat} (hnr:nearB cl ts=true) {t:Nat} (ht:t∈ts) (ht7:t<2 ^ (movs ds 0 []).length) {st:List Int} (hst0:Zi B (movs ds 0 []) t=st) (z:List Nat) (hz:ZOK ns z):BckHyp ns ds st z:=by
 have hms:∀ m∈movs ds 0 [],m<ds.length:=fun m hm=>(Yv hm).1
 have hst:StOK ds st:=by rw[← hst0];exact ZJ hB hms t _
 have hlE:ZF ns ds []=0:=by simp[ZF,hc,lkG]
 have hg:GOK ns ds 0 [] [] st:=⟨by decide,hlE,by simp,rfl,by omega,fun k hk=>by cases hk⟩
 have hz6:∀ g∈z,g<6:=fun g hg=>by have:=hz.lt g hg;omega
 by_cases hf:(schR ns ds 0 [] [] st z).depth<0
 ·exact .inl (isolateN_pure ns ds hc (by omega) st hst hds.1 0 [] [] hg z hz 1 hf)
 ·right
  have hf0:0≤(schR ns ds 0 [] [] st z).depth:=by omega
  have hd8:=depth_le hc h6 hN hst z hz6 hf0
  have hinv:=(YI (ZS ns ds [] [3,5]) (goalB ns ds z) (goalC ns ds z st) st (movs ds 0 [])).inv
  have h00:PO.at_ (schR ns ds 0 [] [] st z).out 0=0:=((hinv.found hf0).zero 0).2 rfl
  have hms6:(schR ns ds 0 [] [] st z).depth≤(2 ^ (movs ds 0 []).length:Nat):=by
   obtain⟨g,gs,hgs⟩:=List.exists_cons_of_ne_nil (hinv.found hf0).some_
   have hg:=((hinv.found hf0).goal g (by rw[hgs];simp)).2
   have:=(YI (ZS ns ds [] [3,5]) (goalB ns ds z) (goalC ns ds z st) st (movs ds 0 [])).b g
   rw[hg] at this
   exact this
  obtain⟨b,hch,hgb,hlen⟩:=PO.find_chain hinv hf0 (2 ^ (movs ds 0 []).length+1) 0 (PO.good_start hinv hf0) (by
   show (schR ns ds 0 [] [] st z).depth - PO.at_ (schR ns ds 0 [] [] st z).out 0<_
   rw[h00]
   have h9:∀ (M:Nat) (x:Int),x≤(M:Int)→x - 0<((M+1:Nat):Int):=fun M x h=>by omega
   exact h9 _ _ hms6)
  obtain⟨l,hl⟩:∃ l,findP (ZS ns ds [] [3,5]) (goalB ns ds z) (goalC ns ds z st) st (movs ds 0 [])=l:=⟨_,rfl⟩
  have hops:schP ns ds 0 [] [] st z=l.map fun p=>opA st (movs ds 0 []) p.1 p.2:=by unfold schP;rw[hl]
  have hch2:PO.Chain (nxV (ZS ns ds [] [3,5]) st (movs ds 0 [])) 0 l b:=by rw[← hl];exact hch
  have hb7:=chain_lt l 0 b (Nat.pow_pos (by decide)) hch2
  have hll:l.length≤8:=by
   have:((l.length:Nat):Int)=(schR ns ds 0 [] [] st z).depth - PO.at_ (schR ns ds 0 [] [] st z).out 0:=by rw[← hl];exact hlen
   rw[h00] at this
   omega
  obtain⟨⟨pr',fd',hpr,hrun⟩,hbe,hsok⟩:=chain_run H hc h6 hst hea l 0 b hch2 0 [] [] (.inl rfl)
  rw[state_zero] at hrun hbe
  obtain⟨F,hFe⟩:∃ F,Zi st (movs ds 0 []) b=F:=⟨_,rfl⟩
  have hF:StOK ds F:=by rw[← hFe];exact ZJ hst hms b _
  have hFB:Zi B (movs ds 0 []) (t ^^^ b)=F:=by rw[← hFe,← hst0];exact (state_comp hB hms (movs_nodup ds 0 []) t b).symm
  rw[hFe] at hrun hbe
  obtain⟨w1,w2,w3⟩:=want_facts (n:=ns.length) z hF
  have hiso:=isolateS_pure ns ds hc (by omega) st hst hds.1 0 [] [] hg z hz 1 hf0
  rw[hops,hbe] at hiso
  obtain⟨W,hW⟩:∃ W,wantLks ns.length ds z [] F=W:=⟨_,rfl⟩
  rw[hW] at hiso w1 w2 w3
  obtain⟨L,r1,⟨key',r2⟩,r3,_,_,_⟩:=lock_run hc (by omega) 0 [] hF pr' fd' W ([]++ZD ds (l.map fun (p:Nat×Nat)=>opA st (movs ds 0 []) p.1 p.2)).length 1 [] (by omega) (by omega) (by simp;omega) w3 w2 (fun y hy=>by cases hy)
   ⟨List.Pairwise.nil,(fun x hx=>by cases hx),(fun x hx=>by cases hx),(fun x hx=>by cases hx)⟩
  have hall:=hrun.append (by rw[Nat.zero_add];rw[List.nil_append] at r1;exact r1)
  have hsl:=stepsF_len ds (l.map fun (p:Nat×Nat)=>opA st (movs ds 0 []) p.1 p.2) (l.map fun (p:Nat×Nat)=>opA st (movs ds 0 []) p.1 p.2).length
  rw[List.take_length,List.length_map] at hsl
  obtain⟨ss,hss⟩:∃ ss,ZD ds (l.map fun (p:Nat×Nat)=>opA st (movs ds 0 []) p.1 p.2)++lockS 1 W=ss:=⟨_,rfl⟩
  have hssl:ss.length≤64:=by rw[← hss,List.length_append,lockS_len];omega
  rw[hss] at hall hiso
  obtain⟨T,t0,t1,hT⟩:=hall.ok rfl hssl
  have hstp:∀ s∈ss,StpOK ns.length ds.length s:=by
   intro s hs
   rw[← hss] at hs
   rcases List.mem_append.1 hs with hs|hs
   ·exact hsok s hs
   ·obtain⟨u,hu,j,hj,rfl⟩:=lockS_mem W 1 s hs
    obtain⟨i,e1,e2,_,_⟩:=(w3 u hu).at_
    rw[e1]
    exact stp_lock e2 (w3 u hu).pos (by omega)
  have hrI:=fun nm=>run_imp ns ds hc (by omega) hds.1 st hst 0 (by decide) nmI (by decide) nameI_ok ss hssl hstp [] (by simp) T t0 hT nm
  rw[t1] at hrI
  have hLl:L.length=W.length:=by rw[r3];simp
  refine⟨ss,fd',L,pr',F,?_,hrI,hF,by rw[hF.1,hst.1],?_⟩
  ·have e1:keyBad 1 W.length=false:=by unfold keyBad;simp;omega
   have e2:clashB 1 [] W.length=false:=by unfold clashB;simp
   have e3:(decide (64<ss.length)||decide (128<([]:List Lk).length+W.length))=false:=by simp;omega
   unfold isoD at hiso
   rw[e1,e2,e3] at hiso
   exact hiso
  ·exact half_back hc h6 hds hea hB hm7 hcl hnr ht ht7 (Nat.xor_lt_two_pow ht7 hb7) hst0 hFB r2 (by omega) hpr
theorem top_back(H:Prov32)(l:List Int):Pure Tryz.prog G0 5 [.sl (Zb l)] (.bool true):=by
 refine back_main l (fun hl=>?_)
 have hd:=newDk_ok l hl
 obtain⟨c0,c1,c2,c3,c4,c5,hc,hN⟩:=bayN_shape (Yp l)
 obtain⟨k,hk,hD,x2,t,hx,ht,hS⟩:=bay_base (Yp l)
 obtain⟨cl,hnk⟩:=near_all hk hx
 have h6:(bayN (Yp l)).length=6:=by rw[hN];rfl
 have hck:Zk (bayN (Yp l)) (bayD (Yp l))=0:=by rw[hN,hD];exact net_check k hc
 obtain⟨z,z1,z2,z3,z4⟩:=zone_shape (bayK (Yp l)) (bayN (Yp l)) h6
 rw[hD] at hck
 have hms:∀ m∈movs (Zz k) 0 [],m<(Zz k).length:=fun m hm=>(Yv hm).1
 have hSo:StOK (Zz k) (bayS (Yp l)):=by rw[← hS];exact ZJ hnk.val hms t _
 refine⟨z,z1,z2,z3,z4,by rw[hD];exact hck,h6,by rw[hD];exact (net_len k).1,by rw[hD];exact (net_len k).2,by rw[hD];exact hSo,bayK_ok hd,?_⟩
 rw[hD]
 exact back_hyp H hck h6 ⟨by have:=(net_len k).1;omega,(net_len k).2⟩ (net_ok k) (net_ea k) hnk.val hnk.len hnk.cols hnk.near ht (hnk.lt t ht) hS z z4
end
end Go.Proofs.YtjdgofpcmcobnaaGreatDoor.AL

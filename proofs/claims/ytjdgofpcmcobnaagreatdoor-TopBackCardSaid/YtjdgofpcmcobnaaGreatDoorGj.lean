/-
  Contracts: plans, grounds, locks that are added.
-/
import Derived.Test.YtjdgofpcmcobnaaGreatDoorGi
import Derived.Test.YtjdgofpcmcobnaaGreatDoorGf
set_option maxRecDepth 100000
set_option maxHeartbeats 2000000
attribute [local simp] Go.Proofs.YtjdgofpcmcobnaaGreatDoor.AL.onesD Go.Proofs.YtjdgofpcmcobnaaGreatDoor.AL.oneD
set_option linter.unusedVariables false
set_option linter.unusedSimpArgs false
namespace Go.Proofs.YtjdgofpcmcobnaaGreatDoor.AL
section
open Go Go.RowKit
def movN(ds:List Dev)(c:Int)(l:List Lk)(k:Nat):List Nat:=(List.range k).filter (movB ds c l)
theorem nats_movN(ds:List Dev)(c:Int)(l:List Lk):∀ k,nats (movN ds c l k)=supN (movB ds c l) k
 | 0=>rfl
 | k+1=>by
  unfold movN supN
  rw[List.range_succ,List.filter_append,YH,← nats_movN ds c l k]
  unfold movN
  congr 1
  by_cases h:movB ds c l k=true
  ·simp[h,Zw]
  ·simp[h]
abbrev movs(ds:List Dev)(c:Int)(l:List Lk):List Nat:=movN ds c l ds.length
theorem Yv{ds:List Dev}{c:Int}{l:List Lk}{m:Nat}(h:m∈movs ds c l):m<ds.length∧∀ d,ds[m]? = some d→(1≤d.kind∧d.kind≤6∧d.kind≠5)∧d.kind≠1∧d.comp=c∧∀ x∈l,x.dev≠m:=by
 obtain⟨h1,h2⟩:=List.mem_filter.1 h
 have hm:m<ds.length:=by simpa using h1
 refine⟨hm,fun d hd=>?_⟩
 unfold movB at h2
 rw[hd] at h2
 simp only[Bool.and_eq_true,operB,bne_iff_ne,beq_iff_eq,decide_eq_true_eq,Bool.not_eq_true',List.any_eq_false] at h2
 obtain⟨⟨⟨⟨⟨a1,a2⟩,a3⟩,a4⟩,a5⟩,a6⟩:=h2
 exact⟨⟨a1,a2,a3⟩,a4,a5,a6⟩
abbrev prClo(ns:List Node)(ds:List Dev)(c:Int)(l:List Lk)(pr but:List Int):List D:=[.vp [nsD ns,dsD ds],.vp [.int .i64 c,.sl (l.map Zm),.sl (Zb pr)],.vp [.sl (Zb but)]]
theorem prClo_clo(ns:List Node)(ds:List Dev)(c:Int)(l:List Lk)(pr but:List Int):Clo (prClo ns ds c l pr but):=by exact⟨fun g k=>by simp[mapO,Zy],fun n=>by simp[D.los,D.lo],by simp[ZB,ZA]⟩
structure GOK(ns:List Node)(ds:List Dev)(c:Int)(l:List Lk)(pr:List Int)(st:List Int):Prop where
 c0:0≤c∧c≤7
 lk:ZF ns ds l=0
 pl:pr.length≤1000
 ri:risG ns.length (-1) pr=true
 mv:(movs ds c l).length≤10
 dv:∀ k∈l,0≤k.dev∧k.dev<st.length∧PO.at_ st k.dev.toNat=k.pos
theorem problem_pure(ns:List Node)(ds:List Dev)(hc:Zk ns ds=0)(hn:1≤ns.length)(st:List Int)(hs:StOK ds st)(c:Int)(l:List Lk)(pr:List Int)(hg:GOK ns ds c l pr st)(but:List Int):Pure Tryz.prog G0 52 [netD ns ds,.sl (Zb st),gndD c l pr,.sl (Zb but)] (.tup [.agg [.sl (Zb st),.sl (Zb (nats (movs ds c l))),.fn (.func 87) [] (prClo ns ds c l pr but)],.int .i64 0]):=by
 refine Zh Tryz.func52 rfl Tryz.ntmps52 ?_
 have hmv:movL ds c l=nats (movs ds c l):=(nats_movN ds c l ds.length).symm
 have hml:(movL ds c l).length≤10:=by rw[hmv,nats_len];exact hg.mv
 have hmp:=moves_pure ns ds c l pr hg.c0 hg.lk (by have:=hg.pl;omega) hg.ri hml
 rw[hmv] at hmp
 obtain⟨e1,e2,e3⟩:=locks_0 hg.lk
 have hdf:=differs_pure c l (by omega) pr st (fun k hk=>⟨(hg.dv k hk).1,(hg.dv k hk).2.1⟩)
 have hda:(l.any fun k=>PO.at_ st k.dev.toNat != k.pos)=false:=by rw[List.any_eq_false];intro k hk;simp[(hg.dv k hk).2.2]
 rw[hda] at hdf
 refine R0 ?_
 refine R6 [.p ⟨_,_,_,hmp⟩] ?_
 refine Zd (fun K0_1 hK0_1=>?_)
 refine R0 ?_
 refine fl_F ?_
 refine R6 [.p ⟨_,_,_,hdf⟩] ?_
 refine fl_F ?_
 refine Zc (hK0_1 _ _ _ ?_)
 refine R0 ?_
 refine R0 ?_
 refine Za ?_
 simp
def ZS(ns:List Node)(ds:List Dev)(pr but:List Int):List Int→Opr→Bool:=fun s o=>!((hazL ns ds s pr o.dev.toNat o.pos).any fun h=>!(ins but h))
theorem perm_pure(ns:List Node)(ds:List Dev)(hc:Zk ns ds=0)(hn:1≤ns.length)(c:Int)(l:List Lk)(pr:List Int)(st:List Int)(hg:GOK ns ds c l pr st)(but:List Int)(hb:but.length≤1000)(s:List Int)(hs:Val12 ds.length s)(d:Nat)(hd:d∈movs ds c l) :
  Pure Tryz.prog G0 87 ([]++.sl (Zb s)::.agg (Yl ⟨(d:Int),3 - PO.at_ s d⟩)::prClo ns ds c l pr but) (.bool (ZS ns ds pr but s ⟨(d:Int),3 - PO.at_ s d⟩)):=by
 obtain⟨h1,h2⟩:=Yv hd
 obtain⟨e1,e2,e3⟩:=locks_0 hg.lk
 have hv:=hs.at_ h1
 exact prob1_pure ns ds hc hn s hs c l pr hg.pl ⟨(d:Int),3 - PO.at_ s d⟩ d ⟨h1,rfl,by show 3 - _=1∨3 - _=2;omega,by show _≠3 - _;omega,fun x hx=>⟨(h2 x hx).2.1,(h2 x hx).2.2.1⟩,fun x hx=>(h2 _ (show ds[d]? = some ds[d] by simp[h1])).2.2.2 x hx,by omega,hg.c0⟩ but hb
def goalB(ns:List Node)(ds:List Dev)(zs:List Nat)(s:List Int):Bool:=secureB ns.length ds zs (Zo ds s)
def goalC(ns:List Node)(ds:List Dev)(zs:List Nat)(st s:List Int):Int:=if goalB ns ds zs s=true then custF ns (lostL (supL ns ds st) (supL ns ds s)) else 0
abbrev goClo(ns:List Node)(ds:List Dev)(zs:List Nat)(st:List Int):List D:=[.vp [nsD ns,dsD ds],.vp [.sl (Zb (nats zs))],.vp [.sl (Zb st)]]
theorem goal_pure(ns:List Node)(ds:List Dev)(hc:Zk ns ds=0)(hn:1≤ns.length)(st:List Int)(hs:StOK ds st)(zs:List Nat)(hz:ZOK ns zs)(s:List Int)(ht:Val12 ds.length s):Pure Tryz.prog G0 57 [.sl (Zb s),.vp [nsD ns,dsD ds],.vp [.sl (Zb (nats zs))],.vp [.sl (Zb st)]] (.tup [.int .i64 (goalC ns ds zs st s),.bool (goalB ns ds zs s)]):=by
 refine Zh Tryz.func57 rfl Tryz.ntmps57 ?_
 refine R0 ?_
 rcases bf_ (secureB ns.length ds zs (Zo ds s)) with h1_13|h1_13
 ·refine R2 [.p ⟨_,_,_,secured_pure ns ds hc zs hz s ht⟩] (by simp[h1_13];first|exact F3|exact F4) ?_
  refine fl_F ?_
  refine R6 [.p ⟨_,_,_,lost_pure ns ds hc hn st hs s ht⟩] ?_
  refine R0 ?_
  refine Za ?_
  simp[goalC,goalB,h1_13]
 ·refine R2 [.p ⟨_,_,_,secured_pure ns ds hc zs hz s ht⟩] (by simp[h1_13];first|exact F3|exact F4) ?_
  refine fl_T ?_
  refine R0 ?_
  refine Za ?_
  simp[goalC,goalB,h1_13]
theorem pr_ok{ns:List Node}{ds:List Dev}{c:Int}{l:List Lk}{pr st:List Int}(hc:Zk ns ds=0)(hg:GOK ns ds c l pr st)(hs:StOK ds st)(hd:0<ds.length):PrOK ds.length st (movs ds c l) :=
 ⟨hs,hd,by have:=(Zj hc).2.1;omega,fun m hm=>(Yv hm).1,hg.mv⟩
abbrev schR(ns:List Node)(ds:List Dev)(c:Int)(l:List Lk)(pr st:List Int)(zs:List Nat):PO.RS:=reachR (ZS ns ds pr [3,5]) (goalB ns ds zs) (goalC ns ds zs st) st (movs ds c l)
def schP(ns:List Node)(ds:List Dev)(c:Int)(l:List Lk)(pr st:List Int)(zs:List Nat):List Opr:=(findP (ZS ns ds pr [3,5]) (goalB ns ds zs) (goalC ns ds zs st) st (movs ds c l)).map fun p=>opA st (movs ds c l) p.1 p.2
theorem searchS_pure(ns:List Node)(ds:List Dev)(hc:Zk ns ds=0)(hn:1≤ns.length)(st:List Int)(hs:StOK ds st)(hd:0<ds.length)(c:Int)(l:List Lk)(pr:List Int)(hg:GOK ns ds c l pr st)(zs:List Nat)(hz:ZOK ns zs)(hf:0≤(schR ns ds c l pr st zs).depth):Pure Tryz.prog G0 29 [netD ns ds,.sl (Zb st),gndD c l pr,.sl (Zb (nats zs))] (.tup [.sl ((schP ns ds c l pr st zs).map Yl),.int .i64 0]):=by
 refine Zh Tryz.func29 rfl Tryz.ntmps29 ?_
 have hpo:=pr_ok hc hg hs hd
 have hpm:∀ s,Val12 ds.length s→∀ d∈movs ds c l,_:=fun s hs d hd=>perm_pure ns ds hc hn c l pr st hg [3,5] (by simp) s hs d hd
 have hgo:∀ s,Val12 ds.length s→_:=fun s ht=>goal_pure ns ds hc hn st hs zs hz s ht
 have hfd:=findS_pure ds.length st (movs ds c l) hpo 87 [] (prClo ns ds c l pr [3,5]) ZH (prClo_clo _ _ _ _ _ _) (ZS ns ds pr [3,5]) hpm 57 [] (goClo ns ds zs st) ZH (by exact⟨fun g k=>by simp[mapO,Zy],fun n=>by simp[D.los,D.lo],by simp[ZB,ZA]⟩) (goalB ns ds zs) (goalC ns ds zs st) hgo hf
 have hpr:=problem_pure ns ds hc hn st hs c l pr hg [3,5]
 have hbt:[[D.int .i64 3],[D.int .i64 5]]=Zb [3,5]:=rfl
 refine R0 ?_
 refine R6 [.p ⟨_,_,_,Y3 ns ds st hc hs⟩] ?_
 refine R0 ?_
 refine fl_F ?_
 refine R [.p ⟨_,_,_,hpr⟩] (by simp[hbt,show ([15]:List Nat).eraseDups=[15] from rfl];first|exact F3|exact F4) (by exact Le.refl _) ?_
 refine R0 ?_
 refine fl_T ?_
 refine R6 [.p ⟨_,_,_,zcheck_ok ns ds hc zs hz⟩] ?_
 refine R0 ?_
 refine fl_F ?_
 refine R6 [.p ⟨_,_,_,hfd⟩] ?_
 refine R0 ?_
 refine fl_F ?_
 refine R0 ?_
 refine Za ?_
 simp[schP]
theorem searchN_pure(ns:List Node)(ds:List Dev)(hc:Zk ns ds=0)(hn:1≤ns.length)(st:List Int)(hs:StOK ds st)(hd:0<ds.length)(c:Int)(l:List Lk)(pr:List Int)(hg:GOK ns ds c l pr st)(zs:List Nat)(hz:ZOK ns zs)(hf:(schR ns ds c l pr st zs).depth<0):Pure Tryz.prog G0 29 [netD ns ds,.sl (Zb st),gndD c l pr,.sl (Zb (nats zs))] (.tup [.sl [],.int .i64 15]):=by
 refine Zh Tryz.func29 rfl Tryz.ntmps29 ?_
 have hpo:=pr_ok hc hg hs hd
 have hpm:∀ s,Val12 ds.length s→∀ d∈movs ds c l,_:=fun s hs d hd=>perm_pure ns ds hc hn c l pr st hg [3,5] (by simp) s hs d hd
 have hgo:∀ s,Val12 ds.length s→_:=fun s ht=>goal_pure ns ds hc hn st hs zs hz s ht
 have hfd:=findN_pure ds.length st (movs ds c l) hpo 87 [] (prClo ns ds c l pr [3,5]) ZH (prClo_clo _ _ _ _ _ _) (ZS ns ds pr [3,5]) hpm 57 [] (goClo ns ds zs st) ZH (by exact⟨fun g k=>by simp[mapO,Zy],fun n=>by simp[D.los,D.lo],by simp[ZB,ZA]⟩) (goalB ns ds zs) (goalC ns ds zs st) hgo hf
 have hpr:=problem_pure ns ds hc hn st hs c l pr hg [3,5]
 have hbt:[[D.int .i64 3],[D.int .i64 5]]=Zb [3,5]:=rfl
 refine R0 ?_
 refine R6 [.p ⟨_,_,_,Y3 ns ds st hc hs⟩] ?_
 refine R0 ?_
 refine fl_F ?_
 refine R [.p ⟨_,_,_,hpr⟩] (by simp[hbt,show ([15]:List Nat).eraseDups=[15] from rfl];first|exact F3|exact F4) (by exact Le.refl _) ?_
 refine R0 ?_
 refine fl_T ?_
 refine R6 [.p ⟨_,_,_,zcheck_ok ns ds hc zs hz⟩] ?_
 refine R0 ?_
 refine fl_F ?_
 refine R6 [.p ⟨_,_,_,hfd⟩] ?_
 refine R0 ?_
 refine fl_T ?_
 refine R0 ?_
 refine Za ?_
 simp;exact le_tup ⟨Le.nils,Le.refl _,trivial⟩
end
section
open Go Go.RowKit
def Yi(st:List Int)(ops:List Opr):List Int:=ops.foldl (fun s o=>s.set o.dev.toNat o.pos) st
@[simp] theorem behindF_len:∀ (ops:List Opr) (st:List Int),(Yi st ops).length=st.length
 | [],_=>rfl
 | o::ops,st=>by show (Yi (st.set o.dev.toNat o.pos) ops).length=_;rw[behindF_len ops];simp
theorem behindF_take(st:List Int)(ops:List Opr)(k:Nat)(o:Opr)(h:ops[k]? = some o):Yi st (ops.take (k+1))=(Yi st (ops.take k)).set o.dev.toNat o.pos:=by
 rw[List.take_add_one,h]
 unfold Yi
 rw[List.foldl_append]
 rfl
theorem behind_pure(st:List Int)(hl:st.length≤1000)(h0:st≠[])(ops:List Opr)(hn:ops.length≤2000)(hop:∀ o∈ops,0≤o.dev∧o.dev<st.length):Pure Tryz.prog G0 31 [.sl (Zb st),.sl (ops.map Yl)] (.sl (Zb (Yi st ops))):=by
 refine Zh Tryz.func31 rfl Tryz.ntmps31 ?_
 have htk:(Zb (Yi st ops)).take st.length=Zb (Yi st ops):=List.take_of_length_le (by simp)
 refine R0 ?_
 refine R [.b ⟨_,_,_,_,_,_,Z4 st (by omega) h0 2⟩] (by simp;first|exact F3|exact F4) (by first|exact Zs _|exact Zq _|exact Zt _|trivial|omega|(simp;done)|(simp;omega)) ?_
 refine R0 ?_
 refine Zd (fun K0_1 hK0_1=>?_)
 refine Zg (X:=Nat) [5,10,11] [2] (fun x=>[(12,.int .i64 x)]) (fun x=>[(2,.arr 1 (Zb (Yi st (ops.take x))))]) (fun x=>x≤ops.length) (fun x=>ops.length - x) 0 (by simp) (by simp[Yi]) ?_
 simp only[KN,keep,but,reduceIte,Nat.reduceEqDiff,Nat.reduceBEq]
 rintro k hlek KL2 hKL2
 refine R0 ?_
 refine fl_C (fun c3=>?_) (fun c3=>?_)
 ·have hlt:k<ops.length:=by simpa using c3
  have hkk:ops[k]? = some ops[k]:=by simp[hlt]
  have hd:=Lib.hid (List.drop_eq_getElem_cons hlt)
  have ho:=hop ops[k] (List.getElem_mem hlt)
  have hbt:=behindF_take st ops k ops[k] (by simp[hlt])
  generalize ops[k]=o at *
  refine Zd (fun K1_3 hK1_3=>?_)
  refine R2 [] (by simp[hkk];first|exact F3|exact F4) ?_
  obtain⟨i,hi⟩:∃ i:Nat,o.dev=i:=⟨_,(Int.toNat_of_nonneg ho.1).symm⟩
  have hil:i<st.length:=by omega
  refine R2 [] (by simp[hi,hil,hkk];first|exact F3|exact F4) ?_
  refine Zc (hK1_3 _ _ _ ?_)
  refine R2 [] (by simp[hkk];(try simp (disch:=omega) only[w64]);first|exact F3|exact F4) ?_
  exact hKL2 _ _ _ (k+1) (by omega) (by omega) (by simp[hbt,hi,setI])
 ·have hge:ops.length≤k:=by simpa using c3
  have hke:k=ops.length:=by have:k≤ops.length:=hlek;omega
  have hdn:=Lib.hid (List.drop_of_length_le hge)
  refine Ze (show K0_1 _ _ _ from hK0_1 _ _ _ ?_)
  refine R0 ?_
  refine Za ?_
  simp[hke,htk]
structure Stp where
 knd:Int
 dev:Int
 nod:Int
 pos:Int
 key:Int
@[simp] def Zr(s:Stp):List D:=[.int .i64 s.knd,.int .i64 s.dev,.int .i64 s.nod,.int .i64 s.pos,.int .i64 s.key]
def ZV(ds:List Dev)(o:Opr):List Stp:=if (o.pos==1)=true then [⟨1,o.dev,0,0,0⟩] else match ds[o.dev.toNat]? with
 | none=>[]
 | some d=>(if (d.kind==4)=true then [⟨5,0,d.a,0,0⟩] else [])++[⟨2,o.dev,0,0,0⟩]
def ZD(ds:List Dev)(ops:List Opr):List Stp:=ops.flatMap (ZV ds)
theorem stepsF_take(ds:List Dev)(ops:List Opr)(k:Nat)(o:Opr)(h:ops[k]? = some o):ZD ds (ops.take (k+1))=ZD ds (ops.take k)++ZV ds o:=by
 rw[List.take_add_one,h]
 simp[ZD]
theorem stepsO_len(ds:List Dev)(o:Opr):(ZV ds o).length≤2:=by
 unfold ZV
 split
 ·simp
 ·split
  ·simp
  ·split<;>simp
theorem stepsF_len(ds:List Dev):∀ (ops:List Opr) (k:Nat),(ZD ds (ops.take k)).length≤2*k
 | [],k=>by simp[ZD]
 | o::ops,0=>by simp[ZD]
 | o::ops,k+1=>by
  have h1:=stepsF_len ds ops k
  have h2:=stepsO_len ds o
  unfold ZD at h1 ⊢
  simp only[List.take_succ_cons,List.flatMap_cons,List.length_append]
  omega
theorem steps_imp(ns:List Node)(ds:List Dev)(hc:Zk ns ds=0)(ops:List Opr)(hn:ops.length≤2000)(hop:∀ o∈ops,0≤o.dev∧o.dev<ds.length)(nm:Nat):Imp Tryz.prog G0 32 [netD ns ds,.sl (ops.map Yl)] [] nm (.os nm (ZD ds ops).length 0 (ZD ds ops).length) [(nm,some (.arr 5 ((ZD ds ops).map Zr)))]:=by
 refine ZC (gl:=[]) (nx1:=0) Tryz.func32 rfl Tryz.ntmps32 ?_
 refine R0 ?_
 refine R0 ?_
 refine R0 ?_
 refine Zd (fun K0_1 hK0_1=>?_)
 refine Yf 5 5 (by simp) ?_
 refine Zg (X:=Nat) [2,9,10] [6] (fun x=>[(11,.int .i64 x),(5,.os 6 (ZD ds (ops.take x)).length 0 (ZD ds (ops.take x)).length)]) (fun x=>[(6,.arr 5 ((ZD ds (ops.take x)).map Zr))]) (fun x=>x≤ops.length) (fun x=>ops.length - x) 0 (by simp) (by simp[ZD]) ?_
 simp only[KN,keep,but,reduceIte,Nat.reduceEqDiff,Nat.reduceBEq]
 rintro k hlek KL2 hKL2
 refine R0 ?_
 refine fl_C (fun c3=>?_) (fun c3=>?_)
 ·have hlt:k<ops.length:=by simpa using c3
  have hkk:ops[k]? = some ops[k]:=by simp[hlt]
  have hd:=Lib.hid (List.drop_eq_getElem_cons hlt)
  have ho:=hop ops[k] (List.getElem_mem hlt)
  have hbt:=stepsF_take ds ops k ops[k] (by simp[hlt])
  have hfl:=stepsF_len ds ops k
  generalize ops[k]=o at *
  refine Zd (fun K1_3 hK1_3=>?_)
  refine R2 [] (by simp[hkk];first|exact F3|exact F4) ?_
  obtain⟨i,hi⟩:∃ i:Nat,o.dev=i:=⟨_,(Int.toNat_of_nonneg ho.1).symm⟩
  have hil:i<ds.length:=by omega
  obtain⟨d,hkd⟩:∃ d,ds[i]=d:=⟨_,rfl⟩
  have hkk2:ds[i]? = some d:=by simp[hil,hkd]
  refine R2 [] (by simp[hi,hil,hkk2,hkd,hkk];first|exact F3|exact F4) ?_
  refine R2 [] (by simp[hkk];first|exact F3|exact F4) ?_
  refine Zn (b:=o.pos==1) (by simp) (fun c6=>?_) (fun c6=>?_)
  ·refine R2 [] (by simp[hkk];first|exact F3|exact F4) ?_
   refine Ze (show K1_3 _ _ _ from hK1_3 _ _ _ ?_)
   refine R2 [] (by simp[hkk];(try simp (disch:=omega) only[w64]);first|exact F3|exact F4) ?_
   exact hKL2 _ _ _ (k+1) (by omega) (by omega) (by simp[hbt,ZV,hi,hkk2,hkk,hd.out,c6])
  ·refine R2 [] (by simp[hkk];first|exact F3|exact F4) ?_
   refine Zn (b:=d.kind==4) (by simp[hkd]) (fun c8=>?_) (fun c8=>?_)
   ·refine R2 [] (by simp[hkd,hkk];first|exact F3|exact F4) ?_
    refine R2 [] (by simp[hkk];first|exact F3|exact F4) ?_
    refine Zc (hK1_3 _ _ _ ?_)
    refine R2 [] (by simp[hkk];(try simp (disch:=omega) only[w64]);first|exact F3|exact F4) ?_
    exact hKL2 _ _ _ (k+1) (by omega) (by omega) (by simp[hbt,ZV,hi,hkk2,hkk,hd.out,c6,c8])
   ·refine R2 [] (by simp[hkk];first|exact F3|exact F4) ?_
    refine Zc (hK1_3 _ _ _ ?_)
    refine R2 [] (by simp[hkk];(try simp (disch:=omega) only[w64]);first|exact F3|exact F4) ?_
    exact hKL2 _ _ _ (k+1) (by omega) (by omega) (by simp[hbt,ZV,hi,hkk2,hkk,hd.out,c6,c8])
 ·have hge:ops.length≤k:=by simpa using c3
  have hke:k=ops.length:=by have:k≤ops.length:=hlek;omega
  have hdn:=Lib.hid (List.drop_of_length_le hge)
  refine Ze (show K0_1 _ _ _ from hK0_1 _ _ _ ?_)
  refine R0 ?_
  refine Za ?_
  refine⟨.inr rfl,6,?_⟩
  simp[hke]
theorem isolate1_pure(x:Lk)(key i:Int):Pure Tryz.prog G0 34 [.agg (Zm x),.vp [.int .i64 key],.vp [.int .i64 i]] (.bool (x.key==IntKind.i64.wrap (key+i))):=by
 refine Zh Tryz.func34 rfl Tryz.ntmps34 ?_
 refine R0 ?_
 refine R1 ?_
 refine Za ?_
 simp
end
section
open Go Go.RowKit
theorem ed1(n:Nat):[n].eraseDups=[n]:=rfl
theorem filt_take{α:Type}(p:α→Bool)(l:List α)(k:Nat)(x:α)(h:l[k]? = some x):(l.take (k+1)).filter p=(l.take k).filter p++(if p x=true then [x] else []):=by
 rw[List.take_add_one,h,List.filter_append]
 cases hp:p x<;>simp[hp]
theorem filt_len{α:Type}(p:α→Bool)(l:List α)(k:Nat):((l.take k).filter p).length≤k:=Nat.le_trans (List.length_filter_le _ _) (by simp;omega)
def wantA(l:List Lk)(pt:List Int)(u:Lk):Bool:=!(l.any fun y=>y.dev==u.dev)&&ins pt u.dev
def wantB(ds:List Dev)(l:List Lk)(pt ce:List Int)(u:Lk):Bool:=!(l.any fun y=>y.dev==u.dev)&&!(ins pt u.dev)&&((u.pos==2)&&ins ce ((ds.map (·.a)).getD u.dev.toNat 0))
def wantLks(n:Nat)(ds:List Dev)(zs:List Nat)(l:List Lk)(st:List Int):List Lk :=
 (Zo ds st).filter (wantA l (pointsL n ds zs (Zo ds st)))++(Zo ds st).filter (wantB ds l (pointsL n ds zs (Zo ds st)) (countedL n ds zs (Zo ds st)))
theorem wanted_pure(ns:List Node)(ds:List Dev)(hc:Zk ns ds=0)(zs:List Nat)(hz:ZOK ns zs)(st:List Int)(hs:StOK ds st)(c:Int)(l:List Lk)(pr:List Int)(hl:l.length≤128):Pure Tryz.prog G0 30 [netD ns ds,.sl (Zb st),gndD c l pr,.sl (Zb (nats zs))] (.sl ((wantLks ns.length ds zs l st).map Zm)):=by
 refine Zh Tryz.func30 rfl Tryz.ntmps30 ?_
 have hpt:=points_pure ns ds hc zs hz (Zo ds st) (locksL_ok hc hs)
 have hct:=counted_pure ns ds hc zs hz (Zo ds st) (locksL_ok hc hs)
 have hwl:wantLks ns.length ds zs l st=(Zo ds st).filter (wantA l (pointsL ns.length ds zs (Zo ds st)))++(Zo ds st).filter (wantB ds l (pointsL ns.length ds zs (Zo ds st)) (countedL ns.length ds zs (Zo ds st))):=rfl
 have hdl:=(Zj hc).2.1
 have hnl:=(Zj hc).1
 have hpl:(pointsL ns.length ds zs (Zo ds st)).length≤1000000:=by have h1:(pointsL ns.length ds zs (Zo ds st)).length≤(ZR ds (Zo ds st)).length:=List.length_filter_le _ _;have h2:=Z3 (YG gapB 1 ds (Zo ds st)) ds.length;unfold ZR at h1;omega
 have hcl:(countedL ns.length ds zs (Zo ds st)).length≤1000000:=by have:=countedL_len ns.length ds zs (Zo ds st);omega
 generalize pointsL ns.length ds zs (Zo ds st)=pt at *
 generalize countedL ns.length ds zs (Zo ds st)=ce at *
 have hll:(Zo ds st).length≤ds.length:=locksP_len ds st ds.length
 have htk:((Zo ds st).map Zm).take (Zo ds st).length=(Zo ds st).map Zm:=List.take_of_length_le (by simp)
 have hlz:(Zo ds st=[]∧0<(Zo ds st).length)=False:=eq_false (by rintro⟨h,g⟩;rw[h] at g;simp at g)
 refine R2 [] (by simp[ed1,htk,hlz];first|exact F3|exact F4) ?_
 refine R [.b ⟨_,_,_,_,_,_,plocks_imp ns ds hc st hs 5⟩] (by simp[ed1,htk,hlz];first|exact F3|exact F4) (by first|exact Zs _|exact Zq _|exact Zt _|trivial|omega|(simp;done)|(simp;omega)) ?_
 refine YT [5] ?_
 refine R2 [.p ⟨_,_,_,hpt⟩] (by simp[ed1,htk,hlz];first|exact F3|exact F4) ?_
 refine R2 [.p ⟨_,_,_,hct⟩] (by simp[ed1,htk,hlz];first|exact F3|exact F4) ?_
 refine R2 [] (by simp[ed1,htk,hlz];first|exact F3|exact F4) ?_
 refine R2 [] (by simp[ed1,htk,hlz];first|exact F3|exact F4) ?_
 refine Zd (fun K0_1 hK0_1=>?_)
 refine Yf 14 3 (by simp) ?_
 refine Yf 15 3 (by simp) ?_
 refine Zg (X:=Nat) [4,6,10,12,36,37] [30,31] (fun x=>[(38,.int .i64 x),(14,.os 30 (((Zo ds st).take x).filter (wantA l pt)).length 0 (((Zo ds st).take x).filter (wantA l pt)).length),(15,.os 31 (((Zo ds st).take x).filter (wantB ds l pt ce)).length 0 (((Zo ds st).take x).filter (wantB ds l pt ce)).length)]) (fun x=>[(30,.arr 3 ((((Zo ds st).take x).filter (wantA l pt)).map Zm)),(31,.arr 3 ((((Zo ds st).take x).filter (wantB ds l pt ce)).map Zm))]) (fun x=>x≤(Zo ds st).length) (fun x=>(Zo ds st).length - x) 0 (by simp) (by simp) ?_
 simp only[KN,keep,but,reduceIte,Nat.reduceEqDiff,Nat.reduceBEq]
 rintro k hlek KL2 hKL2
 refine R2 [] (by simp[ed1,htk,hlz];first|exact F3|exact F4) ?_
 refine fl_C (fun c6=>?_) (fun c6=>?_)
 ·have hlt:k<(Zo ds st).length:=by simpa using c6
  have hkk:(Zo ds st)[k]? = some (Zo ds st)[k]:=by simp[hlt]
  have hd:=Lib.hid (List.drop_eq_getElem_cons hlt)
  have hta:=filt_take (wantA l pt) (Zo ds st) k (Zo ds st)[k] (by simp[hlt])
  have htb:=filt_take (wantB ds l pt ce) (Zo ds st) k (Zo ds st)[k] (by simp[hlt])
  have hfa:=filt_len (wantA l pt) (Zo ds st) k
  have hfb:=filt_len (wantB ds l pt ce) (Zo ds st) k
  obtain⟨j,hj,_,hue⟩:=(Yz ds st ds.length (Zo ds st)[k]).1 (List.getElem_mem hlt)
  generalize (Zo ds st)[k]=u at *
  refine Zd (fun K1_3 hK1_3=>?_)
  have hud:u.dev=j:=by rw[hue]
  obtain⟨d,hkd⟩:∃ d,ds[j]=d:=⟨_,rfl⟩
  have hkk2:ds[j]? = some d:=by simp[hj,hkd]
  have hga:(ds.map (·.a)).getD u.dev.toNat 0=d.a:=by rw[hud];simp[hj,hkd]
  have hwa:wantA l pt u=(!(l.any fun y=>y.dev==u.dev)&&ins pt u.dev):=rfl
  have hwb:wantB ds l pt ce u=(!(l.any fun y=>y.dev==u.dev)&&!(ins pt u.dev)&&((u.pos==2)&&ins ce ((ds.map (·.a)).getD u.dev.toNat 0))):=rfl
  rw[hga] at hwb
  refine R2 [] (by simp[ed1,htk,hlz,hkk];first|exact F3|exact F4) ?_
  refine R2 [.p ⟨_,_,_,Y6 l (by omega) (fun y=>y.dev==u.dev) 63 [] [.vp (Zm u)] ZH (by exact⟨fun g k=>by simp[mapO,Zy],fun n=>by simp[D.los,D.lo],by simp[ZB,ZA]⟩) (fun x _=>wanted1_pure x u)⟩] (by simp[ed1,htk,hlz,hkk];first|exact F3|exact F4) ?_
  refine Zd (fun K2_4 hK2_4=>?_)
  rcases bf_ (l.any fun y=>y.dev==u.dev) with h9_47|h9_47
  ·refine R2 [] (by simp[ed1,htk,hlz,hkk,h9_47];first|exact F3|exact F4) ?_
   refine fl_T ?_
   refine Zc (hK2_4 _ _ _ ?_)
   refine Zc (hK1_3 _ _ _ ?_)
   refine R2 [] (by simp[ed1,htk,hlz,hkk];(try simp (disch:=omega) only[w64]);first|exact F3|exact F4) ?_
   exact hKL2 _ _ _ (k+1) (by omega) (by omega) (by simp[hta,htb,hwa,hwb,hud.symm,hkk,hd.out,h9_47])
  ·refine R2 [] (by simp[ed1,htk,hlz,hkk,h9_47];first|exact F3|exact F4) ?_
   refine fl_F ?_
   rcases bf_ (ins pt u.dev) with h10_52|h10_52
   ·refine R2 [.p ⟨_,_,_,ZG pt hpl u.dev⟩] (by simp[ed1,htk,hlz,hkk,h10_52];first|exact F3|exact F4) ?_
    refine fl_T ?_
    refine R2 [] (by simp[ed1,htk,hlz,hkk];first|exact F3|exact F4) ?_
    refine Zc (hK2_4 _ _ _ ?_)
    refine Zc (hK1_3 _ _ _ ?_)
    refine R2 [] (by simp[ed1,htk,hlz,hkk];(try simp (disch:=omega) only[w64]);first|exact F3|exact F4) ?_
    exact hKL2 _ _ _ (k+1) (by omega) (by omega) (by simp[hta,htb,hwa,hwb,hud.symm,hkk,hd.out,h9_47,h10_52])
   ·refine R2 [.p ⟨_,_,_,ZG pt hpl u.dev⟩] (by simp[ed1,htk,hlz,hkk,h10_52];first|exact F3|exact F4) ?_
    refine fl_F ?_
    rcases bf_ (u.pos==2) with h12_60|h12_60
    ·rcases bf_ (ins ce d.a) with h12_70|h12_70
     ·refine R2 [.p ⟨_,_,_,ZG ce hcl d.a⟩] (by simp[ed1,htk,hlz,hud,hkk2,hkd,hj,hkk,h12_60,h12_70];first|exact F3|exact F4) ?_
      refine fl_T ?_
      refine R2 [] (by simp[ed1,htk,hlz,hkk];first|exact F3|exact F4) ?_
      refine Zc (hK2_4 _ _ _ ?_)
      refine Zc (hK1_3 _ _ _ ?_)
      refine R2 [] (by simp[ed1,htk,hlz,hkk];(try simp (disch:=omega) only[w64]);first|exact F3|exact F4) ?_
      exact hKL2 _ _ _ (k+1) (by omega) (by omega) (by simp[hta,htb,hwa,hwb,hud.symm,hkk,hd.out,h9_47,h10_52,h12_60,h12_70])
     ·refine R2 [.p ⟨_,_,_,ZG ce hcl d.a⟩] (by simp[ed1,htk,hlz,hud,hkk2,hkd,hj,hkk,h12_60,h12_70];first|exact F3|exact F4) ?_
      refine fl_F ?_
      refine Zc (hK2_4 _ _ _ ?_)
      refine Zc (hK1_3 _ _ _ ?_)
      refine R2 [] (by simp[ed1,htk,hlz,hkk];(try simp (disch:=omega) only[w64]);first|exact F3|exact F4) ?_
      exact hKL2 _ _ _ (k+1) (by omega) (by omega) (by simp[hta,htb,hwa,hwb,hud.symm,hkk,hd.out,h9_47,h10_52,h12_60,h12_70])
    ·refine R2 [] (by simp[ed1,htk,hlz,hud,hkk2,hkd,hj,hkk,h12_60];first|exact F3|exact F4) ?_
     refine fl_F ?_
     refine Zc (hK2_4 _ _ _ ?_)
     refine Zc (hK1_3 _ _ _ ?_)
     refine R2 [] (by simp[ed1,htk,hlz,hkk];(try simp (disch:=omega) only[w64]);first|exact F3|exact F4) ?_
     exact hKL2 _ _ _ (k+1) (by omega) (by omega) (by simp[hta,htb,hwa,hwb,hud.symm,hkk,hd.out,h9_47,h10_52,h12_60])
 ·have hge:(Zo ds st).length≤k:=by simpa using c6
  have hke:k=(Zo ds st).length:=by have:k≤(Zo ds st).length:=hlek;omega
  have hdn:=Lib.hid (List.drop_of_length_le hge)
  have hfa:=filt_len (wantA l pt) (Zo ds st) k
  have hfb:=filt_len (wantB ds l pt ce) (Zo ds st) k
  refine Ze (show K0_1 _ _ _ from hK0_1 _ _ _ ?_)
  refine R [] (by simp[ed1,htk,hlz];first|exact F3|exact F4) (by refine⟨by rintro r x _ _ rfl;rfl,by rintro r x _ _ rfl y hy;simp at hy;rcases hy with rfl|rfl|rfl<;>rfl,?_⟩;omega) ?_
  refine Za ?_
  simp[hwl,hke]
  rw[List.take_of_length_le (by simp)]
  exact Le.refl _
end
section
open Go Go.RowKit
theorem findF_len(s:PO.RS)(g:List Bool):∀ f v,(PO.findF s g f v).length≤f
 | 0,v=>by simp[PO.findF]
 | f+1,v=>by
  rw[PO.findF]
  split
  ·simp
  ·split
   ·simp
   ·simpa using findF_len s g f _
theorem schP_len{ns:List Node}{ds:List Dev}{c:Int}{l:List Lk}{pr st:List Int}(hg:GOK ns ds c l pr st)(zs:List Nat):(schP ns ds c l pr st zs).length≤2000:=by
 unfold schP findP
 rw[List.length_map]
 have h1:=findF_len (reachR (ZS ns ds pr [3,5]) (goalB ns ds zs) (goalC ns ds zs st) st (movs ds c l)) (PO.goodL (reachR (ZS ns ds pr [3,5]) (goalB ns ds zs) (goalC ns ds zs st) st (movs ds c l)) (2 ^ (movs ds c l).length)) (2 ^ (movs ds c l).length+1) 0
 have h2:2 ^ (movs ds c l).length≤2 ^ 10:=Nat.pow_le_pow_right (by decide) hg.mv
 omega
theorem schP_ops{ns:List Node}{ds:List Dev}{c:Int}{l:List Lk}{pr st:List Int}(hs:StOK ds st)(hd:0<ds.length)(zs:List Nat)(o:Opr)(ho:o∈schP ns ds c l pr st zs):(0≤o.dev∧o.dev<ds.length)∧(o.pos=1∨o.pos=2):=by
 unfold schP at ho
 obtain⟨p,_,rfl⟩:=List.mem_map.1 ho
 have hm:(movs ds c l).getD p.2 0<ds.length:=by
  by_cases h:p.2<(movs ds c l).length
  ·simp only[List.getD_eq_getElem?_getD,List.getElem?_eq_getElem h,Option.getD_some];exact (Yv (List.getElem_mem h)).1
  ·simp only[List.getD_eq_getElem?_getD,List.getElem?_eq_none (Nat.le_of_not_lt h),Option.getD_none];exact hd
 have hv:Val12 ds.length (Zi st (movs ds c l) p.1):=ZJ hs (fun m hm=>(Yv hm).1) _ _
 have:=hv.at_ hm
 refine⟨⟨by show (0:Int)≤_;simp[opA],by show _<(ds.length:Int);simp only[opA];omega⟩,?_⟩
 simp only[opA]
 omega
theorem behindF_ok{ds:List Dev}:∀ (ops:List Opr) (st:List Int),StOK ds st→(∀ o∈ops,o.pos=1∨o.pos=2)→StOK ds (Yi st ops)
 | [],st,h,_=>h
 | o::ops,st,h,ho=>behindF_ok ops _ (Val12.set h _ (ho o (by simp))) (fun x hx=>ho x (by simp[hx]))
def lockS:Int→List Lk→List Stp
 | _,[]=>[]
 | key,u::us=>⟨3,u.dev,0,u.pos,key⟩::lockS (key+1) us
@[simp] theorem lockS_len:∀ (us:List Lk) (key:Int),(lockS key us).length=us.length
 | [],_=>rfl
 | u::us,key=>by simp[lockS,lockS_len us]
theorem lockS_take:∀ (us:List Lk) (key:Int) (k:Nat) (u:Lk),us[k]? = some u→lockS key (us.take (k+1))=lockS key (us.take k)++[⟨3,u.dev,0,u.pos,key+k⟩]
 | [],key,k,u,h=>by simp at h
 | v::us,key,0,u,h=>by simp at h;subst h;simp[lockS]
 | v::us,key,k+1,u,h=>by
  have:=lockS_take us (key+1) k u (by simpa using h)
  simp only[List.take_succ_cons,lockS,this,List.cons_append,List.cons.injEq,true_and,List.append_cancel_left_eq,and_true,Stp.mk.injEq]
  push_cast
  omega
def clashB(key:Int)(l:List Lk)(x:Nat):Bool:=(List.range x).any fun i=>l.any fun y=>y.key==key+(i:Int)
theorem clashB_succ(key:Int)(l:List Lk)(x:Nat):clashB key l (x+1)=(clashB key l x||l.any fun y=>y.key==key+(x:Int)):=by
 unfold clashB
 rw[List.range_succ,List.any_append]
 simp
def keyBad(key:Int)(w:Nat):Bool:=decide (key<0)||decide (65536<key)||decide (65536<key+w - 1)
theorem wantLks_len{ns:List Node}{ds:List Dev}(hc:Zk ns ds=0)(zs:List Nat)(l:List Lk)(st:List Int):(wantLks ns.length ds zs l st).length≤1000:=by
 have h1:=(Zj hc).2.1
 have h2:(Zo ds st).length≤ds.length:=locksP_len ds st ds.length
 unfold wantLks
 rw[List.length_append]
 have h3:=List.length_filter_le (wantA l (pointsL ns.length ds zs (Zo ds st))) (Zo ds st)
 have h4:=List.length_filter_le (wantB ds l (pointsL ns.length ds zs (Zo ds st)) (countedL ns.length ds zs (Zo ds st))) (Zo ds st)
 omega
abbrev isoD(key:Int)(l W:List Lk)(P:List Stp):D:=if keyBad key W.length=true then .tup [.agg [.str ⟨#[]⟩,.nils],.int .i64 5] else if clashB key l W.length=true then .tup [.agg [.str ⟨#[]⟩,.nils],.int .i64 4] else if (decide (64<P.length)||decide (128<l.length+W.length))=true then .tup [.agg [.str ⟨#[]⟩,.nils],.int .i64 1] else .tup [.agg [.str ⟨#[73,83,79,76,65,84,69]⟩,.sl (P.map Zr)],.int .i64 0]
theorem isolateN_pure(ns:List Node)(ds:List Dev)(hc:Zk ns ds=0)(hn:1≤ns.length)(st:List Int)(hs:StOK ds st)(hd:0<ds.length)(c:Int)(l:List Lk)(pr:List Int)(hg:GOK ns ds c l pr st)(zs:List Nat)(hz:ZOK ns zs)(key:Int)(hf:(schR ns ds c l pr st zs).depth<0):Pure Tryz.prog G0 11 [netD ns ds,.sl (Zb st),gndD c l pr,.sl (Zb (nats zs)),.int .i64 key] (.tup [.agg [.str ⟨#[]⟩,.nils],.int .i64 15]):=by
 refine Zh Tryz.func11 rfl Tryz.ntmps11 ?_
 refine R0 ?_
 refine R6 [.p ⟨_,_,_,searchN_pure ns ds hc hn st hs hd c l pr hg zs hz hf⟩] ?_
 refine R0 ?_
 refine fl_T ?_
 refine R0 ?_
 refine Za ?_
 simp
theorem isolateS_pure(ns:List Node)(ds:List Dev)(hc:Zk ns ds=0)(hn:1≤ns.length)(st:List Int)(hs:StOK ds st)(hd:0<ds.length)(c:Int)(l:List Lk)(pr:List Int)(hg:GOK ns ds c l pr st)(zs:List Nat)(hz:ZOK ns zs)(key:Int)(hf:0≤(schR ns ds c l pr st zs).depth):Pure Tryz.prog G0 11 [netD ns ds,.sl (Zb st),gndD c l pr,.sl (Zb (nats zs)),.int .i64 key] (isoD key l (wantLks ns.length ds zs l (Yi st (schP ns ds c l pr st zs))) (ZD ds (schP ns ds c l pr st zs)++lockS key (wantLks ns.length ds zs l (Yi st (schP ns ds c l pr st zs))))):=by
 refine Zh Tryz.func11 rfl Tryz.ntmps11 ?_
 have hsr:=searchS_pure ns ds hc hn st hs hd c l pr hg zs hz hf
 have hol:=schP_len hg zs
 have hop:=fun o ho=>(schP_ops (ns:=ns) (c:=c) (l:=l) (pr:=pr) hs hd zs o ho).1
 have hop2:=fun o ho=>(schP_ops (ns:=ns) (c:=c) (l:=l) (pr:=pr) hs hd zs o ho).2
 generalize schP ns ds c l pr st zs=ops at *
 obtain⟨e1,e2,e3⟩:=locks_0 hg.lk
 have hdl:=(Zj hc).2.1
 have hsl:=hs.1
 have hst0:st≠[]:=by intro h;rw[h] at hsl;simp at hsl;omega
 have hb:=behind_pure st (by omega) hst0 ops hol (by rw[hsl];exact hop)
 have hw:=wanted_pure ns ds hc zs hz (Yi st ops) (behindF_ok ops st hs hop2) c l pr e2
 have hwl:=wantLks_len hc zs l (Yi st ops)
 generalize wantLks ns.length ds zs l (Yi st ops)=W at *
 have hsp:=stepsF_len ds ops ops.length
 rw[List.take_length] at hsp
 refine R0 ?_
 refine R6 [.p ⟨_,_,_,hsr⟩] ?_
 refine R0 ?_
 refine fl_F ?_
 refine R6 [.p ⟨_,_,_,hb⟩,.p ⟨_,_,_,hw⟩] ?_
 rcases bf_ (decide (key<0)) with h5_39|h5_39
 ·refine R2 [] (by simp[h5_39];(try simp (disch:=omega) only[w64]);first|exact F3|exact F4) ?_
  refine fl_T ?_
  refine R0 ?_
  refine Za ?_
  simp[isoD,keyBad,h5_39]
 ·have hk0:0≤key:=by simpa using h5_39
  rcases bf_ (decide (65536<key)) with h5_42|h5_42
  ·refine R2 [] (by simp[h5_39,h5_42];(try simp (disch:=omega) only[w64]);first|exact F3|exact F4) ?_
   refine fl_T ?_
   refine R0 ?_
   refine Za ?_
   simp[isoD,keyBad,h5_39,h5_42]
  ·have hk1:key≤65536:=by simpa using h5_42
   have hw1:IntKind.i64.wrap (key+(W.length:Int))=key+W.length:=w64 (by omega) (by omega)
   have hw2:IntKind.i64.wrap (key+(W.length:Int) - 1)=key+W.length - 1:=w64 (by omega) (by omega)
   rcases bf_ (decide (65536<key+W.length - 1)) with h5_50|h5_50
   ·refine R2 [] (by simp[h5_39,h5_42,h5_50,hw1,hw2];(try simp (disch:=omega) only[w64]);first|exact F3|exact F4) ?_
    refine fl_T ?_
    refine R0 ?_
    refine Za ?_
    simp[isoD,keyBad,h5_39,h5_42,hw1,hw2,h5_50]
   ·refine R2 [] (by simp[h5_39,h5_42,h5_50,hw1,hw2];(try simp (disch:=omega) only[w64]);first|exact F3|exact F4) ?_
    refine fl_F ?_
    refine R [.b ⟨_,_,_,_,_,_,steps_imp ns ds hc ops hol hop 41⟩] (by simp;first|exact F3|exact F4) (by first|exact Zs _|exact Zq _|exact Zt _|trivial|omega|(simp;done)|(simp;omega)) ?_
    refine R0 ?_
    refine R0 ?_
    refine Zd (fun K0_1 hK0_1=>?_)
    refine Zg (X:=Nat) [7,9,10,14,15,57,58] [43,41] (fun x=>[(59,.int .i64 x),(16,.bool (clashB key l x))]) (fun x=>[(43,.box [.str ⟨#[73,83,79,76,65,84,69]⟩,.os 41 ((ZD ds ops).length+x) 0 ((ZD ds ops).length+x)]),(41,.arr 5 ((ZD ds ops++lockS key (W.take x)).map Zr))]) (fun x=>x≤W.length) (fun x=>W.length - x) 0 (by simp) (by simp[lockS,clashB]) ?_
    simp only[KN,keep,but,reduceIte,Nat.reduceEqDiff,Nat.reduceBEq]
    rintro k hlek KL2 hKL2
    refine R0 ?_
    refine fl_C (fun c10=>?_) (fun c10=>?_)
    ·have hlt:k<W.length:=by simpa using c10
     have hkk:W[k]? = some W[k]:=by simp[hlt]
     have hd:=Lib.hid (List.drop_eq_getElem_cons hlt)
     have hlt2:=lockS_take W key k W[k] (by simp[hlt])
     have hwk:IntKind.i64.wrap (key+(k:Int))=key+k:=w64 (by omega) (by omega)
     have hcs:clashB key l (k+1)=(clashB key l k||l.any fun y=>y.key==IntKind.i64.wrap (key+(k:Int))):=by rw[hwk];exact clashB_succ key l k
     generalize W[k]=u at *
     refine Zd (fun K1_3 hK1_3=>?_)
     refine R2 [] (by simp[hkk];first|exact F3|exact F4) ?_
     refine R2 [] (by simp[hkk];(try simp (disch:=omega) only[w64]);first|exact F3|exact F4) ?_
     rcases bf_ (clashB key l k) with h13_77|h13_77
     ·refine R2 [] (by simp[hkk,h13_77];first|exact F3|exact F4) ?_
      refine Zc (hK1_3 _ _ _ ?_)
      refine R2 [] (by simp[hkk];(try simp (disch:=omega) only[w64]);first|exact F3|exact F4) ?_
      exact hKL2 _ _ _ (k+1) (by omega) (by omega) (by simp[hlt2,hcs,Nat.add_assoc,h5_39,h5_42,hw1,hw2,h5_50,hkk,hd.out,h13_77])
     ·rcases bf_ (l.any fun y=>y.key==IntKind.i64.wrap (key+(k:Int))) with h13_82|h13_82
      ·refine R2 [.p ⟨_,_,_,Y6 l (by omega) (fun y=>y.key==IntKind.i64.wrap (key+(k:Int))) 34 [] [.vp [.int .i64 key],.vp [.int .i64 k]] ZH (by exact⟨fun g k=>by simp[mapO,Zy],fun n=>by simp[D.los,D.lo],by simp[ZB,ZA]⟩) (fun x _=>isolate1_pure x key k)⟩] (by simp[hkk,h13_77,h13_82];first|exact F3|exact F4) ?_
       refine Zc (hK1_3 _ _ _ ?_)
       refine R2 [] (by simp[hkk];(try simp (disch:=omega) only[w64]);first|exact F3|exact F4) ?_
       exact hKL2 _ _ _ (k+1) (by omega) (by omega) (by simp[hlt2,hcs,Nat.add_assoc,h5_39,h5_42,hw1,hw2,h5_50,hkk,hd.out,h13_77,h13_82])
      ·refine R2 [.p ⟨_,_,_,Y6 l (by omega) (fun y=>y.key==IntKind.i64.wrap (key+(k:Int))) 34 [] [.vp [.int .i64 key],.vp [.int .i64 k]] ZH (by exact⟨fun g k=>by simp[mapO,Zy],fun n=>by simp[D.los,D.lo],by simp[ZB,ZA]⟩) (fun x _=>isolate1_pure x key k)⟩] (by simp[hkk,h13_77,h13_82];first|exact F3|exact F4) ?_
       refine Zc (hK1_3 _ _ _ ?_)
       refine R2 [] (by simp[hkk];(try simp (disch:=omega) only[w64]);first|exact F3|exact F4) ?_
       exact hKL2 _ _ _ (k+1) (by omega) (by omega) (by simp[hlt2,hcs,Nat.add_assoc,h5_39,h5_42,hw1,hw2,h5_50,hkk,hd.out,h13_77,h13_82])
    ·have hge:W.length≤k:=by simpa using c10
     have hke:k=W.length:=by have:k≤W.length:=hlek;omega
     have hdn:=Lib.hid (List.drop_of_length_le hge)
     subst hke
     have htk:List.take ((ZD ds ops).length+W.length) (List.map Zr (ZD ds ops)++List.map Zr (lockS key W))=List.map Zr (ZD ds ops)++List.map Zr (lockS key W):=List.take_of_length_le (by simp)
     have hw3:IntKind.i64.wrap ((l.length:Int)+(W.length:Int))=l.length+W.length:=w64 (by omega) (by omega)
     refine Ze (show K0_1 _ _ _ from hK0_1 _ _ _ ?_)
     refine Zd (fun K2_4 hK2_4=>?_)
     rcases bf_ (clashB key l W.length) with h15_86|h15_86
     ·refine R2 [] (by simp[h15_86];first|exact F3|exact F4) ?_
      refine fl_T ?_
      refine R0 ?_
      refine Za ?_
      simp[isoD,keyBad,h5_39,h5_42,hw1,hw2,h5_50,hdn.out,h15_86]
     ·refine R2 [] (by simp[h15_86];first|exact F3|exact F4) ?_
      refine fl_F ?_
      rcases bf_ (decide ((64:Int)<((ZD ds ops).length:Int)+(W.length:Int))) with h17_92|h17_92
      ·have hn92:64<(ZD ds ops).length+W.length:=by have:=of_decide_eq_true h17_92;omega
       refine R2 [] (by simp[hw3,h17_92,hn92];(try simp (disch:=omega) only[w64]);first|exact F3|exact F4) ?_
       refine fl_T ?_
       refine R0 ?_
       refine Za ?_
       simp[isoD,keyBad,h5_39,h5_42,hw1,hw2,h5_50,hdn.out,h15_86,h17_92,hn92]
      ·have hn92:¬ 64<(ZD ds ops).length+W.length:=by have:=of_decide_eq_false h17_92;omega
       rcases bf_ (decide ((128:Int)<(l.length:Int)+(W.length:Int))) with h17_100|h17_100
       ·have hn100:128<l.length+W.length:=by have:=of_decide_eq_true h17_100;omega
        refine R2 [] (by simp[hw3,h17_92,h17_100,hn92,hn100];(try simp (disch:=omega) only[w64]);first|exact F3|exact F4) ?_
        refine fl_T ?_
        refine R0 ?_
        refine Za ?_
        simp[isoD,keyBad,h5_39,h5_42,hw1,hw2,h5_50,hdn.out,h15_86,h17_92,hn92,h17_100,hn100]
       ·have hn100:¬ 128<l.length+W.length:=by have:=of_decide_eq_false h17_100;omega
        refine R2 [] (by simp[hw3,h17_92,h17_100,hn92,hn100];(try simp (disch:=omega) only[w64]);first|exact F3|exact F4) ?_
        refine fl_F ?_
        refine Zc (hK2_4 _ _ _ ?_)
        refine R0 ?_
        refine Za ?_
        simp[isoD,keyBad,htk,h5_39,h5_42,hw1,hw2,h5_50,hdn.out,h15_86,h17_92,hn92,h17_100,hn100]
end
section
open Go Go.RowKit
def opsO(s:Stp):List Opr:=if (s.knd==1)=true then [⟨s.dev,1⟩] else if (s.knd==2)=true then [⟨s.dev,2⟩] else []
def opsS(ss:List Stp):List Opr:=ss.flatMap opsO
theorem opsS_take(ss:List Stp)(k:Nat)(s:Stp)(h:ss[k]? = some s):opsS (ss.take (k+1))=opsS (ss.take k)++opsO s:=by
 rw[List.take_add_one,h]
 simp[opsS]
theorem opsO_len(s:Stp):(opsO s).length≤1:=by
 unfold opsO
 split
 ·simp
 ·split<;>simp
theorem opsS_len:∀ (ss:List Stp) (k:Nat),(opsS (ss.take k)).length≤k
 | [],k=>by simp[opsS]
 | s::ss,0=>by simp[opsS]
 | s::ss,k+1=>by
  have h1:=opsS_len ss k
  have h2:=opsO_len s
  unfold opsS at h1 ⊢
  simp only[List.take_succ_cons,List.flatMap_cons,List.length_append]
  omega
theorem single_pure(s:Stp):Pure Tryz.prog G0 111 [.agg (Zr s)] (.agg [.str ⟨#[80]⟩,.sl [Zr s]]):=by
 refine Zh Tryz.func111 rfl Tryz.ntmps111 ?_
 refine R0 ?_
 refine R0 ?_
 refine Za ?_
 simp
theorem operations_pure(nm:ByteArray)(ss:List Stp)(hl:ss.length≤2000):Pure Tryz.prog G0 110 [.agg [.str nm,.sl (ss.map Zr)]] (.sl ((opsS ss).map Yl)):=by
 refine Zh Tryz.func110 rfl Tryz.ntmps110 ?_
 refine R0 ?_
 refine R0 ?_
 refine R0 ?_
 refine Zd (fun K0_1 hK0_1=>?_)
 refine Yf 3 2 (by simp) ?_
 refine Zg (X:=Nat) [7,8] [7] (fun x=>[(9,.int .i64 x),(3,.os 7 (opsS (ss.take x)).length 0 (opsS (ss.take x)).length)]) (fun x=>[(7,.arr 2 ((opsS (ss.take x)).map Yl))]) (fun x=>x≤ss.length) (fun x=>ss.length - x) 0 (by simp) (by simp[opsS]) ?_
 simp only[KN,keep,but,reduceIte,Nat.reduceEqDiff,Nat.reduceBEq]
 rintro k hlek KL2 hKL2
 refine R0 ?_
 refine fl_C (fun c3=>?_) (fun c3=>?_)
 ·have hlt:k<ss.length:=by simpa using c3
  have hkk:ss[k]? = some ss[k]:=by simp[hlt]
  have hd:=Lib.hid (List.drop_eq_getElem_cons hlt)
  have hbt:=opsS_take ss k ss[k] (by simp[hlt])
  have hfl:=opsS_len ss k
  generalize ss[k]=s at *
  refine Zd (fun K1_3 hK1_3=>?_)
  refine R2 [] (by simp[hkk];first|exact F3|exact F4) ?_
  refine R2 [] (by simp[hkk];first|exact F3|exact F4) ?_
  refine Zd (fun K2_4 hK2_4=>?_)
  refine R2 [] (by simp[hkk];first|exact F3|exact F4) ?_
  refine Zn (b:=s.knd==1) (by simp) (fun c6=>?_) (fun c6=>?_)
  ·refine R2 [] (by simp[hkk];first|exact F3|exact F4) ?_
   refine Zc (hK2_4 _ _ _ ?_)
   refine Zc (hK1_3 _ _ _ ?_)
   refine R2 [] (by simp[hkk];(try simp (disch:=omega) only[w64]);first|exact F3|exact F4) ?_
   exact hKL2 _ _ _ (k+1) (by omega) (by omega) (by simp[hbt,opsO,hkk,hd.out,c6])
  ·refine R2 [] (by simp[hkk];first|exact F3|exact F4) ?_
   refine Zn (b:=s.knd==2) (by simp) (fun c8=>?_) (fun c8=>?_)
   ·refine R2 [] (by simp[hkk];first|exact F3|exact F4) ?_
    refine Zc (hK2_4 _ _ _ ?_)
    refine Zc (hK1_3 _ _ _ ?_)
    refine R2 [] (by simp[hkk];(try simp (disch:=omega) only[w64]);first|exact F3|exact F4) ?_
    exact hKL2 _ _ _ (k+1) (by omega) (by omega) (by simp[hbt,opsO,hkk,hd.out,c6,c8])
   ·refine Zc (hK2_4 _ _ _ ?_)
    refine Zc (hK1_3 _ _ _ ?_)
    refine R2 [] (by simp[hkk];(try simp (disch:=omega) only[w64]);first|exact F3|exact F4) ?_
    exact hKL2 _ _ _ (k+1) (by omega) (by omega) (by simp[hbt,opsO,hkk,hd.out,c6,c8])
 ·have hge:ss.length≤k:=by simpa using c3
  have hke:k=ss.length:=by have:k≤ss.length:=hlek;omega
  have hdn:=Lib.hid (List.drop_of_length_le hge)
  refine Ze (show K0_1 _ _ _ from hK0_1 _ _ _ ?_)
  refine R0 ?_
  refine Za ?_
  simp[hke]
  first|done|(rw[List.take_of_length_le (by simp)];exact Le.refl _)
theorem Xx(o:Opr)(ho:o.pos=1∨o.pos=2):Pure Tryz.prog G0 68 [.agg (Zr ⟨o.pos,o.dev,0,0,0⟩)] (.agg (Yl o)):=by
 refine Zh Tryz.func68 rfl Tryz.ntmps68 ?_
 have hop:=operations_pure ⟨#[80]⟩ [⟨o.pos,o.dev,0,0,0⟩] (by simp)
 have hoe:opsS [⟨o.pos,o.dev,0,0,0⟩]=[o]:=by obtain⟨d,p⟩:=o;rcases ho with h|h<;>(simp only at h;subst h;rfl)
 rw[hoe] at hop
 refine R0 ?_
 refine R6 [.p ⟨_,_,_,single_pure ⟨o.pos,o.dev,0,0,0⟩⟩,.p ⟨_,_,_,hop⟩] ?_
 refine Za ?_
 simp
end
section
open Go Go.RowKit
def okLog2(ops:List Oper)(log:List LogE):Bool :=
 (List.range ops.length).all fun j=>(List.range j).all fun i=>match log[i]?,log[j]? with
  | some a,some b=>((preL ops).getD j []).contains i||!Yr a b
  | _,_=>false
theorem okReg2{draw:Bool}{ops:List Oper}{log:List LogE}(h:(fwdB ops&&okLog2 ops log)=true):Ye draw ops log=true:=by
 have e:okLog2 ops log=okLog ops log:=by
  unfold okLog2 okLog
  congr 1;funext j;congr 1;funext i
  cases log[i]?<;>cases log[j]?<;>simp only[Bool.or_comm]
 rw[e] at h
 unfold Ye
 rw[h];simp
def insL:Nat→List Lk→List Lk
 | 0,cur=>cur
 | j+1,cur=>match cur[j+1]?,cur[j]? with
  | some a,some b=>if ordL a b<0 then insL j ((cur.set (j+1) b).set j a) else cur
  | _,_=>cur
def srtL:Nat→Nat→List Lk→List Lk
 | 0,_,cur=>cur
 | f+1,i,cur=>srtL f (i+1) (insL i cur)
@[simp] theorem insL_len:∀ (j:Nat) (cur:List Lk),(insL j cur).length=cur.length
 | 0,_=>rfl
 | j+1,cur=>by
  unfold insL
  split
  ·split
   ·rw[insL_len j];simp
   ·rfl
  ·rfl
theorem insL_swap{j:Nat}{cur:List Lk}{a b:Lk}(ha:cur[j+1]? = some a)(hb:cur[j]? = some b)(h:decide (ordL a b<0)=true):insL (j+1) cur=insL j ((cur.set (j+1) b).set j a):=by
 rw[insL,ha,hb]
 simp only[of_decide_eq_true h,if_true]
theorem insL_stop{j:Nat}{cur:List Lk}{a b:Lk}(ha:cur[j+1]? = some a)(hb:cur[j]? = some b)(h:decide (ordL a b<0)=false):insL (j+1) cur=cur:=by
 rw[insL,ha,hb]
 simp only[of_decide_eq_false h,if_false]
theorem srt_step{n i:Nat}{cu cv:List Lk}{R:List Lk}(h:R=srtL (n - i) i cu)(hi:i<n)(h2:insL i cu=cv):R=srtL (n - (i+1)) (i+1) cv:=by
 rw[h,show n - i=(n - (i+1))+1 by omega,srtL,h2]
theorem isort_imp(l:List Lk)(h1:1≤l.length)(hl:l.length≤1000)(n nm:Nat)(hnm:n≠nm):Imp Tryz.prog G0 194 [.os n l.length 0 l.length,.int .i64 0,.int .i64 l.length,.fn (.func 124) [] []] [(n,.arr 3 (l.map Zm))] nm (.tup []) [(n,some (.arr 3 ((srtL (l.length - 1) 1 l).map Zm)))]:=by
 refine ZC (gl:=[(n,.arr 3 (l.map Zm))]) (nx1:=n+1) Tryz.func194 rfl Tryz.ntmps194 ?_
 refine R1 ?_
 refine Zd (fun K0_1 hK0_1=>?_)
 refine Zg (X:=Nat×List Lk) [0,1,2,3] [n] (fun x=>[(8,.int .i64 x.1)]) (fun x=>[(n,.arr 3 (x.2.map Zm))]) (fun x=>(1≤x.1∧x.1≤l.length)∧x.2.length=l.length∧Hid (srtL (l.length - 1) 1 l=srtL (l.length - x.1) x.1 x.2)) (fun x=>l.length - x.1) (1,l) (⟨⟨Nat.le_refl _,h1⟩,rfl,Lib.hid rfl⟩) (by simp;omega) ?_
 simp only[KN,keep,but,reduceIte,Nat.reduceEqDiff,Nat.reduceBEq]
 rintro⟨i,cu⟩ ⟨⟨hi1,hi2⟩,hcl,hrel⟩ KL2 hKL2
 replace hi1:1≤i:=hi1
 replace hi2:i≤l.length:=hi2
 replace hcl:cu.length=l.length:=hcl
 replace hrel:Hid (srtL (l.length - 1) 1 l=srtL (l.length - i) i cu):=hrel
 refine R0 ?_
 refine fl_C (fun c1=>?_) (fun c1=>?_)
 ·have hil:i<l.length:=by simpa using c1
  refine Zd (fun K1_3 hK1_3=>?_)
  refine R0 ?_
  refine Zd (fun K2_4 hK2_4=>?_)
  refine Zg (X:=Nat×List Lk) [0,1,2,3,8] [n] (fun x=>[(9,.int .i64 x.1)]) (fun x=>[(n,.arr 3 (x.2.map Zm))]) (fun x=>x.1≤i∧x.2.length=l.length∧Hid (insL i cu=insL x.1 x.2)) (fun x=>x.1) (i,cu) (⟨Nat.le_refl _,hcl,Lib.hid rfl⟩) (by simp;omega) ?_
  simp only[KN,keep,but,reduceIte,Nat.reduceEqDiff,Nat.reduceBEq]
  rintro⟨j,cv⟩ ⟨hj,hvl,hrv⟩ KL5 hKL5
  replace hj:j≤i:=hj
  replace hvl:cv.length=l.length:=hvl
  replace hrv:Hid (insL i cu=insL j cv):=hrv
  rcases bf_ (decide (0<(j:Int))) with h4_20|h4_20
  ·obtain⟨m,rfl⟩:∃ m,j=m+1:=⟨j - 1,by have:=of_decide_eq_true h4_20;omega⟩
   obtain⟨a,ha⟩:∃ a,cv[m+1]? = some a:=⟨cv[m+1]'(by omega),by simp⟩
   obtain⟨b,hb⟩:∃ b,cv[m]? = some b:=⟨cv[m]'(by omega),by simp⟩
   have hm1:m+1<l.length:=by omega
   have hm0:m<l.length:=by omega
   have hmi:(0:Int)≤(m:Int)+1:=by omega
   have hwm:IntKind.wrap .i64 (m:Int)=m:=w64 (by omega) (by omega)
   obtain⟨_,hga⟩:=List.getElem?_eq_some_iff.1 ha
   obtain⟨_,hgb⟩:=List.getElem?_eq_some_iff.1 hb
   rcases bf_ (decide (ordL a b<0)) with h4_33|h4_33
   ·refine R2 [.p ⟨_,_,_,ord_pure a b⟩] (by simp[h4_20,ha,hb,hga,hgb,hvl,hm1,hm0,hmi,hwm,h4_33];(try simp (disch:=omega) only[w64]);first|exact F3|exact F4) ?_
    refine fl_T ?_
    refine Zd (fun K3_6 hK3_6=>?_)
    refine R2 (hok:=okReg2 (by kernel_rfl)) [] (by simp[ha,hb,hga,hgb,hvl,hm1,hm0,hmi,hwm];(try simp (disch:=omega) only[w64]);first|exact F3|exact F4) ?_
    refine Zc (hK3_6 _ _ _ ?_)
    refine R2 [] (by simp[ha,hb,hga,hgb,hvl,hm1,hm0,hmi,hwm];(try simp (disch:=omega) only[w64]);first|exact F3|exact F4) ?_
    exact hKL5 _ _ _ (m,(cv.set (m+1) b).set m a) ⟨by show m≤_;omega,by simp[hvl],Lib.hid (by rw[hrv.out,insL_swap ha hb h4_33])⟩ (by show _<_;omega) (by simp[List.map_set,Zm];try omega)
   ·refine R2 [.p ⟨_,_,_,ord_pure a b⟩] (by simp[h4_20,ha,hb,hga,hgb,hvl,hm1,hm0,hmi,hwm,h4_33];(try simp (disch:=omega) only[w64]);first|exact F3|exact F4) ?_
    refine fl_F ?_
    refine Ze (show K2_4 _ _ _ from hK2_4 _ _ _ ?_)
    refine Zc (hK1_3 _ _ _ ?_)
    refine R2 [] (by simp[ha,hb,hga,hgb,hvl,hm1,hm0,hmi,hwm];(try simp (disch:=omega) only[w64]);first|exact F3|exact F4) ?_
    exact hKL2 _ _ _ (i+1,cv) ⟨⟨by show 1≤_;omega,by show _≤_;omega⟩,hvl,Lib.hid (srt_step hrel.out hil (hrv.out.trans (insL_stop ha hb h4_33)))⟩ (by show _<_;omega) (by simp;try omega)
  ·obtain rfl:j=0:=by have:=of_decide_eq_false h4_20;omega
   refine R2 [] (by simp[h4_20];(try simp (disch:=omega) only[w64]);first|exact F3|exact F4) ?_
   refine fl_F ?_
   refine Ze (show K2_4 _ _ _ from hK2_4 _ _ _ ?_)
   refine Zc (hK1_3 _ _ _ ?_)
   refine R1 ?_
   exact hKL2 _ _ _ (i+1,cv) ⟨⟨by show 1≤_;omega,by show _≤_;omega⟩,hvl,Lib.hid (srt_step hrel.out hil (hrv.out.trans rfl))⟩ (by show _<_;omega) (by simp;try omega)
 ·have hie1:l.length≤i:=by simpa using c1
  have hie:i=l.length:=by omega
  refine Ze (show K0_1 _ _ _ from hK0_1 _ _ _ ?_)
  refine Zc ?_
  refine⟨.inl rfl,n+1,?_⟩
  simp[hnm,hrel.out,hie,srtL]
end
section
open Go Go.RowKit
theorem wu64{n:Int}(h1:0≤n)(h2:n≤9223372036854775807):IntKind.wrap .u64 n=n:=by
 simp only[IntKind.wrap,IntKind.bits,IntKind.signed]
 simp
 omega
theorem pdq_imp(l:List Lk)(h1:1≤l.length)(hl:l.length≤12)(n nm:Nat)(hnm:n≠nm):Imp Tryz.prog G0 179 [.os n l.length 0 l.length,.int .i64 0,.int .i64 l.length,.any,.fn (.func 124) [] []] [(n,.arr 3 (l.map Zm))] nm (.tup []) [(n,some (.arr 3 ((srtL (l.length - 1) 1 l).map Zm)))]:=by
 refine ZC (gl:=[(n,.arr 3 (l.map Zm))]) (nx1:=n+1) Tryz.func179 rfl Tryz.ntmps179 ?_
 have hli:(l.length:Int)≤12:=by omega
 have hwl:IntKind.wrap .i64 (l.length:Int)=l.length:=w64 (by omega) (by omega)
 refine R0 ?_
 refine R0 ?_
 refine Zd (fun K0_1 hK0_1=>?_)
 refine Zg (X:=Unit) [0,4] [n] (fun x=>[(10,.bool true),(11,.bool true),(1,.int .i64 0),(2,.int .i64 l.length),(3,.any)]) (fun x=>[(n,.arr 3 (l.map Zm))]) (fun x=>True) (fun x=>0) () (trivial) (by simp;try omega) ?_
 simp only[KN,keep,but,reduceIte,Nat.reduceEqDiff,Nat.reduceBEq]
 rintro⟨⟩ _ KL2 hKL2
 refine Zd (fun K1_3 hK1_3=>?_)
 refine R2 [] (by simp[hwl];(try simp (disch:=omega) only[w64]);first|exact F3|exact F4) ?_
 refine R2 [] (by simp[hli];first|exact F3|exact F4) ?_
 refine fl_T ?_
 refine R6 [.i ⟨_,_,_,_,_,_,isort_imp l h1 (by omega) n (n+1+1+1+4+2+4) (by omega)⟩] ?_
 refine Za ?_
 refine⟨.inr rfl,n+1,?_⟩
 simp[hnm]
theorem sort_imp(l:List Lk)(h1:1≤l.length)(hl:l.length≤12)(n nm:Nat)(hnm:n≠nm):Imp Tryz.prog G0 161 [.os n l.length 0 l.length,.fn (.func 124) [] []] [(n,.arr 3 (l.map Zm))] nm (.tup []) [(n,some (.arr 3 ((srtL (l.length - 1) 1 l).map Zm)))]:=by
 refine ZC (gl:=[(n,.arr 3 (l.map Zm))]) (nx1:=n+1) Tryz.func161 rfl Tryz.ntmps161 ?_
 have hwl:IntKind.wrap .u64 (l.length:Int)=l.length:=wu64 (by omega) (by omega)
 refine R0 ?_
 refine R2 [.p ⟨_,_,_,blen_pure l.length hl⟩,.i ⟨_,_,_,_,_,_,pdq_imp l h1 hl n (n+1+3+6) (by omega)⟩] (by simp[hwl];first|exact F3|exact F4) ?_
 refine Zc ?_
 refine⟨.inl rfl,n+1,?_⟩
 simp[hnm]
end
section
open Go Go.RowKit
@[simp] theorem srtL_len:∀ (f i:Nat) (cur:List Lk),(srtL f i cur).length=cur.length
 | 0,_,_=>rfl
 | f+1,i,cur=>by rw[srtL,srtL_len f];simp
theorem lclone_imp(l:List Lk)(hl:l.length≤1000000)(h0:l≠[])(nm:Nat):Imp Tryz.prog G0 66 [.sl (l.map Zm)] [] nm (.os nm l.length 0 l.length) [(nm,some (.arr 3 (l.map Zm)))]:=by
 refine ZC (gl:=[]) (nx1:=0) Tryz.func66 rfl Tryz.ntmps66 ?_
 obtain⟨y,ys,rfl⟩:∃ y ys,l=y::ys:=by cases l with|nil=>exact absurd rfl h0|cons y ys=>exact⟨y,ys,rfl⟩
 have hl2:ys.length+1≤1000000:=by simpa using hl
 refine R0 ?_
 refine R2 [] (by simp[List.map];first|exact F3|exact F4) ?_
 refine fl_F ?_
 refine R0 ?_
 refine Za ?_
 refine⟨.inr rfl,3,?_⟩
 simp
theorem lclone_nil:Pure Tryz.prog G0 66 [.nils] (.nils):=by
 refine Zh Tryz.func66 rfl Tryz.ntmps66 ?_
 refine R0 ?_
 refine R0 ?_
 refine fl_T ?_
 refine R0 ?_
 refine Za ?_
 simp
theorem add_pure(ns:List Node)(ds:List Dev)(l:List Lk)(h:ZF ns ds l=0)(k:Lk)(hk:lkE ds k=0)(hu:(l.any fun x=>x.key==k.key)=false)(ho:(l.any fun x=>(x.dev==k.dev)&&(x.pos != k.pos))=false)(hl:l.length≤11)(h0:l≠[]):Pure Tryz.prog G0 117 [netD ns ds,.sl (l.map Zm),.agg (Zm k)] (.tup [.sl ((srtL l.length 1 (l++[k])).map Zm),.int .i64 0]):=by
 refine Zh Tryz.func117 rfl Tryz.ntmps117 ?_
 have hlk:(l++[k]).length=l.length+1:=by simp
 have h128:((l.length:Int)==128)=false:=by simp;omega
 have htk:List.take (l.length+1) ((srtL l.length 1 (l++[k])).map Zm)=(srtL l.length 1 (l++[k])).map Zm:=List.take_of_length_le (by simp)
 refine R0 ?_
 refine R6 [.p ⟨_,_,_,Y7 ns ds l h⟩] ?_
 refine R0 ?_
 refine fl_T ?_
 refine R6 [.p ⟨_,_,_,valid_pure ns ds k hk⟩] ?_
 refine Zd (fun K0_1 hK0_1=>?_)
 refine R0 ?_
 refine fl_F ?_
 refine R2 [.p ⟨_,_,_,used_pure l (by omega) k.key⟩] (by simp[hu];first|exact F3|exact F4) ?_
 refine fl_F ?_
 refine R2 [.p ⟨_,_,_,other_pure l (by omega) k⟩] (by simp[ho];first|exact F3|exact F4) ?_
 refine fl_F ?_
 refine R2 [] (by simp[h128];first|exact F3|exact F4) ?_
 refine fl_F ?_
 refine Zc (hK0_1 _ _ _ ?_)
 refine R [.b ⟨_,_,_,_,_,_,lclone_imp l (by omega) h0 31⟩] (by simp;first|exact F3|exact F4) (by first|exact Zs _|exact Zq _|exact Zt _|trivial|omega|(simp;done)|(simp;omega)) ?_
 refine R6 [.i ⟨_,_,_,_,_,_,sort_imp (l++[k]) (by simp) (by simp;omega) 31 37 (by decide)⟩] ?_
 refine R0 ?_
 refine Za ?_
 simp[htk]
end
section
open Go Go.RowKit
theorem addN_pure(ns:List Node)(ds:List Dev)(h:ZF ns ds []=0)(k:Lk)(hk:lkE ds k=0):Pure Tryz.prog G0 117 [netD ns ds,.nils,.agg (Zm k)] (.tup [.sl [Zm k],.int .i64 0]):=by
 refine Zh Tryz.func117 rfl Tryz.ntmps117 ?_
 refine R0 ?_
 refine R [.p ⟨_,_,_,Y7 ns ds [] h⟩] (by simp;first|exact F3|exact F4) (by exact Le.nils) ?_
 refine R0 ?_
 refine fl_T ?_
 refine R6 [.p ⟨_,_,_,valid_pure ns ds k hk⟩] ?_
 refine Zd (fun K0_1 hK0_1=>?_)
 refine R0 ?_
 refine fl_F ?_
 refine R [.p ⟨_,_,_,used_pure [] (by simp) k.key⟩] (by simp;first|exact F3|exact F4) (by exact Le.nils) ?_
 refine fl_F ?_
 refine R [.p ⟨_,_,_,other_pure [] (by simp) k⟩] (by simp;first|exact F3|exact F4) (by exact Le.nils) ?_
 refine fl_F ?_
 refine R0 ?_
 refine fl_F ?_
 refine Zc (hK0_1 _ _ _ ?_)
 refine R6 [.p ⟨_,_,_,lclone_nil⟩] ?_
 refine R6 [.i ⟨_,_,_,_,_,_,sort_imp [k] (by simp) (by simp) 34 37 (by decide)⟩] ?_
 refine R0 ?_
 refine Za ?_
 simp[srtL,Zm]
end
section
open Go Go.RowKit
theorem iclone_nil:Pure Tryz.prog G0 36 [.nils] (.nils):=by
 refine Zh Tryz.func36 rfl Tryz.ntmps36 ?_
 refine R0 ?_
 refine R0 ?_
 refine fl_T ?_
 refine R0 ?_
 refine Za ?_
 simp
theorem copyN_pure(c:Int):Pure Tryz.prog G0 37 [.agg [.int .i64 c,.nils,.nils]] (.agg [.int .i64 c,.nils,.nils]):=by
 refine Zh Tryz.func37 rfl Tryz.ntmps37 ?_
 refine R0 ?_
 refine R6 [.p ⟨_,_,_,lclone_nil⟩,.p ⟨_,_,_,iclone_nil⟩] ?_
 refine Za ?_
 simp
theorem exists_pure(ns:List Node)(ds:List Dev)(v:Int):Pure Tryz.prog G0 172 [netD ns ds,.int .i64 v] (.bool (decide (0≤v)&&decide (v<ns.length))):=by
 refine Zh Tryz.func172 rfl Tryz.ntmps172 ?_
 refine R0 ?_
 rcases bf_ (decide (0≤v)) with h1_6|h1_6
 ·rcases bf_ (decide (v<(ns.length:Int))) with h1_12|h1_12
  ·refine R2 [] (by simp[h1_6,h1_12];first|exact F3|exact F4) ?_
   refine Za ?_
   simp
   exact Zp (by simp[h1_6,h1_12])
  ·refine R2 [] (by simp[h1_6,h1_12];first|exact F3|exact F4) ?_
   refine Za ?_
   simp
   exact Zp (by simp[h1_6,h1_12])
 ·refine R2 [] (by simp[h1_6];first|exact F3|exact F4) ?_
  refine Za ?_
  simp
  exact Zp (by simp[h1_6])
theorem less_pure(a b:Int):Pure Tryz.prog G0 155 [.int .i64 a,.int .i64 b] (.bool (decide (a<b))):=by
 refine Zh Tryz.func155 rfl Tryz.ntmps155 ?_
 refine R0 ?_
 refine R6 [.p ⟨_,_,_,nan_pure a⟩] ?_
 refine Za ?_
 simp
end
section
open Go Go.RowKit
def bsF(l:List Int)(v:Int):Nat→Nat→Nat→Nat
 | 0,i,_=>i
 | f+1,i,j=>if i<j then (if l.getD ((i+j) / 2) 0<v then bsF l v f ((i+j) / 2+1) j else bsF l v f i ((i+j) / 2)) else i
theorem snan_pure(k:Int):Pure Tryz.prog G0 156 [.int .i64 k] (.bool false):=by
 refine Zh Tryz.func156 rfl Tryz.ntmps156 ?_
 refine R0 ?_
 refine R0 ?_
 refine Za ?_
 simp
theorem bs_pure(l:List Int)(hl:l.length≤1000)(v:Int):Pure Tryz.prog G0 114 [.sl (Zb l),.int .i64 v] (.tup [.int .i64 (bsF l v (l.length+1) 0 l.length),.bool (decide (bsF l v (l.length+1) 0 l.length<l.length)&&(l.getD (bsF l v (l.length+1) 0 l.length) 0==v))]):=by
 refine Zh Tryz.func114 rfl Tryz.ntmps114 ?_
 refine R0 ?_
 refine R0 ?_
 refine R0 ?_
 refine Zd (fun K0_1 hK0_1=>?_)
 refine Zg (X:=Nat×Nat×Nat) [0,1,6] [] (fun x=>[(7,.int .i64 x.1),(8,.int .i64 x.2.1)]) (fun x=>[]) (fun x=>(x.1≤x.2.1∧x.2.1≤l.length)∧x.2.1 - x.1<x.2.2∧Hid (bsF l v (l.length+1) 0 l.length=bsF l v x.2.2 x.1 x.2.1)) (fun x=>x.2.2) (0,l.length,l.length+1) (⟨⟨Nat.zero_le _,Nat.le_refl _⟩,by show l.length - 0<l.length+1;omega,Lib.hid rfl⟩) (by simp) ?_
 simp only[KN,keep,but,reduceIte,Nat.reduceEqDiff,Nat.reduceBEq]
 rintro⟨i,j,f⟩ ⟨⟨hij,hjl⟩,hf,hrel⟩ KL2 hKL2
 replace hij:i≤j:=hij
 replace hjl:j≤l.length:=hjl
 replace hf:j - i<f:=hf
 replace hrel:Hid (bsF l v (l.length+1) 0 l.length=bsF l v f i j):=hrel
 refine R0 ?_
 refine fl_C (fun c3=>?_) (fun c3=>?_)
 ·have hlt:i<j:=by simpa using c3
  obtain⟨g,rfl⟩:∃ g,f=g+1:=⟨f - 1,by omega⟩
  have hhl:(i+j) / 2<l.length:=by omega
  have hh1:i≤(i+j) / 2:=by omega
  have hh2:(i+j) / 2<j:=by omega
  obtain⟨q,hq⟩:∃ q,(i+j) / 2=q:=⟨_,rfl⟩
  rw[hq] at hhl hh1 hh2
  have hsw:IntKind.wrap .u64 (IntKind.wrap .i64 ((i:Int)+j))=(i:Int)+j:=by rw[w64 (by omega) (by omega),wu64 (by omega) (by omega)]
  have hfd:IntKind.i64.wrap (((i:Int)+j).fdiv (2 ^ min 1 IntKind.u64.bits))=(q:Int):=by rw[show (2:Int) ^ min 1 IntKind.u64.bits=2 by decide,Int.fdiv_eq_ediv_of_nonneg _ (by decide),w64 (by omega) (by omega)];omega
  obtain⟨m,hm⟩:∃ m,l[q]? = some m:=⟨l[q],by simp[hhl]⟩
  obtain⟨_,hgq⟩:=List.getElem?_eq_some_iff.1 hm
  have hgm:l.getD q 0=m:=by simp[hm]
  refine Zd (fun K1_3 hK1_3=>?_)
  refine R2 [] (by simp[hsw,hfd];(try simp (disch:=omega) only[w64]);first|exact F3|exact F4) ?_
  refine R2 [.p ⟨_,_,_,less_pure m v⟩] (by simp[hhl,hm,hgq];first|exact F3|exact F4) ?_
  refine Zn (b:=decide (m<v)) (by simp) (fun c5=>?_) (fun c5=>?_)
  ·refine R1 ?_
   refine Zc (hK1_3 _ _ _ ?_)
   exact hKL2 _ _ _ (q+1,j,g) ⟨⟨by show q+1≤j;omega,hjl⟩,by show j - (q+1)<g;omega,Lib.hid (by rw[hrel.out,bsF,if_pos hlt,hq,hgm,if_pos (of_decide_eq_true c5)])⟩ (by show g<g+1;omega) (by simp)
  ·refine R0 ?_
   refine Zc (hK1_3 _ _ _ ?_)
   exact hKL2 _ _ _ (i,q,g) ⟨⟨by show i≤q;omega,by show q≤_;omega⟩,by show q - i<g;omega,Lib.hid (by rw[hrel.out,bsF,if_pos hlt,hq,hgm,if_neg (of_decide_eq_false c5)])⟩ (by show g<g+1;omega) (by simp)
 ·have hge:i=j:=by have h9:=c3;simp at h9;omega
  have hre:bsF l v (l.length+1) 0 l.length=i:=by rw[hrel.out];cases f<;>simp[bsF,hge]
  refine Ze (show K0_1 _ _ _ from hK0_1 _ _ _ ?_)
  rcases bf_ (decide (i<l.length)) with h8_34|h8_34
  ·have hil:i<l.length:=by simpa using h8_34
   obtain⟨m,hm⟩:∃ m,l[i]? = some m:=⟨l[i],by simp[hil]⟩
   obtain⟨_,hgq⟩:=List.getElem?_eq_some_iff.1 hm
   have hgm:l.getD i 0=m:=by simp[hm]
   rcases bf_ (m==v) with h8_41|h8_41
   ·refine R2 [] (by simp[h8_34,h8_41,hil,hm,hgq];first|exact F3|exact F4) ?_
    refine Za ?_
    simp[hre]
    exact le_tup ⟨Le.refl _,Zp (by first|(simp[h8_34,hil,hm,hgq,h8_41,hm];done)|(simp[h8_34,hil,hm,hgq,h8_41];done)|(simp[h8_34,hil,hm,hgq,h8_41,hm];omega)),trivial⟩
   ·refine R2 [.p ⟨_,_,_,snan_pure m⟩] (by simp[h8_34,h8_41,hil,hm,hgq];first|exact F3|exact F4) ?_
    refine Za ?_
    simp[hre]
    exact le_tup ⟨Le.refl _,Zp (by first|(simp[h8_34,hil,hm,hgq,h8_41,hm];done)|(simp[h8_34,hil,hm,hgq,h8_41];done)|(simp[h8_34,hil,hm,hgq,h8_41,hm];omega)),trivial⟩
  ·refine R2 [] (by simp[h8_34];first|exact F3|exact F4) ?_
   refine Za ?_
   simp[hre]
   exact le_tup ⟨Le.refl _,Zp (by first|(simp[h8_34,hm];done)|(simp[h8_34];done)|(simp[h8_34,hm];omega)),trivial⟩
end
end Go.Proofs.YtjdgofpcmcobnaaGreatDoor.AL

/-
  Contracts: the search for a route.
-/
import Derived.Test.YtjdgofpcmcobnaaGreatDoorGh
import Derived.Test.YtjdgofpcmcobnaaGreatDoorGd
set_option maxRecDepth 100000
set_option maxHeartbeats 2000000
attribute [local simp] Go.Proofs.YtjdgofpcmcobnaaGreatDoor.AL.onesD Go.Proofs.YtjdgofpcmcobnaaGreatDoor.AL.oneD
set_option linter.unusedVariables false
set_option linter.unusedSimpArgs false
namespace Go.Proofs.YtjdgofpcmcobnaaGreatDoor.AL
section
open Go Go.RowKit
theorem xor_nat(a b:Nat)(ha:a<1048576)(hb:b<1048576):bXor .i64 (a:Int) (b:Int)=((a ^^^ b:Nat):Int):=by
 unfold bXor
 have e1:(BitVec.ofInt IntKind.i64.bits (a:Int) ^^^ BitVec.ofInt IntKind.i64.bits (b:Int)).toNat=a ^^^ b:=by
  rw[BitVec.ofInt_natCast,BitVec.ofInt_natCast,BitVec.toNat_xor,BitVec.toNat_ofNat,BitVec.toNat_ofNat]
  rw[Nat.mod_eq_of_lt (show a<2 ^ IntKind.i64.bits from Nat.lt_of_lt_of_le ha (by decide)),Nat.mod_eq_of_lt (show b<2 ^ IntKind.i64.bits from Nat.lt_of_lt_of_le hb (by decide))]
 rw[e1]
 have:a ^^^ b<2 ^ 20:=Nat.xor_lt_two_pow ha hb
 exact w64 (by omega) (by omega)
theorem and_one(a:Nat)(ha:a<1048576):bAnd .i64 (a:Int) 1=((a % 2:Nat):Int):=by
 unfold bAnd
 have e1:(BitVec.ofInt IntKind.i64.bits (a:Int) &&& BitVec.ofInt IntKind.i64.bits 1).toNat=a % 2:=by
  rw[show (1:Int)=((1:Nat):Int) from rfl,BitVec.ofInt_natCast,BitVec.ofInt_natCast,BitVec.toNat_and,BitVec.toNat_ofNat,BitVec.toNat_ofNat]
  rw[Nat.mod_eq_of_lt (show a<2 ^ IntKind.i64.bits from Nat.lt_of_lt_of_le ha (by decide)),Nat.mod_eq_of_lt (show 1<2 ^ IntKind.i64.bits from by decide),Nat.and_one_is_mod]
 rw[e1]
 exact w64 (by omega) (by omega)
theorem shr_nat(a k:Nat)(hk:k≤20):(a:Int).fdiv (2 ^ (min k IntKind.i64.bits))=((a / 2 ^ k:Nat):Int):=by
 have:min k IntKind.i64.bits=k:=Nat.min_eq_left (Nat.le_trans hk (by decide))
 rw[this,Int.fdiv_eq_ediv_of_nonneg _ (by exact Int.pow_nonneg (by decide))]
 simp
theorem shl_nat(k:Nat)(hk:k≤20):IntKind.wrap .i64 (2 ^ (min k IntKind.i64.bits))=((2 ^ k:Nat):Int):=by
 have h1:min k IntKind.i64.bits=k:=Nat.min_eq_left (Nat.le_trans hk (by decide))
 have h2:2 ^ k≤2 ^ 20:=Nat.pow_le_pow_right (by decide) hk
 rw[h1,show (2:Int) ^ k=((2 ^ k:Nat):Int) by simp]
 generalize 2 ^ k=y at *
 exact w64 (by omega) (by omega)
def ZI(st:List Int)(ms:List Nat)(bits:Nat):Nat→List Int
 | 0=>st
 | k+1=>match ms[k]? with
  | some d=>if bits / 2 ^ k % 2=1 then (ZI st ms bits k).set d (3 - PO.at_ (ZI st ms bits k) d) else ZI st ms bits k
  | none=>ZI st ms bits k
abbrev Zi(st:List Int)(ms:List Nat)(bits:Nat):List Int:=ZI st ms bits ms.length
def Val12(n:Nat)(st:List Int):Prop:=st.length=n∧∀ x∈st,x=1∨x=2
theorem Val12.at_{n:Nat}{st:List Int}(h:Val12 n st){d:Nat}(hd:d<n):PO.at_ st d=1∨PO.at_ st d=2:=by
 have hl:d<st.length:=by rw[h.1];exact hd
 have:PO.at_ st d=st[d]:=by simp[PO.at_,hl]
 rw[this];exact h.2 _ (List.getElem_mem hl)
theorem Val12.set{n:Nat}{st:List Int}(h:Val12 n st)(d:Nat){x:Int}(hx:x=1∨x=2):Val12 n (st.set d x):=by
 refine⟨by simp[h.1],fun y hy=>?_⟩
 rcases List.mem_or_eq_of_mem_set hy with h1|rfl
 ·exact h.2 y h1
 ·exact hx
theorem ZJ{n:Nat}{st:List Int}{ms:List Nat}(h:Val12 n st)(hm:∀ m∈ms,m<n)(bits:Nat):∀ k,Val12 n (ZI st ms bits k)
 | 0=>h
 | k+1=>by
  have ih:=ZJ h hm bits k
  unfold ZI
  split
  ·rename_i d hd
   split
   ·exact ih.set d (by rcases ih.at_ (hm d (List.mem_of_getElem? hd)) with e|e<;>rw[e]<;>decide)
   ·exact ih
  ·exact ih
structure PrOK(n:Nat)(st:List Int)(ms:List Nat):Prop where
 v:Val12 n st
 n0:0<n
 n1:n≤1000
 m:∀ m∈ms,m<n
 l:ms.length≤10
abbrev prD(st:List Int)(ms:List Nat)(c:Nat)(d1 d2:List D):D:=.agg [.sl (Zb st),.sl (Zb (nats ms)),.fn (.func c) d1 d2]
theorem rstate_pure(n:Nat)(st:List Int)(ms:List Nat)(hp:PrOK n st ms)(c:Nat)(d1 d2:List D)(hq1:Clo d1)(hq2:Clo d2)(bits:Nat)(hb:bits<1048576):Pure Tryz.prog G0 137 [prD st ms c d1 d2,.int .i64 bits] (.sl (Zb (Zi st ms bits))):=by
 refine Zh Tryz.func137 rfl Tryz.ntmps137 ?_
 have hne:st≠[]:=by intro h;have:=hp.v.1;rw[h] at this;have:=hp.n0;simp at *;omega
 have hsl:=hp.v.1
 have hn1:=hp.n1
 have hml:=hp.l
 have hok:=fun k=>ZJ hp.v hp.m bits k
 have htk:(Zb (Zi st ms bits)).take st.length=Zb (Zi st ms bits):=List.take_of_length_le (by simp[(hok ms.length).1,hsl])
 refine R2 [] (by simp[hq1.v,hq2.v,hq1.l,hq2.l,hq1.n,hq2.n];first|exact F3|exact F4) ?_
 refine R [.b ⟨_,_,_,_,_,_,Z4 st (by omega) hne 4⟩] (by simp[hq1.v,hq2.v,hq1.l,hq2.l,hq1.n,hq2.n];first|exact F3|exact F4) (by first|exact Zs _|exact Zq _|exact Zt _|trivial|omega|(simp;done)|(simp;omega)) ?_
 refine R2 [] (by simp[hq1.v,hq2.v,hq1.l,hq2.l,hq1.n,hq2.n];first|exact F3|exact F4) ?_
 refine Zd (fun K0_1 hK0_1=>?_)
 refine Zg (X:=Nat) [1,5,12,13] [4] (fun x=>[(14,.int .i64 x)]) (fun x=>[(4,.arr 1 (Zb (ZI st ms bits x)))]) (fun x=>x≤ms.length) (fun x=>ms.length - x) 0 ((by simp)) (by simp[ZI,hq1.l,hq2.l]) ?_
 simp only[KN,keep,but,reduceIte,Nat.reduceEqDiff,Nat.reduceBEq]
 rintro k hk KL2 hKL2
 replace hk:k≤ms.length:=hk
 refine R2 [] (by simp[hq1.v,hq2.v,hq1.l,hq2.l,hq1.n,hq2.n];first|exact F3|exact F4) ?_
 refine fl_C (fun c3=>?_) (fun c3=>?_)
 ·have hlt:k<ms.length:=by simpa using c3
  have hkk:ms[k]? = some ms[k]:=by simp[hlt]
  have hdn:=hp.m _ (List.getElem_mem hlt)
  have hfs:ZI st ms bits (k+1)=if bits / 2 ^ k % 2=1 then (ZI st ms bits k).set ms[k] (3 - PO.at_ (ZI st ms bits k) ms[k]) else ZI st ms bits k:=by rw[ZI];simp[hlt]
  have hfl:=(hok k).1
  have hs1:=shr_nat bits k (by omega)
  have hk0:¬ ((k:Int)<0):=by omega
  obtain⟨bt,hbt⟩:∃ bt:Nat,bt=bits / 2 ^ k % 2:=⟨_,rfl⟩
  have hs2:bAnd .i64 ((bits:Int) / 2 ^ k) 1=(bt:Int):=by have h:=and_one (bits / 2 ^ k) (Nat.lt_of_le_of_lt (Nat.div_le_self _ _) hb);rw[hbt,← h];congr 1
  rw[← hbt] at hfs
  have hat:=(hok k).at_ hdn
  have hdl:ms[k]<(ZI st ms bits k).length:=by omega
  have hga:(ZI st ms bits k)[ms[k]]=PO.at_ (ZI st ms bits k) ms[k]:=by simp[PO.at_,hdl]
  have hdst:ms[k]<st.length:=by omega
  have hfst:(ZI st ms bits k).length=st.length:=by omega
  generalize ms[k]=d at *
  refine Zd (fun K1_3 hK1_3=>?_)
  refine R2 [] (by simp[hq1.v,hq2.v,hq1.l,hq2.l,hq1.n,hq2.n,hkk];first|exact F3|exact F4) ?_
  refine R2 [] (by simp[hq1.v,hq2.v,hq1.l,hq2.l,hq1.n,hq2.n,hk0,hs1,hs2,hkk];first|exact F3|exact F4) ?_
  refine Zn (b:=((bt:Int)==1)) (by simp) (fun c5=>?_) (fun c5=>?_)
  ·refine R2 [] (by simp[hq1.v,hq2.v,hq1.l,hq2.l,hq1.n,hq2.n,hga,hdst,hfst,hkk];(try simp (disch:=omega) only[w64]);first|exact F3|exact F4) ?_
   refine Zc (hK1_3 _ _ _ ?_)
   refine R2 [] (by simp[hq1.v,hq2.v,hq1.l,hq2.l,hq1.n,hq2.n,hkk];(try simp (disch:=omega) only[w64]);first|exact F3|exact F4) ?_
   exact hKL2 _ _ _ (k+1) (by show k+1≤_;omega) (by show _<_;omega) (by simp[setI,hfs,show bt=1 from (by simp at c5;omega),hq1.l,hq2.l])
  ·refine Zc (hK1_3 _ _ _ ?_)
   refine R2 [] (by simp[hq1.v,hq2.v,hq1.l,hq2.l,hq1.n,hq2.n,hkk];(try simp (disch:=omega) only[w64]);first|exact F3|exact F4) ?_
   exact hKL2 _ _ _ (k+1) (by show k+1≤_;omega) (by show _<_;omega) (by simp[setI,hfs,show ¬ bt=1 from (by simp at c5;omega),hq1.l,hq2.l])
 ·have hke:k=ms.length:=Nat.le_antisymm hk (by simpa using c3)
  have hfe:(ZI st ms bits ms.length).length=st.length:=by rw[(hok _).1,hsl]
  refine Ze (show K0_1 _ _ _ from hK0_1 _ _ _ ?_)
  refine R2 [] (by simp[hq1.v,hq2.v,hq1.l,hq2.l,hq1.n,hq2.n];first|exact F3|exact F4) ?_
  refine Za ?_
  simp[hke,htk,hfe]
def permAt(perm:List Int→Opr→Bool)(ms:List Nat)(s:List Int)(k:Nat):Bool:=match ms[k]? with
 | some d=>perm s ⟨d,3 - PO.at_ s d⟩
 | none=>false
def YK(perm:List Int→Opr→Bool)(ms:List Nat)(s:List Int):Nat→List Nat
 | 0=>[]
 | k+1=>YK perm ms s k++(if permAt perm ms s k=true then [k] else [])
def nextO(perm:List Int→Opr→Bool)(ms:List Nat)(s:List Int):Nat→List Opr
 | 0=>[]
 | k+1=>nextO perm ms s k++(if permAt perm ms s k=true then [⟨ms.getD k 0,3 - PO.at_ s (ms.getD k 0)⟩] else [])
theorem nextI_len(perm:List Int→Opr→Bool)(ms:List Nat)(s:List Int):∀ k,(YK perm ms s k).length≤k
 | 0=>by simp[YK]
 | k+1=>by have:=nextI_len perm ms s k;unfold YK;split<;>simp<;>omega
theorem nextO_len(perm:List Int→Opr→Bool)(ms:List Nat)(s:List Int):∀ k,(nextO perm ms s k).length=(YK perm ms s k).length
 | 0=>by simp[YK,nextO]
 | k+1=>by have:=nextO_len perm ms s k;unfold YK nextO;split<;>simp<;>omega
theorem rnext_pure(n:Nat)(st:List Int)(ms:List Nat)(hp:PrOK n st ms)(c:Nat)(d1 d2:List D)(hq1:Clo d1)(hq2:Clo d2)(perm:List Int→Opr→Bool)(hpm:∀ s,Val12 n s→∀ d∈ms,Pure Tryz.prog G0 c (d1++.sl (Zb s)::.agg (Yl ⟨(d:Int),3 - PO.at_ s d⟩)::d2) (.bool (perm s ⟨(d:Int),3 - PO.at_ s d⟩)))(s:List Int)(hs:Val12 n s):Pure Tryz.prog G0 138 [prD st ms c d1 d2,.sl (Zb s)] (.tup [.sl (Zb (nats (YK perm ms s ms.length))),.sl ((nextO perm ms s ms.length).map Yl)]):=by
 refine Zh Tryz.func138 rfl Tryz.ntmps138 ?_
 have hn1:=hp.n1
 have hml:=hp.l
 have hsl:=hs.1
 have htk1:(Zb (nats (YK perm ms s ms.length))).take (YK perm ms s ms.length).length=Zb (nats (YK perm ms s ms.length)):=List.take_of_length_le (by simp)
 have htk2:((nextO perm ms s ms.length).map Yl).take (nextO perm ms s ms.length).length=(nextO perm ms s ms.length).map Yl:=List.take_of_length_le (by simp)
 refine R2 [] (by simp[hq1.v,hq2.v,hq1.l,hq2.l,hq1.n,hq2.n];first|exact F3|exact F4) ?_
 refine R2 [] (by simp[hq1.v,hq2.v,hq1.l,hq2.l,hq1.n,hq2.n];first|exact F3|exact F4) ?_
 refine R2 [] (by simp[hq1.v,hq2.v,hq1.l,hq2.l,hq1.n,hq2.n];first|exact F3|exact F4) ?_
 refine R2 [] (by simp[hq1.v,hq2.v,hq1.l,hq2.l,hq1.n,hq2.n];first|exact F3|exact F4) ?_
 refine Zd (fun K0_1 hK0_1=>?_)
 refine Yf 6 1 (by simp) ?_
 refine Yf 7 2 (by simp) ?_
 refine Zg (X:=Nat) [1,2,12,13] [9,10] (fun x=>[(14,.int .i64 x),(6,.os 9 (YK perm ms s x).length 0 (YK perm ms s x).length),(7,.os 10 (nextO perm ms s x).length 0 (nextO perm ms s x).length)]) (fun x=>[(9,.arr 1 (Zb (nats (YK perm ms s x)))),(10,.arr 2 ((nextO perm ms s x).map Yl))]) (fun x=>x≤ms.length) (fun x=>ms.length - x) 0 ((by simp)) (by simp[YK,nextO,Zb,hq1.l,hq2.l]) ?_
 simp only[KN,keep,but,reduceIte,Nat.reduceEqDiff,Nat.reduceBEq]
 rintro k hk KL2 hKL2
 replace hk:k≤ms.length:=hk
 have hil:=nextI_len perm ms s k
 have hol:=nextO_len perm ms s k
 refine R2 [] (by simp[hq1.v,hq2.v,hq1.l,hq2.l,hq1.n,hq2.n];first|exact F3|exact F4) ?_
 refine fl_C (fun c4=>?_) (fun c4=>?_)
 ·have hlt:k<ms.length:=by simpa using c4
  have hkk:ms[k]? = some ms[k]:=by simp[hlt]
  have hpa:permAt perm ms s k=perm s ⟨(ms[k]:Nat),3 - PO.at_ s ms[k]⟩:=by simp[permAt,hlt]
  have hgd:ms.getD k 0=ms[k]:=by simp[hlt]
  have hdn:=hp.m _ (List.getElem_mem hlt)
  have hpmk:=hpm s hs ms[k] (List.getElem_mem hlt)
  have hat:=hs.at_ hdn
  have hds:ms[k]<s.length:=by omega
  have hga:s[ms[k]]=PO.at_ s ms[k]:=by simp[PO.at_,hds]
  have hgs:s[ms[k]]? = some s[ms[k]]:=by simp[hds]
  generalize ms[k]=d at *
  generalize s[d]=v at *
  subst hga
  generalize hv:PO.at_ s d=v at *
  have hw3:=w64 (n:=3 - v) (by omega) (by omega)
  refine Zd (fun K1_3 hK1_3=>?_)
  refine R2 [] (by simp[hq1.v,hq2.v,hq1.l,hq2.l,hq1.n,hq2.n,hkk];first|exact F3|exact F4) ?_
  refine R2 [] (by simp[hq1.v,hq2.v,hq1.l,hq2.l,hq1.n,hq2.n,hgs,hw3,hkk];(try simp (disch:=omega) only[w64]);first|exact F3|exact F4) ?_
  rcases bf_ (perm s ⟨(d:Int),3 - v⟩) with h7_30|h7_30
  ·refine R2 [.p ⟨_,_,_,hpmk⟩] (by simp[hq1.v,hq2.v,hq1.l,hq2.l,hq1.n,hq2.n,hkk,h7_30];first|exact F3|exact F4) ?_
   refine fl_T ?_
   refine R2 [] (by simp[hq1.v,hq2.v,hq1.l,hq2.l,hq1.n,hq2.n,hkk];first|exact F3|exact F4) ?_
   refine Zc (hK1_3 _ _ _ ?_)
   refine R2 [] (by simp[hq1.v,hq2.v,hq1.l,hq2.l,hq1.n,hq2.n,hkk];(try simp (disch:=omega) only[w64]);first|exact F3|exact F4) ?_
   exact hKL2 _ _ _ (k+1) (by show k+1≤_;omega) (by show _<_;omega) (by simp[YK,nextO,hpa,hkk,hv,Yk,YH,Zw,h7_30,hq1.l,hq2.l])
  ·refine R2 [.p ⟨_,_,_,hpmk⟩] (by simp[hq1.v,hq2.v,hq1.l,hq2.l,hq1.n,hq2.n,hkk,h7_30];first|exact F3|exact F4) ?_
   refine fl_F ?_
   refine Zc (hK1_3 _ _ _ ?_)
   refine R2 [] (by simp[hq1.v,hq2.v,hq1.l,hq2.l,hq1.n,hq2.n,hkk];(try simp (disch:=omega) only[w64]);first|exact F3|exact F4) ?_
   exact hKL2 _ _ _ (k+1) (by show k+1≤_;omega) (by show _<_;omega) (by simp[YK,nextO,hpa,hkk,hv,Yk,YH,Zw,h7_30,hq1.l,hq2.l])
 ·have hke:k=ms.length:=Nat.le_antisymm hk (by simpa using c4)
  refine Ze (show K0_1 _ _ _ from hK0_1 _ _ _ ?_)
  refine R2 [] (by simp[hq1.v,hq2.v,hq1.l,hq2.l,hq1.n,hq2.n];first|exact F3|exact F4) ?_
  refine Za ?_
  simp[hke,htk1,htk2]
end
section
open Go Go.RowKit
open PO in
structure RJ(N:Nat)(nx:Nat→List Nat)(gl:Nat→Option Int)(R0 s:RS):Prop where
 inv:RInv N nx gl s
 eq:R0=reachF nx gl (negs s.out+s.q.length) s
structure NxOK(N:Nat)(nx:Nat→List Nat):Prop where
 a:∀ v,v<N→∀ w∈PO.nbX nx v,w<N
 b:∀ v,¬ v<N→nx v=[]
open PO in
theorem RJ.step{N:Nat}{nx:Nat→List Nat}{gl:Nat→Option Int}{R0 s:RS}(hn:NxOK N nx)(h:RJ N nx gl R0 s){v:Nat}{q:List Nat}(hq:s.q=v::q)(hb:¬ (0≤s.depth∧s.depth<at_ s.out v)):RJ N nx gl R0 (RS.pass nx gl { s with q:=q } v):=by
 obtain⟨h1,h2⟩:=pass_inv hn.a hn.b h.inv hq hb
 refine⟨h1,?_⟩
 rw[h.eq,← h2,reachF,hq]
 simp only[if_neg hb]
open PO in
theorem RJ.stop{N:Nat}{nx:Nat→List Nat}{gl:Nat→Option Int}{R0 s:RS}(h:RJ N nx gl R0 s){v:Nat}{q:List Nat}(hq:s.q=v::q)(hb:0≤s.depth∧s.depth<at_ s.out v):R0={ s with q:=q }:=by
 rw[h.eq,hq,List.length_cons,← Nat.add_assoc,reachF,hq]
 simp only[if_pos hb]
open PO in
theorem RJ.nil{N:Nat}{nx:Nat→List Nat}{gl:Nat→Option Int}{R0 s:RS}(h:RJ N nx gl R0 s)(hq:s.q=[]):R0=s:=by
 rw[h.eq]
 cases negs s.out+s.q.length with
 | zero=>rfl
 | succ f=>rw[reachF,hq]
def edgesB(nx:Nat→List Nat)(dn:List Bool):List (List Nat):=dn.mapIdx (fun v b=>if b then nx v else [])
def eoD(nx:Nat→List Nat)(dn:List Bool):List (List D):=dn.mapIdx (fun v b=>[if b then .sl (Zb (nats (nx v))) else .nils])
def ooD(op:Nat→List Opr)(dn:List Bool):List (List D):=dn.mapIdx (fun v b=>[if b then .sl ((op v).map Yl) else .nils])
@[simp] theorem eoD_len(nx:Nat→List Nat)(dn:List Bool):(eoD nx dn).length=dn.length:=by simp[eoD]
@[simp] theorem ooD_len(op:Nat→List Opr)(dn:List Bool):(ooD op dn).length=dn.length:=by simp[ooD]
theorem eoD_rep(nx:Nat→List Nat)(N:Nat):List.replicate N [D.nils]=eoD nx (List.replicate N false):=by
 apply List.ext_getElem<;>simp[eoD]
theorem ooD_rep(op:Nat→List Opr)(N:Nat):List.replicate N [D.nils]=ooD op (List.replicate N false):=by
 apply List.ext_getElem<;>simp[ooD]
theorem edgesB_rep(nx:Nat→List Nat)(N:Nat):edgesB nx (List.replicate N false)=List.replicate N []:=by
 apply List.ext_getElem<;>simp[edgesB]
theorem eoD_set(nx:Nat→List Nat)(dn:List Bool)(v:Nat):(eoD nx dn).set v [.sl (Zb (nats (nx v)))]=eoD nx (dn.set v true):=by simp[eoD]
theorem ooD_set(op:Nat→List Opr)(dn:List Bool)(v:Nat):(ooD op dn).set v [.sl ((op v).map Yl)]=ooD op (dn.set v true):=by simp[ooD]
theorem edgesB_set(nx:Nat→List Nat)(dn:List Bool)(v:Nat):(edgesB nx dn).set v (nx v)=edgesB nx (dn.set v true):=by simp[edgesB]
def opsE(op:Nat→List Opr)(es:List (List Nat)):List (List Opr):=es.mapIdx (fun v e=>if e=[] then [] else op v)
theorem rep_sl{w:World}{F:Nat→Prop}{v:Value}{a b:List (List D)}(h:RepP w F v (.sl a))(hl:a.length=b.length)(he:∀ i (h1:i<a.length) (h2:i<b.length),Les a[i] b[i]):RepP w F v (.sl b):=by
 generalize hd:D.sl a=d at h
 cases h with
 | sl0 x cap h0 =>
  cases hd
  cases b with
  | nil=>exact .sl0 _ _ h0
  | cons y ys=>simp at hl
 | sl b0 off es cap rows vs hc hF hes hm hz hr =>
  cases hd
  rw[hl]
  refine .sl b0 off es cap b vs (by omega) hF (fun r hr'=>?_) (fun i j hi hj=>hm i j (by omega) hj) hz (fun i hi j hj=>?_)
  ·obtain⟨i,hi,rfl⟩:=List.getElem_of_mem hr'
   rw[← (he i (by omega) hi).at.1];exact hes _ (List.getElem_mem _)
  ·have hle:=(he i (by omega) hi).at
   exact (hle.2 j (by rw[hle.1];exact hj) hj).toP (hr i (by omega) j (by rw[hle.1];exact hj))
 | _=>cases hd
theorem le_sl{a b:List (List D)}(hl:a.length=b.length)(he:∀ i (h1:i<a.length) (h2:i<b.length),Les a[i] b[i]):Le (.sl a) (.sl b) :=
 fun w F ι v h=>.pure _ _ (rep_sl h.is_sl hl he)
theorem le_eoD(nx:Nat→List Nat)(dn:List Bool):Le (.sl (eoD nx dn)) (.sl ((edgesB nx dn).map fun e=>[.sl (Zb (nats e))])):=by
 refine le_sl (by simp[edgesB]) (fun i h1 h2=>?_)
 simp only[eoD,edgesB,List.getElem_mapIdx,List.getElem_map]
 generalize dn[i]'(by simpa using h1)=b
 cases b
 ·simp only[Bool.false_eq_true,if_false,Les];exact⟨Le.nils,trivial⟩
 ·simp only[if_true,Les];exact⟨Le.refl _,trivial⟩
theorem le_ooD(nx:Nat→List Nat)(op:Nat→List Opr)(hop:∀ v,nx v=[]→op v=[])(dn:List Bool):Le (.sl (ooD op dn)) (.sl ((opsE op (edgesB nx dn)).map fun l=>[.sl (l.map Yl)])):=by
 refine le_sl (by simp[opsE,edgesB]) (fun i h1 h2=>?_)
 simp only[ooD,opsE,edgesB,List.getElem_mapIdx,List.getElem_map]
 generalize dn[i]'(by simpa using h1)=b
 cases b
 ·simp only[Bool.false_eq_true,if_false,Les];exact⟨Le.nils,trivial⟩
 ·by_cases he:nx i=[]
  ·simp only[if_true,if_pos he,hop i he,Les];exact⟨Le.refl _,trivial⟩
  ·simp only[if_true,if_neg he,Les];exact⟨Le.refl _,trivial⟩
structure GRd(N:Nat)(nx:Nat→List Nat)(out:List Int)(v:Nat)(q:List Nat)(m:Nat)(oc:List Int)(qc:List Nat):Prop where
 l:oc.length=N
 e:PO.scan (PO.at_ out v+1) (PO.nbX nx v) out q=PO.scan (PO.at_ out v+1) (((nx v).drop m).map (fun i=>v ^^^ 2 ^ i)) oc qc
 a:PO.at_ oc v=PO.at_ out v
 n:PO.negs oc+qc.length=PO.negs out+q.length
 b:∀ u,PO.at_ oc u+PO.negs oc≤N
theorem GRd.skip{N:Nat}{nx:Nat→List Nat}{out:List Int}{v:Nat}{q:List Nat}{m:Nat}{oc:List Int}{qc:List Nat}(h:GRd N nx out v q m oc qc)(hm:m<(nx v).length)(hs:¬ PO.at_ oc (v ^^^ 2 ^ (nx v)[m])<0):GRd N nx out v q (m+1) oc qc:=by
 refine⟨h.l,?_,h.a,h.n,h.b⟩
 rw[h.e,List.drop_eq_getElem_cons hm,List.map_cons]
 simp only[PO.scan]
 rw[if_neg hs]
theorem GRd.push{N:Nat}{nx:Nat→List Nat}{out:List Int}{v:Nat}{q:List Nat}{m:Nat}{oc:List Int}{qc:List Nat}(h:GRd N nx out v q m oc qc)(hm:m<(nx v).length)(hs:PO.at_ oc (v ^^^ 2 ^ (nx v)[m])<0)(hw:v ^^^ 2 ^ (nx v)[m]<N)(hv:0≤PO.at_ out v) :
  GRd N nx out v q (m+1) (oc.set (v ^^^ 2 ^ (nx v)[m]) (PO.at_ out v+1)) (qc++[v ^^^ 2 ^ (nx v)[m]]):=by
 have hng:=PO.negs_set (x:=PO.at_ out v+1) (by rw[h.l];exact hw) hs (by omega)
 refine⟨by simp[h.l],?_,?_,by have:=h.n;simp;omega,fun u=>?_⟩
 ·rw[h.e,List.drop_eq_getElem_cons hm,List.map_cons]
  simp only[PO.scan]
  rw[if_pos hs]
 ·rw[PO.at_set,if_neg,h.a]
  rintro⟨e,_⟩
  rw[e] at hs
  have:=h.a
  omega
 ·have h1:=h.b u
  have h2:=h.b v
  rw[h.a] at h2
  rw[PO.at_set]
  split<;>omega
theorem GRd.room{N:Nat}{nx:Nat→List Nat}{out:List Int}{v:Nat}{q:List Nat}{m:Nat}{oc:List Int}{qc:List Nat}(h:GRd N nx out v q m oc qc)(hr:PO.negs out+q.length+1≤N):qc.length<N:=by have:=h.n;omega
open PO in
theorem pass_a{nx:Nat→List Nat}{gl:Nat→Option Int}{out oc:List Int}{q qc:List Nat}{es:List (List Nat)}{v:Nat}(hg:gl v=none)(hs:scan (at_ out v+1) (nbX nx v) out q=(oc,qc)):RS.pass nx gl ⟨out,q,es,[],0,-1⟩ v=⟨oc,qc,es.set v (nx v),[],0,-1⟩:=by
 unfold RS.pass RS.goal
 rw[hg]
 simp only
 rw[if_neg (by decide)]
 unfold RS.grow
 simp only
 rw[hs]
open PO in
theorem pass_b1{nx:Nat→List Nat}{gl:Nat→Option Int}{out:List Int}{q gs:List Nat}{es:List (List Nat)}{v:Nat}{c ls dp:Int}(hg:gl v=some c)(h:dp<0∨c<ls)(hv:0≤at_ out v):RS.pass nx gl ⟨out,q,es,gs,ls,dp⟩ v=⟨out,q,es,[v],c,at_ out v⟩:=by
 unfold RS.pass RS.goal
 rw[hg]
 simp only
 rw[if_pos h,if_pos hv]
open PO in
theorem pass_b2{nx:Nat→List Nat}{gl:Nat→Option Int}{out:List Int}{q gs:List Nat}{es:List (List Nat)}{v:Nat}{ls dp:Int}(hg:gl v=some ls)(hd:0≤dp)(hv:0≤at_ out v):RS.pass nx gl ⟨out,q,es,gs,ls,dp⟩ v=⟨out,q,es,gs++[v],ls,at_ out v⟩:=by
 unfold RS.pass RS.goal
 rw[hg]
 simp only
 rw[if_neg (show ¬ (dp<0∨ls<ls) by omega)]
 simp[hv]
open PO in
theorem pass_b3{nx:Nat→List Nat}{gl:Nat→Option Int}{out:List Int}{q gs:List Nat}{es:List (List Nat)}{v:Nat}{c ls dp:Int}(hg:gl v=some c)(hd:0≤dp)(h1:¬ c<ls)(h2:¬ c=ls)(hv:0≤at_ out v):RS.pass nx gl ⟨out,q,es,gs,ls,dp⟩ v=⟨out,q,es,gs,ls,at_ out v⟩:=by
 unfold RS.pass RS.goal
 rw[hg]
 simp only
 rw[if_neg (show ¬ (dp<0∨c<ls) by omega),if_neg h2,if_pos hv]
open PO in
theorem pass_b4{nx:Nat→List Nat}{gl:Nat→Option Int}{out:List Int}{q gs:List Nat}{es:List (List Nat)}{v:Nat}{ls dp:Int}(hg:gl v=none)(hd:0≤dp):RS.pass nx gl ⟨out,q,es,gs,ls,dp⟩ v=⟨out,q,es,gs,ls,dp⟩:=by
 unfold RS.pass RS.goal
 rw[hg]
 simp only
 rw[if_pos hd]
theorem GRd.fin{N:Nat}{nx:Nat→List Nat}{out:List Int}{v:Nat}{q:List Nat}{m:Nat}{oc:List Int}{qc:List Nat}(h:GRd N nx out v q m oc qc)(hm:(nx v).length≤m):PO.scan (PO.at_ out v+1) (PO.nbX nx v) out q=(oc,qc):=by
 rw[h.e,List.drop_of_length_le hm];rfl
theorem Xw{a b:List D}(h:Les a b):Le (.agg a) (.agg b):=fun w F ι v hv=>by
 obtain⟨cs,rfl,hl,hr⟩:=hv.is_agg
 obtain⟨h1,h2⟩:=h.at
 exact .agg cs b (by omega) (fun i hi=>h2 i (by omega) hi _ _ _ _ (hr i (by omega)))
theorem bnd_start(N:Nat)(hN:0<N)(u:Nat):PO.at_ (PO.mark (List.replicate N (-1)) [0]) u+PO.negs (PO.mark (List.replicate N (-1)) [0])≤N:=by
 have h1:(PO.negs (PO.mark (List.replicate N (-1)) [0]):Int)≤N:=by
  have:=negs_le (PO.mark (List.replicate N (-1)) [0])
  rw[PO.mark_len] at this
  simp at this
  omega
 have h2:PO.at_ (PO.mark (List.replicate N (-1)) [0]) u≤0:=by
  rw[PO.at_mark _ _ _ (by simpa using hN),PO.at_rep]
  split<;>omega
 omega
inductive RX where
 | a (out:List Int) (q:List Nat) (dn:List Bool)
 | b (out:List Int) (q:List Nat) (dn:List Bool) (gs:List Nat) (ls dp:Int) (g:Nat)
end
section
open Go Go.RowKit
def nxV(perm:List Int→Opr→Bool)(st:List Int)(ms:List Nat)(v:Nat):List Nat:=if v<2 ^ ms.length then YK perm ms (Zi st ms v) ms.length else []
def opV(perm:List Int→Opr→Bool)(st:List Int)(ms:List Nat)(v:Nat):List Opr:=if v<2 ^ ms.length then nextO perm ms (Zi st ms v) ms.length else []
def glV(okF:List Int→Bool)(costF:List Int→Int)(st:List Int)(ms:List Nat)(v:Nat):Option Int:=if okF (Zi st ms v)=true then some (costF (Zi st ms v)) else none
open PO in
def reachR(perm:List Int→Opr→Bool)(okF:List Int→Bool)(costF:List Int→Int)(st:List Int)(ms:List Nat):RS :=
 reachF (nxV perm st ms) (glV okF costF st ms) (negs (startRS (2 ^ ms.length)).out+(startRS (2 ^ ms.length)).q.length) (startRS (2 ^ ms.length))
theorem nextI_lt(perm:List Int→Opr→Bool)(ms:List Nat)(s:List Int):∀ k,∀ i∈YK perm ms s k,i<k
 | 0,i,h=>by simp[YK] at h
 | k+1,i,h=>by
  unfold YK at h
  rcases List.mem_append.1 h with h|h
  ·have:=nextI_lt perm ms s k i h;omega
  ·split at h
   ·have:i=k:=by simpa using h
    omega
   ·simp at h
theorem nxV_lt{perm:List Int→Opr→Bool}{st:List Int}{ms:List Nat}{v i:Nat}(h:i∈nxV perm st ms v):i<ms.length:=by
 unfold nxV at h
 split at h
 ·exact nextI_lt _ _ _ _ i h
 ·simp at h
theorem nxV_ok(perm:List Int→Opr→Bool)(st:List Int)(ms:List Nat):NxOK (2 ^ ms.length) (nxV perm st ms):=by
 refine⟨fun v hv w hw=>?_,fun v hv=>by unfold nxV;rw[if_neg hv]⟩
 obtain⟨i,hi,rfl⟩:=List.mem_map.1 hw
 exact PO.xor_lt hv (nxV_lt hi)
theorem opV_nil(perm:List Int→Opr→Bool)(st:List Int)(ms:List Nat)(v:Nat)(h:nxV perm st ms v=[]):opV perm st ms v=[]:=by
 unfold nxV at h
 unfold opV
 split at h
 ·rename_i hv
  rw[if_pos hv]
  exact List.eq_nil_of_length_eq_zero (by rw[nextO_len,h];rfl)
 ·rename_i hv;rw[if_neg hv]
theorem reach_pure(n:Nat)(st:List Int)(ms:List Nat)(hp:PrOK n st ms)(c:Nat)(d1 d2:List D)(hq1:Clo d1)(hq2:Clo d2)(perm:List Int→Opr→Bool)(hpm:∀ s,Val12 n s→∀ d∈ms,Pure Tryz.prog G0 c (d1++.sl (Zb s)::.agg (Yl ⟨(d:Int),3 - PO.at_ s d⟩)::d2) (.bool (perm s ⟨(d:Int),3 - PO.at_ s d⟩)))(c2:Nat)(e1 e2:List D)(hq3:Clo e1)(hq4:Clo e2)(okF:List Int→Bool)(costF:List Int→Int)(hgo:∀ s,Val12 n s→Pure Tryz.prog G0 c2 (e1++.sl (Zb s)::e2) (.tup [.int .i64 (costF s),.bool (okF s)])):Pure Tryz.prog G0 91 [prD st ms c d1 d2,.fn (.func c2) e1 e2] (.agg [.sl (Zb (reachR perm okF costF st ms).out),.sl ((reachR perm okF costF st ms).edges.map fun e=>[.sl (Zb (nats e))]),.sl ((opsE (opV perm st ms) (reachR perm okF costF st ms).edges).map fun l=>[.sl (l.map Yl)]),.sl (Zb (nats (reachR perm okF costF st ms).goals)),.int .i64 (reachR perm okF costF st ms).least]):=by
 refine Zh Tryz.func91 rfl Tryz.ntmps91 ?_
 obtain⟨N,hN⟩:∃ N,N=2 ^ ms.length:=⟨_,rfl⟩
 have hml:=hp.l
 have hN1:N≤1024:=by rw[hN];exact Nat.pow_le_pow_right (by decide) hp.l
 have hN0:0<N:=by rw[hN];exact Nat.pow_pos (by decide)
 have hsh:=shl_nat ms.length (by omega)
 rw[← hN] at hsh
 have hm00:¬ ((ms.length:Int)<0):=by omega
 have hst:∀ v,v<N→Pure Tryz.prog G0 137 [prD st ms c d1 d2,.int .i64 v] (.sl (Zb (Zi st ms v))):=fun v hv=>rstate_pure n st ms hp c d1 d2 hq1 hq2 v (by omega)
 have hvs:∀ v,Val12 n (Zi st ms v):=fun v=>ZJ hp.v hp.m v _
 have hnx:=nxV_ok perm st ms
 rw[← hN] at hnx
 have hop:=opV_nil perm st ms
 have hxl:∀ v,∀ i∈nxV perm st ms v,i<10:=fun v i hi=>Nat.lt_of_lt_of_le (nxV_lt hi) hp.l
 have hnl:∀ v,(nxV perm st ms v).length≤10:=fun v=>by unfold nxV;split;exact Nat.le_trans (nextI_len _ _ _ _) hp.l;simp
 have hne:∀ v,v<N→Pure Tryz.prog G0 138 [prD st ms c d1 d2,.sl (Zb (Zi st ms v))] (.tup [.sl (Zb (nats (nxV perm st ms v))),.sl ((opV perm st ms v).map Yl)]):=fun v hv=>by have h:=rnext_pure n st ms hp c d1 d2 hq1 hq2 perm hpm (Zi st ms v) (hvs v);unfold nxV opV;rw[← hN,if_pos hv,if_pos hv];exact h
 have hgl:∀ v,Pure Tryz.prog G0 c2 (e1++.sl (Zb (Zi st ms v))::e2) (.tup [.int .i64 (costF (Zi st ms v)),.bool (okF (Zi st ms v))]):=fun v=>hgo _ (hvs v)
 have hglE:∀ v,glV okF costF st ms v=if okF (Zi st ms v)=true then some (costF (Zi st ms v)) else none:=fun v=>rfl
 have hR0:reachR perm okF costF st ms=PO.reachF (nxV perm st ms) (glV okF costF st ms) (PO.negs (PO.startRS N).out+(PO.startRS N).q.length) (PO.startRS N):=by rw[reachR,hN]
 generalize reachR perm okF costF st ms=R0 at *
 generalize nxV perm st ms=nx at *
 generalize opV perm st ms=op at *
 generalize glV okF costF st ms=gl at *
 have hRJ:RJ N nx gl R0 (PO.startRS N):=⟨PO.startRS_inv hN0 nx gl,hR0⟩
 clear hR0 hpm hgo
 refine R2 [] (by simp[hq1.v,hq2.v,hq1.l,hq2.l,hq1.n,hq2.n,hq3.v,hq4.v,hq3.l,hq4.l,hq3.n,hq4.n];first|exact F3|exact F4) ?_
 refine R2 [] (by simp[hq1.v,hq2.v,hq1.l,hq2.l,hq1.n,hq2.n,hq3.v,hq4.v,hq3.l,hq4.l,hq3.n,hq4.n,hm00,hsh];first|exact F3|exact F4) ?_
 refine R2 [] (by simp[hq1.v,hq2.v,hq1.l,hq2.l,hq1.n,hq2.n,hq3.v,hq4.v,hq3.l,hq4.l,hq3.n,hq4.n,hN0];first|exact F3|exact F4) ?_
 refine R2 [] (by simp[hq1.v,hq2.v,hq1.l,hq2.l,hq1.n,hq2.n,hq3.v,hq4.v,hq3.l,hq4.l,hq3.n,hq4.n];first|exact F3|exact F4) ?_
 refine Zd (fun K0_1 hK0_1=>?_)
 refine Zg (X:=Nat) [1,2,4,5,6,30] [8] (fun x=>[(31,.int .i64 x)]) (fun x=>[(8,.arr 1 (Zb (List.replicate x (-1)++List.replicate (N - x) 0)))]) (fun x=>x≤N) (fun x=>N - x) 0 ((by simp)) (by simp[repI,hq1.l,hq2.l,hq3.l,hq4.l]) ?_
 simp only[KN,keep,but,reduceIte,Nat.reduceEqDiff,Nat.reduceBEq]
 rintro k hk KL2 hKL2
 replace hk:k≤N:=hk
 refine R2 [] (by simp[hq1.v,hq2.v,hq1.l,hq2.l,hq1.n,hq2.n,hq3.v,hq4.v,hq3.l,hq4.l,hq3.n,hq4.n];first|exact F3|exact F4) ?_
 refine fl_C (fun c4=>?_) (fun c4=>?_)
 ·have hlt:k<N:=by simpa using c4
  have hst2:(List.replicate k (-1:Int)++List.replicate (N - k) 0).set k (-1)=List.replicate (k+1) (-1)++List.replicate (N - (k+1)) 0:=by rw[set_tail _ k (N - k) 0 (-1) (by simp) (by omega),← List.replicate_succ',Nat.sub_sub]
  have hll:k+(N - k)=N:=by omega
  have hzz:(List.replicate k (-1:Int)++List.replicate (N - k) 0)[k]? = some 0:=by rw[List.getElem?_append_right (by simp),List.length_replicate,Nat.sub_self,List.getElem?_replicate,if_pos (by omega)]
  refine Zd (fun K1_3 hK1_3=>?_)
  refine R2 [] (by simp[hq1.v,hq2.v,hq1.l,hq2.l,hq1.n,hq2.n,hq3.v,hq4.v,hq3.l,hq4.l,hq3.n,hq4.n,hlt,hll,hzz];first|exact F3|exact F4) ?_
  refine R2 [] (by simp[hq1.v,hq2.v,hq1.l,hq2.l,hq1.n,hq2.n,hq3.v,hq4.v,hq3.l,hq4.l,hq3.n,hq4.n,hlt,hll,hzz];first|exact F3|exact F4) ?_
  refine Zc (hK1_3 _ _ _ ?_)
  refine R2 [] (by simp[hq1.v,hq2.v,hq1.l,hq2.l,hq1.n,hq2.n,hq3.v,hq4.v,hq3.l,hq4.l,hq3.n,hq4.n,hlt,hll,hzz];(try simp (disch:=omega) only[w64]);first|exact F3|exact F4) ?_
  exact hKL2 _ _ _ (k+1) (by show k+1≤_;omega) (by show _<_;omega) (by simp[setI,hst2,hq1.l,hq2.l,hq3.l,hq4.l])
 ·have hke:N=k:=Nat.le_antisymm (by simpa using c4) hk
  have hm0:PO.mark (List.replicate N (-1)) [0]=(List.replicate N (-1)).set 0 0:=rfl
  have hl0:(List.replicate N (-1:Int))[0]? = some (-1):=by rw[List.getElem?_replicate,if_pos hN0]
  subst hke
  refine Ze (show K0_1 _ _ _ from hK0_1 _ _ _ ?_)
  refine R2 [] (by simp[hq1.v,hq2.v,hq1.l,hq2.l,hq1.n,hq2.n,hq3.v,hq4.v,hq3.l,hq4.l,hq3.n,hq4.n];first|exact F3|exact F4) ?_
  refine R2 [] (by simp[hq1.v,hq2.v,hq1.l,hq2.l,hq1.n,hq2.n,hq3.v,hq4.v,hq3.l,hq4.l,hq3.n,hq4.n,hl0,hN0];first|exact F3|exact F4) ?_
  refine awpL_comm Xb (by simp[hN0];first|exact⟨rfl,rfl,Iff.rfl⟩|exact⟨rfl,rfl,trivial⟩|exact⟨rfl,rfl,rfl⟩) (by first|trivial|omega|(simp;done)|(simp;omega)) ?_
  refine R2 [] (by simp[hq1.v,hq2.v,hq1.l,hq2.l,hq1.n,hq2.n,hq3.v,hq4.v,hq3.l,hq4.l,hq3.n,hq4.n];first|exact F3|exact F4) ?_
  refine Zd (fun K2_4 hK2_4=>?_)
  refine fl_loopN (X:=RX) (fun x=>match x with|.a _ _ _=>[(1,.fn (.func c2) e1 e2),(2,.bp 0 0),(4,.bp 1 0),(6,.bp 14 0),(8,.rf 22 true),(9,.int .i64 (-1))]|.b _ _ _ _ _ dp _=>[(1,.fn (.func c2) e1 e2),(2,.bp 0 0),(4,.bp 1 0),(6,.bp 14 0),(8,.rf 22 true),(9,.int .i64 dp)]) (fun x=>match x with|.a out q dn=>[(0,.box [.sl (Zb st),.sl (Zb (nats ms)),.fn (.func c) d1 d2]),(1,.box [.nils,.nils,.nils,.nils,.int .i64 0]),(14,.box [.os 8 N 0 N,.os 10 N 0 N,.os 12 N 0 N,.nils,.int .i64 0]),(8,.arr 1 (Zb out)),(10,.arr 1 (eoD nx dn)),(12,.arr 1 (ooD op dn)),(22,.obj (.chanI N (nats q)))]|.b out q dn gs ls dp g=>[(0,.box [.sl (Zb st),.sl (Zb (nats ms)),.fn (.func c) d1 d2]),(1,.box [.nils,.nils,.nils,.nils,.int .i64 0]),(14,.box [.os 8 N 0 N,.os 10 N 0 N,.os 12 N 0 N,.os g gs.length 0 gs.length,.int .i64 ls]),(8,.arr 1 (Zb out)),(10,.arr 1 (eoD nx dn)),(12,.arr 1 (ooD op dn)),(22,.obj (.chanI N (nats q))),(g,.arr 1 (Zb (nats gs)))]) (fun x=>match x with|.a out q dn=>dn.length=N∧Hid (RJ N nx gl R0 ⟨out,q,edgesB nx dn,[],0,-1⟩)∧(∀ u,PO.at_ out u+PO.negs out≤N)|.b out q dn gs ls dp g=>dn.length=N∧Hid (RJ N nx gl R0 ⟨out,q,edgesB nx dn,gs,ls,dp⟩)∧(0≤dp∧gs.length+q.length≤2000∧29≤g)) (fun x=>match x with|.a out q _=>PO.negs out+q.length|.b out q _ _ _ _ _=>PO.negs out+q.length) (fun x=>match x with|.a _ _ _=>29|.b _ _ _ _ _ _ g=>g+1) (fun x hx=>by cases x;exact Nat.le_refl _;have h9:=hx.2.2.2.2;show _≤_+1;omega) (.a (PO.mark (List.replicate N (-1)) [0]) [0] (List.replicate N false)) ⟨by simp,Lib.hid (by have h9:=hRJ;rw[PO.startRS,← edgesB_rep nx N] at h9;exact h9),bnd_start N hN0⟩ (by simp[hm0,Zw,setI,hq1.l,hq2.l,hq3.l,hq4.l];exact⟨eoD_rep nx N,ooD_rep op N⟩) ?_
  rintro (⟨out,q,dn⟩|⟨out,q,dn,gs,ls,dp,g⟩) hJ KL5 hKL5
  ·obtain⟨hdl,hR,hbn⟩:=hJ
   have hol:out.length=N:=hR.out.inv.len
   refine R2 [] (by simp[hq1.v,hq2.v,hq1.l,hq2.l,hq1.n,hq2.n,hq3.v,hq4.v,hq3.l,hq4.l,hq3.n,hq4.n];first|exact F3|exact F4) ?_
   refine fl_C (fun c12=>?_) (fun c12=>?_)
   ·obtain⟨v,q,rfl⟩:∃ v q1,q=v::q1:=by cases q with|nil=>simp at c12|cons v q1=>exact⟨v,q1,rfl⟩
    have hqi:=hR.out.inv.qin v (by simp)
    obtain⟨hvN,hv0⟩:=hqi
    have hv0:0≤PO.at_ out v:=hv0
    have hvl:v<out.length:=by omega
    have hva:out[v]=PO.at_ out v:=by simp[PO.at_,hvl]
    have hvk:out[v]? = some (PO.at_ out v):=by rw[← hva];simp[hvl]
    have hroom:=hR.out.inv.room
    have het:((eoD nx dn)[v]'(by simp;omega)).tail=[]:=by simp[eoD]
    have hot:((ooD op dn)[v]'(by simp;omega)).tail=[]:=by simp[ooD]
    simp only[List.length_cons] at hroom
    have hglv:=hglE v
    have hgc:=hgl v
    have hstv:=hst v hvN
    have hnev:=hne v hvN
    generalize hsv:Zi st ms v=sv at *
    generalize hco:costF sv=co at *
    have hv0d:decide (0≤PO.at_ out v)=true:=by simpa using hv0
    refine Zd (fun K3_6 hK3_6=>?_)
    refine awpL_comm Xb (by simp[Zw];first|exact⟨rfl,rfl,Iff.rfl⟩|exact⟨rfl,rfl,trivial⟩|exact⟨rfl,rfl,rfl⟩) (by first|trivial|omega|(simp;done)|(simp;omega)) ?_
    refine R2 [] (by simp[hq1.v,hq2.v,hq1.l,hq2.l,hq1.n,hq2.n,hq3.v,hq4.v,hq3.l,hq4.l,hq3.n,hq4.n,hol,hvN,hva,hvk];first|exact F3|exact F4) ?_
    refine fl_F ?_
    refine R2 [.p ⟨_,_,_,hstv⟩] (by simp[hq1.v,hq2.v,hq1.l,hq2.l,hq1.n,hq2.n,hq3.v,hq4.v,hq3.l,hq4.l,hq3.n,hq4.n];first|exact F3|exact F4) ?_
    refine R2 [.p ⟨_,_,_,hgc⟩] (by simp[hq1.v,hq2.v,hq1.l,hq2.l,hq1.n,hq2.n,hq3.v,hq4.v,hq3.l,hq4.l,hq3.n,hq4.n];first|exact F3|exact F4) ?_
    rcases bf_ (okF sv) with h17_70|h17_70
    ·refine R2 [] (by simp[hq1.v,hq2.v,hq1.l,hq2.l,hq1.n,hq2.n,hq3.v,hq4.v,hq3.l,hq4.l,hq3.n,hq4.n,h17_70];first|exact F3|exact F4) ?_
     refine fl_T ?_
     refine R2 [] (by simp[hq1.v,hq2.v,hq1.l,hq2.l,hq1.n,hq2.n,hq3.v,hq4.v,hq3.l,hq4.l,hq3.n,hq4.n];first|exact F3|exact F4) ?_
     refine fl_T ?_
     refine R2 [] (by simp[hq1.v,hq2.v,hq1.l,hq2.l,hq1.n,hq2.n,hq3.v,hq4.v,hq3.l,hq4.l,hq3.n,hq4.n];first|exact F3|exact F4) ?_
     refine R2 [] (by simp[hq1.v,hq2.v,hq1.l,hq2.l,hq1.n,hq2.n,hq3.v,hq4.v,hq3.l,hq4.l,hq3.n,hq4.n,hol,hvN,hva,hvk];first|exact F3|exact F4) ?_
     refine R2 [] (by simp[hq1.v,hq2.v,hq1.l,hq2.l,hq1.n,hq2.n,hq3.v,hq4.v,hq3.l,hq4.l,hq3.n,hq4.n];first|exact F3|exact F4) ?_
     refine fl_T ?_
     refine R2 [] (by simp[hq1.v,hq2.v,hq1.l,hq2.l,hq1.n,hq2.n,hq3.v,hq4.v,hq3.l,hq4.l,hq3.n,hq4.n,Zw];first|exact F3|exact F4) ?_
     refine R2 [] (by simp[hq1.v,hq2.v,hq1.l,hq2.l,hq1.n,hq2.n,hq3.v,hq4.v,hq3.l,hq4.l,hq3.n,hq4.n,hv0d];first|exact F3|exact F4) ?_
     refine fl_T ?_
     refine Ze (show K3_6 _ _ _ from hK3_6 _ _ _ ?_)
     exact hKL5 _ _ _ (.b out q dn [v] co (PO.at_ out v) 83) ⟨hdl,Lib.hid (by have h:=hR.out.step hnx rfl (fun h9=>absurd h9.1 (by show ¬ (0:Int) ≤ -1;decide));rw[pass_b1 (by rw[hglv,if_pos h17_70]) (.inl (by show (-1:Int)<0;decide)) hv0] at h;exact h),hv0,by simp;omega,by omega⟩ (by show _<_;simp only[List.length_cons];omega) (by simp[hq1.l,hq2.l,hq3.l,hq4.l,het,hot,eoD_set,ooD_set,setI,YH,Zw,Yk];try rfl)
    ·refine R2 [] (by simp[hq1.v,hq2.v,hq1.l,hq2.l,hq1.n,hq2.n,hq3.v,hq4.v,hq3.l,hq4.l,hq3.n,hq4.n,h17_70];first|exact F3|exact F4) ?_
     refine fl_F ?_
     refine R2 [] (by simp[hq1.v,hq2.v,hq1.l,hq2.l,hq1.n,hq2.n,hq3.v,hq4.v,hq3.l,hq4.l,hq3.n,hq4.n,hv0d];first|exact F3|exact F4) ?_
     refine fl_F ?_
     refine R [.p ⟨_,_,_,hnev⟩] (by simp[hq1.v,hq2.v,hq1.l,hq2.l,hq1.n,hq2.n,hq3.v,hq4.v,hq3.l,hq4.l,hq3.n,hq4.n,hdl,hvN];first|exact F3|exact F4) (by simp[eoD,ooD]) ?_
     refine R2 [] (by simp[hq1.v,hq2.v,hq1.l,hq2.l,hq1.n,hq2.n,hq3.v,hq4.v,hq3.l,hq4.l,hq3.n,hq4.n,hdl,hvN];first|exact F3|exact F4) ?_
     refine Zd (fun K4_7 hK4_7=>?_)
     refine Zg (X:=Nat×List Int×List Nat) [1,2,4,6,8,9,10,117,118] [8,22] (fun x=>[(119,.int .i64 x.1)]) (fun x=>[(8,.arr 1 (Zb x.2.1)),(22,.obj (.chanI N (nats x.2.2)))]) (fun x=>x.1≤(nx v).length∧Hid (GRd N nx out v q x.1 x.2.1 x.2.2)) (fun x=>(nx v).length - x.1) (0,out,q) (⟨by simp,Lib.hid ⟨hol,rfl,rfl,rfl,hbn⟩⟩) (by simp[hq1.l,hq2.l,hq3.l,hq4.l]) ?_
     simp only[KN,keep,but,reduceIte,Nat.reduceEqDiff,Nat.reduceBEq]
     rintro⟨m,oc,qc⟩ ⟨hm,hG⟩ KL8 hKL8
     have hnv:=hnl v
     replace hm:m≤(nx v).length:=hm
     replace hG:Hid (GRd N nx out v q m oc qc):=hG
     have hocl:=hG.out.l
     refine R2 [] (by simp[hq1.v,hq2.v,hq1.l,hq2.l,hq1.n,hq2.n,hq3.v,hq4.v,hq3.l,hq4.l,hq3.n,hq4.n];first|exact F3|exact F4) ?_
     refine fl_C (fun c26=>?_) (fun c26=>?_)
     ·have hml3:m<(nx v).length:=by simpa using c26
      have hii:(nx v)[m]? = some (nx v)[m]:=by simp[hml3]
      have hil:=hxl v _ (List.getElem_mem hml3)
      have hwN:=hnx.a v hvN (v ^^^ 2 ^ (nx v)[m]) (List.mem_map.2 ⟨_,List.getElem_mem hml3,rfl⟩)
      have hsk:=hG.out.skip hml3
      have hpu:=hG.out.push hml3
      have hi0:¬ (((nx v)[m]:Nat):Int)<0:=by omega
      have hsi:=shl_nat (nx v)[m] (by omega)
      have hy2:2 ^ (nx v)[m]≤2 ^ 10:=Nat.pow_le_pow_right (by decide) (by omega)
      have hxo:=xor_nat v (2 ^ (nx v)[m]) (by omega) (by omega)
      generalize (nx v)[m]=i at *
      generalize 2 ^ i=y at *
      generalize v ^^^ y=w at *
      have hwl:w<oc.length:=by omega
      have hwa:oc[w]=PO.at_ oc w:=by simp[PO.at_,hwl]
      have hvol:v<oc.length:=by omega
      have hva2:oc[v]=PO.at_ out v:=by have h9:=hG.out.a;rw[← h9];simp[PO.at_,hvol]
      have hbv:=hbn v
      have hw1:=w64 (n:=PO.at_ out v+1) (by omega) (by omega)
      have hrm:=hG.out.room (by omega)
      refine Zd (fun K5_9 hK5_9=>?_)
      refine R2 [] (by simp[hq1.v,hq2.v,hq1.l,hq2.l,hq1.n,hq2.n,hq3.v,hq4.v,hq3.l,hq4.l,hq3.n,hq4.n,hii];first|exact F3|exact F4) ?_
      refine R2 [] (by simp[hq1.v,hq2.v,hq1.l,hq2.l,hq1.n,hq2.n,hq3.v,hq4.v,hq3.l,hq4.l,hq3.n,hq4.n,hi0,hsi,hxo];first|exact F3|exact F4) ?_
      rcases bf_ (decide (PO.at_ oc w<0)) with h29_132|h29_132
      ·refine R2 [] (by simp[hq1.v,hq2.v,hq1.l,hq2.l,hq1.n,hq2.n,hq3.v,hq4.v,hq3.l,hq4.l,hq3.n,hq4.n,hocl,hwN,hwa,h29_132];first|exact F3|exact F4) ?_
       refine fl_T ?_
       refine R2 [] (by simp[hq1.v,hq2.v,hq1.l,hq2.l,hq1.n,hq2.n,hq3.v,hq4.v,hq3.l,hq4.l,hq3.n,hq4.n,hocl,hwN,hwa,hva2,hvN,hw1];(try simp (disch:=omega) only[w64]);first|exact F3|exact F4) ?_
       refine awpL_comm Xb (by simp;first|exact⟨rfl,rfl,Iff.rfl⟩|exact⟨rfl,rfl,trivial⟩|exact⟨rfl,rfl,rfl⟩) (by first|trivial|omega|(simp;done)|(simp;omega)) ?_
       refine Zc (hK5_9 _ _ _ ?_)
       refine R2 [] (by simp[hq1.v,hq2.v,hq1.l,hq2.l,hq1.n,hq2.n,hq3.v,hq4.v,hq3.l,hq4.l,hq3.n,hq4.n];(try simp (disch:=omega) only[w64]);first|exact F3|exact F4) ?_
       exact hKL8 _ _ _ (m+1,oc.set w (PO.at_ out v+1),qc++[w]) ⟨by show m+1≤_;omega,Lib.hid (hpu (by simpa using h29_132) hwN hv0)⟩ (by show _<_;omega) (by simp[hq1.l,hq2.l,hq3.l,hq4.l,eoD_set,ooD_set,setI,YH,Zw,Yk])
      ·refine R2 [] (by simp[hq1.v,hq2.v,hq1.l,hq2.l,hq1.n,hq2.n,hq3.v,hq4.v,hq3.l,hq4.l,hq3.n,hq4.n,hocl,hwN,hwa,h29_132];first|exact F3|exact F4) ?_
       refine fl_F ?_
       refine Zc (hK5_9 _ _ _ ?_)
       refine R2 [] (by simp[hq1.v,hq2.v,hq1.l,hq2.l,hq1.n,hq2.n,hq3.v,hq4.v,hq3.l,hq4.l,hq3.n,hq4.n];(try simp (disch:=omega) only[w64]);first|exact F3|exact F4) ?_
       exact hKL8 _ _ _ (m+1,oc,qc) ⟨by show m+1≤_;omega,Lib.hid (hsk (by simpa using h29_132))⟩ (by show _<_;omega) (by simp[hq1.l,hq2.l,hq3.l,hq4.l,eoD_set,ooD_set,setI,YH,Zw,Yk])
     ·have hml2:(nx v).length≤m:=by simpa using c26
      refine Ze (show K4_7 _ _ _ from hK4_7 _ _ _ ?_)
      refine Zc (hK3_6 _ _ _ ?_)
      exact hKL5 _ _ _ (.a oc qc (dn.set v true)) ⟨by simp[hdl],Lib.hid (by have h:=hR.out.step hnx rfl (fun h9=>absurd h9.1 (by show ¬ (0:Int) ≤ -1;decide));rw[pass_a (by rw[hglv,if_neg (by rw[h17_70];decide)]) (hG.out.fin hml2),edgesB_set] at h;exact h),hG.out.b⟩ (by show _<_;have:=hG.out.n;simp only[List.length_cons];omega) (by simp[hq1.l,hq2.l,hq3.l,hq4.l,het,hot,eoD_set,ooD_set,setI,YH,Zw,Yk])
   ·obtain rfl:q=[]:=by cases q with|nil=>rfl|cons v q1=>simp at c12
    refine Ze (show K2_4 _ _ _ from hK2_4 _ _ _ ?_)
    refine R2 [] (by simp[hq1.v,hq2.v,hq1.l,hq2.l,hq1.n,hq2.n,hq3.v,hq4.v,hq3.l,hq4.l,hq3.n,hq4.n];first|exact F3|exact F4) ?_
    refine Za ?_
    (have htk1:(Zb out).take N=Zb out:=List.take_of_length_le (by simp[hol]);have htk2:(eoD nx dn).take N=eoD nx dn:=List.take_of_length_le (by simp[hdl]);have htk3:(ooD op dn).take N=ooD op dn:=List.take_of_length_le (by simp[hdl]);have hre:=hR.out.nil rfl;rw[hre];simp[hol,hdl,htk1,htk2,htk3];exact Xw ⟨Le.refl _,le_eoD _ _,le_ooD _ _ hop _,Le.nils,Le.refl _,trivial⟩)
  ·obtain⟨hdl,hR,hdp,hgq,hgg⟩:=hJ
   have hol:out.length=N:=hR.out.inv.len
   have hdp1:decide (0≤dp)=true:=by simpa using hdp
   have hdp2:decide (dp<0)=false:=by simp;omega
   obtain⟨hg0,hh0,hg1,hh1,hg2,hh2,hg3,hh3,hg4,hh4,hg5,hh5,hg6,hh6,hg7,hh7,hg8,hh8,hg9,hh9,hg10,hh10,hg11,hh11,hg12,hh12,hg13,hh13,hg14,hh14,hg15,hh15,hg16,hh16,hg17,hh17,hg18,hh18,hg19,hh19,hg20,hh20,hg21,hh21,hg22,hh22,hg23,hh23,hg24,hh24,hg25,hh25,hg26,hh26,hg27,hh27,hg28,hh28⟩:g≠0∧0≠g∧g≠1∧1≠g∧g≠2∧2≠g∧g≠3∧3≠g∧g≠4∧4≠g∧g≠5∧5≠g∧g≠6∧6≠g∧g≠7∧7≠g∧g≠8∧8≠g∧g≠9∧9≠g∧g≠10∧10≠g∧g≠11∧11≠g∧g≠12∧12≠g∧g≠13∧13≠g∧g≠14∧14≠g∧g≠15∧15≠g∧g≠16∧16≠g∧g≠17∧17≠g∧g≠18∧18≠g∧g≠19∧19≠g∧g≠20∧20≠g∧g≠21∧21≠g∧g≠22∧22≠g∧g≠23∧23≠g∧g≠24∧24≠g∧g≠25∧25≠g∧g≠26∧26≠g∧g≠27∧27≠g∧g≠28∧28≠g:=by refine⟨?_,?_,?_,?_,?_,?_,?_,?_,?_,?_,?_,?_,?_,?_,?_,?_,?_,?_,?_,?_,?_,?_,?_,?_,?_,?_,?_,?_,?_,?_,?_,?_,?_,?_,?_,?_,?_,?_,?_,?_,?_,?_,?_,?_,?_,?_,?_,?_,?_,?_,?_,?_,?_,?_,?_,?_,?_,?_⟩<;>omega
   refine R2 [] (by simp[hq1.v,hq2.v,hq1.l,hq2.l,hq1.n,hq2.n,hq3.v,hq4.v,hq3.l,hq4.l,hq3.n,hq4.n,hg0,hh0,hg1,hh1,hg2,hh2,hg3,hh3,hg4,hh4,hg5,hh5,hg6,hh6,hg7,hh7,hg8,hh8,hg9,hh9,hg10,hh10,hg11,hh11,hg12,hh12,hg13,hh13,hg14,hh14,hg15,hh15,hg16,hh16,hg17,hh17,hg18,hh18,hg19,hh19,hg20,hh20,hg21,hh21,hg22,hh22,hg23,hh23,hg24,hh24,hg25,hh25,hg26,hh26,hg27,hh27,hg28,hh28,hdp1,hdp2];first|exact F3|exact F4) ?_
   refine fl_C (fun c12=>?_) (fun c12=>?_)
   ·obtain⟨v,q,rfl⟩:∃ v q1,q=v::q1:=by cases q with|nil=>simp at c12|cons v q1=>exact⟨v,q1,rfl⟩
    have hqi:=hR.out.inv.qin v (by simp)
    obtain⟨hvN,hv0⟩:=hqi
    have hv0:0≤PO.at_ out v:=hv0
    have hvl:v<out.length:=by omega
    have hva:out[v]=PO.at_ out v:=by simp[PO.at_,hvl]
    have hvk:out[v]? = some (PO.at_ out v):=by rw[← hva];simp[hvl]
    have hroom:=hR.out.inv.room
    have het:((eoD nx dn)[v]'(by simp;omega)).tail=[]:=by simp[eoD]
    have hot:((ooD op dn)[v]'(by simp;omega)).tail=[]:=by simp[ooD]
    simp only[List.length_cons] at hroom
    have hglv:=hglE v
    have hgc:=hgl v
    have hstv:=hst v hvN
    have hnev:=hne v hvN
    generalize hsv:Zi st ms v=sv at *
    generalize hco:costF sv=co at *
    have hv0d:decide (0≤PO.at_ out v)=true:=by simpa using hv0
    refine Zd (fun K3_10 hK3_10=>?_)
    refine awpL_comm Xb (by simp[Zw];first|exact⟨rfl,rfl,Iff.rfl⟩|exact⟨rfl,rfl,trivial⟩|exact⟨rfl,rfl,rfl⟩) (by first|trivial|omega|(simp;done)|(simp;omega)) ?_
    rcases bf_ (decide (dp<PO.at_ out v)) with h14_59|h14_59
    ·refine R2 [] (by simp[hq1.v,hq2.v,hq1.l,hq2.l,hq1.n,hq2.n,hq3.v,hq4.v,hq3.l,hq4.l,hq3.n,hq4.n,hg0,hh0,hg1,hh1,hg2,hh2,hg3,hh3,hg4,hh4,hg5,hh5,hg6,hh6,hg7,hh7,hg8,hh8,hg9,hh9,hg10,hh10,hg11,hh11,hg12,hh12,hg13,hh13,hg14,hh14,hg15,hh15,hg16,hh16,hg17,hh17,hg18,hh18,hg19,hh19,hg20,hh20,hg21,hh21,hg22,hh22,hg23,hh23,hg24,hh24,hg25,hh25,hg26,hh26,hg27,hh27,hg28,hh28,hdp1,hdp2,hol,hvN,hva,hvk,h14_59];first|exact F3|exact F4) ?_
     refine fl_T ?_
     refine Ze (show K2_4 _ _ _ from hK2_4 _ _ _ ?_)
     refine R2 [] (by simp[hq1.v,hq2.v,hq1.l,hq2.l,hq1.n,hq2.n,hq3.v,hq4.v,hq3.l,hq4.l,hq3.n,hq4.n,hg0,hh0,hg1,hh1,hg2,hh2,hg3,hh3,hg4,hh4,hg5,hh5,hg6,hh6,hg7,hh7,hg8,hh8,hg9,hh9,hg10,hh10,hg11,hh11,hg12,hh12,hg13,hh13,hg14,hh14,hg15,hh15,hg16,hh16,hg17,hh17,hg18,hh18,hg19,hh19,hg20,hh20,hg21,hh21,hg22,hh22,hg23,hh23,hg24,hh24,hg25,hh25,hg26,hh26,hg27,hh27,hg28,hh28,hdp1,hdp2];first|exact F3|exact F4) ?_
     refine Za ?_
     (have htk1:(Zb out).take N=Zb out:=List.take_of_length_le (by simp[hol]);have htk2:(eoD nx dn).take N=eoD nx dn:=List.take_of_length_le (by simp[hdl]);have htk3:(ooD op dn).take N=ooD op dn:=List.take_of_length_le (by simp[hdl]);have htk4:(Zb (nats gs)).take gs.length=Zb (nats gs):=List.take_of_length_le (by simp);have hre:=hR.out.stop rfl ⟨hdp,by simpa using h14_59⟩;rw[hre];simp[hol,hdl,htk1,htk2,htk3,htk4,hg0,hh0,hg1,hh1,hg2,hh2,hg3,hh3,hg4,hh4,hg5,hh5,hg6,hh6,hg7,hh7,hg8,hh8,hg9,hh9,hg10,hh10,hg11,hh11,hg12,hh12,hg13,hh13,hg14,hh14,hg15,hh15,hg16,hh16,hg17,hh17,hg18,hh18,hg19,hh19,hg20,hh20,hg21,hh21,hg22,hh22,hg23,hh23,hg24,hh24,hg25,hh25,hg26,hh26,hg27,hh27,hg28,hh28];exact Xw ⟨Le.refl _,le_eoD _ _,le_ooD _ _ hop _,Le.refl _,Le.refl _,trivial⟩)
    ·refine R2 [] (by simp[hq1.v,hq2.v,hq1.l,hq2.l,hq1.n,hq2.n,hq3.v,hq4.v,hq3.l,hq4.l,hq3.n,hq4.n,hg0,hh0,hg1,hh1,hg2,hh2,hg3,hh3,hg4,hh4,hg5,hh5,hg6,hh6,hg7,hh7,hg8,hh8,hg9,hh9,hg10,hh10,hg11,hh11,hg12,hh12,hg13,hh13,hg14,hh14,hg15,hh15,hg16,hh16,hg17,hh17,hg18,hh18,hg19,hh19,hg20,hh20,hg21,hh21,hg22,hh22,hg23,hh23,hg24,hh24,hg25,hh25,hg26,hh26,hg27,hh27,hg28,hh28,hdp1,hdp2,hol,hvN,hva,hvk,h14_59];first|exact F3|exact F4) ?_
     refine fl_F ?_
     refine R2 [.p ⟨_,_,_,hstv⟩] (by simp[hq1.v,hq2.v,hq1.l,hq2.l,hq1.n,hq2.n,hq3.v,hq4.v,hq3.l,hq4.l,hq3.n,hq4.n,hg0,hh0,hg1,hh1,hg2,hh2,hg3,hh3,hg4,hh4,hg5,hh5,hg6,hh6,hg7,hh7,hg8,hh8,hg9,hh9,hg10,hh10,hg11,hh11,hg12,hh12,hg13,hh13,hg14,hh14,hg15,hh15,hg16,hh16,hg17,hh17,hg18,hh18,hg19,hh19,hg20,hh20,hg21,hh21,hg22,hh22,hg23,hh23,hg24,hh24,hg25,hh25,hg26,hh26,hg27,hh27,hg28,hh28,hdp1,hdp2];first|exact F3|exact F4) ?_
     refine R2 [.p ⟨_,_,_,hgc⟩] (by simp[hq1.v,hq2.v,hq1.l,hq2.l,hq1.n,hq2.n,hq3.v,hq4.v,hq3.l,hq4.l,hq3.n,hq4.n,hg0,hh0,hg1,hh1,hg2,hh2,hg3,hh3,hg4,hh4,hg5,hh5,hg6,hh6,hg7,hh7,hg8,hh8,hg9,hh9,hg10,hh10,hg11,hh11,hg12,hh12,hg13,hh13,hg14,hh14,hg15,hh15,hg16,hh16,hg17,hh17,hg18,hh18,hg19,hh19,hg20,hh20,hg21,hh21,hg22,hh22,hg23,hh23,hg24,hh24,hg25,hh25,hg26,hh26,hg27,hh27,hg28,hh28,hdp1,hdp2];first|exact F3|exact F4) ?_
     rcases bf_ (okF sv) with h17_70|h17_70
     ·refine R2 [] (by simp[hq1.v,hq2.v,hq1.l,hq2.l,hq1.n,hq2.n,hq3.v,hq4.v,hq3.l,hq4.l,hq3.n,hq4.n,hg0,hh0,hg1,hh1,hg2,hh2,hg3,hh3,hg4,hh4,hg5,hh5,hg6,hh6,hg7,hh7,hg8,hh8,hg9,hh9,hg10,hh10,hg11,hh11,hg12,hh12,hg13,hh13,hg14,hh14,hg15,hh15,hg16,hh16,hg17,hh17,hg18,hh18,hg19,hh19,hg20,hh20,hg21,hh21,hg22,hh22,hg23,hh23,hg24,hh24,hg25,hh25,hg26,hh26,hg27,hh27,hg28,hh28,hdp1,hdp2,h17_70];first|exact F3|exact F4) ?_
      refine fl_T ?_
      rcases bf_ (decide (co<ls)) with h18_77|h18_77
      ·refine R2 [] (by simp[hq1.v,hq2.v,hq1.l,hq2.l,hq1.n,hq2.n,hq3.v,hq4.v,hq3.l,hq4.l,hq3.n,hq4.n,hg0,hh0,hg1,hh1,hg2,hh2,hg3,hh3,hg4,hh4,hg5,hh5,hg6,hh6,hg7,hh7,hg8,hh8,hg9,hh9,hg10,hh10,hg11,hh11,hg12,hh12,hg13,hh13,hg14,hh14,hg15,hh15,hg16,hh16,hg17,hh17,hg18,hh18,hg19,hh19,hg20,hh20,hg21,hh21,hg22,hh22,hg23,hh23,hg24,hh24,hg25,hh25,hg26,hh26,hg27,hh27,hg28,hh28,hdp1,hdp2,h18_77];first|exact F3|exact F4) ?_
       refine fl_T ?_
       refine R2 [] (by simp[hq1.v,hq2.v,hq1.l,hq2.l,hq1.n,hq2.n,hq3.v,hq4.v,hq3.l,hq4.l,hq3.n,hq4.n,hg0,hh0,hg1,hh1,hg2,hh2,hg3,hh3,hg4,hh4,hg5,hh5,hg6,hh6,hg7,hh7,hg8,hh8,hg9,hh9,hg10,hh10,hg11,hh11,hg12,hh12,hg13,hh13,hg14,hh14,hg15,hh15,hg16,hh16,hg17,hh17,hg18,hh18,hg19,hh19,hg20,hh20,hg21,hh21,hg22,hh22,hg23,hh23,hg24,hh24,hg25,hh25,hg26,hh26,hg27,hh27,hg28,hh28,hdp1,hdp2];first|exact F3|exact F4) ?_
       refine R2 [] (by simp[hq1.v,hq2.v,hq1.l,hq2.l,hq1.n,hq2.n,hq3.v,hq4.v,hq3.l,hq4.l,hq3.n,hq4.n,hg0,hh0,hg1,hh1,hg2,hh2,hg3,hh3,hg4,hh4,hg5,hh5,hg6,hh6,hg7,hh7,hg8,hh8,hg9,hh9,hg10,hh10,hg11,hh11,hg12,hh12,hg13,hh13,hg14,hh14,hg15,hh15,hg16,hh16,hg17,hh17,hg18,hh18,hg19,hh19,hg20,hh20,hg21,hh21,hg22,hh22,hg23,hh23,hg24,hh24,hg25,hh25,hg26,hh26,hg27,hh27,hg28,hh28,hdp1,hdp2,hol,hvN,hva,hvk];first|exact F3|exact F4) ?_
       refine R2 [] (by simp[hq1.v,hq2.v,hq1.l,hq2.l,hq1.n,hq2.n,hq3.v,hq4.v,hq3.l,hq4.l,hq3.n,hq4.n,hg0,hh0,hg1,hh1,hg2,hh2,hg3,hh3,hg4,hh4,hg5,hh5,hg6,hh6,hg7,hh7,hg8,hh8,hg9,hh9,hg10,hh10,hg11,hh11,hg12,hh12,hg13,hh13,hg14,hh14,hg15,hh15,hg16,hh16,hg17,hh17,hg18,hh18,hg19,hh19,hg20,hh20,hg21,hh21,hg22,hh22,hg23,hh23,hg24,hh24,hg25,hh25,hg26,hh26,hg27,hh27,hg28,hh28,hdp1,hdp2];first|exact F3|exact F4) ?_
       refine fl_T ?_
       refine R2 [] (by simp[hq1.v,hq2.v,hq1.l,hq2.l,hq1.n,hq2.n,hq3.v,hq4.v,hq3.l,hq4.l,hq3.n,hq4.n,hg0,hh0,hg1,hh1,hg2,hh2,hg3,hh3,hg4,hh4,hg5,hh5,hg6,hh6,hg7,hh7,hg8,hh8,hg9,hh9,hg10,hh10,hg11,hh11,hg12,hh12,hg13,hh13,hg14,hh14,hg15,hh15,hg16,hh16,hg17,hh17,hg18,hh18,hg19,hh19,hg20,hh20,hg21,hh21,hg22,hh22,hg23,hh23,hg24,hh24,hg25,hh25,hg26,hh26,hg27,hh27,hg28,hh28,hdp1,hdp2,Zw,Nat.add_assoc,Nat.left_eq_add,Nat.add_eq_left];first|exact F3|exact F4) ?_
       refine R2 [] (by simp[hq1.v,hq2.v,hq1.l,hq2.l,hq1.n,hq2.n,hq3.v,hq4.v,hq3.l,hq4.l,hq3.n,hq4.n,hg0,hh0,hg1,hh1,hg2,hh2,hg3,hh3,hg4,hh4,hg5,hh5,hg6,hh6,hg7,hh7,hg8,hh8,hg9,hh9,hg10,hh10,hg11,hh11,hg12,hh12,hg13,hh13,hg14,hh14,hg15,hh15,hg16,hh16,hg17,hh17,hg18,hh18,hg19,hh19,hg20,hh20,hg21,hh21,hg22,hh22,hg23,hh23,hg24,hh24,hg25,hh25,hg26,hh26,hg27,hh27,hg28,hh28,hdp1,hdp2,hv0d];first|exact F3|exact F4) ?_
       refine fl_T ?_
       refine Ze (show K3_10 _ _ _ from hK3_10 _ _ _ ?_)
       exact hKL5 _ _ _ (.b out q dn [v] co (PO.at_ out v) (g+1+54)) ⟨hdl,Lib.hid (by have h:=hR.out.step hnx rfl (by intro h9;have h8:=h9.2;simp at h14_59;simp only at h8;omega);rw[pass_b1 (by rw[hglv,if_pos h17_70]) (.inr (by simpa using h18_77)) hv0] at h;exact h),hv0,by simp at hgq ⊢;omega,by omega⟩ (by show _<_;simp only[List.length_cons];omega) (by simp[hq1.l,hq2.l,hq3.l,hq4.l,het,hot,eoD_set,ooD_set,setI,YH,Zw,Yk,hg0,hh0,hg1,hh1,hg2,hh2,hg3,hh3,hg4,hh4,hg5,hh5,hg6,hh6,hg7,hh7,hg8,hh8,hg9,hh9,hg10,hh10,hg11,hh11,hg12,hh12,hg13,hh13,hg14,hh14,hg15,hh15,hg16,hh16,hg17,hh17,hg18,hh18,hg19,hh19,hg20,hh20,hg21,hh21,hg22,hh22,hg23,hh23,hg24,hh24,hg25,hh25,hg26,hh26,hg27,hh27,hg28,hh28]<;>first|rfl|omega|skip)
      ·refine R2 [] (by simp[hq1.v,hq2.v,hq1.l,hq2.l,hq1.n,hq2.n,hq3.v,hq4.v,hq3.l,hq4.l,hq3.n,hq4.n,hg0,hh0,hg1,hh1,hg2,hh2,hg3,hh3,hg4,hh4,hg5,hh5,hg6,hh6,hg7,hh7,hg8,hh8,hg9,hh9,hg10,hh10,hg11,hh11,hg12,hh12,hg13,hh13,hg14,hh14,hg15,hh15,hg16,hh16,hg17,hh17,hg18,hh18,hg19,hh19,hg20,hh20,hg21,hh21,hg22,hh22,hg23,hh23,hg24,hh24,hg25,hh25,hg26,hh26,hg27,hh27,hg28,hh28,hdp1,hdp2,h18_77];first|exact F3|exact F4) ?_
       refine fl_F ?_
       refine R2 [] (by simp[hq1.v,hq2.v,hq1.l,hq2.l,hq1.n,hq2.n,hq3.v,hq4.v,hq3.l,hq4.l,hq3.n,hq4.n,hg0,hh0,hg1,hh1,hg2,hh2,hg3,hh3,hg4,hh4,hg5,hh5,hg6,hh6,hg7,hh7,hg8,hh8,hg9,hh9,hg10,hh10,hg11,hh11,hg12,hh12,hg13,hh13,hg14,hh14,hg15,hh15,hg16,hh16,hg17,hh17,hg18,hh18,hg19,hh19,hg20,hh20,hg21,hh21,hg22,hh22,hg23,hh23,hg24,hh24,hg25,hh25,hg26,hh26,hg27,hh27,hg28,hh28,hdp1,hdp2,hol,hvN,hva,hvk];first|exact F3|exact F4) ?_
       rcases bf_ (co==ls) with h21_90|h21_90
       ·refine R2 [] (by simp[hq1.v,hq2.v,hq1.l,hq2.l,hq1.n,hq2.n,hq3.v,hq4.v,hq3.l,hq4.l,hq3.n,hq4.n,hg0,hh0,hg1,hh1,hg2,hh2,hg3,hh3,hg4,hh4,hg5,hh5,hg6,hh6,hg7,hh7,hg8,hh8,hg9,hh9,hg10,hh10,hg11,hh11,hg12,hh12,hg13,hh13,hg14,hh14,hg15,hh15,hg16,hh16,hg17,hh17,hg18,hh18,hg19,hh19,hg20,hh20,hg21,hh21,hg22,hh22,hg23,hh23,hg24,hh24,hg25,hh25,hg26,hh26,hg27,hh27,hg28,hh28,hdp1,hdp2,h21_90];first|exact F3|exact F4) ?_
        refine fl_T ?_
        refine R2 [] (by simp[hq1.v,hq2.v,hq1.l,hq2.l,hq1.n,hq2.n,hq3.v,hq4.v,hq3.l,hq4.l,hq3.n,hq4.n,hg0,hh0,hg1,hh1,hg2,hh2,hg3,hh3,hg4,hh4,hg5,hh5,hg6,hh6,hg7,hh7,hg8,hh8,hg9,hh9,hg10,hh10,hg11,hh11,hg12,hh12,hg13,hh13,hg14,hh14,hg15,hh15,hg16,hh16,hg17,hh17,hg18,hh18,hg19,hh19,hg20,hh20,hg21,hh21,hg22,hh22,hg23,hh23,hg24,hh24,hg25,hh25,hg26,hh26,hg27,hh27,hg28,hh28,hdp1,hdp2,Zw,Nat.add_assoc,Nat.left_eq_add,Nat.add_eq_left];first|exact F3|exact F4) ?_
        refine R2 [] (by simp[hq1.v,hq2.v,hq1.l,hq2.l,hq1.n,hq2.n,hq3.v,hq4.v,hq3.l,hq4.l,hq3.n,hq4.n,hg0,hh0,hg1,hh1,hg2,hh2,hg3,hh3,hg4,hh4,hg5,hh5,hg6,hh6,hg7,hh7,hg8,hh8,hg9,hh9,hg10,hh10,hg11,hh11,hg12,hh12,hg13,hh13,hg14,hh14,hg15,hh15,hg16,hh16,hg17,hh17,hg18,hh18,hg19,hh19,hg20,hh20,hg21,hh21,hg22,hh22,hg23,hh23,hg24,hh24,hg25,hh25,hg26,hh26,hg27,hh27,hg28,hh28,hdp1,hdp2,hv0d];first|exact F3|exact F4) ?_
        refine fl_T ?_
        refine Ze (show K3_10 _ _ _ from hK3_10 _ _ _ ?_)
        exact hKL5 _ _ _ (.b out q dn (gs++[v]) ls (PO.at_ out v) g) ⟨hdl,Lib.hid (by have h:=hR.out.step hnx rfl (by intro h9;have h8:=h9.2;simp at h14_59;simp only at h8;omega);rw[pass_b2 (by rw[hglv,if_pos h17_70];congr 1;simpa using h21_90) hdp hv0] at h;exact h),hv0,by simp at hgq ⊢;omega,hgg⟩ (by show _<_;simp only[List.length_cons];omega) (by simp[hq1.l,hq2.l,hq3.l,hq4.l,het,hot,eoD_set,ooD_set,setI,YH,Zw,Yk,hg0,hh0,hg1,hh1,hg2,hh2,hg3,hh3,hg4,hh4,hg5,hh5,hg6,hh6,hg7,hh7,hg8,hh8,hg9,hh9,hg10,hh10,hg11,hh11,hg12,hh12,hg13,hh13,hg14,hh14,hg15,hh15,hg16,hh16,hg17,hh17,hg18,hh18,hg19,hh19,hg20,hh20,hg21,hh21,hg22,hh22,hg23,hh23,hg24,hh24,hg25,hh25,hg26,hh26,hg27,hh27,hg28,hh28]<;>first|rfl|omega|skip)
       ·refine R2 [] (by simp[hq1.v,hq2.v,hq1.l,hq2.l,hq1.n,hq2.n,hq3.v,hq4.v,hq3.l,hq4.l,hq3.n,hq4.n,hg0,hh0,hg1,hh1,hg2,hh2,hg3,hh3,hg4,hh4,hg5,hh5,hg6,hh6,hg7,hh7,hg8,hh8,hg9,hh9,hg10,hh10,hg11,hh11,hg12,hh12,hg13,hh13,hg14,hh14,hg15,hh15,hg16,hh16,hg17,hh17,hg18,hh18,hg19,hh19,hg20,hh20,hg21,hh21,hg22,hh22,hg23,hh23,hg24,hh24,hg25,hh25,hg26,hh26,hg27,hh27,hg28,hh28,hdp1,hdp2,h21_90];first|exact F3|exact F4) ?_
        refine fl_F ?_
        refine R2 [] (by simp[hq1.v,hq2.v,hq1.l,hq2.l,hq1.n,hq2.n,hq3.v,hq4.v,hq3.l,hq4.l,hq3.n,hq4.n,hg0,hh0,hg1,hh1,hg2,hh2,hg3,hh3,hg4,hh4,hg5,hh5,hg6,hh6,hg7,hh7,hg8,hh8,hg9,hh9,hg10,hh10,hg11,hh11,hg12,hh12,hg13,hh13,hg14,hh14,hg15,hh15,hg16,hh16,hg17,hh17,hg18,hh18,hg19,hh19,hg20,hh20,hg21,hh21,hg22,hh22,hg23,hh23,hg24,hh24,hg25,hh25,hg26,hh26,hg27,hh27,hg28,hh28,hdp1,hdp2,hv0d];first|exact F3|exact F4) ?_
        refine fl_T ?_
        refine Ze (show K3_10 _ _ _ from hK3_10 _ _ _ ?_)
        exact hKL5 _ _ _ (.b out q dn gs ls (PO.at_ out v) g) ⟨hdl,Lib.hid (by have h:=hR.out.step hnx rfl (by intro h9;have h8:=h9.2;simp at h14_59;simp only at h8;omega);rw[pass_b3 (by rw[hglv,if_pos h17_70]) hdp (by simpa using h18_77) (by simpa using h21_90) hv0] at h;exact h),hv0,by simp at hgq ⊢;omega,hgg⟩ (by show _<_;simp only[List.length_cons];omega) (by simp[hq1.l,hq2.l,hq3.l,hq4.l,het,hot,eoD_set,ooD_set,setI,YH,Zw,Yk,hg0,hh0,hg1,hh1,hg2,hh2,hg3,hh3,hg4,hh4,hg5,hh5,hg6,hh6,hg7,hh7,hg8,hh8,hg9,hh9,hg10,hh10,hg11,hh11,hg12,hh12,hg13,hh13,hg14,hh14,hg15,hh15,hg16,hh16,hg17,hh17,hg18,hh18,hg19,hh19,hg20,hh20,hg21,hh21,hg22,hh22,hg23,hh23,hg24,hh24,hg25,hh25,hg26,hh26,hg27,hh27,hg28,hh28]<;>first|rfl|omega|skip)
     ·refine R2 [] (by simp[hq1.v,hq2.v,hq1.l,hq2.l,hq1.n,hq2.n,hq3.v,hq4.v,hq3.l,hq4.l,hq3.n,hq4.n,hg0,hh0,hg1,hh1,hg2,hh2,hg3,hh3,hg4,hh4,hg5,hh5,hg6,hh6,hg7,hh7,hg8,hh8,hg9,hh9,hg10,hh10,hg11,hh11,hg12,hh12,hg13,hh13,hg14,hh14,hg15,hh15,hg16,hh16,hg17,hh17,hg18,hh18,hg19,hh19,hg20,hh20,hg21,hh21,hg22,hh22,hg23,hh23,hg24,hh24,hg25,hh25,hg26,hh26,hg27,hh27,hg28,hh28,hdp1,hdp2,h17_70];first|exact F3|exact F4) ?_
      refine fl_F ?_
      refine R2 [] (by simp[hq1.v,hq2.v,hq1.l,hq2.l,hq1.n,hq2.n,hq3.v,hq4.v,hq3.l,hq4.l,hq3.n,hq4.n,hg0,hh0,hg1,hh1,hg2,hh2,hg3,hh3,hg4,hh4,hg5,hh5,hg6,hh6,hg7,hh7,hg8,hh8,hg9,hh9,hg10,hh10,hg11,hh11,hg12,hh12,hg13,hh13,hg14,hh14,hg15,hh15,hg16,hh16,hg17,hh17,hg18,hh18,hg19,hh19,hg20,hh20,hg21,hh21,hg22,hh22,hg23,hh23,hg24,hh24,hg25,hh25,hg26,hh26,hg27,hh27,hg28,hh28,hdp1,hdp2,hv0d];first|exact F3|exact F4) ?_
      refine fl_T ?_
      refine Ze (show K3_10 _ _ _ from hK3_10 _ _ _ ?_)
      exact hKL5 _ _ _ (.b out q dn gs ls dp g) ⟨hdl,Lib.hid (by have h:=hR.out.step hnx rfl (by intro h9;have h8:=h9.2;simp at h14_59;simp only at h8;omega);rw[pass_b4 (by rw[hglv,if_neg (by rw[h17_70];decide)]) hdp] at h;exact h),hdp,by simp at hgq;omega,hgg⟩ (by show _<_;simp only[List.length_cons];omega) (by simp[hq1.l,hq2.l,hq3.l,hq4.l,het,hot,eoD_set,ooD_set,setI,YH,Zw,Yk,hg0,hh0,hg1,hh1,hg2,hh2,hg3,hh3,hg4,hh4,hg5,hh5,hg6,hh6,hg7,hh7,hg8,hh8,hg9,hh9,hg10,hh10,hg11,hh11,hg12,hh12,hg13,hh13,hg14,hh14,hg15,hh15,hg16,hh16,hg17,hh17,hg18,hh18,hg19,hh19,hg20,hh20,hg21,hh21,hg22,hh22,hg23,hh23,hg24,hh24,hg25,hh25,hg26,hh26,hg27,hh27,hg28,hh28]<;>first|rfl|omega|skip)
   ·obtain rfl:q=[]:=by cases q with|nil=>rfl|cons v q1=>simp at c12
    refine Ze (show K2_4 _ _ _ from hK2_4 _ _ _ ?_)
    refine R2 [] (by simp[hq1.v,hq2.v,hq1.l,hq2.l,hq1.n,hq2.n,hq3.v,hq4.v,hq3.l,hq4.l,hq3.n,hq4.n,hg0,hh0,hg1,hh1,hg2,hh2,hg3,hh3,hg4,hh4,hg5,hh5,hg6,hh6,hg7,hh7,hg8,hh8,hg9,hh9,hg10,hh10,hg11,hh11,hg12,hh12,hg13,hh13,hg14,hh14,hg15,hh15,hg16,hh16,hg17,hh17,hg18,hh18,hg19,hh19,hg20,hh20,hg21,hh21,hg22,hh22,hg23,hh23,hg24,hh24,hg25,hh25,hg26,hh26,hg27,hh27,hg28,hh28,hdp1,hdp2];first|exact F3|exact F4) ?_
    refine Za ?_
    (have htk1:(Zb out).take N=Zb out:=List.take_of_length_le (by simp[hol]);have htk2:(eoD nx dn).take N=eoD nx dn:=List.take_of_length_le (by simp[hdl]);have htk3:(ooD op dn).take N=ooD op dn:=List.take_of_length_le (by simp[hdl]);have htk4:(Zb (nats gs)).take gs.length=Zb (nats gs):=List.take_of_length_le (by simp);have hre:=hR.out.nil rfl;rw[hre];simp[hol,hdl,htk1,htk2,htk3,htk4,hg0,hh0,hg1,hh1,hg2,hh2,hg3,hh3,hg4,hh4,hg5,hh5,hg6,hh6,hg7,hh7,hg8,hh8,hg9,hh9,hg10,hh10,hg11,hh11,hg12,hh12,hg13,hh13,hg14,hh14,hg15,hh15,hg16,hh16,hg17,hh17,hg18,hh18,hg19,hh19,hg20,hh20,hg21,hh21,hg22,hh22,hg23,hh23,hg24,hh24,hg25,hh25,hg26,hh26,hg27,hh27,hg28,hh28];exact Xw ⟨Le.refl _,le_eoD _ _,le_ooD _ _ hop _,Le.refl _,Le.refl _,trivial⟩)
end
section
open Go Go.RowKit
structure SrOK(N:Nat)(out:List Int)(es:List (List Nat))(gs:List Nat):Prop where
 l:out.length=N
 el:es.length=N
 n0:0<N
 n1:N≤1024
 e:∀ v,v<N→∀ i∈es.getD v [],i<10∧v ^^^ 2 ^ i<N
 g:∀ x∈gs,x<N∧0≤PO.at_ out x
 gl:gs.length≤2000
 b:∀ u,PO.at_ out u≤N
 k:∀ v,(es.getD v []).length≤10
abbrev srD(out:List Int)(es:List (List Nat))(os:List (List Opr))(gs:List Nat)(ls:Int):D:=.agg [.sl (Zb out),.sl (es.map fun e=>[.sl (Zb (nats e))]),.sl (os.map fun l=>[.sl (l.map Yl)]),.sl (Zb (nats gs)),.int .i64 ls]
def goodE(out:List Int)(g:List Bool)(d:Int)(v i:Nat):Bool:=decide (PO.at_ out (v ^^^ 2 ^ i)=d+1)&&g.getD (v ^^^ 2 ^ i) false
def goodI(out:List Int)(g:List Bool)(d:Int)(v:Nat)(is:List Nat):List Bool:=if (decide (PO.at_ out v=d)&&is.any (goodE out g d v))=true then g.set v true else g
theorem goodI_len(out:List Int)(g:List Bool)(d:Int)(v:Nat)(is:List Nat):(goodI out g d v is).length=g.length:=by unfold goodI;split<;>simp
theorem xor_ne(v i:Nat):v ^^^ 2 ^ i≠v:=by
 intro h
 have h1:v ^^^ (v ^^^ 2 ^ i)=v ^^^ v:=by rw[h]
 rw[← Nat.xor_assoc,Nat.xor_self,Nat.zero_xor] at h1
 have:0<2 ^ i:=Nat.pow_pos (by decide)
 omega
theorem goodI_to(out:List Int)(g:List Bool)(d:Int)(v:Nat)(is:List Nat)(i:Nat):(goodI out g d v is).getD (v ^^^ 2 ^ i) false=g.getD (v ^^^ 2 ^ i) false:=by
 unfold goodI
 split
 ·rw[PO.getD_set,if_neg]
  rintro⟨h,_⟩
  exact xor_ne v i h.symm
 ·rfl
theorem goodI_snoc(out:List Int)(g:List Bool)(d:Int)(v:Nat)(is:List Nat)(k:Nat)(hk:k<is.length):goodI out g d v (is.take (k+1))=if (decide (PO.at_ out v=d)&&goodE out g d v is[k])=true then (goodI out g d v (is.take k)).set v true else goodI out g d v (is.take k):=by
 unfold goodI
 rw[List.take_succ_eq_append_getElem hk,List.any_append]
 simp only[List.any_cons,List.any_nil,Bool.or_false]
 cases h1:decide (PO.at_ out v=d)
 ·simp
 ·cases h2:(is.take k).any (goodE out g d v)<;>cases h3:goodE out g d v is[k]<;>simp
theorem goodP_app(es:List (List Nat))(out:List Int)(d:Int):∀ (vs ws:List Nat) (g:List Bool),PO.goodP es out d (vs++ws) g=PO.goodP es out d ws (PO.goodP es out d vs g)
 | [],_,_=>rfl
 | v::vs,ws,g=>by simp only[List.cons_append,PO.goodP];exact goodP_app es out d vs ws _
theorem goodP_snoc(es:List (List Nat))(out:List Int)(d:Int)(k:Nat)(g:List Bool):PO.goodP es out d (List.range (k+1)) g=goodI out (PO.goodP es out d (List.range k) g) d k (es.getD k []):=by
 rw[List.range_succ,goodP_app]
 rfl
theorem goodP_ln(es:List (List Nat))(out:List Int)(d:Int):∀ (vs:List Nat) (g:List Bool),(PO.goodP es out d vs g).length=g.length:=PO.goodP_len es out d
theorem good_pure(N:Nat)(out:List Int)(es:List (List Nat))(os:List (List Opr))(gs:List Nat)(ls:Int)(h:SrOK N out es gs):Pure Tryz.prog G0 92 [srD out es os gs ls] (.sl (ZK (PO.goodL ⟨out,[],es,gs,ls,0⟩ N))):=by
 refine Zh Tryz.func92 rfl Tryz.ntmps92 ?_
 have hlz:((gs.length:Int)==0)=gs.isEmpty:=by cases gs<;>simp;omega
 obtain⟨hol,hel,hN0,hN1,hes,hgN,hgl,hb,hk10⟩:=h
 have hGL:(PO.goodL ⟨out,[],es,gs,ls,0⟩ N).length=N:=PO.goodL_len _ _
 have htk:(ZK (PO.goodL ⟨out,[],es,gs,ls,0⟩ N)).take N=ZK (PO.goodL ⟨out,[],es,gs,ls,0⟩ N):=List.take_of_length_le (by simp[hGL])
 refine R0 ?_
 refine R2 [] (by simp[hol];first|exact F3|exact F4) ?_
 refine R0 ?_
 refine Zn (b:=gs.isEmpty) (by simp[hlz]) (fun c2=>?_) (fun c2=>?_)
 ·have hg0:gs=[]:=by simpa using c2
  have hgLe:PO.goodL ⟨out,[],es,gs,ls,0⟩ N=List.replicate N false:=by rw[hg0];rfl
  refine R0 ?_
  refine Za ?_
  rw[hgLe] at htk;simp[hgLe,repB,htk]
 ·obtain⟨g0,gt,rfl⟩:∃ a b,gs=a::b:=by cases gs with|nil=>simp at c2|cons a b=>exact⟨a,b,rfl⟩
  obtain⟨hg0n,hg00⟩:=hgN g0 (by simp)
  have hgLe:PO.goodL ⟨out,[],es,g0::gt,ls,0⟩ N=PO.goodF es out N (PO.at_ out g0).toNat ((g0::gt).foldl (fun b x=>b.set x true) (List.replicate N false)):=rfl
  generalize hgs:g0::gt=gs at *
  have hgs0:gs[0]? = some g0:=by rw[← hgs];rfl
  refine R0 ?_
  refine Zd (fun K0_1 hK0_1=>?_)
  refine Zg (X:=Nat) [1,3,22,23] [5] (fun x=>[(24,.int .i64 x)]) (fun x=>[(5,.arr 1 (ZK ((gs.take x).foldl (fun b x=>b.set x true) (List.replicate N false))))]) (fun x=>x≤gs.length) (fun x=>gs.length - x) 0 ((by simp)) (by simp[repB]) ?_
  simp only[KN,keep,but,reduceIte,Nat.reduceEqDiff,Nat.reduceBEq]
  rintro k hk KL2 hKL2
  replace hk:k≤gs.length:=hk
  refine R0 ?_
  refine fl_C (fun c5=>?_) (fun c5=>?_)
  ·have hlt:k<gs.length:=by simpa using c5
   have hkk:gs[k]? = some gs[k]:=by simp[hlt]
   obtain⟨hlg,_⟩:=hgN _ (List.getElem_mem hlt)
   have hml:((gs.take k).foldl (fun b x=>b.set x true) (List.replicate N false)).length=N:=by rw[PO.foldSet_len];simp
   have hfs:(gs.take (k+1)).foldl (fun b x=>b.set x true) (List.replicate N false)=((gs.take k).foldl (fun b x=>b.set x true) (List.replicate N false)).set gs[k] true:=by rw[List.take_succ_eq_append_getElem hlt,List.foldl_append];rfl
   generalize gs[k]=x at *
   refine Zd (fun K1_3 hK1_3=>?_)
   refine R2 [] (by simp[hkk];first|exact F3|exact F4) ?_
   refine R2 [] (by simp[hml,hlg,hkk];first|exact F3|exact F4) ?_
   refine Zc (hK1_3 _ _ _ ?_)
   refine R2 [] (by simp[hkk];(try simp (disch:=omega) only[w64]);first|exact F3|exact F4) ?_
   exact hKL2 _ _ _ (k+1) (by show k+1≤_;omega) (by show _<_;omega) (by simp[setB,hfs])
  ·have hte:gs.take k=gs:=List.take_of_length_le (by simpa using c5)
   have hg0l:g0<out.length:=by omega
   have hgo:out[g0]=PO.at_ out g0:=by simp[PO.at_,hg0l]
   have hok:out[g0]? = some (PO.at_ out g0):=by rw[← hgo];simp[hg0l]
   have hbg:=hb g0
   have hw0:=w64 (n:=PO.at_ out g0 - 1) (by omega) (by omega)
   obtain⟨j0,hj0e⟩:∃ j0:Nat,PO.at_ out g0=j0:=⟨_,(Int.toNat_of_nonneg hg00).symm⟩
   rw[hj0e,Int.toNat_natCast] at hgLe
   refine Ze (show K0_1 _ _ _ from hK0_1 _ _ _ ?_)
   refine R2 [] (by simp[hgs0,hok,hg0n,hgo,hw0];(try simp (disch:=omega) only[w64]);first|exact F3|exact F4) ?_
   refine Zd (fun K2_4 hK2_4=>?_)
   refine Zg (X:=Nat×List Bool) [1,3] [5] (fun x=>[(6,.int .i64 ((x.1:Int) - 1))]) (fun x=>[(5,.arr 1 (ZK x.2))]) (fun x=>x.1≤1024∧x.2.length=N∧Hid (PO.goodL ⟨out,[],es,gs,ls,0⟩ N=PO.goodF es out N x.1 x.2)) (fun x=>x.1) (j0,gs.foldl (fun b x=>b.set x true) (List.replicate N false)) (⟨by show j0≤1024;omega,by show List.length _=N;rw[PO.foldSet_len];simp,Lib.hid hgLe⟩) (by simp[hte,hj0e]) ?_
   simp only[KN,keep,but,reduceIte,Nat.reduceEqDiff,Nat.reduceBEq]
   rintro⟨j,cur⟩ ⟨hj,hcu,hrel⟩ KL5 hKL5
   replace hj:j≤1024:=hj
   replace hcu:cur.length=N:=hcu
   refine R0 ?_
   refine fl_C (fun c10=>?_) (fun c10=>?_)
   ·have hj1:0<j:=by (simp at c10;omega)
    obtain⟨d,rfl⟩:∃ d,j=d+1:=⟨j - 1,by omega⟩
    have hd1:(((d+1:Nat):Int) - 1)=(d:Int):=by omega
    refine Zd (fun K3_6 hK3_6=>?_)
    refine R2 [] (by simp[hol];first|exact F3|exact F4) ?_
    refine Zd (fun K4_7 hK4_7=>?_)
    refine Zg (X:=Nat) [1,3,6,46,47] [5] (fun x=>[(48,.int .i64 x)]) (fun x=>[(5,.arr 1 (ZK (PO.goodP es out (d:Int) (List.range x) cur)))]) (fun x=>x≤N) (fun x=>N - x) 0 ((by simp)) (by simp[PO.goodP]) ?_
    simp only[KN,keep,but,reduceIte,Nat.reduceEqDiff,Nat.reduceBEq]
    rintro v hv KL8 hKL8
    replace hv:v≤N:=hv
    refine R0 ?_
    refine fl_C (fun c13=>?_) (fun c13=>?_)
    ·have hvN:v<N:=by simpa[hol] using c13
     have hvl:v<out.length:=by omega
     have hva:out[v]=PO.at_ out v:=by simp[PO.at_,hvl]
     have hvk:out[v]? = some (PO.at_ out v):=by rw[← hva];simp[hvl]
     have hve:v<es.length:=by omega
     have hek:es[v]? = some es[v]:=by simp[hve]
     have hgd:es.getD v []=es[v]:=by simp[hve]
     have hesv:=hes v hvN
     rw[hgd] at hesv
     have hk10:=hk10 v
     rw[hgd] at hk10
     have hps:=goodP_snoc es out (d:Int) v cur
     rw[hgd] at hps
     have hpl:(PO.goodP es out (d:Int) (List.range v) cur).length=N:=by rw[goodP_ln];exact hcu
     obtain⟨Pc,hPc⟩:∃ Pc,Pc=PO.goodP es out (d:Int) (List.range v) cur:=⟨_,rfl⟩
     rw[← hPc] at hps hpl
     rw[← hPc]
     generalize es[v]=e at *
     refine Zd (fun K5_9 hK5_9=>?_)
     refine R2 [] (by simp[hvk];first|exact F3|exact F4) ?_
     refine R2 [] (by simp[hek];first|exact F3|exact F4) ?_
     refine Zd (fun K6_10 hK6_10=>?_)
     refine Zg (X:=Nat) [1,3,6,7,8,46,47,48,57,58] [5] (fun x=>[(59,.int .i64 x)]) (fun x=>[(5,.arr 1 (ZK (goodI out Pc (d:Int) v (e.take x))))]) (fun x=>x≤e.length) (fun x=>e.length - x) 0 ((by simp)) (by simp[goodI]) ?_
     simp only[KN,keep,but,reduceIte,Nat.reduceEqDiff,Nat.reduceBEq]
     rintro m hm KL11 hKL11
     replace hm:m≤e.length:=hm
     refine R0 ?_
     refine fl_C (fun c16=>?_) (fun c16=>?_)
     ·have hml3:m<e.length:=by simpa using c16
      have hii:e[m]? = some e[m]:=by simp[hml3]
      obtain⟨hil,hwN⟩:=hesv _ (List.getElem_mem hml3)
      have hsn:=goodI_snoc out Pc (d:Int) v e m hml3
      have hto:=goodI_to out Pc (d:Int) v (e.take m) e[m]
      have hi0:¬ ((e[m]:Nat):Int)<0:=by omega
      have hsi:=shl_nat e[m] (by omega)
      have hy2:2 ^ e[m]≤2 ^ 10:=Nat.pow_le_pow_right (by decide) (by omega)
      have hxo:=xor_nat v (2 ^ e[m]) (by omega) (by omega)
      have hcl:(goodI out Pc (d:Int) v (e.take m)).length=N:=by rw[goodI_len,hpl]
      have hge:goodE out Pc (d:Int) v e[m]=(decide (PO.at_ out (v ^^^ 2 ^ e[m])=(d:Int)+1)&&Pc.getD (v ^^^ 2 ^ e[m]) false):=rfl
      rw[hge] at hsn
      generalize e[m]=i at *
      generalize 2 ^ i=y at *
      generalize v ^^^ y=w at *
      have hwl:w<out.length:=by omega
      have hw3:out[w]=PO.at_ out w:=by simp[PO.at_,hwl]
      have hww:out[w]? = some (PO.at_ out w):=by rw[← hw3];simp[hwl]
      have hwc:w<(goodI out Pc (d:Int) v (e.take m)).length:=by omega
      have hcw:(goodI out Pc (d:Int) v (e.take m))[w]=Pc[w]?.getD false:=by have h9:=hto;simp[hwc] at h9;simpa using h9
      have hdn:(d:Int)+1≤1025:=by omega
      have hw2:=w64 (n:=(d:Int)+1) (by omega) (by omega)
      refine Zd (fun K7_12 hK7_12=>?_)
      refine R2 [] (by simp[hii];first|exact F3|exact F4) ?_
      refine R2 [] (by simp[hi0,hsi,hxo];first|exact F3|exact F4) ?_
      rcases bf_ (PO.at_ out v==(d:Int)) with h19_69|h19_69
      ·have p1:PO.at_ out v=(d:Int):=by simpa using h19_69
       rcases bf_ (PO.at_ out w==(d:Int)+1) with h19_78|h19_78
       ·have p2:PO.at_ out w=(d:Int)+1:=by simpa using h19_78
        rcases bf_ (Pc[w]?.getD false) with h19_84|h19_84
        ·refine R2 [] (by simp[hww,hw2,hwN,hcl,hcw,h19_69,h19_78,h19_84];(try simp (disch:=omega) only[w64]);first|exact F3|exact F4) ?_
         refine fl_T ?_
         refine R2 [] (by simp[hcl,hvN];first|exact F3|exact F4) ?_
         refine Zc (hK7_12 _ _ _ ?_)
         refine R1 ?_
         exact hKL11 _ _ _ (m+1) (by show m+1≤_;omega) (by show _<_;omega) (by simp only[hsn];simp[setB,p1,p2,h19_84])
        ·refine R2 [] (by simp[hww,hw2,hwN,hcl,hcw,h19_69,h19_78,h19_84];(try simp (disch:=omega) only[w64]);first|exact F3|exact F4) ?_
         refine fl_F ?_
         refine Zc (hK7_12 _ _ _ ?_)
         refine R1 ?_
         exact hKL11 _ _ _ (m+1) (by show m+1≤_;omega) (by show _<_;omega) (by simp only[hsn];simp[setB,p1,p2,h19_84])
       ·have p2:¬ PO.at_ out w=(d:Int)+1:=by simpa using h19_78
        refine R2 [] (by simp[hww,hw2,hwN,hcl,hcw,h19_69,h19_78];(try simp (disch:=omega) only[w64]);first|exact F3|exact F4) ?_
        refine fl_F ?_
        refine Zc (hK7_12 _ _ _ ?_)
        refine R1 ?_
        exact hKL11 _ _ _ (m+1) (by show m+1≤_;omega) (by show _<_;omega) (by simp only[hsn];simp[setB,p1,p2])
      ·have p1:¬ PO.at_ out v=(d:Int):=by simpa using h19_69
       refine R2 [] (by simp[hww,hw2,hwN,hcl,hcw,h19_69];(try simp (disch:=omega) only[w64]);first|exact F3|exact F4) ?_
       refine fl_F ?_
       refine Zc (hK7_12 _ _ _ ?_)
       refine R1 ?_
       exact hKL11 _ _ _ (m+1) (by show m+1≤_;omega) (by show _<_;omega) (by simp only[hsn];simp[setB,p1])
     ·have hme:e.take m=e:=List.take_of_length_le (by simpa using c16)
      refine Ze (show K6_10 _ _ _ from hK6_10 _ _ _ ?_)
      refine Zc (hK5_9 _ _ _ ?_)
      refine R1 ?_
      exact hKL8 _ _ _ (v+1) (by show v+1≤_;omega) (by show _<_;omega) (by simp[hps,hme])
    ·have hvE:v=N:=Nat.le_antisymm hv (by simpa[hol] using c13)
     refine Ze (show K4_7 _ _ _ from hK4_7 _ _ _ ?_)
     refine Zc (hK3_6 _ _ _ ?_)
     refine R1 ?_
     exact hKL5 _ _ _ (d,PO.goodP es out (d:Int) (List.range N) cur) ⟨by show d≤1024;omega,by show List.length _=N;rw[goodP_ln];exact hcu,Lib.hid hrel.out⟩ (by show d<d+1;omega) (by simp[hvE,hd1])
   ·have hj0:j=0:=by (simp at c10;omega)
    subst hj0
    have hfe:PO.goodL ⟨out,[],es,gs,ls,0⟩ N=cur:=hrel.out
    refine Ze (show K2_4 _ _ _ from hK2_4 _ _ _ ?_)
    refine R0 ?_
    refine Za ?_
    simp[← hfe,htk,hGL]
end
section
open Go Go.RowKit
theorem nextO_map(perm:List Int→Opr→Bool)(ms:List Nat)(s:List Int):∀ k,nextO perm ms s k=(YK perm ms s k).map (fun i=>⟨((ms.getD i 0:Nat):Int),3 - PO.at_ s (ms.getD i 0)⟩)
 | 0=>rfl
 | k+1=>by
  unfold nextO YK
  rw[nextO_map perm ms s k,List.map_append]
  split<;>simp
def opA(st:List Int)(ms:List Nat)(v i:Nat):Opr:=⟨((ms.getD i 0:Nat):Int),3 - PO.at_ (Zi st ms v) (ms.getD i 0)⟩
theorem opV_at(perm:List Int→Opr→Bool)(st:List Int)(ms:List Nat)(v m:Nat)(hm:m<(nxV perm st ms v).length):(opV perm st ms v)[m]? = some (opA st ms v (nxV perm st ms v)[m]):=by
 unfold nxV at hm ⊢
 unfold opV
 split at hm
 ·rename_i hv
  rw[if_pos hv,nextO_map]
  simp only[if_pos hv] at hm ⊢
  simp[opA,hm]
 ·simp at hm
open PO in
theorem scan_bnd{N:Nat}{x:Int}:∀ (ws:List Nat) (out:List Int) (q:List Nat),(∀ u,at_ out u+negs out≤N)→x - 1+negs out≤N→0≤x→∀ u,at_ (scan x ws out q).1 u+negs (scan x ws out q).1≤N
 | [],out,q,h,_,_=>h
 | w::ws,out,q,h,hx,h0=>by
  unfold scan
  by_cases hw:at_ out w<0
  ·rw[if_pos hw]
   by_cases hl:w<out.length
   ·have hn:=negs_set (x:=x) hl hw h0
    refine scan_bnd ws _ _ (fun u=>?_) (by omega) h0
    rw[at_set]
    have:=h u
    split<;>omega
   ·rw[List.set_eq_of_length_le (by omega)]
    exact scan_bnd ws _ _ h hx h0
  ·rw[if_neg hw]
   exact scan_bnd ws _ _ h hx h0
open PO in
theorem reach_bnd{N:Nat}{nx:Nat→List Nat}{gl:Nat→Option Int}(hn:NxOK N nx):∀ (f:Nat) (s:RS),RInv N nx gl s→(∀ u,at_ s.out u+negs s.out≤N)→(∀ u,at_ (reachF nx gl f s).out u+negs (reachF nx gl f s).out≤N)∧(reachF nx gl f s).goals.length≤s.goals.length+f
 | 0,s,_,h=>⟨h,by simp[reachF]⟩
 | f+1,s,hi,h=>by
  unfold reachF
  split
  ·exact⟨h,by omega⟩
  ·rename_i v q hq
   split
   ·exact⟨h,by show s.goals.length≤_;omega⟩
   ·rename_i hb
    have hv0:=(hi.qin v (by rw[hq];simp)).2
    obtain⟨h1,_⟩:=pass_inv hn.a hn.b hi hq hb
    have h2:(∀ u,at_ (RS.pass nx gl { s with q:=q } v).out u+negs (RS.pass nx gl { s with q:=q } v).out≤N)∧(RS.pass nx gl { s with q:=q } v).goals.length≤s.goals.length+1:=by
     have hgo:(RS.goal { s with q:=q } v (gl v)).out=s.out∧(RS.goal { s with q:=q } v (gl v)).goals.length≤s.goals.length+1:=by
      unfold RS.goal
      split
      ·exact⟨rfl,by show s.goals.length≤_;omega⟩
      ·split
       ·exact⟨rfl,by simp⟩
       ·split
        ·exact⟨rfl,by simp⟩
        ·exact⟨rfl,by show s.goals.length≤_;omega⟩
     unfold RS.pass
     split
     ·rw[hgo.1];exact⟨h,hgo.2⟩
     ·unfold RS.grow
      refine⟨?_,hgo.2⟩
      simp only
      rw[hgo.1]
      exact scan_bnd _ _ _ h (by have:=h v;omega) (by omega)
    obtain⟨h3,h4⟩:=reach_bnd hn f _ h1 h2.1
    exact⟨h3,by omega⟩
structure RFin(perm:List Int→Opr→Bool)(okF:List Int→Bool)(costF:List Int→Int)(st:List Int)(ms:List Nat):Prop where
 inv:PO.RInv (2 ^ ms.length) (nxV perm st ms) (glV okF costF st ms) (reachR perm okF costF st ms)
 q:(reachR perm okF costF st ms).depth<0→(reachR perm okF costF st ms).q=[]
 b:∀ u,PO.at_ (reachR perm okF costF st ms).out u≤(2 ^ ms.length:Nat)
 gl:(reachR perm okF costF st ms).goals.length≤2 ^ ms.length
open PO in
theorem YI(perm:List Int→Opr→Bool)(okF:List Int→Bool)(costF:List Int→Int)(st:List Int)(ms:List Nat):RFin perm okF costF st ms:=by
 have hn:=nxV_ok perm st ms
 have hN:0<2 ^ ms.length:=Nat.pow_pos (by decide)
 have h0:=startRS_inv hN (nxV perm st ms) (glV okF costF st ms)
 obtain⟨h1,h2⟩:=reach_inv hn.a hn.b _ _ h0 (Nat.le_refl _)
 obtain⟨h3,h4⟩:=reach_bnd hn (negs (startRS (2 ^ ms.length)).out+(startRS (2 ^ ms.length)).q.length) _ h0 (fun u=>bnd_start _ hN u)
 have hr:=h0.room
 refine⟨h1,h2,fun u=>?_,?_⟩
 ·have:=h3 u
  show at_ (reachF _ _ _ _).out u≤_
  omega
 ·show (reachF _ _ _ _).goals.length≤_
  have:(startRS (2 ^ ms.length)).goals.length=0:=rfl
  omega
theorem nxV_len(perm:List Int→Opr→Bool)(st:List Int)(ms:List Nat)(v:Nat):(nxV perm st ms v).length≤ms.length:=by
 unfold nxV;split
 ·exact nextI_len _ _ _ _
 ·simp
theorem reach_sr(perm:List Int→Opr→Bool)(okF:List Int→Bool)(costF:List Int→Int)(st:List Int)(ms:List Nat)(hm:ms.length≤10):SrOK (2 ^ ms.length) (reachR perm okF costF st ms).out (reachR perm okF costF st ms).edges (reachR perm okF costF st ms).goals:=by
 have h:=YI perm okF costF st ms
 have hn:=nxV_ok perm st ms
 have hN:2 ^ ms.length≤2 ^ 10:=Nat.pow_le_pow_right (by decide) hm
 refine⟨h.inv.len,h.inv.el,Nat.pow_pos (by decide),hN,fun v hv i hi=>?_,fun x hx=>?_,by have:=h.gl;omega,h.b,fun v=>?_⟩
 ·rcases h.inv.edg v with e|e
  ·rw[e] at hi;simp at hi
  ·rw[e] at hi
   exact⟨Nat.lt_of_lt_of_le (nxV_lt hi) hm,PO.xor_lt hv (nxV_lt hi)⟩
 ·by_cases hd:0≤(reachR perm okF costF st ms).depth
  ·have hg:=(h.inv.found hd).goal x hx
   have h0:0≤PO.at_ (reachR perm okF costF st ms).out x:=by rw[hg.2];exact hd
   exact⟨by have:=PO.at_lt h0;rw[h.inv.len] at this;exact this,h0⟩
  ·rw[(h.inv.search (by omega)).1] at hx;simp at hx
 ·rcases h.inv.edg v with e|e
  ·rw[e];simp
  ·rw[e];exact Nat.le_trans (nxV_len perm st ms v) hm
def findP(perm:List Int→Opr→Bool)(okF:List Int→Bool)(costF:List Int→Int)(st:List Int)(ms:List Nat):List (Nat×Nat) :=
 PO.findF (reachR perm okF costF st ms) (PO.goodL (reachR perm okF costF st ms) (2 ^ ms.length)) (2 ^ ms.length+1) 0
end
section
open Go Go.RowKit
theorem le_tup{a b:List D}(h:Les a b):Le (.tup a) (.tup b):=fun w F ι v hv=>by
 obtain⟨cs,rfl,hl,hr⟩:=hv.is_tup
 obtain⟨h1,h2⟩:=h.at
 exact .tup cs b (by omega) (fun i hi=>h2 i (by omega) hi _ _ _ _ (hr i (by omega)))
theorem ins_nats(l:List Nat)(v:Nat):ins (nats l) (v:Int)=decide (v∈l):=by
 unfold ins
 induction l with
 | nil=>rfl
 | cons x l ih =>
  have h:((v:Int)==(x:Int))=decide (v=x):=by rw[Bool.eq_iff_iff];simp;omega
  rw[Zw,List.any_cons,ih,h]
  simp
theorem pickF_cons{out:List Int}{g:List Bool}{v i:Nat}{is:List Nat}:PO.pickF out g v (i::is)=if g.getD (v ^^^ 2 ^ i) false=true∧PO.at_ out (v ^^^ 2 ^ i)=PO.at_ out v+1 then some i else PO.pickF out g v is:=rfl
theorem findF_hit{s:PO.RS}{g:List Bool}{f v i:Nat}(hc:decide (v∈s.goals)=false)(hp:PO.pickF s.out g v (s.edges.getD v [])=some i):PO.findF s g (f+1) v=(v,i)::PO.findF s g f (v ^^^ 2 ^ i):=by
 rw[PO.findF,if_neg (by simpa using hc),hp]
theorem findF_end{s:PO.RS}{g:List Bool}{f v:Nat}(hc:decide (v∈s.goals)=true):PO.findF s g f v=[]:=by
 cases f with
 | zero=>rfl
 | succ f=>rw[PO.findF,if_pos (by simpa using hc)]
theorem findN_pure(n:Nat)(st:List Int)(ms:List Nat)(hp:PrOK n st ms)(c:Nat)(d1 d2:List D)(hq1:Clo d1)(hq2:Clo d2)(perm:List Int→Opr→Bool)(hpm:∀ s,Val12 n s→∀ d∈ms,Pure Tryz.prog G0 c (d1++.sl (Zb s)::.agg (Yl ⟨(d:Int),3 - PO.at_ s d⟩)::d2) (.bool (perm s ⟨(d:Int),3 - PO.at_ s d⟩)))(c2:Nat)(e1 e2:List D)(hq3:Clo e1)(hq4:Clo e2)(okF:List Int→Bool)(costF:List Int→Int)(hgo:∀ s,Val12 n s→Pure Tryz.prog G0 c2 (e1++.sl (Zb s)::e2) (.tup [.int .i64 (costF s),.bool (okF s)]))(hd:(reachR perm okF costF st ms).depth<0):Pure Tryz.prog G0 54 [prD st ms c d1 d2,.fn (.func c2) e1 e2] (.tup [.sl [],.bool false]):=by
 refine Zh Tryz.func54 rfl Tryz.ntmps54 ?_
 have hgn:=(YI perm okF costF st ms).inv.search hd
 have hre:=reach_pure n st ms hp c d1 d2 hq1 hq2 perm hpm c2 e1 e2 hq3 hq4 okF costF hgo
 have hsr:=reach_sr perm okF costF st ms hp.l
 have hfi:=YI perm okF costF st ms
 have hopv:=opV_at perm st ms
 have hfp:findP perm okF costF st ms=PO.findF (reachR perm okF costF st ms) (PO.goodL (reachR perm okF costF st ms) (2 ^ ms.length)) (2 ^ ms.length+1) 0:=rfl
 have hpl:=hp.l
 obtain⟨inv,_,hbb,hgg⟩:=hfi
 generalize findP perm okF costF st ms=FP at *
 generalize reachR perm okF costF st ms=R0 at *
 generalize nxV perm st ms=nx at *
 generalize opV perm st ms=op at *
 generalize glV okF costF st ms=gl at *
 generalize hN:2 ^ ms.length=N at *
 have hgo2:=good_pure N R0.out R0.edges (opsE op R0.edges) R0.goals R0.least hsr
 have hGe:PO.goodL ⟨R0.out,[],R0.edges,R0.goals,R0.least,0⟩ N=PO.goodL R0 N:=rfl
 rw[hGe] at hgo2
 have hGl:(PO.goodL R0 N).length=N:=PO.goodL_len _ _
 obtain⟨hol,hel,hN0,hN1,hes,hgN,hgl,hb,hk10⟩:=hsr
 have hg0:R0.goals=[]:=hgn.1
 have hGr:PO.goodL R0 N=List.replicate N false:=by unfold PO.goodL;rw[hg0]
 rw[hGr] at hgo2
 have hr0:(List.replicate N false)[0]? = some false:=by rw[List.getElem?_replicate,if_pos hN0]
 refine R2 [] (by simp[hq1.v,hq2.v,hq1.l,hq2.l,hq1.n,hq2.n,hq3.v,hq4.v,hq3.l,hq4.l,hq3.n,hq4.n];first|exact F3|exact F4) ?_
 refine R2 [.p ⟨_,_,_,hre⟩] (by simp[hq1.v,hq2.v,hq1.l,hq2.l,hq1.n,hq2.n,hq3.v,hq4.v,hq3.l,hq4.l,hq3.n,hq4.n];first|exact F3|exact F4) ?_
 refine R2 [.p ⟨_,_,_,hgo2⟩] (by simp[hq1.v,hq2.v,hq1.l,hq2.l,hq1.n,hq2.n,hq3.v,hq4.v,hq3.l,hq4.l,hq3.n,hq4.n];first|exact F3|exact F4) ?_
 refine R2 [] (by simp[hq1.v,hq2.v,hq1.l,hq2.l,hq1.n,hq2.n,hq3.v,hq4.v,hq3.l,hq4.l,hq3.n,hq4.n,hr0];first|exact F3|exact F4) ?_
 refine fl_T ?_
 refine R2 [] (by simp[hq1.v,hq2.v,hq1.l,hq2.l,hq1.n,hq2.n,hq3.v,hq4.v,hq3.l,hq4.l,hq3.n,hq4.n];first|exact F3|exact F4) ?_
 refine Za ?_
 simp;exact le_tup ⟨Le.nils,Le.refl _,trivial⟩
theorem findS_pure(n:Nat)(st:List Int)(ms:List Nat)(hp:PrOK n st ms)(c:Nat)(d1 d2:List D)(hq1:Clo d1)(hq2:Clo d2)(perm:List Int→Opr→Bool)(hpm:∀ s,Val12 n s→∀ d∈ms,Pure Tryz.prog G0 c (d1++.sl (Zb s)::.agg (Yl ⟨(d:Int),3 - PO.at_ s d⟩)::d2) (.bool (perm s ⟨(d:Int),3 - PO.at_ s d⟩)))(c2:Nat)(e1 e2:List D)(hq3:Clo e1)(hq4:Clo e2)(okF:List Int→Bool)(costF:List Int→Int)(hgo:∀ s,Val12 n s→Pure Tryz.prog G0 c2 (e1++.sl (Zb s)::e2) (.tup [.int .i64 (costF s),.bool (okF s)]))(hd:0≤(reachR perm okF costF st ms).depth):Pure Tryz.prog G0 54 [prD st ms c d1 d2,.fn (.func c2) e1 e2] (.tup [.sl (((findP perm okF costF st ms).map fun p=>opA st ms p.1 p.2).map Yl),.bool true]):=by
 refine Zh Tryz.func54 rfl Tryz.ntmps54 ?_
 have hre:=reach_pure n st ms hp c d1 d2 hq1 hq2 perm hpm c2 e1 e2 hq3 hq4 okF costF hgo
 have hsr:=reach_sr perm okF costF st ms hp.l
 have hfi:=YI perm okF costF st ms
 have hopv:=opV_at perm st ms
 have hfp:findP perm okF costF st ms=PO.findF (reachR perm okF costF st ms) (PO.goodL (reachR perm okF costF st ms) (2 ^ ms.length)) (2 ^ ms.length+1) 0:=rfl
 have hpl:=hp.l
 obtain⟨inv,_,hbb,hgg⟩:=hfi
 generalize findP perm okF costF st ms=FP at *
 generalize reachR perm okF costF st ms=R0 at *
 generalize nxV perm st ms=nx at *
 generalize opV perm st ms=op at *
 generalize glV okF costF st ms=gl at *
 generalize hN:2 ^ ms.length=N at *
 have hgo2:=good_pure N R0.out R0.edges (opsE op R0.edges) R0.goals R0.least hsr
 have hGe:PO.goodL ⟨R0.out,[],R0.edges,R0.goals,R0.least,0⟩ N=PO.goodL R0 N:=rfl
 rw[hGe] at hgo2
 have hGl:(PO.goodL R0 N).length=N:=PO.goodL_len _ _
 obtain⟨hol,hel,hN0,hN1,hes,hgN,hgl,hb,hk10⟩:=hsr
 have hG:=PO.goodL_inv inv hd
 have hG0:=PO.good_start inv hd
 generalize hGG:PO.goodL R0 N=G at *
 have hr0:G[0]? = some true:=by (have h8:0<G.length:=(by omega));(have h9:=hG0);simp[h8] at h9;simp[h8,h9]
 have hdle:R0.depth≤N:=by cases hgs:R0.goals with|nil=>exact absurd hgs (inv.found hd).some_|cons g gs=>have h9:=((inv.found hd).goal g (by rw[hgs];simp)).2;rw[← h9];exact hb g
 have h00:PO.at_ R0.out 0=0:=((inv.found hd).zero 0).2 rfl
 refine R2 [] (by simp[hq1.v,hq2.v,hq1.l,hq2.l,hq1.n,hq2.n,hq3.v,hq4.v,hq3.l,hq4.l,hq3.n,hq4.n];first|exact F3|exact F4) ?_
 refine R2 [.p ⟨_,_,_,hre⟩] (by simp[hq1.v,hq2.v,hq1.l,hq2.l,hq1.n,hq2.n,hq3.v,hq4.v,hq3.l,hq4.l,hq3.n,hq4.n];first|exact F3|exact F4) ?_
 refine R2 [.p ⟨_,_,_,hgo2⟩] (by simp[hq1.v,hq2.v,hq1.l,hq2.l,hq1.n,hq2.n,hq3.v,hq4.v,hq3.l,hq4.l,hq3.n,hq4.n];first|exact F3|exact F4) ?_
 refine R2 [] (by simp[hq1.v,hq2.v,hq1.l,hq2.l,hq1.n,hq2.n,hq3.v,hq4.v,hq3.l,hq4.l,hq3.n,hq4.n,hr0];first|exact F3|exact F4) ?_
 refine fl_F ?_
 refine R2 [] (by simp[hq1.v,hq2.v,hq1.l,hq2.l,hq1.n,hq2.n,hq3.v,hq4.v,hq3.l,hq4.l,hq3.n,hq4.n];first|exact F3|exact F4) ?_
 refine R2 [] (by simp[hq1.v,hq2.v,hq1.l,hq2.l,hq1.n,hq2.n,hq3.v,hq4.v,hq3.l,hq4.l,hq3.n,hq4.n];first|exact F3|exact F4) ?_
 refine Zd (fun K0_1 hK0_1=>?_)
 refine Yf 8 2 (by simp) ?_
 refine Zg (X:=List (Nat×Nat)×Nat×Nat) [6,7] [17] (fun x=>[(8,.os 17 x.1.length 0 x.1.length),(9,.int .i64 x.2.1)]) (fun x=>[(17,.arr 2 ((x.1.map fun p=>opA st ms p.1 p.2).map Yl))]) (fun x=>(x.2.1<N∧x.1.length+x.2.2≤N+1)∧G.getD x.2.1 false=true∧R0.depth - PO.at_ R0.out x.2.1<x.2.2∧Hid (FP=x.1++PO.findF R0 G x.2.2 x.2.1)) (fun x=>x.2.2) ([],0,N+1) (⟨⟨hN0,by simp⟩,hG0,by show R0.depth - PO.at_ R0.out 0<((N+1:Nat):Int);rw[h00];omega,Lib.hid hfp⟩) (by simp[hq1.l,hq2.l,hq3.l,hq4.l]) ?_
 simp only[KN,keep,but,reduceIte,Nat.reduceEqDiff,Nat.reduceBEq]
 rintro⟨done,v,f⟩ ⟨⟨hvN,hdf⟩,hgv,hfd,hrel⟩ KL2 hKL2
 replace hvN:v<N:=hvN
 replace hdf:done.length+f≤N+1:=hdf
 replace hgv:G.getD v false=true:=hgv
 replace hfd:R0.depth - PO.at_ R0.out v<(f:Int):=hfd
 replace hrel:Hid (FP=done++PO.findF R0 G f v):=hrel
 have hic:=ZG (nats R0.goals) (by simp;omega) (v:Int)
 rw[ins_nats] at hic
 have hle:=hG.le v hgv
 have hvl:v<R0.out.length:=by omega
 have hva:R0.out[v]=PO.at_ R0.out v:=by simp[PO.at_,hvl]
 have hvk:R0.out[v]? = some (PO.at_ R0.out v):=by rw[← hva];simp[hvl]
 have hbv:=hb v
 have hw1:=w64 (n:=PO.at_ R0.out v+1) (by omega) (by omega)
 rcases bf_ (decide (v∈R0.goals)) with h7_25|h7_25
 ·have hend:FP=done:=by rw[hrel.out,findF_end h7_25,List.append_nil]
  refine R2 [.p ⟨_,_,_,hic⟩] (by simp[hq1.v,hq2.v,hq1.l,hq2.l,hq1.n,hq2.n,hq3.v,hq4.v,hq3.l,hq4.l,hq3.n,hq4.n,h7_25];first|exact F3|exact F4) ?_
  refine fl_F ?_
  refine Ze (show K0_1 _ _ _ from hK0_1 _ _ _ ?_)
  refine R2 [] (by simp[hq1.v,hq2.v,hq1.l,hq2.l,hq1.n,hq2.n,hq3.v,hq4.v,hq3.l,hq4.l,hq3.n,hq4.n];first|exact F3|exact F4) ?_
  refine Za ?_
  simp[hend]
 ·have hve:v<R0.edges.length:=by omega
  have hek:R0.edges[v]? = some R0.edges[v]:=by simp[hve]
  have hgd:R0.edges.getD v []=R0.edges[v]:=by simp[hve]
  have hsnd:=hG.sound v hgv
  have hesv:=hes v hvN
  have hk10v:=hk10 v
  have hedg:=inv.edg v
  have hph:=fun f i=>@findF_hit R0 G f v i h7_25
  have hne:R0.edges[v]≠[]:=by intro h9;rcases hsnd with h8|⟨_,i,hi,_⟩;exact absurd h8 (by simpa using h7_25);rw[hgd,h9] at hi;simp at hi
  rw[hgd] at hsnd hesv hk10v hedg hph
  have hok:(opsE op R0.edges)[v]? = some (op v):=by simp[opsE,hve,hne]
  have hen:R0.edges[v]=nx v:=hedg.resolve_left hne
  generalize R0.edges[v]=e at *
  refine R2 [.p ⟨_,_,_,hic⟩] (by simp[hq1.v,hq2.v,hq1.l,hq2.l,hq1.n,hq2.n,hq3.v,hq4.v,hq3.l,hq4.l,hq3.n,hq4.n,h7_25];first|exact F3|exact F4) ?_
  refine fl_T ?_
  refine Zd (fun K1_3 hK1_3=>?_)
  refine R2 [] (by simp[hq1.v,hq2.v,hq1.l,hq2.l,hq1.n,hq2.n,hq3.v,hq4.v,hq3.l,hq4.l,hq3.n,hq4.n,hek];first|exact F3|exact F4) ?_
  refine Zd (fun K2_4 hK2_4=>?_)
  refine Zg (X:=Nat) [6,7,31,32] [] (fun x=>[(33,.int .i64 x),(8,.os 17 done.length 0 done.length),(9,.int .i64 v)]) (fun x=>[]) (fun x=>x≤e.length∧Hid (PO.pickF R0.out G v e=PO.pickF R0.out G v (e.drop x))) (fun x=>e.length - x) 0 (⟨by simp,Lib.hid rfl⟩) (by simp[hq1.l,hq2.l,hq3.l,hq4.l]) ?_
  simp only[KN,keep,but,reduceIte,Nat.reduceEqDiff,Nat.reduceBEq]
  rintro m ⟨hm,hpk⟩ KL5 hKL5
  replace hm:m≤e.length:=hm
  replace hpk:Hid (PO.pickF R0.out G v e=PO.pickF R0.out G v (e.drop m)):=hpk
  refine R2 [] (by simp[hq1.v,hq2.v,hq1.l,hq2.l,hq1.n,hq2.n,hq3.v,hq4.v,hq3.l,hq4.l,hq3.n,hq4.n];first|exact F3|exact F4) ?_
  refine fl_C (fun c9=>?_) (fun c9=>?_)
  ·have hml3:m<e.length:=by simpa using c9
   have hii:e[m]? = some e[m]:=by simp[hml3]
   have hdc:=List.drop_eq_getElem_cons hml3
   obtain⟨hil,hwN⟩:=hesv _ (List.getElem_mem hml3)
   have hlm:(op v)[m]? = some (opA st ms v e[m]):=by have h9:=hopv v m (by rw[← hen];exact hml3);rw[h9];simp only[hen]
   have hi0:¬ ((e[m]:Nat):Int)<0:=by omega
   have hsi:=shl_nat e[m] (by omega)
   have hy2:2 ^ e[m]≤2 ^ 10:=Nat.pow_le_pow_right (by decide) (by omega)
   have hxo:=xor_nat v (2 ^ e[m]) (by omega) (by omega)
   have hpc:=@pickF_cons R0.out G v e[m] (e.drop (m+1))
   have hphm:=fun f=>hph f e[m]
   generalize hoa:opA st ms v e[m]=oa at *
   generalize hem:e[m]=i at *
   generalize hw0:2 ^ i=y at *
   generalize v ^^^ y=w at *
   have hwl:w<R0.out.length:=by omega
   have hw3:R0.out[w]=PO.at_ R0.out w:=by simp[PO.at_,hwl]
   have hww:R0.out[w]? = some (PO.at_ R0.out w):=by rw[← hw3];simp[hwl]
   have hwg:w<G.length:=by omega
   have hGk:G[w]? = some (G.getD w false):=by simp[hwg]
   generalize hgw:G.getD w false=gw at *
   refine Zd (fun K3_6 hK3_6=>?_)
   refine R2 [] (by simp[hq1.v,hq2.v,hq1.l,hq2.l,hq1.n,hq2.n,hq3.v,hq4.v,hq3.l,hq4.l,hq3.n,hq4.n,hii];first|exact F3|exact F4) ?_
   refine R2 [] (by simp[hq1.v,hq2.v,hq1.l,hq2.l,hq1.n,hq2.n,hq3.v,hq4.v,hq3.l,hq4.l,hq3.n,hq4.n,hi0,hsi,hxo];first|exact F3|exact F4) ?_
   rcases bf_ (gw) with h12_45|h12_45
   ·rcases bf_ (PO.at_ R0.out w==PO.at_ R0.out v+1) with h12_58|h12_58
    ·refine R2 [] (by simp[hq1.v,hq2.v,hq1.l,hq2.l,hq1.n,hq2.n,hq3.v,hq4.v,hq3.l,hq4.l,hq3.n,hq4.n,hGk,hww,hvk,hw1,h12_45,h12_58];(try simp (disch:=omega) only[w64]);first|exact F3|exact F4) ?_
     refine fl_T ?_
     refine R2 [] (by simp[hq1.v,hq2.v,hq1.l,hq2.l,hq1.n,hq2.n,hq3.v,hq4.v,hq3.l,hq4.l,hq3.n,hq4.n,hok,hlm];first|exact F3|exact F4) ?_
     refine R2 [] (by simp[hq1.v,hq2.v,hq1.l,hq2.l,hq1.n,hq2.n,hq3.v,hq4.v,hq3.l,hq4.l,hq3.n,hq4.n];first|exact F3|exact F4) ?_
     refine Ze (show K2_4 _ _ _ from hK2_4 _ _ _ ?_)
     refine Zc (hK1_3 _ _ _ ?_)
     obtain⟨f,rfl⟩:∃ f1,f=f1+1:=⟨f - 1,by omega⟩
     have hpf:PO.pickF R0.out G v e=some i:=by rw[hpk.out,hdc,hpc,if_pos ⟨h12_45,by simpa using h12_58⟩]
     exact hKL2 _ _ _ (done++[(v,i)],w,f) ⟨⟨hwN,by show (done++[(v,i)]).length+f≤N+1;simp;omega⟩,by show G.getD w false=true;rw[hgw];exact h12_45,by show R0.depth - PO.at_ R0.out w<(f:Int);simp at h12_58;omega,Lib.hid (by show FP=(done++[(v,i)])++PO.findF R0 G f w;rw[hrel.out,hphm f hpf];simp)⟩ (by show f<f+1;omega) (by simp[hoa,hq1.l,hq2.l,hq3.l,hq4.l])
    ·refine R2 [] (by simp[hq1.v,hq2.v,hq1.l,hq2.l,hq1.n,hq2.n,hq3.v,hq4.v,hq3.l,hq4.l,hq3.n,hq4.n,hGk,hww,hvk,hw1,h12_45,h12_58];(try simp (disch:=omega) only[w64]);first|exact F3|exact F4) ?_
     refine fl_F ?_
     refine Zc (hK3_6 _ _ _ ?_)
     refine R2 [] (by simp[hq1.v,hq2.v,hq1.l,hq2.l,hq1.n,hq2.n,hq3.v,hq4.v,hq3.l,hq4.l,hq3.n,hq4.n];(try simp (disch:=omega) only[w64]);first|exact F3|exact F4) ?_
     exact hKL5 _ _ _ (m+1) ⟨by show m+1≤_;omega,Lib.hid (by rw[hpk.out,hdc,hpc,if_neg (by simp at *;simp[*])])⟩ (by show _<_;omega) (by simp[hq1.l,hq2.l,hq3.l,hq4.l])
   ·refine R2 [] (by simp[hq1.v,hq2.v,hq1.l,hq2.l,hq1.n,hq2.n,hq3.v,hq4.v,hq3.l,hq4.l,hq3.n,hq4.n,hGk,hww,hvk,hw1,h12_45];(try simp (disch:=omega) only[w64]);first|exact F3|exact F4) ?_
    refine fl_F ?_
    refine Zc (hK3_6 _ _ _ ?_)
    refine R2 [] (by simp[hq1.v,hq2.v,hq1.l,hq2.l,hq1.n,hq2.n,hq3.v,hq4.v,hq3.l,hq4.l,hq3.n,hq4.n];(try simp (disch:=omega) only[w64]);first|exact F3|exact F4) ?_
    exact hKL5 _ _ _ (m+1) ⟨by show m+1≤_;omega,Lib.hid (by rw[hpk.out,hdc,hpc,if_neg (by simp at *;simp[*])])⟩ (by show _<_;omega) (by simp[hq1.l,hq2.l,hq3.l,hq4.l])
  ·exact absurd (show PO.pickF R0.out G v e=none by rw[hpk.out,List.drop_of_length_le (by simpa using c9)];rfl) (fun h9=>by rcases hsnd with h8|⟨_,i,hi,h6,h5⟩;exact absurd h8 (by simpa using h7_25);exact PO.pickF_none h9 i hi ⟨h5,h6⟩)
end
end Go.Proofs.YtjdgofpcmcobnaaGreatDoor.AL

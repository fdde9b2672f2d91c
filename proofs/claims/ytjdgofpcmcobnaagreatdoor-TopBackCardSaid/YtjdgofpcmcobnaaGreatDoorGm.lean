/-
  Contracts: the deck of numbers, zones and operations.
-/
import Derived.Test.YtjdgofpcmcobnaaGreatDoorGl
import Derived.Test.YtjdgofpcmcobnaaGreatDoorGf
import Derived.Test.YtjdgofpcmcobnaaGreatDoorGk
set_option maxRecDepth 100000
set_option maxHeartbeats 2000000
set_option linter.unusedVariables false
set_option linter.unusedSimpArgs false
namespace Go.Proofs.YtjdgofpcmcobnaaGreatDoor.AL
section
open Go Go.RowKit
theorem wrapU(x:Int):0≤IntKind.u64.wrap x∧IntKind.u64.wrap x<18446744073709551616:=by
 rw[IntKind.wrap_u64];omega
structure Dk where
 l:List Int
 i:Nat
 s:Int
@[simp] def Xy(d:Dk):List D:=[.sl (Zb d.l),.int .i64 d.i,.int .u64 d.s]
structure DkOK(d:Dk):Prop where
 i:d.i≤d.l.length
 l:d.l.length≤400
def Dk.nx(d:Dk):Dk:=⟨d.l,deckI d.l d.i,deckS d.l d.i d.s⟩
def Dk.v(d:Dk)(a:Int):Int:=deckV (deckS d.l d.i d.s) a
theorem deckI_le(l:List Int)(i:Nat)(h:i≤l.length):deckI l i≤l.length:=by unfold deckI;split<;>omega
theorem DkOK.nx{d:Dk}(h:DkOK d):DkOK d.nx:=⟨deckI_le _ _ h.i,h.l⟩
theorem deckS_rng(l:List Int)(i:Nat)(s:Int):0≤deckS l i s∧deckS l i s<18446744073709551616:=wrapU _
theorem Dk.v_rng(d:Dk){a:Int}(h:1≤a):0≤d.v a∧d.v a<a:=by
 have h1:=(deckS_rng d.l d.i d.s).1
 exact⟨Int.emod_nonneg _ (by omega),Int.emod_lt_of_pos _ (by omega)⟩
def Yp(l:List Int):Dk:=⟨l,0,88172645463325252⟩
theorem newDk_ok(l:List Int)(h:l.length≤400):DkOK (Yp l):=⟨Nat.zero_le _,h⟩
theorem few_pure(l:List Int):Pure Tryz.prog G0 6 [.sl (Zb l)] (.bool (decide (l.length≤400))):=by
 refine Zh Tryz.func6 rfl Tryz.ntmps6 ?_
 refine R0 ?_
 refine R0 ?_
 refine Za ?_
 simp
 try exact Zp (by rw[Bool.eq_iff_iff];simp;try omega)
theorem new_imp(l:List Int)(nm:Nat):Imp Tryz.prog G0 8 [.sl (Zb l)] [] nm (.bp nm 0) [(nm,some (.box (Xy (Yp l))))]:=by
 refine ZC (gl:=[]) (nx1:=0) Tryz.func8 rfl Tryz.ntmps8 ?_
 refine R0 ?_
 refine R0 ?_
 refine Za ?_
 refine⟨.inr rfl,3,?_⟩
 simp[Yp]
theorem next_imp(d:Dk)(hd:DkOK d)(a:Int)(h1:1≤a)(h2:a≤1000)(n nm:Nat)(hnm:n≠nm):Imp Tryz.prog G0 12 [.bp n 0,.int .i64 a] [(n,.box (Xy d))] nm (.int .i64 (d.v a)) [(n,some (.box (Xy d.nx)))]:=by
 refine ZC (gl:=[(n,.box (Xy d))]) (nx1:=n+1) Tryz.func12 rfl Tryz.ntmps12 ?_
 obtain⟨l,i,s⟩:=d
 have hil:i≤l.length:=hd.i
 have hll:l.length≤400:=hd.l
 have hna:IntKind.u64.wrap a=a:=wu64 (by omega) (by omega)
 have ha1:¬ a<1:=by omega
 have hdi:deckI l i=if i<l.length then i+1 else i:=rfl
 have hds:IntKind.u64.wrap (IntKind.u64.wrap (IntKind.u64.wrap (s*6364136223846793005)+(if i<l.length then IntKind.u64.wrap (l.getD i 0) else 0))+1442695040888963407)=deckS l i s:=rfl
 obtain⟨hs1,hs2⟩:=deckS_rng l i s
 have hsh:(deckS l i s).fdiv (2 ^ min 33 IntKind.u64.bits)=deckS l i s / 8589934592:=by rw[show (2:Int) ^ min 33 IntKind.u64.bits=8589934592 by decide,Int.fdiv_eq_ediv_of_nonneg _ (by decide)]
 have ha0:¬ a=0:=by omega
 have hq0:0≤deckS l i s / 8589934592:=Int.ediv_nonneg hs1 (by decide)
 have hrm:(deckS l i s / 8589934592).tmod a=deckV (deckS l i s) a:=Int.tmod_eq_emod_of_nonneg hq0
 have hvr:=Dk.v_rng ⟨l,i,s⟩ h1
 replace hvr:0≤deckV (deckS l i s) a∧deckV (deckS l i s) a<a:=hvr
 have hwr:IntKind.i64.wrap (deckV (deckS l i s) a)=deckV (deckS l i s) a:=w64 (by omega) (by omega)
 refine R0 ?_
 refine R0 ?_
 refine R0 ?_
 refine Zn (b:=decide (i<l.length)) (by simp) (fun c2=>?_) (fun c2=>?_)
 ·have hlt:i<l.length:=of_decide_eq_true c2
  obtain⟨x,hx⟩:∃ x,l[i]? = some x:=⟨_,List.getElem?_eq_getElem hlt⟩
  obtain⟨_,hxi⟩:=List.getElem?_eq_some_iff.1 hx
  have hgx:l.getD i 0=x:=by simp[hx]
  rw[if_pos hlt,hgx] at hds
  rw[if_pos hlt] at hdi
  refine R2 [] (by simp[hx,hxi,hlt];first|exact F3|exact F4) ?_
  refine R1 ?_
  refine R2 [] (by simp[hds];(try simp (disch:=omega) only[w64]);first|exact F3|exact F4) ?_
  refine R2 [] (by simp[ha1];first|exact F3|exact F4) ?_
  refine fl_F ?_
  refine R2 [] (by simp[hna,ha0,hsh,hrm,hwr];first|exact F3|exact F4) ?_
  refine Za ?_
  refine⟨.inr rfl,n+1,?_⟩
  simp[hnm,Dk.nx,Dk.v,hdi]
 ·have hlt:¬ i<l.length:=of_decide_eq_false c2
  rw[if_neg hlt,Int.add_zero] at hds
  rw[if_neg hlt] at hdi
  refine R2 [] (by simp[hds];(try simp (disch:=omega) only[w64]);first|exact F3|exact F4) ?_
  refine R2 [] (by simp[ha1];first|exact F3|exact F4) ?_
  refine fl_F ?_
  refine R2 [] (by simp[hna,ha0,hsh,hrm,hwr];first|exact F3|exact F4) ?_
  refine Za ?_
  refine⟨.inr rfl,n+1,?_⟩
  simp[hnm,Dk.nx,Dk.v,hdi]
theorem one_imp(d:Dk)(hd:DkOK d)(a:Int)(h1:1≤a)(h2:a≤1000)(n nm:Nat)(hnm:n≠nm):Imp Tryz.prog G0 27 [.bp n 0,.int .i64 a] [(n,.box (Xy d))] nm (.bool (d.v a==0)) [(n,some (.box (Xy d.nx)))]:=by
 refine ZC (gl:=[(n,.box (Xy d))]) (nx1:=n+1) Tryz.func27 rfl Tryz.ntmps27 ?_
 refine R0 ?_
 refine R6 [.i ⟨_,_,_,_,_,_,next_imp d hd a h1 h2 n (n+1+1+2) (by omega)⟩] ?_
 refine Za ?_
 refine⟨.inr rfl,n+1,?_⟩
 simp[hnm]
end
section
open Go Go.RowKit
def nN(i:Nat):ByteArray:=⟨#[78,48,UInt8.ofNat (48+i)]⟩
def nX(i:Nat):ByteArray:=⟨#[88,48,UInt8.ofNat (48+i)]⟩
theorem nameN0:Pure Tryz.prog G0 26 [.str ⟨#[78]⟩,.int .i64 0] (.str ⟨#[78,48,48]⟩):=ev1 (F:=[]) (fun p hp=>by cases hp) 3000 (by kernel_rfl)
theorem nameN1:Pure Tryz.prog G0 26 [.str ⟨#[78]⟩,.int .i64 1] (.str ⟨#[78,48,49]⟩):=ev1 (F:=[]) (fun p hp=>by cases hp) 3000 (by kernel_rfl)
theorem nameN2:Pure Tryz.prog G0 26 [.str ⟨#[78]⟩,.int .i64 2] (.str ⟨#[78,48,50]⟩):=ev1 (F:=[]) (fun p hp=>by cases hp) 3000 (by kernel_rfl)
theorem nameN3:Pure Tryz.prog G0 26 [.str ⟨#[78]⟩,.int .i64 3] (.str ⟨#[78,48,51]⟩):=ev1 (F:=[]) (fun p hp=>by cases hp) 3000 (by kernel_rfl)
theorem nameN4:Pure Tryz.prog G0 26 [.str ⟨#[78]⟩,.int .i64 4] (.str ⟨#[78,48,52]⟩):=ev1 (F:=[]) (fun p hp=>by cases hp) 3000 (by kernel_rfl)
theorem nameN5:Pure Tryz.prog G0 26 [.str ⟨#[78]⟩,.int .i64 5] (.str ⟨#[78,48,53]⟩):=ev1 (F:=[]) (fun p hp=>by cases hp) 3000 (by kernel_rfl)
theorem nameX0:Pure Tryz.prog G0 26 [.str ⟨#[88]⟩,.int .i64 0] (.str ⟨#[88,48,48]⟩):=ev1 (F:=[]) (fun p hp=>by cases hp) 3000 (by kernel_rfl)
theorem nameX1:Pure Tryz.prog G0 26 [.str ⟨#[88]⟩,.int .i64 1] (.str ⟨#[88,48,49]⟩):=ev1 (F:=[]) (fun p hp=>by cases hp) 3000 (by kernel_rfl)
theorem nameX2:Pure Tryz.prog G0 26 [.str ⟨#[88]⟩,.int .i64 2] (.str ⟨#[88,48,50]⟩):=ev1 (F:=[]) (fun p hp=>by cases hp) 3000 (by kernel_rfl)
theorem nameX3:Pure Tryz.prog G0 26 [.str ⟨#[88]⟩,.int .i64 3] (.str ⟨#[88,48,51]⟩):=ev1 (F:=[]) (fun p hp=>by cases hp) 3000 (by kernel_rfl)
theorem nameX4:Pure Tryz.prog G0 26 [.str ⟨#[88]⟩,.int .i64 4] (.str ⟨#[88,48,52]⟩):=ev1 (F:=[]) (fun p hp=>by cases hp) 3000 (by kernel_rfl)
theorem nameN_pure(i:Nat)(h:i<6):Pure Tryz.prog G0 26 [.str ⟨#[78]⟩,.int .i64 i] (.str (nN i)):=by
 have:i=0∨i=1∨i=2∨i=3∨i=4∨i=5:=by omega
 rcases this with rfl|rfl|rfl|rfl|rfl|rfl
 ·exact nameN0
 ·exact nameN1
 ·exact nameN2
 ·exact nameN3
 ·exact nameN4
 ·exact nameN5
theorem nameX_pure(i:Nat)(h:i<5):Pure Tryz.prog G0 26 [.str ⟨#[88]⟩,.int .i64 i] (.str (nX i)):=by
 have:i=0∨i=1∨i=2∨i=3∨i=4:=by omega
 rcases this with rfl|rfl|rfl|rfl|rfl
 ·exact nameX0
 ·exact nameX1
 ·exact nameX2
 ·exact nameX3
 ·exact nameX4
def nodeB(i:Nat)(d:Dk):Node×Dk :=
 if 0<i then (if (d.v 2==0)=true then (⟨nN i,1+d.nx.v 20,0⟩,d.nx.nx) else (⟨nN i,0,0⟩,d.nx)) else (⟨nN i,0,0⟩,d)
def ZQ:Nat→Dk→List Node×Dk
 | 0,d=>([],d)
 | k+1,d=>((ZQ k d).1++[(nodeB k (ZQ k d).2).1],(nodeB k (ZQ k d).2).2)
theorem nodeB_ok{i:Nat}{d:Dk}(h:DkOK d):DkOK (nodeB i d).2:=by
 unfold nodeB
 split
 ·split
  ·exact h.nx.nx
  ·exact h.nx
 ·exact h
theorem nodesB_ok:∀ (k:Nat) {d:Dk},DkOK d→DkOK (ZQ k d).2
 | 0,_,h=>h
 | k+1,_,h=>nodeB_ok (nodesB_ok k h)
@[simp] theorem nodesB_len:∀ (k:Nat) (d:Dk),(ZQ k d).1.length=k
 | 0,_=>rfl
 | k+1,d=>by rw[ZQ];simp[nodesB_len k d]
def dS0:Dev:=⟨⟨#[83,48]⟩,5,0,-1,0⟩
def lineD:List Dev:=[⟨nX 0,2,0,1,0⟩,⟨nX 1,3,1,2,0⟩,⟨nX 2,1,2,3,0⟩,⟨nX 3,3,3,4,0⟩,⟨nX 4,2,4,5,0⟩]
def earthsD:List Dev:=[⟨⟨#[69,50]⟩,4,2,-1,0⟩,⟨⟨#[69,51]⟩,4,3,-1,0⟩]
def baseD:List Dev:=dS0::lineD++earthsD
def baseS:List Int:=[2,2,2,2,2,2,1,1]
def xtra(d:Dk):List Dev×List Int×Dk :=
 if (d.v 4==0)=true then ([⟨⟨#[83,53]⟩,5,5,-1,0⟩],[2],d.nx)
 else if (d.v 4==1)=true then ([⟨⟨#[71,51]⟩,6,3,-1,0⟩],[1+d.nx.v 2],d.nx.nx)
 else if (d.v 4==2)=true then ([⟨⟨#[68,49]⟩,3,1,4,0⟩],[1],d.nx)
 else ([],[],d.nx)
def cutS(d:Dk)(st:List Int):List Int×Dk:=if (d.v 3==0)=true then (st.set (1+d.nx.v 5).toNat 1,d.nx.nx) else (st,d.nx)
def bayN(d:Dk):List Node:=(ZQ 6 d).1
def bayX(d:Dk):List Dev×List Int×Dk:=xtra (ZQ 6 d).2
def bayD(d:Dk):List Dev:=baseD++(bayX d).1
def bayS(d:Dk):List Int:=(cutS (bayX d).2.2 (baseS++(bayX d).2.1)).1
def bayK(d:Dk):Dk:=(cutS (bayX d).2.2 (baseS++(bayX d).2.1)).2
theorem xtra_ok{d:Dk}(h:DkOK d):DkOK (xtra d).2.2:=by
 unfold xtra
 split
 ·exact h.nx
 ·split
  ·exact h.nx.nx
  ·split<;>exact h.nx
theorem xtra_len(d:Dk):(xtra d).1.length=(xtra d).2.1.length∧(xtra d).2.1.length≤1:=by
 unfold xtra
 split
 ·exact⟨rfl,Nat.le_refl _⟩
 ·split
  ·exact⟨rfl,Nat.le_refl _⟩
  ·split
   ·exact⟨rfl,Nat.le_refl _⟩
   ·exact⟨rfl,Nat.zero_le _⟩
end
section
open Go Go.RowKit
def setB_(below most:Nat):Nat→Nat→List Int→Dk→List Int×Dk
 | 0,_,out,d=>(out,d)
 | f+1,i,out,d=>if i<below∧out.length<most then (if (d.v 3==0)=true then setB_ below most f (i+1) (out++[(i:Int)]) d.nx else setB_ below most f (i+1) out d.nx) else (out,d)
theorem setB_ok(below most:Nat):∀ (f i:Nat) (out:List Int) {d:Dk},DkOK d→DkOK (setB_ below most f i out d).2
 | 0,_,_,_,h=>h
 | f+1,i,out,d,h=>by
  unfold setB_
  split
  ·split
   ·exact setB_ok below most f _ _ h.nx
   ·exact setB_ok below most f _ _ h.nx
  ·exact h
def setF(below most:Nat)(d:Dk):List Int×Dk:=setB_ below most (below+1) 0 [] d
def zoneF(n:Nat)(d:Dk):List Int×Dk:=if (setF n 2 d).1=[] then ([(setF n 2 d).2.v n],(setF n 2 d).2.nx) else setF n 2 d
theorem set_imp(d:Dk)(hd:DkOK d)(b:Nat)(hb:b≤100)(mo:Nat)(hmo:mo≤100)(nm:Nat)(hnm:5≠nm):Imp Tryz.prog G0 28 [.bp 5 0,.int .i64 b,.int .i64 mo] [(5,.box (Xy d))] nm (.os nm (setF b mo d).1.length 0 (setF b mo d).1.length) [(5,some (.box (Xy (setF b mo d).2))),(nm,some (.arr 1 (Zb (setF b mo d).1)))]:=by
 refine ZC (gl:=[(5,.box (Xy d))]) (nx1:=6) Tryz.func28 rfl Tryz.ntmps28 ?_
 refine R0 ?_
 refine R0 ?_
 refine R0 ?_
 refine Zd (fun K0_1 hK0_1=>?_)
 refine Yf 7 1 (by simp) ?_
 refine Zg (X:=Nat×List Int×Dk×Nat) [0,1,2] [5,9] (fun x=>[(7,.os 9 x.2.1.length 0 x.2.1.length),(8,.int .i64 x.1)]) (fun x=>[(5,.box (Xy x.2.2.1)),(9,.arr 1 (Zb x.2.1))]) (fun x=>(x.1≤b∧x.2.1.length≤x.1∧b - x.1<x.2.2.2)∧DkOK x.2.2.1∧Hid (setF b mo d=setB_ b mo x.2.2.2 x.1 x.2.1 x.2.2.1)) (fun x=>x.2.2.2) (0,[],d,b+1) (⟨⟨Nat.zero_le _,Nat.zero_le _,by show b - 0<b+1;omega⟩,hd,Lib.hid rfl⟩) (by simp[Zb];try omega) ?_
 simp only[KN,keep,but,reduceIte,Nat.reduceEqDiff,Nat.reduceBEq]
 rintro⟨i,l,e,f⟩ ⟨hil,hek,hrel⟩ KL2 hKL2
 obtain⟨hib,hll,hbf⟩:i≤b∧l.length≤i∧b - i<f:=hil
 replace hek:DkOK e:=hek
 replace hrel:Hid (setF b mo d=setB_ b mo f i l e):=hrel
 obtain⟨g,rfl⟩:∃ g,f=g+1:=⟨f - 1,by omega⟩
 rcases bf_ (decide (i<b)) with h3_11|h3_11
 ·have hi1:i<b:=of_decide_eq_true h3_11
  rcases bf_ (decide (l.length<mo)) with h3_16|h3_16
  ·have hm1:l.length<mo:=of_decide_eq_true h3_16
   refine R2 [] (by simp[h3_11,h3_16];first|exact F3|exact F4) ?_
   refine fl_T ?_
   refine Zd (fun K1_3 hK1_3=>?_)
   refine R6 [.i ⟨_,_,_,_,_,_,one_imp e hek 3 (by decide) (by decide) 5 20 (by omega)⟩] ?_
   refine Zn (b:=e.v 3==0) (by simp) (fun c5=>?_) (fun c5=>?_)
   ·refine R0 ?_
    refine Zc (hK1_3 _ _ _ ?_)
    refine R1 ?_
    exact hKL2 _ _ _ (i+1,l++[(i:Int)],e.nx,g) ⟨⟨by show i+1≤_;omega,by show (l++[(i:Int)]).length≤i+1;simp;omega,by show b - (i+1)<g;omega⟩,hek.nx,Lib.hid (by rw[hrel.out,setB_,if_pos ⟨hi1,hm1⟩,if_pos c5])⟩ (by show g<g+1;omega) (by simp[Yk];try omega)
   ·refine Zc (hK1_3 _ _ _ ?_)
    refine R1 ?_
    exact hKL2 _ _ _ (i+1,l,e.nx,g) ⟨⟨by show i+1≤_;omega,by show l.length≤i+1;omega,by show b - (i+1)<g;omega⟩,hek.nx,Lib.hid (by rw[hrel.out,setB_,if_pos ⟨hi1,hm1⟩,if_neg (by rw[c5];decide)])⟩ (by show g<g+1;omega) (by simp[Yk];try omega)
  ·have hm1:¬ l.length<mo:=of_decide_eq_false h3_16
   refine R2 [] (by simp[h3_11,h3_16];first|exact F3|exact F4) ?_
   refine fl_F ?_
   refine Ze (show K0_1 _ _ _ from hK0_1 _ _ _ ?_)
   refine R0 ?_
   refine Za ?_
   have hre:setF b mo d=(l,e):=by rw[hrel.out,setB_,if_neg (by omega)]
   refine⟨.inr rfl,9,?_⟩
   simp[hre,hnm]
 ·have hi1:¬ i<b:=of_decide_eq_false h3_11
  refine R2 [] (by simp[h3_11];first|exact F3|exact F4) ?_
  refine fl_F ?_
  refine Ze (show K0_1 _ _ _ from hK0_1 _ _ _ ?_)
  refine R0 ?_
  refine Za ?_
  have hre:setF b mo d=(l,e):=by rw[hrel.out,setB_,if_neg (by omega)]
  refine⟨.inr rfl,9,?_⟩
  simp[hre,hnm]
theorem setF_ok(b mo:Nat){d:Dk}(h:DkOK d):DkOK (setF b mo d).2:=setB_ok b mo _ _ _ h
theorem zoneF_ok(n:Nat){d:Dk}(h:DkOK d):DkOK (zoneF n d).2:=by
 unfold zoneF
 split
 ·exact (setF_ok n 2 h).nx
 ·exact setF_ok n 2 h
theorem zone_imp(d:Dk)(hd:DkOK d)(ns:List Node)(ds:List Dev)(h0:0<ns.length)(h1:ns.length≤100)(nm:Nat)(hnm:5≠nm):Imp Tryz.prog G0 10 [.bp 5 0,netD ns ds] [(5,.box (Xy d))] nm (.sl (Zb (zoneF ns.length d).1)) [(5,some (.box (Xy (zoneF ns.length d).2)))]:=by
 refine ZC (gl:=[(5,.box (Xy d))]) (nx1:=6) Tryz.func10 rfl Tryz.ntmps10 ?_
 have hn0:¬ ns.length=0:=by omega
 have hn1:((ns.length:Int)==0)=false:=by rw[beq_eq_false_iff_ne];omega
 obtain⟨e,he⟩:∃ e,setF ns.length 2 d=e:=⟨_,rfl⟩
 have hek:=setF_ok ns.length 2 hd
 rw[he] at hek
 have hsi:=fun nm h=>set_imp d hd ns.length h1 2 (by decide) nm h
 rw[he] at hsi
 refine R0 ?_
 refine R2 [] (by simp[hn1];first|exact F3|exact F4) ?_
 refine fl_F ?_
 refine R6 [.i ⟨_,_,_,_,_,_,hsi 16 (by decide)⟩] ?_
 refine R0 ?_
 refine Zn (b:=((e.1.length:Int)==0)) (by simp) (fun c4=>?_) (fun c4=>?_)
 ·have hz:e.1=[]:=by simpa using c4
  have hzf:zoneF ns.length d=([e.2.v ns.length],e.2.nx):=by rw[zoneF,he,if_pos hz]
  refine R6 [.i ⟨_,_,_,_,_,_,next_imp e.2 hek ns.length (by omega) (by omega) 5 25 (by decide)⟩] ?_
  refine R0 ?_
  refine Za ?_
  refine⟨.inr rfl,6,?_⟩
  simp[hzf,hnm,Zb]
 ·have hz:¬ e.1=[]:=by intro h9;simp[h9] at c4
  have hzf:zoneF ns.length d=e:=by rw[zoneF,he,if_neg hz]
  refine R0 ?_
  refine Za ?_
  refine⟨.inr rfl,6,?_⟩
  simp[hzf,hnm,Zb]
end
end Go.Proofs.YtjdgofpcmcobnaaGreatDoor.AL

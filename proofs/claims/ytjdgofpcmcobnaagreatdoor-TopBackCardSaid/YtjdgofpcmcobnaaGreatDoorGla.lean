/-
  Contracts: the references for networks, states, parts, colours, faults.
-/
import Derived.Test.YtjdgofpcmcobnaaGreatDoorGk
import Derived.Test.YtjdgofpcmcobnaaGreatDoorGd
set_option maxRecDepth 100000
set_option maxHeartbeats 2000000
set_option linter.unusedVariables false
set_option linter.unusedSimpArgs false
namespace Go.Proofs.YtjdgofpcmcobnaaGreatDoor.AL
section
open Go Go.RowKit
theorem F5{α β γ δ:Type}{a:α}{b:β}{c:γ}{d:δ}:a=a∧b=b∧c=c∧True∧d=d:=⟨rfl,rfl,rfl,trivial,rfl⟩
theorem F6{α β γ δ:Type}{a:α}{b:β}{c:γ}{d:δ}{p:Prop}:a=a∧b=b∧c=c∧(p↔p)∧d=d:=⟨rfl,rfl,rfl,Iff.rfl,rfl⟩
def Yw(c:Int):Bool:=(decide (65≤c)&&decide (c≤90))||(decide (97≤c)&&decide (c≤122))
def digitB(c:Int):Bool:=decide (48≤c)&&decide (c≤57)
theorem fits_first{c:Int}(h:fitsB c true=true):Yw c=true:=by
 simp only[fitsB,cls,Y8] at h
 simp only[Yw,Bool.or_eq_true,Bool.and_eq_true,decide_eq_true_eq]
 split at h
 ·omega
 ·split at h
  ·omega
  ·split at h
   ·simp at h
   ·split at h
    ·simp at h
    ·simp at h
theorem fits_any{c:Int}{f:Bool}(h:fitsB c f=true):Yw c=true∨digitB c=true∨c=95:=by
 simp only[fitsB,cls,Y8] at h
 simp only[Yw,digitB,Bool.or_eq_true,Bool.and_eq_true,decide_eq_true_eq]
 split at h
 ·omega
 ·split at h
  ·omega
  ·split at h
   ·omega
   ·split at h
    ·omega
    ·simp at h
theorem okBytes_all:∀ {l:List UInt8} {f:Bool},okBytes l f=true→∀ c∈l,Yw (c.toNat:Int)=true∨digitB (c.toNat:Int)=true∨(c.toNat:Int)=95
 | [],_,_,c,hc=>by cases hc
 | x::l,f,h,c,hc=>by
  simp only[okBytes,Bool.and_eq_true] at h
  rcases List.mem_cons.1 hc with rfl|hc
  ·exact fits_any h.1
  ·exact okBytes_all h.2 c hc
theorem okBytes_zero{s:ByteArray}(h:YP s=true)(h0:0<s.size):Yw (s[0].toNat:Int)=true:=by
 unfold YP at h
 simp only[Bool.and_eq_true] at h
 have h1:=h.1.1
 have hd:=okBytes_drop s 0 true h0
 simp only[List.drop_zero] at hd
 rw[h1] at hd
 have:=hd.symm
 simp only[Bool.and_eq_true] at this
 exact fits_first this.1
theorem okBytes_at{s:ByteArray}(h:YP s=true){k:Nat}(h0:k<s.size):Yw (s[k].toNat:Int)=true∨digitB (s[k].toNat:Int)=true∨(s[k].toNat:Int)=95:=by
 unfold YP at h
 simp only[Bool.and_eq_true] at h
 refine okBytes_all h.1.1 s[k] ?_
 have:s[k]=s.data.toList[k]'(by simpa using h0):=rfl
 rw[this]
 exact List.getElem_mem _
theorem letter_pure(b:Int):Pure Tryz.prog G0 222 [.int .u8 b] (.bool (Yw b)):=by
 refine Zh Tryz.func222 rfl Tryz.ntmps222 ?_
 refine R0 ?_
 rcases bf_ (decide (65≤b)) with h1_4|h1_4
 ·rcases bf_ (decide (b≤90)) with h1_7|h1_7
  ·refine R2 [] (by simp[h1_4,h1_7];first|exact F3|exact F4) ?_
   refine Za ?_
   simp[Yw,h1_4,h1_7]
   try omega
  ·rcases bf_ (decide (97≤b)) with h1_11|h1_11
   ·rcases bf_ (decide (b≤122)) with h1_14|h1_14
    ·refine R2 [] (by simp[h1_4,h1_7,h1_11,h1_14];first|exact F3|exact F4) ?_
     refine Za ?_
     simp[Yw,h1_4,h1_7,h1_11,h1_14]
     try omega
    ·refine R2 [] (by simp[h1_4,h1_7,h1_11,h1_14];first|exact F3|exact F4) ?_
     refine Za ?_
     simp[Yw,h1_4,h1_7,h1_11,h1_14]
     try omega
   ·refine R2 [] (by simp[h1_4,h1_7,h1_11];first|exact F3|exact F4) ?_
    refine Za ?_
    simp[Yw,h1_4,h1_7,h1_11]
    try omega
 ·rcases bf_ (decide (97≤b)) with h1_11|h1_11
  ·rcases bf_ (decide (b≤122)) with h1_14|h1_14
   ·refine R2 [] (by simp[h1_4,h1_11,h1_14];first|exact F3|exact F4) ?_
    refine Za ?_
    simp[Yw,h1_4,h1_11,h1_14]
    try omega
   ·refine R2 [] (by simp[h1_4,h1_11,h1_14];first|exact F3|exact F4) ?_
    refine Za ?_
    simp[Yw,h1_4,h1_11,h1_14]
    try omega
  ·refine R2 [] (by simp[h1_4,h1_11];first|exact F3|exact F4) ?_
   refine Za ?_
   simp[Yw,h1_4,h1_11]
   try omega
theorem digit_pure(b:Int):Pure Tryz.prog G0 223 [.int .u8 b] (.bool (digitB b)):=by
 refine Zh Tryz.func223 rfl Tryz.ntmps223 ?_
 refine R0 ?_
 rcases bf_ (decide (48≤b)) with h1_4|h1_4
 ·refine R2 [] (by simp[h1_4];first|exact F3|exact F4) ?_
  refine Za ?_
  simp[digitB,h1_4]
  try omega
 ·refine R2 [] (by simp[h1_4];first|exact F3|exact F4) ?_
  refine Za ?_
  simp[digitB,h1_4]
  try omega
theorem rname_pure(s:ByteArray)(h:YP s=true):Pure Tryz.prog G0 204 [.str s] (.bool true):=by
 refine Zh Tryz.func204 rfl Tryz.ntmps204 ?_
 obtain⟨hs1,hs2⟩:=nameB_size h
 have f1:decide ((s.size:Int)<1)=false:=by simp;omega
 have f2:decide ((12:Int)<s.size)=false:=by simp;omega
 have hs0:0<s.size:=by omega
 have h0:Yw (s.data[0].toNat:Int)=true:=okBytes_zero h hs0
 refine R0 ?_
 refine R2 [.p ⟨_,_,_,letter_pure (s.data[0].toNat:Int)⟩] (by simp[f1,f2,h0,hs0];first|exact F3|exact F4) ?_
 refine fl_F ?_
 refine R0 ?_
 refine Zd (fun K0_1 hK0_1=>?_)
 refine Zg (X:=Nat) [0] [] (fun x=>[(3,.int .i64 x)]) (fun x=>[]) (fun x=>x≤s.size) (fun x=>s.size - x) 0 (by simp) (by simp) ?_
 simp only[KN,keep,but,reduceIte,Nat.reduceEqDiff,Nat.reduceBEq]
 rintro k hlek KL2 hKL2
 refine R0 ?_
 refine fl_C (fun c4=>?_) (fun c4=>?_)
 ·have hlt:k<s.size:=by simpa using c4
  refine Zd (fun K1_3 hK1_3=>?_)
  rcases bf_ (!(Yw (s.data[k].toNat:Int))) with h6_28|h6_28
  ·rcases bf_ (!(digitB (s.data[k].toNat:Int))) with h6_34|h6_34
   ·have h95:((s.data[k].toNat:Int) != 95)=false:=by have:=okBytes_at h hlt;simp at h6_28 h6_34;rcases this with h9|h9|h9;exact absurd (h6_28.symm.trans h9) (by decide);exact absurd (h6_34.symm.trans h9) (by decide);have h8:(s.data[k].toNat:Int)=95:=h9;simp[h8]
    refine R2 [.p ⟨_,_,_,letter_pure (s.data[k].toNat:Int)⟩,.p ⟨_,_,_,digit_pure (s.data[k].toNat:Int)⟩] (by simp[hlt,h6_28,h6_34,h95];first|exact F3|exact F4) ?_
    refine fl_F ?_
    refine Zc (hK1_3 _ _ _ ?_)
    refine R1 ?_
    exact hKL2 _ _ _ (k+1) (by omega) (by omega) (by simp)
   ·refine R2 [.p ⟨_,_,_,letter_pure (s.data[k].toNat:Int)⟩,.p ⟨_,_,_,digit_pure (s.data[k].toNat:Int)⟩] (by simp[hlt,h6_28,h6_34];first|exact F3|exact F4) ?_
    refine fl_F ?_
    refine Zc (hK1_3 _ _ _ ?_)
    refine R1 ?_
    exact hKL2 _ _ _ (k+1) (by omega) (by omega) (by simp)
  ·refine R2 [.p ⟨_,_,_,letter_pure (s.data[k].toNat:Int)⟩] (by simp[hlt,h6_28];first|exact F3|exact F4) ?_
   refine fl_F ?_
   refine Zc (hK1_3 _ _ _ ?_)
   refine R1 ?_
   exact hKL2 _ _ _ (k+1) (by omega) (by omega) (by simp)
 ·have hge:s.size≤k:=by simpa using c4
  have hke:k=s.size:=by have:k≤s.size:=hlek;omega
  refine Ze (show K0_1 _ _ _ from hK0_1 _ _ _ ?_)
  refine R0 ?_
  refine Za ?_
  simp
end
section
open Go Go.RowKit
structure NetGood(ns:List Node)(ds:List Dev):Prop where
 nd:∀ (i:Nat) x,ns[i]? = some x→YP x.name=true∧0≤x.cust∧x.cust≤1048576∧0≤x.comp∧x.comp≤7
 nn:∀ (i j:Nat) x y,ns[i]? = some x→ns[j]? = some y→j<i→y.name.data.toList≠x.name.data.toList
 dv:∀ (i:Nat) d,ds[i]? = some d→YP d.name=true∧1≤d.kind∧d.kind≤6∧0≤d.comp∧d.comp≤7∧Y9 d ns.length=true
 nv:∀ (i j:Nat) d y,ds[i]? = some d→ns[j]? = some y→y.name.data.toList≠d.name.data.toList
 vv:∀ (i j:Nat) d e,ds[i]? = some d→ds[j]? = some e→j<i→e.name.data.toList≠d.name.data.toList
theorem chkD_good{n:Int}:∀ {ds:List Dev} {u:List (List UInt8)},chkD n ds u=0→(∀ (i:Nat) d,ds[i]? = some d→YP d.name=true∧1≤d.kind∧d.kind≤6∧0≤d.comp∧d.comp≤7∧Y9 d n=true) ∧
  (∀ (i:Nat) d,ds[i]? = some d→d.name.data.toList∉u)∧∀ (i j:Nat) d e,ds[i]? = some d→ds[j]? = some e→j<i→e.name.data.toList≠d.name.data.toList
 | [],u,_=>⟨fun i d h=>by simp at h,fun i d h=>by simp at h,fun i j d e h=>by simp at h⟩
 | d::ds,u,h=>by
  obtain⟨h1,h2⟩:=chkD_cons h
  obtain⟨e1,e2,e3,e4,e5,e6⟩:=devErr_0 h1
  obtain⟨a1,a2,a3⟩:=chkD_good h2
  have e7:0≤d.comp∧d.comp≤7:=by simpa[Xs] using e6
  refine⟨fun i x hx=>?_,fun i x hx=>?_,fun i j x y hx hy hij=>?_⟩
  ·cases i with
   | zero =>
    obtain rfl:d=x:=by simpa using hx
    exact⟨e1,e3,e4,e7.1,e7.2,e5⟩
   | succ i=>exact a1 i x (by simpa using hx)
  ·cases i with
   | zero =>
    obtain rfl:d=x:=by simpa using hx
    exact e2
   | succ i=>exact fun h9=>a2 i x (by simpa using hx) (List.mem_cons_of_mem _ h9)
  ·cases i with
   | zero=>omega
   | succ i =>
    cases j with
    | zero =>
     obtain rfl:d=y:=by simpa using hy
     exact fun h9=>a2 i x (by simpa using hx) (by rw[← h9];simp)
    | succ j=>exact a3 i j x y (by simpa using hx) (by simpa using hy) (by omega)
theorem chkN_good{n:Int}{ds:List Dev}:∀ {ns:List Node} {u:List (List UInt8)},chkN n ds ns u=0→(∀ (i:Nat) x,ns[i]? = some x→YP x.name=true∧0≤x.cust∧x.cust≤1048576∧0≤x.comp∧x.comp≤7) ∧
  (∀ (i:Nat) x,ns[i]? = some x→x.name.data.toList∉u)∧(∀ (i j:Nat) x y,ns[i]? = some x→ns[j]? = some y→j<i→y.name.data.toList≠x.name.data.toList) ∧
  ∃ u',chkD n ds u'=0∧(∀ s∈u,s∈u')∧∀ (i:Nat) x,ns[i]? = some x→x.name.data.toList∈u'
 | [],u,h=>⟨fun i d h=>by simp at h,fun i d h=>by simp at h,fun i j d e h=>by simp at h,u,h,fun s hs=>hs,fun i d h=>by simp at h⟩
 | d::ds,u,h=>by
  obtain⟨h1,h2⟩:=chkN_cons h
  obtain⟨e1,e2,e3,e4,e6⟩:=nodeErr_0 h1
  obtain⟨a1,a2,a3,u',b1,b2,b3⟩:=chkN_good h2
  have e7:0≤d.comp∧d.comp≤7:=by simpa[Xs] using e6
  refine⟨fun i x hx=>?_,fun i x hx=>?_,fun i j x y hx hy hij=>?_,u',b1,fun s hs=>b2 s (List.mem_cons_of_mem _ hs),fun i x hx=>?_⟩
  ·cases i with
   | zero =>
    obtain rfl:d=x:=by simpa using hx
    exact⟨e1,e3,e4,e7.1,e7.2⟩
   | succ i=>exact a1 i x (by simpa using hx)
  ·cases i with
   | zero =>
    obtain rfl:d=x:=by simpa using hx
    exact e2
   | succ i=>exact fun h9=>a2 i x (by simpa using hx) (List.mem_cons_of_mem _ h9)
  ·cases i with
   | zero=>omega
   | succ i =>
    cases j with
    | zero =>
     obtain rfl:d=y:=by simpa using hy
     exact fun h9=>a2 i x (by simpa using hx) (by rw[← h9];simp)
    | succ j=>exact a3 i j x y (by simpa using hx) (by simpa using hy) (by omega)
  ·cases i with
   | zero =>
    obtain rfl:d=x:=by simpa using hx
    exact b2 _ (by simp)
   | succ i=>exact b3 i x (by simpa using hx)
theorem check_good{ns:List Node}{ds:List Dev}(h:Zk ns ds=0):NetGood ns ds:=by
 obtain⟨_,_,h⟩:=Zj h
 obtain⟨a1,_,a3,u',b1,_,b3⟩:=chkN_good h
 obtain⟨c1,c2,c3⟩:=chkD_good b1
 exact⟨a1,a3,c1,fun i j d y hd hy h9=>c2 i d hd (by rw[← h9];exact b3 j y hy),c3⟩
theorem rdev_facts{d:Dev}{n:Nat}(g2:1≤d.kind)(g3:d.kind≤6)(g4:0≤d.comp)(g5:d.comp≤7)(g6:Y9 d n=true) :
  decide (d.kind<1)=false∧decide (6<d.kind)=false∧decide (d.comp<0)=false∧decide (7<d.comp)=false∧(decide (d.a<0)=false∧decide ((n:Int)≤d.a)=false) ∧
  (Zu d.kind=true→decide (d.b<0)=false∧decide ((n:Int)≤d.b)=false∧(d.b==d.a)=false)∧(Zu d.kind=false→(d.b != -1)=false):=by
 unfold Y9 at g6
 simp only[Bool.and_eq_true,decide_eq_true_eq] at g6
 obtain⟨⟨a1,a2⟩,a3⟩:=g6
 refine⟨by simp;omega,by simp;omega,by simp;omega,by simp;omega,⟨by simp;omega,by simp;omega⟩,fun hj=>?_,fun hj=>?_⟩
 ·rw[if_pos hj] at a3
  simp only[Bool.and_eq_true,decide_eq_true_eq,bne_iff_ne] at a3
  exact⟨by simp;omega,by simp;omega,by simp[a3.2]⟩
 ·rw[if_neg (by simp[hj])] at a3
  simpa using a3
theorem binS_ne{a b:ByteArray}(h:a.data.toList≠b.data.toList):binS .eql a b=some (.bool false):=by
 have e:∀ x:ByteArray,x.toList=x.data.toList:=fun x=>by rw[ByteArray.toList_eq]
 simp only[binS,e,Option.some.injEq,D.bool.injEq,beq_eq_false_iff_ne];exact h
theorem rjoins_pure(k:Int):Pure Tryz.prog G0 79 [.int .i64 k] (.bool (Zu k)):=by
 refine Zh Tryz.func79 rfl Tryz.ntmps79 ?_
 refine R0 ?_
 rcases bf_ (k==1) with h1_4|h1_4
 ·refine R2 [] (by simp[h1_4];first|exact F3|exact F4) ?_
  refine Za ?_
  simp[Zu,h1_4]
  try exact Zp (by simp only[beq_iff_eq,beq_eq_false_iff_ne] at *;rw[Bool.eq_iff_iff];simp;omega)
 ·rcases bf_ (k==2) with h1_7|h1_7
  ·refine R2 [] (by simp[h1_4,h1_7];first|exact F3|exact F4) ?_
   refine Za ?_
   simp[Zu,h1_4,h1_7]
   try exact Zp (by simp only[beq_iff_eq,beq_eq_false_iff_ne] at *;rw[Bool.eq_iff_iff];simp;omega)
  ·refine R2 [] (by simp[h1_4,h1_7];first|exact F3|exact F4) ?_
   refine Za ?_
   simp[Zu,h1_4,h1_7]
   try exact Zp (by simp only[beq_iff_eq,beq_eq_false_iff_ne] at *;rw[Bool.eq_iff_iff];simp;omega)
theorem rcheck_pure(ns:List Node)(ds:List Dev)(h:Zk ns ds=0):Pure Tryz.prog G0 184 [netD ns ds] (.int .i64 0):=by
 refine Zh Tryz.func184 rfl Tryz.ntmps184 ?_
 have hg:=check_good h
 obtain⟨hl1,hl2,_⟩:=Zj h
 have hb1:decide (32<(ns.length:Int))=false:=by simp;omega
 have hb2:decide (64<(ds.length:Int))=false:=by simp;omega
 refine R0 ?_
 refine R2 [] (by simp[hb1,hb2];first|exact F3|exact F4) ?_
 refine fl_F ?_
 refine R0 ?_
 refine Zd (fun K0_1 hK0_1=>?_)
 refine Zg (X:=Nat) [1] [] (fun x=>[(3,.int .i64 x)]) (fun x=>[]) (fun x=>x≤ns.length) (fun x=>ns.length - x) 0 (by simp) (by simp) ?_
 simp only[KN,keep,but,reduceIte,Nat.reduceEqDiff,Nat.reduceBEq]
 rintro k hlek KL2 hKL2
 refine R0 ?_
 refine fl_C (fun c4=>?_) (fun c4=>?_)
 ·have hlt:k<ns.length:=by simpa using c4
  have hkk:ns[k]? = some ns[k]:=by simp[hlt]
  have hd:=Lib.hid (List.drop_eq_getElem_cons hlt)
  obtain⟨g1,g2,g3,g4,g5⟩:=hg.nd k _ hkk
  have f1:decide (ns[k].cust<0)=false:=by simp;omega
  have f2:decide (1048576<ns[k].cust)=false:=by simp;omega
  have f3:decide (ns[k].comp<0)=false:=by simp;omega
  have f4:decide (7<ns[k].comp)=false:=by simp;omega
  generalize ns[k]=x at *
  refine Zd (fun K1_3 hK1_3=>?_)
  refine R2 [] (by simp[hkk];first|exact F3|exact F4) ?_
  refine R2 [.p ⟨_,_,_,rname_pure x.name g1⟩] (by simp[g1,hkk];first|exact F3|exact F4) ?_
  refine fl_F ?_
  refine R2 [] (by simp[hkk];first|exact F3|exact F4) ?_
  refine Zd (fun K2_4 hK2_4=>?_)
  refine Zg (X:=Nat) [1,3,4] [] (fun x=>[(5,.int .i64 x)]) (fun x=>[]) (fun x=>x≤k) (fun x=>k - x) 0 (by simp) (by simp) ?_
  simp only[KN,keep,but,reduceIte,Nat.reduceEqDiff,Nat.reduceBEq]
  rintro j hjk KL5 hKL5
  refine R2 [] (by simp[hkk];first|exact F3|exact F4) ?_
  refine fl_C (fun c10=>?_) (fun c10=>?_)
  ·have hjl:j<k:=by simpa using c10
   have hjn:j<ns.length:=by omega
   have hjj:ns[j]? = some ns[j]:=by simp[hjn]
   have hne:=binS_ne (hg.nn k j _ _ hkk hjj hjl)
   generalize ns[j]=y at *
   refine Zd (fun K3_6 hK3_6=>?_)
   refine R2 [] (by simp[hjj,hne,hkk];first|exact F3|exact F4) ?_
   refine fl_F ?_
   refine Zc (hK3_6 _ _ _ ?_)
   refine R2 [] (by simp[hkk];(try simp (disch:=omega) only[w64]);first|exact F3|exact F4) ?_
   exact hKL5 _ _ _ (j+1) (by omega) (by omega) (by simp)
  ·refine Ze (show K2_4 _ _ _ from hK2_4 _ _ _ ?_)
   refine R2 [] (by simp[f1,f2,f3,f4,hkk];first|exact F3|exact F4) ?_
   refine fl_F ?_
   refine Zc (hK1_3 _ _ _ ?_)
   refine R2 [] (by simp[hkk];(try simp (disch:=omega) only[w64]);first|exact F3|exact F4) ?_
   exact hKL2 _ _ _ (k+1) (by omega) (by omega) (by simp)
 ·have hge:ns.length≤k:=by simpa using c4
  have hke:k=ns.length:=by have:k≤ns.length:=hlek;omega
  have hdn:=Lib.hid (List.drop_of_length_le hge)
  refine Ze (show K0_1 _ _ _ from hK0_1 _ _ _ ?_)
  refine R0 ?_
  refine Zd (fun K4_7 hK4_7=>?_)
  refine Zg (X:=Nat) [1] [] (fun x=>[(6,.int .i64 x)]) (fun x=>[]) (fun x=>x≤ds.length) (fun x=>ds.length - x) 0 (by simp) (by simp) ?_
  simp only[KN,keep,but,reduceIte,Nat.reduceEqDiff,Nat.reduceBEq]
  rintro k hlek KL8 hKL8
  refine R0 ?_
  refine fl_C (fun c17=>?_) (fun c17=>?_)
  ·have hlt:k<ds.length:=by simpa using c17
   have hkk:ds[k]? = some ds[k]:=by simp[hlt]
   have hd:=Lib.hid (List.drop_eq_getElem_cons hlt)
   obtain⟨k0,hk0e⟩:∃ k0,k0=k:=⟨_,rfl⟩
   have hk0:ds[k0]? = some ds[k]:=by rw[hk0e];exact hkk
   obtain⟨g1,g2,g3,g4,g5,g6⟩:=hg.dv k _ hkk
   obtain⟨f1,f2,f3,f4,f5,f6,f7⟩:=rdev_facts g2 g3 g4 g5 g6
   generalize ds[k]=d at *
   refine Zd (fun K5_9 hK5_9=>?_)
   refine R2 [] (by simp[hkk];first|exact F3|exact F4) ?_
   refine R2 [.p ⟨_,_,_,rname_pure d.name g1⟩] (by simp[g1,hkk];first|exact F3|exact F4) ?_
   refine fl_F ?_
   refine R2 [] (by simp[hkk];first|exact F3|exact F4) ?_
   refine Zd (fun K6_10 hK6_10=>?_)
   refine Zg (X:=Nat) [1,6,7] [] (fun x=>[(8,.int .i64 x)]) (fun x=>[]) (fun x=>x≤ns.length) (fun x=>ns.length - x) 0 (by simp) (by simp) ?_
   simp only[KN,keep,but,reduceIte,Nat.reduceEqDiff,Nat.reduceBEq]
   rintro j hlej KL11 hKL11
   refine R2 [] (by simp[hkk];first|exact F3|exact F4) ?_
   refine fl_C (fun c23=>?_) (fun c23=>?_)
   ·have hlt:j<ns.length:=by simpa using c23
    have hkk:ns[j]? = some ns[j]:=by simp[hlt]
    have hd:=Lib.hid (List.drop_eq_getElem_cons hlt)
    have hkk2:=hkk
    have hne:=binS_ne (hg.nv k0 j _ _ hk0 hkk)
    generalize ns[j]=y at *
    refine Zd (fun K7_12 hK7_12=>?_)
    refine R2 [] (by simp[hkk2,hne,hkk,hkk];first|exact F3|exact F4) ?_
    refine fl_F ?_
    refine Zc (hK7_12 _ _ _ ?_)
    refine R2 [] (by simp[hkk,hkk];(try simp (disch:=omega) only[w64]);first|exact F3|exact F4) ?_
    exact hKL11 _ _ _ (j+1) (by omega) (by omega) (by simp)
   ·have hge:ns.length≤j:=by simpa using c23
    have hke:j=ns.length:=by have:j≤ns.length:=hlej;omega
    have hdn:=Lib.hid (List.drop_of_length_le hge)
    refine Ze (show K6_10 _ _ _ from hK6_10 _ _ _ ?_)
    refine R2 [] (by simp[hkk];first|exact F3|exact F4) ?_
    refine Zd (fun K8_13 hK8_13=>?_)
    refine Zg (X:=Nat) [1,6,7] [] (fun x=>[(9,.int .i64 x)]) (fun x=>[]) (fun x=>x≤k) (fun x=>k - x) 0 (by simp) (by simp) ?_
    simp only[KN,keep,but,reduceIte,Nat.reduceEqDiff,Nat.reduceBEq]
    rintro j hjk KL14 hKL14
    refine R2 [] (by simp[hkk];first|exact F3|exact F4) ?_
    refine fl_C (fun c28=>?_) (fun c28=>?_)
    ·have hjl:j<k:=by simpa using c28
     have hjn:j<ds.length:=by omega
     have hjj:ds[j]? = some ds[j]:=by simp[hjn]
     have hne:=binS_ne (hg.vv k j _ _ hkk hjj hjl)
     generalize ds[j]=y at *
     refine Zd (fun K9_15 hK9_15=>?_)
     refine R2 [] (by simp[hjj,hne,hkk];first|exact F3|exact F4) ?_
     refine fl_F ?_
     refine Zc (hK9_15 _ _ _ ?_)
     refine R2 [] (by simp[hkk];(try simp (disch:=omega) only[w64]);first|exact F3|exact F4) ?_
     exact hKL14 _ _ _ (j+1) (by omega) (by omega) (by simp)
    ·refine Ze (show K8_13 _ _ _ from hK8_13 _ _ _ ?_)
     refine R2 [] (by simp[f1,f2,hkk];first|exact F3|exact F4) ?_
     refine fl_F ?_
     obtain⟨f5a,f5b⟩:=f5
     obtain⟨jb,hjb,hJ⟩:∃ jb,Zu d.kind=jb∧Pure Tryz.prog G0 79 [.int .i64 d.kind] (.bool jb):=⟨_,rfl,rjoins_pure _⟩
     rcases bf_ (jb) with h34_136|h34_136
     ·subst h34_136
      have h34_136:True:=trivial
      obtain⟨f8,f9,f10⟩:=f6 hjb
      refine R3 15 32 (by decide) [.p ⟨_,_,_,hJ⟩,.p ⟨_,_,_,hJ⟩] (by simp[f5a,f5b,hkk,h34_136,f8,f9,f10];first|exact F5|exact F6) (by first|trivial|omega|(simp;done)|(simp;omega)) (by simp[f5a,f5b,hkk,h34_136,f8,f9,f10];first|exact F5|exact F6) (by first|trivial|omega|(simp;done)|(simp;omega)) (by simp[f5a,f5b,hkk,h34_136,f8,f9,f10];first|exact F3|exact F4) (by first|trivial|omega|(simp;done)|(simp;omega)) ?_
      refine fl_F ?_
      refine R2 [] (by simp[f3,f4,hkk];first|exact F3|exact F4) ?_
      refine fl_F ?_
      refine Zc (hK5_9 _ _ _ ?_)
      refine R2 [] (by simp[hkk];(try simp (disch:=omega) only[w64]);first|exact F3|exact F4) ?_
      exact hKL8 _ _ _ (k+1) (by omega) (by omega) (by simp)
     ·subst h34_136
      have h34_136:True:=trivial
      have f8:=f7 hjb
      refine R3 15 32 (by decide) [.p ⟨_,_,_,hJ⟩,.p ⟨_,_,_,hJ⟩] (by simp[f5a,f5b,hkk,h34_136,f8];first|exact F5|exact F6) (by first|trivial|omega|(simp;done)|(simp;omega)) (by simp[f5a,f5b,hkk,h34_136,f8];first|exact F5|exact F6) (by first|trivial|omega|(simp;done)|(simp;omega)) (by simp[f5a,f5b,hkk,h34_136,f8];first|exact F3|exact F4) (by first|trivial|omega|(simp;done)|(simp;omega)) ?_
      refine fl_F ?_
      refine R2 [] (by simp[f3,f4,hkk];first|exact F3|exact F4) ?_
      refine fl_F ?_
      refine Zc (hK5_9 _ _ _ ?_)
      refine R2 [] (by simp[hkk];(try simp (disch:=omega) only[w64]);first|exact F3|exact F4) ?_
      exact hKL8 _ _ _ (k+1) (by omega) (by omega) (by simp)
  ·have hge:ds.length≤k:=by simpa using c17
   have hke:k=ds.length:=by have:k≤ds.length:=hlek;omega
   have hdn:=Lib.hid (List.drop_of_length_le hge)
   refine Ze (show K4_7 _ _ _ from hK4_7 _ _ _ ?_)
   refine R0 ?_
   refine Za ?_
   simp
end
section
open Go Go.RowKit
theorem st_facts{ds:List Dev}{st:List Int}(hs:StOK ds st){k:Nat}(hk:k<st.length):decide (st[k]<1)=false∧decide (2<st[k])=false:=by
 have:=hs.2 _ (List.getElem_mem hk)
 exact⟨by simp;omega,by simp;omega⟩
theorem rhas_pure(l:List Int)(hl:l.length≤1000000)(v:Int)(hv:v∈l):Pure Tryz.prog G0 20 [.sl (Zb l),.int .i64 v] (.bool true):=by
 refine Zh Tryz.func20 rfl Tryz.ntmps20 ?_
 refine R0 ?_
 refine R0 ?_
 refine Zd (fun K0_1 hK0_1=>?_)
 refine Zg (X:=Nat) [0,1] [] (fun x=>[(5,.int .i64 x)]) (fun x=>[]) (fun x=>x≤l.length∧Hid (v∈l.drop x)) (fun x=>l.length - x) 0 (⟨by simp,Lib.hid (by simpa using hv)⟩) (by simp) ?_
 simp only[KN,keep,but,reduceIte,Nat.reduceEqDiff,Nat.reduceBEq]
 rintro k ⟨hlek,hrel⟩ KL2 hKL2
 refine R0 ?_
 refine fl_C (fun c2=>?_) (fun c2=>?_)
 ·have hlt:k<l.length:=by simpa using c2
  have hkk:l[k]? = some l[k]:=by simp[hlt]
  have hd:=Lib.hid (List.drop_eq_getElem_cons hlt)
  generalize l[k]=y at *
  refine Zd (fun K1_3 hK1_3=>?_)
  rcases bf_ (y==v) with h4_17|h4_17
  ·refine R2 [] (by simp[hkk,h4_17];first|exact F3|exact F4) ?_
   refine fl_T ?_
   refine R2 [] (by simp[hkk];first|exact F3|exact F4) ?_
   refine Za ?_
   simp
  ·refine R2 [] (by simp[hkk,h4_17];first|exact F3|exact F4) ?_
   refine fl_F ?_
   refine Zc (hK1_3 _ _ _ ?_)
   refine R2 [] (by simp[hkk];(try simp (disch:=omega) only[w64]);first|exact F3|exact F4) ?_
   exact hKL2 _ _ _ (k+1) ⟨by omega,Lib.hid (by have:=hrel.out;rw[hd.out] at this;rcases List.mem_cons.1 this with rfl|h;simp at h4_17;exact h)⟩ (by omega) (by simp)
 ·have hge:l.length≤k:=by simpa using c2
  have hke:k=l.length:=by have:k≤l.length:=hlek;omega
  have hdn:=Lib.hid (List.drop_of_length_le hge)
  have hex:=hrel.out
  rw[hdn.out] at hex
  cases hex
  skip
theorem rpos_pure(ns:List Node)(ds:List Dev)(h:Zk ns ds=0)(st:List Int)(hs:StOK ds st):Pure Tryz.prog G0 164 [netD ns ds,.sl (Zb st),.int .i64 2] (.int .i64 0):=by
 refine Zh Tryz.func164 rfl Tryz.ntmps164 ?_
 obtain⟨g1,g2,_⟩:=Zj h
 have hsl:=hs.1
 refine R0 ?_
 refine R6 [.p ⟨_,_,_,rcheck_pure ns ds h⟩] ?_
 refine R0 ?_
 refine fl_F ?_
 refine R2 [] (by simp[hsl];first|exact F3|exact F4) ?_
 refine fl_F ?_
 refine R0 ?_
 refine Zd (fun K0_1 hK0_1=>?_)
 refine Zg (X:=Nat) [1,2] [] (fun x=>[(8,.int .i64 x)]) (fun x=>[]) (fun x=>x≤st.length) (fun x=>st.length - x) 0 (by simp) (by simp) ?_
 simp only[KN,keep,but,reduceIte,Nat.reduceEqDiff,Nat.reduceBEq]
 rintro k hlek KL2 hKL2
 refine R0 ?_
 refine fl_C (fun c7=>?_) (fun c7=>?_)
 ·have hlt:k<st.length:=by simpa using c7
  have hkk:st[k]? = some st[k]:=by simp[hlt]
  have hd:=Lib.hid (List.drop_eq_getElem_cons hlt)
  obtain⟨f1,f2⟩:=st_facts hs hlt
  generalize st[k]=s at *
  refine Zd (fun K1_3 hK1_3=>?_)
  refine R2 [] (by simp[f1,f2,hkk];first|exact F3|exact F4) ?_
  refine fl_F ?_
  refine Zc (hK1_3 _ _ _ ?_)
  refine R2 [] (by simp[hkk];(try simp (disch:=omega) only[w64]);first|exact F3|exact F4) ?_
  exact hKL2 _ _ _ (k+1) (by omega) (by omega) (by simp)
 ·have hge:st.length≤k:=by simpa using c7
  have hke:k=st.length:=by have:k≤st.length:=hlek;omega
  have hdn:=Lib.hid (List.drop_of_length_le hge)
  refine Ze (show K0_1 _ _ _ from hK0_1 _ _ _ ?_)
  refine R0 ?_
  refine Za ?_
  simp
theorem r6st_pure(ns:List Node)(ds:List Dev)(h:Zk ns ds=0)(st:List Int)(hs:StOK ds st):Pure Tryz.prog G0 122 [netD ns ds,.sl (Zb st)] (.int .i64 0):=by
 refine Zh Tryz.func122 rfl Tryz.ntmps122 ?_
 refine R0 ?_
 refine R6 [.p ⟨_,_,_,rpos_pure ns ds h st hs⟩] ?_
 refine Za ?_
 simp
end
section
open Go Go.RowKit
theorem mix_get{ps:List Int}{zs ys:List (Dev×Int)}{v:Nat}(hv:v<ps.length):(mixL (colK ps ys) (colK ps zs) v)[v]? = some (Z8 ps zs ps[v]):=by
 rw[mix_at (by rw[ZX,ZX]) (by rw[ZX];exact hv)];simp[colK]
theorem mix_yes{ps:List Int}{zs ys:List (Dev×Int)}{c:Int→Int}{v:Nat}(hv:v<ps.length)(h:Z8 ps ys ps[v]=c (Z8 ps zs ps[v])):(mixL (colK ps ys) (colK ps zs) v).set v (c (Z8 ps zs ps[v]))=mixL (colK ps ys) (colK ps zs) (v+1):=by
 rw[← mix_set (by rw[ZX,ZX]) (by rw[ZX];exact hv),← h];simp[colK]
theorem mix_no{ps:List Int}{zs ys:List (Dev×Int)}{v:Nat}(hv:v<ps.length)(h:Z8 ps ys ps[v]=Z8 ps zs ps[v]):mixL (colK ps ys) (colK ps zs) (v+1)=mixL (colK ps ys) (colK ps zs) v:=by
 exact (mix_keep (by rw[ZX,ZX]) (by rw[ZX];exact hv) (by simp[colK,h])).symm
theorem mix_ln{ps:List Int}{zs ys:List (Dev×Int)}{v:Nat}(hv:v≤ps.length):(mixL (colK ps ys) (colK ps zs) v).length=ps.length:=by
 rw[mix_len (by rw[ZX,ZX]) (by rw[ZX];exact hv),ZX]
theorem rparts_pure(ns:List Node)(ds:List Dev)(hc:Zk ns ds=0)(st:List Int)(hs:StOK ds st):Pure Tryz.prog G0 78 [netD ns ds,.sl (Zb st)] (.tup [.sl (Zb (partsL ns.length ds st)),.int .i64 0]):=by
 refine Zh Tryz.func78 rfl Tryz.ntmps78 ?_
 obtain⟨g1,g2,_⟩:=Zj hc
 have hD:=ZM hc
 have hsl:=hs.1
 have hF0:YZ (idL ns.length) 0 0=List.replicate ns.length 0:=by rw[filled_zero,idL_len]
 have htk:(Zb (partsL ns.length ds st)).take ns.length=Zb (partsL ns.length ds st):=List.take_of_length_le (by simp[Yd])
 have hpl:(partsL ns.length ds st).length=ns.length:=Yd _ _ _
 refine R0 ?_
 refine R6 [.p ⟨_,_,_,r6st_pure ns ds hc st hs⟩] ?_
 refine R0 ?_
 refine fl_F ?_
 refine R0 ?_
 refine R0 ?_
 refine Zd (fun K0_1 hK0_1=>?_)
 refine Zg (X:=Nat) [1,2,7] [12] (fun x=>[(8,.int .i64 x)]) (fun x=>[(12,.arr 1 (Zb (YZ (idL ns.length) 0 x)))]) (fun x=>x≤ns.length) (fun x=>ns.length - x) 0 (by simp) (by simp[hF0,← repI]) ?_
 simp only[KN,keep,but,reduceIte,Nat.reduceEqDiff,Nat.reduceBEq]
 rintro k hk KL2 hKL2
 have hfl:=filled_len (idL ns.length) 0 k (by rw[idL_len];exact hk)
 rw[idL_len] at hfl
 refine R0 ?_
 refine Zn (b:=decide (k<ns.length)) (by simp) (fun c6=>?_) (fun c6=>?_)
 ·have hlt:k<ns.length:=by simpa using c6
  have hki:k<(idL ns.length).length:=by rw[idL_len];exact hlt
  have hst:=filled_step (idL ns.length) 0 k hki
  rw[idL_get _ _ hlt] at hst
  have hfj:=filled_at (idL ns.length) 0 k hki
  refine Zd (fun K1_3 hK1_3=>?_)
  refine R2 [] (by simp[hfj,hfl,hlt];first|exact F3|exact F4) ?_
  refine Zc (hK1_3 _ _ _ ?_)
  refine R1 ?_
  exact hKL2 _ _ _ (k+1) (by omega) (by omega) (by simp[setI,hst])
 ·have hge:ns.length≤k:=by simpa using c6
  have hfa:=filled_all (idL ns.length) 0 k (by rw[idL_len];exact hge)
  refine Ze (show K0_1 _ _ _ from hK0_1 _ _ _ ?_)
  refine R0 ?_
  refine Zd (fun K2_4 hK2_4=>?_)
  refine Zg (X:=Bool×List Int) [1,2,7] [12] (fun x=>[(9,.bool x.1)]) (fun x=>[(12,.arr 1 (Zb x.2))]) (fun x=>PInv ns.length ds st x.2∧(x.1=false→∀ z∈ds.zip (YF st),Rl7 x.2 z)) (fun x=>if x.1=true then muS x.2+1 else 0) (true,idL ns.length) (⟨PInv.start _ _ _,fun h=>by cases h⟩) (by simp[hfa]) ?_
  simp only[KN,keep,but,reduceIte,Nat.reduceEqDiff,Nat.reduceBEq]
  rintro⟨b,out⟩ ⟨hin,hfx⟩ KL5 hKL5
  replace hin:PInv ns.length ds st out:=hin
  replace hfx:b=false→∀ z∈ds.zip (YF st),Rl7 out z:=hfx
  have hol:=hin.len
  refine R0 ?_
  refine Zn (b:=b) (by simp) (fun c10=>?_) (fun c10=>?_)
  ·subst c10
   refine Zd (fun K3_6 hK3_6=>?_)
   refine R0 ?_
   refine R0 ?_
   refine Zd (fun K4_7 hK4_7=>?_)
   refine Zg (X:=Nat×Bool×List Int) [1,2,7] [12] (fun x=>[(10,.int .i64 x.1),(9,.bool x.2.1)]) (fun x=>[(12,.arr 1 (Zb x.2.2))]) (fun x=>x.1≤ds.length∧J7 ns.length ds st (muS out) x.1 x.2.1 x.2.2) (fun x=>ds.length - x.1) (0,false,out) (⟨Nat.zero_le _,J7.start hin⟩) (by simp) ?_
   simp only[KN,keep,but,reduceIte,Nat.reduceEqDiff,Nat.reduceBEq]
   rintro⟨m,b2,oc⟩ ⟨hm,hj⟩ KL8 hKL8
   replace hm:m≤ds.length:=hm
   replace hj:J7 ns.length ds st (muS out) m b2 oc:=hj
   have hol2:=hj.inv.len
   refine R0 ?_
   refine Zn (b:=decide (m<ds.length)) (by simp) (fun c13=>?_) (fun c13=>?_)
   ·have hlt:m<ds.length:=by simpa using c13
    have hml:m<st.length:=by omega
    have hkk:ds[m]? = some ds[m]:=by simp[hlt]
    have hss:st[m]? = some st[m]:=by simp[hml]
    have hdf:=dev_at hc (List.getElem_mem hlt)
    generalize ds[m]=d at *
    generalize st[m]=s at *
    obtain⟨a,ha⟩:∃ a:Nat,d.a=a:=⟨_,(Int.toNat_of_nonneg hdf.1.1).symm⟩
    have hal:a<ns.length:=by have:=hdf.1.2;omega
    obtain⟨x,hx⟩:∃ x,oc[a]? = some x:=⟨_,List.getElem?_eq_getElem (by omega)⟩
    obtain⟨_,hxe⟩:=List.getElem?_eq_some_iff.1 hx
    obtain⟨jb,hjb,hJ⟩:∃ jb,Zu d.kind=jb∧Pure Tryz.prog G0 79 [.int .i64 d.kind] (.bool jb):=⟨_,rfl,rjoins_pure _⟩
    refine Zd (fun K5_9 hK5_9=>?_)
    refine R2 [] (by simp[hkk];first|exact F3|exact F4) ?_
    rcases bf_ (s != 2) with h16_50|h16_50
    ·refine R3 8 16 (by decide) [] (by simp[hss,ha,hal,hx,hxe,hol2,h16_50];first|exact F5|exact F6) (by first|trivial|omega|(simp;done)|(simp;omega)) (by simp[hss,ha,hal,hx,hxe,hol2,h16_50];first|exact F5|exact F6) (by first|trivial|omega|(simp;done)|(simp;omega)) (by simp[hss,ha,hal,hx,hxe,hol2,h16_50];first|exact F3|exact F4) (by first|trivial|omega|(simp;done)|(simp;omega)) ?_
     refine fl_T ?_
     refine Ze (show K5_9 _ _ _ from hK5_9 _ _ _ ?_)
     refine R1 ?_
     exact hKL8 _ _ _ (m+1,b2,oc) ⟨by show m+1≤_;omega,hj.keep hkk hss (fun e1 e2=>by first|(exfalso;simp[e1] at h16_50;done)|(exfalso;rw[hjb] at e2;cases e2;done)|(rw[ha,hb];simp[PO.at_,hx,hy];simpa using h16_68))⟩ (by show _<_;omega) (by simp)
    ·have hs2:s=2:=by simpa using h16_50
     rcases bf_ (jb) with h16_54|h16_54
     ·subst h16_54
      have h16_54:True:=trivial
      obtain⟨c,hb,hcl⟩:∃ c:Nat,d.b=c∧c<ns.length:=⟨d.b.toNat,by have:=hdf.2 hjb;omega,by have:=hdf.2 hjb;omega⟩
      obtain⟨y,hy⟩:∃ y,oc[c]? = some y:=⟨_,List.getElem?_eq_getElem (by omega)⟩
      obtain⟨_,hye⟩:=List.getElem?_eq_some_iff.1 hy
      rcases bf_ (x==y) with h16_68|h16_68
      ·refine R3 8 16 (by decide) [.p ⟨_,_,_,hJ⟩] (by simp[hss,ha,hal,hx,hxe,hol2,h16_50,h16_54,h16_68,hb,hcl,hy,hye];first|exact F5|exact F6) (by first|trivial|omega|(simp;done)|(simp;omega)) (by simp[hss,ha,hal,hx,hxe,hol2,h16_50,h16_54,h16_68,hb,hcl,hy,hye];first|exact F5|exact F6) (by first|trivial|omega|(simp;done)|(simp;omega)) (by simp[hss,ha,hal,hx,hxe,hol2,h16_50,h16_54,h16_68,hb,hcl,hy,hye];first|exact F3|exact F4) (by first|trivial|omega|(simp;done)|(simp;omega)) ?_
       refine fl_T ?_
       refine Ze (show K5_9 _ _ _ from hK5_9 _ _ _ ?_)
       refine R1 ?_
       exact hKL8 _ _ _ (m+1,b2,oc) ⟨by show m+1≤_;omega,hj.keep hkk hss (fun e1 e2=>by first|(exfalso;simp[e1] at h16_50;done)|(exfalso;rw[hjb] at e2;cases e2;done)|(rw[ha,hb];simp[PO.at_,hx,hy];simpa using h16_68))⟩ (by show _<_;omega) (by simp)
      ·have hxy:x≠y:=by simpa using h16_68
       refine R3 8 16 (by decide) [.p ⟨_,_,_,hJ⟩] (by simp[hss,ha,hal,hx,hxe,hol2,h16_50,h16_54,h16_68,hb,hcl,hy,hye];first|exact F5|exact F6) (by first|trivial|omega|(simp;done)|(simp;omega)) (by simp[hss,ha,hal,hx,hxe,hol2,h16_50,h16_54,h16_68,hb,hcl,hy,hye];first|exact F5|exact F6) (by first|trivial|omega|(simp;done)|(simp;omega)) (by simp[hss,ha,hal,hx,hxe,hol2,h16_50,h16_54,h16_68,hb,hcl,hy,hye];first|exact F3|exact F4) (by first|trivial|omega|(simp;done)|(simp;omega)) ?_
       refine fl_F ?_
       refine R2 [] (by simp[ha,hb,hal,hcl,hx,hy,hxe,hye,hol2];first|exact F3|exact F4) ?_
       refine R2 [] (by simp[ha,hb,hal,hcl,hx,hy,hxe,hye,hol2,setI];first|exact F3|exact F4) ?_
       refine R0 ?_
       refine Zc (hK5_9 _ _ _ ?_)
       refine R1 ?_
       exact hKL8 _ _ _ (m+1,true,(oc.set a (if y<x then y else x)).set c (if y<x then y else x)) ⟨by show m+1≤_;omega,J7.more hD hj hkk (by rw[hss,hs2]) hjb ha hb hx hy hxy⟩ (by show _<_;omega) (by simp[setI])
     ·subst h16_54
      have h16_54:True:=trivial
      refine R3 8 16 (by decide) [.p ⟨_,_,_,hJ⟩] (by simp[hss,ha,hal,hx,hxe,hol2,h16_50,h16_54];first|exact F5|exact F6) (by first|trivial|omega|(simp;done)|(simp;omega)) (by simp[hss,ha,hal,hx,hxe,hol2,h16_50,h16_54];first|exact F5|exact F6) (by first|trivial|omega|(simp;done)|(simp;omega)) (by simp[hss,ha,hal,hx,hxe,hol2,h16_50,h16_54];first|exact F3|exact F4) (by first|trivial|omega|(simp;done)|(simp;omega)) ?_
      refine fl_T ?_
      refine Ze (show K5_9 _ _ _ from hK5_9 _ _ _ ?_)
      refine R1 ?_
      exact hKL8 _ _ _ (m+1,b2,oc) ⟨by show m+1≤_;omega,hj.keep hkk hss (fun e1 e2=>by first|(exfalso;simp[e1] at h16_50;done)|(exfalso;rw[hjb] at e2;cases e2;done)|(rw[ha,hb];simp[PO.at_,hx,hy];simpa using h16_68))⟩ (by show _<_;omega) (by simp)
   ·have hnl:¬ m<ds.length:=by simpa using c13
    have hke:m=ds.length:=by omega
    refine Ze (show K4_7 _ _ _ from hK4_7 _ _ _ ?_)
    refine Zc (hK3_6 _ _ _ ?_)
    exact hKL5 _ _ _ (b2,oc) ⟨hj.inv,fun e=>by subst e;exact hj.done hke⟩ (by show (if b2=true then muS oc+1 else 0)<muS out+1;split;(have:=hj.lt ‹_›;omega);omega) (by simp)
  ·subst c10
   have hpe:=pfix hD hin (hfx rfl)
   subst hpe
   refine Ze (show K2_4 _ _ _ from hK2_4 _ _ _ ?_)
   refine R0 ?_
   refine Za ?_
   simp[htk,hpl]
end
section
open Go Go.RowKit
theorem rcol_pure(ns:List Node)(ds:List Dev)(hc:Zk ns ds=0)(st:List Int)(hs:StOK ds st):Pure Tryz.prog G0 45 [netD ns ds,.sl (Zb st)] (.tup [.sl (Zb (colF ns.length ds st)),.int .i64 0]):=by
 refine Zh Tryz.func45 rfl Tryz.ntmps45 ?_
 obtain⟨g1,g2,_⟩:=Zj hc
 have hD:=ZM hc
 have hsl:=hs.1
 have hP:=rparts_pure ns ds hc st hs
 obtain⟨ps,hps⟩:∃ ps,partsL ns.length ds st=ps:=⟨_,rfl⟩
 have hcf:colF ns.length ds st=colK ps (ds.zip st):=by rw[← hps];rfl
 have hpl:ps.length=ns.length:=by rw[← hps];exact Yd _ _ _
 rw[hps] at hP
 have hz0:colK ps []=List.replicate ns.length 0:=by rw[colK_nil,hpl]
 have hlen:(colK ps (ds.zip st)).length=ns.length:=by rw[ZX,hpl]
 have htk:(Zb (colK ps (ds.zip st))).take ns.length=Zb (colK ps (ds.zip st)):=List.take_of_length_le (by simp[hlen])
 clear hps
 refine R0 ?_
 refine R6 [.p ⟨_,_,_,hP⟩] ?_
 refine R0 ?_
 refine fl_F ?_
 refine R0 ?_
 refine R0 ?_
 refine Zd (fun K0_1 hK0_1=>?_)
 refine Zg (X:=Nat) [1,2,6,8] [16] (fun x=>[(9,.int .i64 x)]) (fun x=>[(16,.arr 1 (Zb (colK ps ((ds.zip st).take x))))]) (fun x=>x≤ds.length) (fun x=>ds.length - x) 0 (by simp) (by simp[hz0,← repI]) ?_
 simp only[KN,keep,but,reduceIte,Nat.reduceEqDiff,Nat.reduceBEq]
 rintro k hlek KL2 hKL2
 refine R0 ?_
 refine fl_C (fun c6=>?_) (fun c6=>?_)
 ·have hlt:k<ds.length:=by simpa using c6
  have hkk:ds[k]? = some ds[k]:=by simp[hlt]
  have hd:=Lib.hid (List.drop_eq_getElem_cons hlt)
  have hml:k<st.length:=by omega
  have hss:st[k]? = some st[k]:=by simp[hml]
  have hsn:=zip_snoc hlt hml
  have hdf:=dev_at hc (List.getElem_mem hlt)
  obtain⟨hd1,hd6,_⟩:=hD.ends _ (List.getElem_mem hlt)
  obtain⟨a,ha⟩:∃ a:Nat,ds[k].a=a:=⟨_,(Int.toNat_of_nonneg hdf.1.1).symm⟩
  have hal:a<ps.length:=by have:=hdf.1.2;omega
  obtain⟨pa,hpa⟩:∃ pa,ps[a]? = some pa:=⟨_,List.getElem?_eq_getElem hal⟩
  obtain⟨_,hpae⟩:=List.getElem?_eq_some_iff.1 hpa
  have hat:PO.at_ ps ds[k].a.toNat=pa:=by rw[ha];simp[PO.at_,hpa]
  obtain⟨jb,hjb,hJ⟩:∃ jb,Zu ds[k].kind=jb∧Pure Tryz.prog G0 79 [.int .i64 ds[k].kind] (.bool jb):=⟨_,rfl,rjoins_pure _⟩
  generalize st[k]=s at *
  generalize ds[k]=d at *
  refine Zd (fun K1_3 hK1_3=>?_)
  refine R2 [] (by simp[hkk,hkk];first|exact F3|exact F4) ?_
  rcases bf_ (s != 2) with h9_42|h9_42
  ·refine R2 [] (by simp[hss,hkk,h9_42];first|exact F3|exact F4) ?_
   refine fl_T ?_
   refine Ze (show K1_3 _ _ _ from hK1_3 _ _ _ ?_)
   refine R2 [] (by simp[hkk];(try simp (disch:=omega) only[w64]);first|exact F3|exact F4) ?_
   exact hKL2 _ _ _ (k+1) (by omega) (by omega) (by simp[hsn,col_skip ps ((ds.zip st).take k) d s (by first|(left;simpa using h9_42)|(right;exact hjb))])
  ·have hs2:s=2:=by simpa using h9_42
   rcases bf_ (jb) with h9_46|h9_46
   ·subst h9_46
    have h9_46:True:=trivial
    refine R2 [.p ⟨_,_,_,hJ⟩] (by simp[hss,hkk,h9_42,h9_46];first|exact F3|exact F4) ?_
    refine fl_T ?_
    refine Ze (show K1_3 _ _ _ from hK1_3 _ _ _ ?_)
    refine R2 [] (by simp[hkk];(try simp (disch:=omega) only[w64]);first|exact F3|exact F4) ?_
    exact hKL2 _ _ _ (k+1) (by omega) (by omega) (by simp[hsn,col_skip ps ((ds.zip st).take k) d s (by first|(left;simpa using h9_42)|(right;exact hjb))])
   ·subst h9_46
    have h9_46:True:=trivial
    refine R2 [.p ⟨_,_,_,hJ⟩] (by simp[hss,hkk,h9_42,h9_46];first|exact F3|exact F4) ?_
    refine fl_F ?_
    refine R2 [] (by simp[hkk];first|exact F3|exact F4) ?_
    refine R2 [] (by simp[hkk,hkk];first|exact F3|exact F4) ?_
    refine Zn (b:=d.kind==4) (by simp) (fun c11=>?_) (fun c11=>?_)
    ·have hk4:(d.kind=4∧(2:Int)=2)∨((d.kind=5∨d.kind=6)∧(2:Int)=1):=.inl ⟨by simpa using c11,rfl⟩
     have hcs:=fun q=>col_step ps ((ds.zip st).take k) d hs2 hk4 q
     have hcl4:IntKind.wrap .i64 (2:Int)=2:=by decide
     refine R2 [] (by simp[hkk];first|exact F3|exact F4) ?_
     refine R2 [] (by simp[hkk];first|exact F3|exact F4) ?_
     refine Zd (fun K2_4 hK2_4=>?_)
     refine Zg (X:=Nat) [1,2,6,8,9,10,11] [16] (fun x=>[(12,.int .i64 x)]) (fun x=>[(16,.arr 1 (Zb (mixL (colK ps (((ds.zip st).take k)++[(d,s)])) (colK ps ((ds.zip st).take k)) x)))]) (fun x=>x≤ns.length) (fun x=>ns.length - x) 0 (by simp) (by simp[mix_zero]) ?_
     simp only[KN,keep,but,reduceIte,Nat.reduceEqDiff,Nat.reduceBEq]
     rintro v hv KL5 hKL5
     have hv0:v≤ps.length:=by have h9:v≤ns.length:=hv;omega
     have hml3:=mix_ln (zs:=((ds.zip st).take k)) (ys:=((ds.zip st).take k)++[(d,s)]) hv0
     rw[hpl] at hml3
     refine R2 [] (by simp[hkk];first|exact F3|exact F4) ?_
     refine Zn (b:=decide (v<ns.length)) (by simp) (fun c14=>?_) (fun c14=>?_)
     ·have hlt2:v<ns.length:=by simpa using c14
      have hvp:v<ps.length:=by omega
      have hpp:ps[v]? = some ps[v]:=by simp[hvp]
      have hmg:=mix_get (zs:=((ds.zip st).take k)) (ys:=((ds.zip st).take k)++[(d,s)]) hvp
      obtain⟨_,hmge⟩:=List.getElem?_eq_some_iff.1 hmg
      have hcv:=hcs ps[v]
      have hmy:=fun c=>mix_yes (zs:=((ds.zip st).take k)) (ys:=((ds.zip st).take k)++[(d,s)]) (c:=c) hvp
      have hmno:=mix_no (zs:=((ds.zip st).take k)) (ys:=((ds.zip st).take k)++[(d,s)]) hvp
      rw[hat] at hcv
      generalize ps[v]=p at *
      refine Zd (fun K3_6 hK3_6=>?_)
      refine R2 [] (by simp[hpp,ha,hpa,hpae,hal,hkk];first|exact F3|exact F4) ?_
      refine Zn (b:=p==pa) (by simp[hpae]) (fun c16=>?_) (fun c16=>?_)
      ·have hpe:p=pa:=by simpa using c16
       rw[if_pos hpe] at hcv
       have hms:=hmy (fun x=>bOr .i64 x (_)) hcv
       refine R2 [] (by simp[hmg,hmge,hml3,hpl,hlt2,hkk];first|exact F3|exact F4) ?_
       refine Zc (hK3_6 _ _ _ ?_)
       refine R2 [] (by simp[hkk];(try simp (disch:=omega) only[w64]);first|exact F3|exact F4) ?_
       exact hKL5 _ _ _ (v+1) (by omega) (by omega) (by simp[setI,hms,hmge,ha])
      ·have hpe:p≠pa:=by simpa using c16
       rw[if_neg hpe] at hcv
       have hmn:=hmno hcv
       refine Zc (hK3_6 _ _ _ ?_)
       refine R2 [] (by simp[hkk];(try simp (disch:=omega) only[w64]);first|exact F3|exact F4) ?_
       exact hKL5 _ _ _ (v+1) (by omega) (by omega) (by simp[hmn,ha])
     ·have hge:ns.length≤v:=by simpa using c14
      have hma:=mix_all (a:=colK ps (((ds.zip st).take k)++[(d,s)])) (b:=colK ps ((ds.zip st).take k)) (k:=v) (by rw[ZX,ZX]) (by rw[ZX];omega)
      refine Ze (show K2_4 _ _ _ from hK2_4 _ _ _ ?_)
      refine Zc (hK1_3 _ _ _ ?_)
      refine R2 [] (by simp[hkk];(try simp (disch:=omega) only[w64]);first|exact F3|exact F4) ?_
      exact hKL2 _ _ _ (k+1) (by omega) (by omega) (by simp[hsn,hma])
    ·have hk4:(d.kind=4∧(1:Int)=2)∨((d.kind=5∨d.kind=6)∧(1:Int)=1):=.inr ⟨by (have h1:¬ d.kind=4:=by simpa using c11);(have h2:=hjb);unfold Zu at h2;simp at h2;omega,rfl⟩
     have hcs:=fun q=>col_step ps ((ds.zip st).take k) d hs2 hk4 q
     have hcl4:IntKind.wrap .i64 (1:Int)=1:=by decide
     refine R2 [] (by simp[hkk];first|exact F3|exact F4) ?_
     refine Zd (fun K2_7 hK2_7=>?_)
     refine Zg (X:=Nat) [1,2,6,8,9,10,11] [16] (fun x=>[(12,.int .i64 x)]) (fun x=>[(16,.arr 1 (Zb (mixL (colK ps (((ds.zip st).take k)++[(d,s)])) (colK ps ((ds.zip st).take k)) x)))]) (fun x=>x≤ns.length) (fun x=>ns.length - x) 0 (by simp) (by simp[mix_zero]) ?_
     simp only[KN,keep,but,reduceIte,Nat.reduceEqDiff,Nat.reduceBEq]
     rintro v hv KL8 hKL8
     have hv0:v≤ps.length:=by have h9:v≤ns.length:=hv;omega
     have hml3:=mix_ln (zs:=((ds.zip st).take k)) (ys:=((ds.zip st).take k)++[(d,s)]) hv0
     rw[hpl] at hml3
     refine R2 [] (by simp[hkk];first|exact F3|exact F4) ?_
     refine Zn (b:=decide (v<ns.length)) (by simp) (fun c14=>?_) (fun c14=>?_)
     ·have hlt2:v<ns.length:=by simpa using c14
      have hvp:v<ps.length:=by omega
      have hpp:ps[v]? = some ps[v]:=by simp[hvp]
      have hmg:=mix_get (zs:=((ds.zip st).take k)) (ys:=((ds.zip st).take k)++[(d,s)]) hvp
      obtain⟨_,hmge⟩:=List.getElem?_eq_some_iff.1 hmg
      have hcv:=hcs ps[v]
      have hmy:=fun c=>mix_yes (zs:=((ds.zip st).take k)) (ys:=((ds.zip st).take k)++[(d,s)]) (c:=c) hvp
      have hmno:=mix_no (zs:=((ds.zip st).take k)) (ys:=((ds.zip st).take k)++[(d,s)]) hvp
      rw[hat] at hcv
      generalize ps[v]=p at *
      refine Zd (fun K3_9 hK3_9=>?_)
      refine R2 [] (by simp[hpp,ha,hpa,hpae,hal,hkk];first|exact F3|exact F4) ?_
      refine Zn (b:=p==pa) (by simp[hpae]) (fun c16=>?_) (fun c16=>?_)
      ·have hpe:p=pa:=by simpa using c16
       rw[if_pos hpe] at hcv
       have hms:=hmy (fun x=>bOr .i64 x (_)) hcv
       refine R2 [] (by simp[hmg,hmge,hml3,hpl,hlt2,hkk];first|exact F3|exact F4) ?_
       refine Zc (hK3_9 _ _ _ ?_)
       refine R2 [] (by simp[hkk];(try simp (disch:=omega) only[w64]);first|exact F3|exact F4) ?_
       exact hKL8 _ _ _ (v+1) (by omega) (by omega) (by simp[setI,hms,hmge,ha])
      ·have hpe:p≠pa:=by simpa using c16
       rw[if_neg hpe] at hcv
       have hmn:=hmno hcv
       refine Zc (hK3_9 _ _ _ ?_)
       refine R2 [] (by simp[hkk];(try simp (disch:=omega) only[w64]);first|exact F3|exact F4) ?_
       exact hKL8 _ _ _ (v+1) (by omega) (by omega) (by simp[hmn,ha])
     ·have hge:ns.length≤v:=by simpa using c14
      have hma:=mix_all (a:=colK ps (((ds.zip st).take k)++[(d,s)])) (b:=colK ps ((ds.zip st).take k)) (k:=v) (by rw[ZX,ZX]) (by rw[ZX];omega)
      refine Ze (show K2_7 _ _ _ from hK2_7 _ _ _ ?_)
      refine Zc (hK1_3 _ _ _ ?_)
      refine R2 [] (by simp[hkk];(try simp (disch:=omega) only[w64]);first|exact F3|exact F4) ?_
      exact hKL2 _ _ _ (k+1) (by omega) (by omega) (by simp[hsn,hma])
 ·have hge:ds.length≤k:=by simpa using c6
  have hke:k=ds.length:=by have:k≤ds.length:=hlek;omega
  have hdn:=Lib.hid (List.drop_of_length_le hge)
  have hzk:(ds.zip st).take k=ds.zip st:=List.take_of_length_le (by simp;omega)
  refine Ze (show K0_1 _ _ _ from hK0_1 _ _ _ ?_)
  refine R0 ?_
  refine Za ?_
  simp[hzk,htk,hlen,hcf]
def fltP(cc:List Int)(v:Nat):Bool:=cc.getD v 0==3
theorem rfaults_pure(ns:List Node)(ds:List Dev)(hc:Zk ns ds=0)(st:List Int)(hs:StOK ds st):Pure Tryz.prog G0 18 [netD ns ds,.sl (Zb st)] (.tup [.sl (Zb (supN (fltP (colF ns.length ds st)) ns.length)),.int .i64 0]):=by
 refine Zh Tryz.func18 rfl Tryz.ntmps18 ?_
 obtain⟨g1,g2,_⟩:=Zj hc
 have hD:=ZM hc
 have hsl:=hs.1
 have hC:=rcol_pure ns ds hc st hs
 have hcl:(colF ns.length ds st).length=ns.length:=Y1 _ _ _
 generalize colF ns.length ds st=cc at *
 refine R0 ?_
 refine R6 [.p ⟨_,_,_,hC⟩] ?_
 refine R0 ?_
 refine R0 ?_
 refine Zd (fun K0_1 hK0_1=>?_)
 refine Yf 8 1 (by simp) ?_
 refine Zg (X:=Nat) [6,7] [13] (fun x=>[(9,.int .i64 x),(8,.os 13 (supN (fltP cc) x).length 0 (supN (fltP cc) x).length)]) (fun x=>[(13,.arr 1 (Zb (supN (fltP cc) x)))]) (fun x=>x≤cc.length) (fun x=>cc.length - x) 0 (by simp) (by simp[supN,Zb]) ?_
 simp only[KN,keep,but,reduceIte,Nat.reduceEqDiff,Nat.reduceBEq]
 rintro k hlek KL2 hKL2
 refine R0 ?_
 refine fl_C (fun c4=>?_) (fun c4=>?_)
 ·have hlt:k<cc.length:=by simpa using c4
  have hkk:cc[k]? = some cc[k]:=by simp[hlt]
  have hd:=Lib.hid (List.drop_eq_getElem_cons hlt)
  have hcg:fltP cc k=(cc[k]==3):=by simp[fltP,hlt]
  have hsl2:=Z3 (fltP cc) k
  generalize cc[k]=y at *
  refine Zd (fun K1_3 hK1_3=>?_)
  refine R2 [] (by simp[hkk];first|exact F3|exact F4) ?_
  refine Zn (b:=y==3) (by simp) (fun c6=>?_) (fun c6=>?_)
  ·refine R2 [] (by simp[hkk];first|exact F3|exact F4) ?_
   refine Zc (hK1_3 _ _ _ ?_)
   refine R2 [] (by simp[hkk];(try simp (disch:=omega) only[w64]);first|exact F3|exact F4) ?_
   exact hKL2 _ _ _ (k+1) (by omega) (by omega) (by simp[supN,hcg,Yk,hkk,hd.out,c6])
  ·refine Zc (hK1_3 _ _ _ ?_)
   refine R2 [] (by simp[hkk];(try simp (disch:=omega) only[w64]);first|exact F3|exact F4) ?_
   exact hKL2 _ _ _ (k+1) (by omega) (by omega) (by simp[supN,hcg,Yk,hkk,hd.out,c6])
 ·have hge:cc.length≤k:=by simpa using c4
  have hke:k=cc.length:=by have:k≤cc.length:=hlek;omega
  have hdn:=Lib.hid (List.drop_of_length_le hge)
  refine Ze (show K0_1 _ _ _ from hK0_1 _ _ _ ?_)
  refine R0 ?_
  refine Za ?_
  simp[← hcl,hke]
end
end Go.Proofs.YtjdgofpcmcobnaaGreatDoor.AL

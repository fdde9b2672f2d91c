/-
  Contracts: names, networks, locks, zones, colours.
-/
import Derived.Test.YtjdgofpcmcobnaaGreatDoorGd
set_option maxRecDepth 100000
set_option maxHeartbeats 2000000
attribute [local simp] Go.Proofs.YtjdgofpcmcobnaaGreatDoor.AL.onesD Go.Proofs.YtjdgofpcmcobnaaGreatDoor.AL.oneD
set_option linter.unusedVariables false
set_option linter.unusedSimpArgs false
namespace Go.Proofs.YtjdgofpcmcobnaaGreatDoor.AL
section
open Go Go.RowKit
theorem Yy(k:Int):Pure Tryz.prog G0 143 [.int .i64 k] (.bool (Zu k)):=by
 refine Zh Tryz.func143 rfl Tryz.ntmps143 ?_
 refine R0 ?_
 rcases bf_ (decide (1≤k)) with h|h
 ·refine R2 [] (by simp[h];first|exact F3|exact F4) ?_
  refine Za ?_
  simp[Zu,h]
 ·refine R2 [] (by simp[h];first|exact F3|exact F4) ?_
  refine Za ?_
  simp[Zu,h]
theorem company_pure(k:Int):Pure Tryz.prog G0 139 [.int .i64 k] (.bool (Xs k)):=by
 refine Zh Tryz.func139 rfl Tryz.ntmps139 ?_
 refine R0 ?_
 rcases bf_ (decide (0≤k)) with h|h
 ·refine R2 [] (by simp[h];first|exact F3|exact F4) ?_
  refine Za ?_
  simp[Xs,h]
 ·refine R2 [] (by simp[h];first|exact F3|exact F4) ?_
  refine Za ?_
  simp[Xs,h]
theorem fits_pure(b:Int)(first:Bool):Pure Tryz.prog G0 147 [.int .u8 b,.bool first] (.bool (fitsB b first)):=by
 refine Zh Tryz.func147 rfl Tryz.ntmps147 ?_
 refine R0 ?_
 refine R2 [] (by simp[clsD];first|exact F3|exact F4) ?_
 refine Zd (fun K0_1 hK0_1=>?_)
 refine fl_loop (X:=Nat) (fun x=>[(8,.int .i64 x),(7,.agg [.int .u8 65,.int .u8 90,.bool true,.int .u8 97,.int .u8 122,.bool true,.int .u8 48,.int .u8 57,.bool false,.int .u8 95,.int .u8 95,.bool false]),(0,.int .u8 b),(1,.bool first)]) (fun x=>[]) (fun x=>x≤4∧Hid (fitsB b first=Y8 b first (cls.drop x))) (fun x=>4 - x) 0 ⟨by simp,Lib.hid rfl⟩ (by simp) ?_
 rintro k ⟨hk,hrel⟩ KL2 hKL2
 refine R0 ?_
 refine fl_C (fun hc=>?_) (fun hc=>?_)
 ·have hlt:k<4:=by simp at hc;omega
  clear hc
  refine Zd (fun K1_3 hK1_3=>?_)
  have hkk:k=0∨k=1∨k=2∨k=3:=by omega
  clear hlt hk
  rcases hkk with rfl|rfl|rfl|rfl
  ·refine R0 ?_
   rcases bf_ (decide (65≤b)) with h1|h1
   ·rcases bf_ (decide (b≤90)) with h2|h2
    ·refine R2 [] (by simp[h1,h2];first|exact F3|exact F4) ?_
     refine fl_T ?_
     by_cases h3:first
     ·refine R2 [] (by simp[h3];first|exact F3|exact F4) ?_
      refine Za ?_
      simp at h1 h2;have hr:=hrel.out;simp[cls,Y8,h1,h2,h3] at hr;simp[h3,hr]
     ·refine R2 [] (by simp[h3];first|exact F3|exact F4) ?_
      refine Za ?_
      simp at h1 h2;have hr:=hrel.out;simp[cls,Y8,h1,h2,h3] at hr;simp[h3,hr]
    ·refine R2 [] (by simp[h1,h2];first|exact F3|exact F4) ?_
     refine fl_F ?_
     refine Zc (hK1_3 _ _ _ ?_)
     refine R1 ?_
     exact hKL2 _ _ _ 1 ⟨by omega,Lib.hid (by rw[hrel.out];simp at h1 h2;simp[cls,Y8];omega)⟩ (by omega) (by simp)
   ·refine R2 [] (by simp[h1];first|exact F3|exact F4) ?_
    refine fl_F ?_
    refine Zc (hK1_3 _ _ _ ?_)
    refine R1 ?_
    exact hKL2 _ _ _ 1 ⟨by omega,Lib.hid (by rw[hrel.out];simp at h1;simp[cls,Y8];omega)⟩ (by omega) (by simp)
  ·refine R0 ?_
   rcases bf_ (decide (97≤b)) with h1|h1
   ·rcases bf_ (decide (b≤122)) with h2|h2
    ·refine R2 [] (by simp[h1,h2];first|exact F3|exact F4) ?_
     refine fl_T ?_
     by_cases h3:first
     ·refine R2 [] (by simp[h3];first|exact F3|exact F4) ?_
      refine Za ?_
      simp at h1 h2;have hr:=hrel.out;simp[cls,Y8,h1,h2,h3] at hr;simp[h3,hr]
     ·refine R2 [] (by simp[h3];first|exact F3|exact F4) ?_
      refine Za ?_
      simp at h1 h2;have hr:=hrel.out;simp[cls,Y8,h1,h2,h3] at hr;simp[h3,hr]
    ·refine R2 [] (by simp[h1,h2];first|exact F3|exact F4) ?_
     refine fl_F ?_
     refine Zc (hK1_3 _ _ _ ?_)
     refine R1 ?_
     exact hKL2 _ _ _ 2 ⟨by omega,Lib.hid (by rw[hrel.out];simp at h1 h2;simp[cls,Y8];omega)⟩ (by omega) (by simp)
   ·refine R2 [] (by simp[h1];first|exact F3|exact F4) ?_
    refine fl_F ?_
    refine Zc (hK1_3 _ _ _ ?_)
    refine R1 ?_
    exact hKL2 _ _ _ 2 ⟨by omega,Lib.hid (by rw[hrel.out];simp at h1;simp[cls,Y8];omega)⟩ (by omega) (by simp)
  ·refine R0 ?_
   rcases bf_ (decide (48≤b)) with h1|h1
   ·rcases bf_ (decide (b≤57)) with h2|h2
    ·refine R2 [] (by simp[h1,h2];first|exact F3|exact F4) ?_
     refine fl_T ?_
     by_cases h3:first
     ·refine R2 [] (by simp[h3];first|exact F3|exact F4) ?_
      refine Za ?_
      simp at h1 h2;have hr:=hrel.out;simp[cls,Y8,h1,h2,h3] at hr;simp[h3,hr]
     ·refine R2 [] (by simp[h3];first|exact F3|exact F4) ?_
      refine Za ?_
      simp at h1 h2;have hr:=hrel.out;simp[cls,Y8,h1,h2,h3] at hr;simp[h3,hr]
    ·refine R2 [] (by simp[h1,h2];first|exact F3|exact F4) ?_
     refine fl_F ?_
     refine Zc (hK1_3 _ _ _ ?_)
     refine R1 ?_
     exact hKL2 _ _ _ 3 ⟨by omega,Lib.hid (by rw[hrel.out];simp at h1 h2;simp[cls,Y8];omega)⟩ (by omega) (by simp)
   ·refine R2 [] (by simp[h1];first|exact F3|exact F4) ?_
    refine fl_F ?_
    refine Zc (hK1_3 _ _ _ ?_)
    refine R1 ?_
    exact hKL2 _ _ _ 3 ⟨by omega,Lib.hid (by rw[hrel.out];simp at h1;simp[cls,Y8];omega)⟩ (by omega) (by simp)
  ·refine R0 ?_
   rcases bf_ (decide (95≤b)) with h1|h1
   ·rcases bf_ (decide (b≤95)) with h2|h2
    ·refine R2 [] (by simp[h1,h2];first|exact F3|exact F4) ?_
     refine fl_T ?_
     by_cases h3:first
     ·refine R2 [] (by simp[h3];first|exact F3|exact F4) ?_
      refine Za ?_
      simp at h1 h2;have hr:=hrel.out;simp[cls,Y8,h1,h2,h3] at hr;simp[h3,hr]
     ·refine R2 [] (by simp[h3];first|exact F3|exact F4) ?_
      refine Za ?_
      simp at h1 h2;have hr:=hrel.out;simp[cls,Y8,h1,h2,h3] at hr;simp[h3,hr]
    ·refine R2 [] (by simp[h1,h2];first|exact F3|exact F4) ?_
     refine fl_F ?_
     refine Zc (hK1_3 _ _ _ ?_)
     refine R1 ?_
     exact hKL2 _ _ _ 4 ⟨by omega,Lib.hid (by rw[hrel.out];simp at h1 h2;simp[cls,Y8];omega)⟩ (by omega) (by simp)
   ·refine R2 [] (by simp[h1];first|exact F3|exact F4) ?_
    refine fl_F ?_
    refine Zc (hK1_3 _ _ _ ?_)
    refine R1 ?_
    exact hKL2 _ _ _ 4 ⟨by omega,Lib.hid (by rw[hrel.out];simp at h1;simp[cls,Y8];omega)⟩ (by omega) (by simp)
 ·have hge:k=4:=by simp at hc;omega
  refine Ze (show K0_1 _ _ _ from hK0_1 _ _ _ ?_)
  refine R0 ?_
  refine Za ?_
  simp[hrel.out,hge,cls,Y8]
theorem name_pure(s:ByteArray)(hs:s.size≤65536):Pure Tryz.prog G0 108 [.str s] (.bool (YP s)):=by
 refine Zh Tryz.func108 rfl Tryz.ntmps108 ?_
 refine R0 ?_
 refine R0 ?_
 refine Zd (fun K0_1 hK0_1=>?_)
 refine fl_loop (X:=Nat) (fun x=>[(6,.int .i64 x),(5,.int .i64 s.size),(0,.str s)]) (fun x=>[]) (fun x=>x≤s.size∧Hid (okBytes s.data.toList true=okBytes (s.data.toList.drop x) ((x:Int)==0))) (fun x=>s.size - x) 0 ⟨by simp,Lib.hid rfl⟩ (by simp) ?_
 rintro k ⟨hk,hrel⟩ KL2 hKL2
 refine R0 ?_
 refine fl_C (fun hc=>?_) (fun hc=>?_)
 ·have hlt:k<s.size:=by simpa using hc
  have hd:=okBytes_drop s k ((k:Int)==0) hlt
  have hk1:(((k+1:Nat):Int)==0)=false:=by simp;omega
  refine Zd (fun K1_3 hK1_3=>?_)
  refine R0 ?_
  refine R2 [.p ⟨_,_,_,fits_pure (s.data[k].toNat:Int) ((k:Int)==0)⟩] (by simp[hlt];first|exact F3|exact F4) ?_
  refine fl_C (fun hc=>?_) (fun hc=>?_)
  ·refine R0 ?_
   refine Za ?_
   have hf:fitsB (s[k].toNat:Int) ((k:Int)==0)=false:=by have h:(!fitsB (s[k].toNat:Int) ((k:Int)==0))=true:=hc;cases hh:fitsB (s[k].toNat:Int) ((k:Int)==0);rfl;rw[hh] at h;cases h
   simp[YP,hrel.out,hd,hf]
  ·refine Zc (hK1_3 _ _ _ ?_)
   refine R1 ?_
   have hf:fitsB (s[k].toNat:Int) ((k:Int)==0)=true:=by have h:(!fitsB (s[k].toNat:Int) ((k:Int)==0))=false:=hc;cases hh:fitsB (s[k].toNat:Int) ((k:Int)==0);rw[hh] at h;cases h;rfl
   exact hKL2 _ _ _ (k+1) ⟨by omega,Lib.hid (by rw[hrel.out,hd,hf,hk1];rfl)⟩ (by omega) (by simp)
 ·have hge:s.size≤k:=by simpa using hc
  refine Ze (show K0_1 _ _ _ from hK0_1 _ _ _ ?_)
  rcases bf_ (decide ((1:Int)≤s.size)) with h|h
  ·refine R2 [] (by simp[h];first|exact F3|exact F4) ?_
   refine Za ?_
   have hr:=hrel.out
   rw[List.drop_of_length_le (by simpa using hge)] at hr
   have h12:decide ((s.size:Int)≤12)=decide (s.size≤12):=decide_eq_decide.2 (by omega)
   have h11:decide ((1:Int)≤s.size)=decide (1≤s.size):=decide_eq_decide.2 (by omega)
   rw[h11] at h
   simp[h12]
   exact Zp (by rw[YP,hr,h];simp[okBytes])
  ·refine R2 [] (by simp[h];first|exact F3|exact F4) ?_
   refine Za ?_
   have hr:=hrel.out
   rw[List.drop_of_length_le (by simpa using hge)] at hr
   have h12:decide ((s.size:Int)≤12)=decide (s.size≤12):=decide_eq_decide.2 (by omega)
   have h11:decide ((1:Int)≤s.size)=decide (1≤s.size):=decide_eq_decide.2 (by omega)
   rw[h11] at h
   simp[h12]
   exact Zp (by rw[YP,hr,h];simp[okBytes])
end
section
open Go Go.RowKit
theorem ends_pure(d:Dev)(n:Int):Pure Tryz.prog G0 140 [.agg (Xj d),.int .i64 n] (.bool (Y9 d n)):=by
 refine Zh Tryz.func140 rfl Tryz.ntmps140 ?_
 refine R0 ?_
 refine Zd (fun K0_1 hK0_1=>?_)
 rcases bf_ (decide (d.a<0)) with h1|h1
 ·refine R2 [] (by simp[h1];first|exact F3|exact F4) ?_
  refine fl_T ?_
  refine R0 ?_
  refine Za ?_
  simp
  exact Zp (by simp at h1;simp[Y9];omega)
 ·rcases bf_ (decide (n≤d.a)) with h2|h2
  ·refine R2 [] (by simp[h1,h2];first|exact F3|exact F4) ?_
   refine fl_T ?_
   refine R0 ?_
   refine Za ?_
   simp
   exact Zp (by simp at h1 h2;simp[Y9];omega)
  ·refine R2 [] (by simp[h1,h2];first|exact F3|exact F4) ?_
   refine fl_F ?_
   refine R6 [.p ⟨_,_,_,Yy d.kind⟩] ?_
   refine fl_C (fun hc=>?_) (fun hc=>?_)
   ·refine R0 ?_
    refine Za ?_
    have hj:Zu d.kind=false:=by have h:(!Zu d.kind)=true:=hc;cases hh:Zu d.kind;rfl;rw[hh] at h;cases h
    simp
    exact Zp (by simp at h1 h2;simp[Y9,hj];first|omega|(intros;omega)|(rw[Bool.eq_iff_iff];simp;omega)|(rw[Bool.eq_iff_iff];simp;done))
   ·refine Zc (hK0_1 _ _ _ ?_)
    rcases bf_ (decide (0≤d.b)) with h4|h4
    ·rcases bf_ (decide (d.b<n)) with h5|h5
     ·refine R2 [] (by simp[h4,h5];first|exact F3|exact F4) ?_
      refine Za ?_
      have hj:Zu d.kind=true:=by have h:(!Zu d.kind)=false:=hc;cases hh:Zu d.kind;rw[hh] at h;cases h;rfl
      simp
      exact Zp (by simp at h1 h2 h4 h5;simp[Y9,hj,h1,h2,h4,h5])
     ·refine R2 [] (by simp[h4,h5];first|exact F3|exact F4) ?_
      refine Za ?_
      have hj:Zu d.kind=true:=by have h:(!Zu d.kind)=false:=hc;cases hh:Zu d.kind;rw[hh] at h;cases h;rfl
      simp
      exact Zp (by simp at h1 h2 h4 h5;simp[Y9,hj];first|omega|(intros;omega)|(rw[Bool.eq_iff_iff];simp;omega)|(rw[Bool.eq_iff_iff];simp;done))
    ·refine R2 [] (by simp[h4];first|exact F3|exact F4) ?_
     refine Za ?_
     have hj:Zu d.kind=true:=by have h:(!Zu d.kind)=false:=hc;cases hh:Zu d.kind;rw[hh] at h;cases h;rfl
     simp
     exact Zp (by simp at h1 h2 h4;simp[Y9,hj];first|omega|(intros;omega)|(rw[Bool.eq_iff_iff];simp;omega)|(rw[Bool.eq_iff_iff];simp;done))
theorem set_fun(s:List UInt8)(u:List (List UInt8)):(fun q=>if q=s then true else decide (q∈u))=fun q=>decide (q∈s::u):=by
 funext q;by_cases h:q=s<;>simp[h]
theorem nodeErr_0{x:Node}{u:List (List UInt8)}(h:nodeErr x u=0):YP x.name=true∧x.name.data.toList∉u∧0≤x.cust∧x.cust≤1048576∧Xs x.comp=true:=by
 unfold nodeErr at h
 split at h;· cases h
 split at h;· cases h
 split at h;· cases h
 rename_i h1 h2 h3
 simp only[Bool.not_eq_false,not_or] at h1 h3
 exact⟨h1,h2,by omega,by omega,by simpa using h3.2.2⟩
theorem devErr_0{n:Int}{d:Dev}{u:List (List UInt8)}(h:devErr n d u=0):YP d.name=true∧d.name.data.toList∉u∧1≤d.kind∧d.kind≤6∧Y9 d n=true∧Xs d.comp=true:=by
 unfold devErr at h
 split at h;· cases h
 split at h;· cases h
 split at h;· cases h
 split at h;· cases h
 split at h;· cases h
 rename_i h1 h2 h3 h4 h5
 simp only[Bool.not_eq_false] at h1 h4 h5
 exact⟨h1,h2,by omega,by omega,h4,h5⟩
theorem Zj{ns:List Node}{ds:List Dev}(h:Zk ns ds=0):ns.length≤32∧ds.length≤64∧chkN ns.length ds ns []=0:=by
 unfold Zk at h
 split at h;· cases h
 exact⟨by omega,by omega,h⟩
theorem chkN_cons{n:Int}{ds:List Dev}{x:Node}{xs:List Node}{u:List (List UInt8)}(h:chkN n ds (x::xs) u=0):nodeErr x u=0∧chkN n ds xs (x.name.data.toList::u)=0:=by
 unfold chkN at h;split at h
 ·rename_i h0;exact⟨h0,h⟩
 ·rename_i h0;exact absurd h h0
theorem chkD_cons{n:Int}{d:Dev}{ds:List Dev}{u:List (List UInt8)}(h:chkD n (d::ds) u=0):devErr n d u=0∧chkD n ds (d.name.data.toList::u)=0:=by
 unfold chkD at h;split at h
 ·rename_i h0;exact⟨h0,h⟩
 ·rename_i h0;exact absurd h h0
theorem check_pure(ns:List Node)(ds:List Dev)(h:Zk ns ds=0):Pure Tryz.prog G0 95 [netD ns ds] (.int .i64 0):=by
 refine Zh Tryz.func95 rfl Tryz.ntmps95 ?_
 obtain⟨hl1,hl2,_⟩:=Zj h
 have hb1:decide (32<(ns.length:Int))=false:=by simp;omega
 have hb2:decide (64<(ds.length:Int))=false:=by simp;omega
 refine R0 ?_
 refine R2 [] (by simp[hb1,hb2];first|exact F3|exact F4) ?_
 refine fl_F ?_
 refine R0 ?_
 refine R0 ?_
 refine Zd (fun K0_1 hK0_1=>?_)
 refine fl_loop (X:=Nat×List (List UInt8)) (fun x=>[(22,.int .i64 x.1),(20,nsD ns),(21,.int .i64 ns.length),(1,.bp 0 0),(3,.rf 12 false)]) (fun x=>[(0,.box [nsD ns,dsD ds]),(12,.obj (.mapSB Tryz.prog 9 4 x.1 (fun q=>decide (q∈x.2))))]) (fun x=>x.1≤ns.length∧Hid (chkN ns.length ds (ns.drop x.1) x.2=0)) (fun x=>ns.length - x.1) (0,[]) ⟨by simp,Lib.hid (Zj h).2.2⟩ (by simp) ?_
 rintro⟨k,u⟩ ⟨hk,hrel⟩ KL2 hKL2
 refine R0 ?_
 refine fl_C (fun hc=>?_) (fun hc=>?_)
 ·have hlt:k<ns.length:=by simpa using hc
  have hkk:ns[k]? = some ns[k]:=by simp[hlt]
  have hd:=hrel.out
  rw[List.drop_eq_getElem_cons hlt] at hd
  obtain⟨he,hre⟩:=chkN_cons hd
  obtain⟨e1,e2,e3,e4,e5⟩:=nodeErr_0 he
  have hsz:=nameB_size e1
  have f1:decide (ns[k].cust<0)=false:=by simp;omega
  have f2:decide (1048576<ns[k].cust)=false:=by simp;omega
  have hre:=Lib.hid hre
  clear hd he
  generalize ns[k]=x at *
  refine Zd (fun K1_3 hK1_3=>?_)
  refine R2 [] (by simp[hkk];first|exact F3|exact F4) ?_
  refine Zd (fun K2_4 hK2_4=>?_)
  refine R2 [.p ⟨_,_,_,name_pure x.name (by omega)⟩] (by simp[e1];first|exact F3|exact F4) ?_
  refine fl_F ?_
  refine R2 [] (by simp[e2];first|exact F3|exact F4) ?_
  refine fl_F ?_
  refine R2 [.p ⟨_,_,_,company_pure x.comp⟩] (by simp[f1,f2,e5];first|exact F3|exact F4) ?_
  refine fl_F ?_
  refine Zc (hK2_4 _ _ _ ?_)
  refine R0 ?_
  refine Zc (hK1_3 _ _ _ ?_)
  refine R1 ?_
  exact hKL2 _ _ _ (k+1,x.name.data.toList::u) ⟨by show k+1≤_;omega,hre⟩ (by show _<_;omega) (by simp[set_fun])
 ·have hge:ns.length≤k:=by simpa using hc
  have hkn:k=ns.length:=by have:k≤ns.length:=hk;omega
  have hrel2:=hrel.out
  rw[List.drop_of_length_le hge] at hrel2
  refine Ze (show K0_1 _ _ _ from hK0_1 _ _ _ ?_)
  refine R0 ?_
  refine Zd (fun K3_5 hK3_5=>?_)
  refine fl_loop (X:=Nat×List (List UInt8)) (fun x=>[(58,.int .i64 x.1),(56,dsD ds),(57,.int .i64 ds.length),(1,.bp 0 0),(3,.rf 12 false)]) (fun x=>[(0,.box [nsD ns,dsD ds]),(12,.obj (.mapSB Tryz.prog 9 4 (ns.length+x.1) (fun q=>decide (q∈x.2))))]) (fun x=>x.1≤ds.length∧Hid (chkD ns.length (ds.drop x.1) x.2=0)) (fun x=>ds.length - x.1) (0,u) ⟨by simp,Lib.hid hrel2⟩ (by simp[hkn]) ?_
  rintro⟨j,u2⟩ ⟨hj,hre2⟩ KL6 hKL6
  refine R0 ?_
  refine fl_C (fun hc=>?_) (fun hc=>?_)
  ·have hlt:j<ds.length:=by simpa using hc
   have hjj:ds[j]? = some ds[j]:=by simp[hlt]
   have hd:=hre2.out
   rw[List.drop_eq_getElem_cons hlt] at hd
   obtain⟨he,hre⟩:=chkD_cons hd
   obtain⟨e1,e2,e3,e4,e5,e6⟩:=devErr_0 he
   have hsz:=nameB_size e1
   have f1:decide (ds[j].kind<1)=false:=by simp;omega
   have f2:decide (6<ds[j].kind)=false:=by simp;omega
   have hre:=Lib.hid hre
   clear hd he
   generalize ds[j]=d at *
   refine Zd (fun K4_7 hK4_7=>?_)
   refine R2 [] (by simp[hjj];first|exact F3|exact F4) ?_
   refine Zd (fun K5_8 hK5_8=>?_)
   refine R2 [.p ⟨_,_,_,name_pure d.name (by omega)⟩] (by simp[e1];first|exact F3|exact F4) ?_
   refine fl_F ?_
   refine R2 [] (by simp[e2];first|exact F3|exact F4) ?_
   refine fl_F ?_
   refine R2 [] (by simp[f1,f2];first|exact F3|exact F4) ?_
   refine fl_F ?_
   refine R2 [.p ⟨_,_,_,ends_pure d ns.length⟩] (by simp[e5];first|exact F3|exact F4) ?_
   refine fl_F ?_
   refine R2 [.p ⟨_,_,_,company_pure d.comp⟩] (by simp[e6];first|exact F3|exact F4) ?_
   refine fl_F ?_
   refine Zc (hK5_8 _ _ _ ?_)
   refine R0 ?_
   refine Zc (hK4_7 _ _ _ ?_)
   refine R1 ?_
   exact hKL6 _ _ _ (j+1,d.name.data.toList::u2) ⟨by show j+1≤_;omega,hre⟩ (by show _<_;omega) (by simp[set_fun,Nat.add_assoc])
  ·refine Ze (show K3_5 _ _ _ from hK3_5 _ _ _ ?_)
   refine R0 ?_
   refine Za ?_
   simp
end
section
open Go Go.RowKit
theorem moves1_pure(k:Lk)(i:Int):Pure Tryz.prog G0 134 [.agg (Zm k),.vp [.int .i64 i]] (.bool (k.dev==i)):=by
 refine Zh Tryz.func134 rfl Tryz.ntmps134 ?_
 refine R0 ?_
 refine R0 ?_
 refine Za ?_
 simp
theorem other1_pure(x k:Lk):Pure Tryz.prog G0 167 [.agg (Zm x),.vp (Zm k)] (.bool ((x.dev==k.dev)&&(x.pos != k.pos))):=by
 refine Zh Tryz.func167 rfl Tryz.ntmps167 ?_
 refine R0 ?_
 rcases bf_ (x.dev==k.dev) with h1_8|h1_8
 ·refine R2 [] (by simp[h1_8];first|exact F3|exact F4) ?_
  refine Za ?_
  simp
  exact Zp (by simp[h1_8])
 ·refine R2 [] (by simp[h1_8];first|exact F3|exact F4) ?_
  refine Za ?_
  simp
  exact Zp (by simp[h1_8])
theorem used1_pure(x:Lk)(k:Int):Pure Tryz.prog G0 168 [.agg (Zm x),.vp [.int .i64 k]] (.bool (x.key==k)):=by
 refine Zh Tryz.func168 rfl Tryz.ntmps168 ?_
 refine R0 ?_
 refine R0 ?_
 refine Za ?_
 simp
theorem lidx_pure(l:List Lk)(hl:l.length≤1000000)(p:Lk→Bool)(c:Nat)(d1 d2:List D)(hq1:Clo d1)(hq2:Clo d2)(hp:∀ x∈l,Pure Tryz.prog G0 c (d1++.agg (Zm x)::d2) (.bool (p x))):Pure Tryz.prog G0 64 [.sl (l.map Zm),.fn (.func c) d1 d2] (.int .i64 (lidx p l 0)):=by
 refine Zh Tryz.func64 rfl Tryz.ntmps64 ?_
 refine R2 [] (by simp[hq1.v,hq2.v,hq1.l,hq2.l,hq1.n,hq2.n];first|exact F3|exact F4) ?_
 refine R2 [] (by simp[hq1.v,hq2.v,hq1.l,hq2.l,hq1.n,hq2.n];first|exact F3|exact F4) ?_
 refine Zd (fun K0_1 hK0_1=>?_)
 refine Zg (X:=Nat) [0,1,7] [] (fun x=>[(8,.int .i64 x)]) (fun x=>[]) (fun x=>x≤l.length∧Hid (lidx p l 0=lidx p (l.drop x) x)) (fun x=>l.length - x) 0 (⟨by simp,Lib.hid rfl⟩) (by simp[hq1.l,hq2.l]) ?_
 simp only[keep,gt,but,List.map_cons,List.map_nil,reduceIte,Nat.reduceEqDiff,List.cons_append,List.nil_append,List.filter_cons,List.filter_nil,List.contains_cons,List.contains_nil,Bool.or_false,Nat.reduceBEq,Bool.not_true,Bool.not_false,Bool.or_true,Bool.true_or,Bool.false_or,Bool.false_eq_true,ite_true,ite_false]
 rintro k ⟨hlek,hrel⟩ KL2 hKL2
 refine R2 [] (by simp[hq1.v,hq2.v,hq1.l,hq2.l,hq1.n,hq2.n];first|exact F3|exact F4) ?_
 refine fl_C (fun c2=>?_) (fun c2=>?_)
 ·have hlt:k<l.length:=by simpa using c2
  have hkk:l[k]? = some l[k]:=by simp[hlt]
  have hd:=Lib.hid (List.drop_eq_getElem_cons hlt)
  have hpx:=hp l[k] (List.getElem_mem hlt)
  generalize l[k]=x at *
  refine Zd (fun K1_3 hK1_3=>?_)
  refine R2 [] (by simp[hq1.v,hq2.v,hq1.l,hq2.l,hq1.n,hq2.n,hkk];first|exact F3|exact F4) ?_
  refine R2 [.p ⟨_,_,_,hpx⟩] (by simp[hq1.v,hq2.v,hq1.l,hq2.l,hq1.n,hq2.n,hkk];first|exact F3|exact F4) ?_
  refine fl_C (fun c4=>?_) (fun c4=>?_)
  ·refine R2 [] (by simp[hq1.v,hq2.v,hq1.l,hq2.l,hq1.n,hq2.n,hkk];first|exact F3|exact F4) ?_
   refine Za ?_
   simp[hrel.out,hkk,hd.out,c4,lidx]
  ·refine Zc (hK1_3 _ _ _ ?_)
   refine R2 [] (by simp (disch:=omega) [w64,hq1.v,hq2.v,hq1.l,hq2.l,hq1.n,hq2.n,hkk];first|exact F3|exact F4) ?_
   exact hKL2 _ _ _ (k+1) ⟨by omega,Lib.hid (by rw[hrel.out];simp[lidx,hkk,hd.out,c4])⟩ (by omega) (by simp[hq1.l,hq2.l])
 ·have hge:l.length≤k:=by simpa using c2
  have hke:k=l.length:=by have:k≤l.length:=hlek;omega
  have hdn:=Lib.hid (List.drop_of_length_le hge)
  refine Ze (show K0_1 _ _ _ from hK0_1 _ _ _ ?_)
  refine R2 [] (by simp[hq1.v,hq2.v,hq1.l,hq2.l,hq1.n,hq2.n];first|exact F3|exact F4) ?_
  refine Za ?_
  simp[hrel.out,hdn.out,lidx]
end
section
open Go Go.RowKit
theorem lkE_0{ds:List Dev}{x:Lk}(h:lkE ds x=0):0≤x.dev∧x.dev<ds.length∧(ds.map (·.kind)).getD x.dev.toNat 0≠5∧(x.pos=1∨x.pos=2)∧0≤x.key∧x.key≤65536:=by
 unfold lkE at h
 split at h;· cases h
 split at h;· cases h
 split at h;· cases h
 split at h;· cases h
 omega
theorem any_lidx(p:Lk→Bool)(l:List Lk):decide (0≤lidx p l 0)=l.any p:=lidx_any p l 0
theorem Y6(l:List Lk)(hl:l.length≤1000000)(p:Lk→Bool)(c:Nat)(d1 d2:List D)(hq1:Clo d1)(hq2:Clo d2)(hp:∀ x∈l,Pure Tryz.prog G0 c (d1++.agg (Zm x)::d2) (.bool (p x))):Pure Tryz.prog G0 33 [.sl (l.map Zm),.fn (.func c) d1 d2] (.bool (l.any p)):=by
 refine Zh Tryz.func33 rfl Tryz.ntmps33 ?_
 refine R2 [] (by simp[hq1.v,hq2.v,hq1.l,hq2.l,hq1.n,hq2.n];first|exact F3|exact F4) ?_
 refine R2 [.p ⟨_,_,_,lidx_pure l hl p c d1 d2 hq1 hq2 hp⟩] (by simp[hq1.v,hq2.v,hq1.l,hq2.l,hq1.n,hq2.n];first|exact F3|exact F4) ?_
 refine Za ?_
 simp[any_lidx]
theorem other_pure(l:List Lk)(hl:l.length≤1000000)(k:Lk):Pure Tryz.prog G0 125 [.sl (l.map Zm),.agg (Zm k)] (.bool (l.any fun x=>(x.dev==k.dev)&&(x.pos != k.pos))):=by
 refine Zh Tryz.func125 rfl Tryz.ntmps125 ?_
 refine R0 ?_
 refine R6 [.p ⟨_,_,_,Y6 l hl _ 167 [] [.vp (Zm k)] ZH (by exact⟨fun g k=>by simp[mapO,Zy],fun n=>by simp[D.los,D.lo],by simp[ZB,ZA]⟩) (fun x _=>other1_pure x k)⟩] ?_
 refine Za ?_
 simp
theorem used_pure(l:List Lk)(hl:l.length≤1000000)(k:Int):Pure Tryz.prog G0 126 [.sl (l.map Zm),.int .i64 k] (.bool (l.any fun x=>x.key==k)):=by
 refine Zh Tryz.func126 rfl Tryz.ntmps126 ?_
 refine R0 ?_
 refine R6 [.p ⟨_,_,_,Y6 l hl _ 168 [] [.vp [.int .i64 k]] ZH (by exact⟨fun g k=>by simp[mapO,Zy],fun n=>by simp[D.los,D.lo],by simp[ZB,ZA]⟩) (fun x _=>used1_pure x k)⟩] ?_
 refine Za ?_
 simp
theorem nan_pure(k:Int):Pure Tryz.prog G0 177 [.int .i64 k] (.bool false):=by
 refine Zh Tryz.func177 rfl Tryz.ntmps177 ?_
 refine R0 ?_
 refine R0 ?_
 refine Za ?_
 simp
theorem cmp_pure(a b:Int):Pure Tryz.prog G0 166 [.int .i64 a,.int .i64 b] (.int .i64 (cmpI a b)):=by
 refine Zh Tryz.func166 rfl Tryz.ntmps166 ?_
 refine R0 ?_
 refine R6 [.p ⟨_,_,_,nan_pure a⟩] ?_
 refine R6 [.p ⟨_,_,_,nan_pure b⟩] ?_
 refine R0 ?_
 refine fl_F ?_
 refine R0 ?_
 refine fl_F ?_
 refine R0 ?_
 refine fl_C (fun c9=>?_) (fun c9=>?_)
 ·refine R0 ?_
  refine Za ?_
  simp
  exact le_int (by simp[cmpI,c9];try (simp at *;omega))
 ·refine R0 ?_
  refine fl_C (fun c11=>?_) (fun c11=>?_)
  ·refine R0 ?_
   refine Za ?_
   simp
   exact le_int (by simp[cmpI,c9,c11];try (simp at *;omega))
  ·refine R0 ?_
   refine Za ?_
   simp
   exact le_int (by simp[cmpI,c9,c11];try (simp at *;omega))
theorem or_pure(l:List Int)(hl:l.length≤1000000):Pure Tryz.prog G0 165 [.sl (Zb l)] (.int .i64 (orI l)):=by
 refine Zh Tryz.func165 rfl Tryz.ntmps165 ?_
 refine R0 ?_
 refine R0 ?_
 refine R0 ?_
 refine Zd (fun K0_1 hK0_1=>?_)
 refine Zg (X:=Nat) [3,6,7] [] (fun x=>[(8,.int .i64 x)]) (fun x=>[]) (fun x=>x≤l.length∧Hid (orI l=orI (l.drop x))) (fun x=>l.length - x) 0 (⟨by simp,Lib.hid rfl⟩) (by simp) ?_
 simp only[KN,keep,but,reduceIte,Nat.reduceEqDiff,Nat.reduceBEq]
 rintro k ⟨hlek,hrel⟩ KL2 hKL2
 refine R0 ?_
 refine fl_C (fun c3=>?_) (fun c3=>?_)
 ·have hlt:k<l.length:=by simpa using c3
  have hkk:l[k]? = some l[k]:=by simp[hlt]
  have hd:=Lib.hid (List.drop_eq_getElem_cons hlt)
  generalize l[k]=x at *
  refine Zd (fun K1_3 hK1_3=>?_)
  refine R2 [] (by simp[hkk];first|exact F3|exact F4) ?_
  refine R2 [] (by simp[hkk];first|exact F3|exact F4) ?_
  refine fl_C (fun c5=>?_) (fun c5=>?_)
  ·have c6:x≠0:=by simpa using c5
   refine R2 [] (by simp[hkk];first|exact F3|exact F4) ?_
   refine Za ?_
   simp[hrel.out,hkk,hd.out,c6,orI]
  ·have c6:x=0:=by simpa using c5
   refine Zc (hK1_3 _ _ _ ?_)
   refine R2 [] (by simp[hkk];(try simp (disch:=omega) only[w64]);first|exact F3|exact F4) ?_
   exact hKL2 _ _ _ (k+1) ⟨by omega,Lib.hid (by rw[hrel.out];simp[orI,hkk,hd.out,c6])⟩ (by omega) (by simp)
 ·have hge:l.length≤k:=by simpa using c3
  have hke:k=l.length:=by have:k≤l.length:=hlek;omega
  have hdn:=Lib.hid (List.drop_of_length_le hge)
  refine Ze (show K0_1 _ _ _ from hK0_1 _ _ _ ?_)
  refine R0 ?_
  refine Za ?_
  simp[hrel.out,hdn.out,orI]
theorem ord_pure(a b:Lk):Pure Tryz.prog G0 124 [.agg (Zm a),.agg (Zm b)] (.int .i64 (ordL a b)):=by
 refine Zh Tryz.func124 rfl Tryz.ntmps124 ?_
 refine R0 ?_
 refine R2 [.p ⟨_,_,_,cmp_pure a.dev b.dev⟩,.p ⟨_,_,_,cmp_pure a.key b.key⟩,.p ⟨_,_,_,or_pure [cmpI a.dev b.dev,cmpI a.key b.key] (by simp)⟩] (by simp[Zb];first|exact F3|exact F4) ?_
 refine Za ?_
 simp[ordL]
theorem valid_pure(ns:List Node)(ds:List Dev)(k:Lk)(h:lkE ds k=0):Pure Tryz.prog G0 123 [netD ns ds,.agg (Zm k)] (.int .i64 0):=by
 refine Zh Tryz.func123 rfl Tryz.ntmps123 ?_
 obtain⟨e1,e2,e3,e4,e5,e6⟩:=lkE_0 h
 have f1:decide (k.dev<0)=false:=by simp;omega
 have f2:decide ((ds.length:Int)≤k.dev)=false:=by simp;omega
 obtain⟨j,hj⟩:∃ j:Nat,k.dev=j:=⟨_,(Int.toNat_of_nonneg e1).symm⟩
 have hjl:j<ds.length:=by omega
 have hjj:ds[j]? = some ds[j]:=by simp[hjl]
 have hkd:(ds[j].kind==5)=false:=by have:=e3;rw[hj] at this;simpa[hjl] using this
 have f5:decide (k.key<0)=false:=by simp;omega
 have f6:decide (65536<k.key)=false:=by simp;omega
 generalize ds[j]=d at *
 refine R0 ?_
 refine Zd (fun K0_1 hK0_1=>?_)
 refine R2 [] (by simp[f1,f2];first|exact F3|exact F4) ?_
 refine fl_F ?_
 refine R2 [] (by simp[hj,hjj,hkd];first|exact F3|exact F4) ?_
 refine fl_F ?_
 rcases bf_ (k.pos != 1) with h5_29|h5_29
 ·have h9:(k.pos != 2)=false:=by simp at h5_29 ⊢;omega
  refine R2 [] (by simp[h5_29,h9];first|exact F3|exact F4) ?_
  refine fl_F ?_
  refine R2 [] (by simp[f5,f6];first|exact F3|exact F4) ?_
  refine fl_F ?_
  refine Zc (hK0_1 _ _ _ ?_)
  refine R0 ?_
  refine Za ?_
  simp
 ·refine R2 [] (by simp[h5_29];first|exact F3|exact F4) ?_
  refine fl_F ?_
  refine R2 [] (by simp[f5,f6];first|exact F3|exact F4) ?_
  refine fl_F ?_
  refine Zc (hK0_1 _ _ _ ?_)
  refine R0 ?_
  refine Za ?_
  simp
end
section
open Go Go.RowKit
theorem lkG_0{ds:List Dev}{l:List Lk}{x:Lk}{xs:List Lk}{k:Nat}(h:lkG ds l (x::xs) k=0):(lkE ds x=0∧lkO l k x=false∧((l.take k).any fun y=>(y.dev==x.dev)&&(y.pos != x.pos))=false∧((l.take k).any fun y=>y.key==x.key)=false)∧lkG ds l xs (k+1)=0:=by
 unfold lkG at h
 split at h
 ·rename_i h1;exact absurd h h1
 ·rename_i h1
  have h1:lkAt ds l k x=0:=Classical.not_not.1 h1
  unfold lkAt at h1
  split at h1
  ·rename_i h2;exact absurd h1 h2
  ·rename_i h2
   split at h1;· cases h1
   split at h1;· cases h1
   split at h1;· cases h1
   rename_i h3 h4 h5
   exact⟨⟨Classical.not_not.1 h2,by simpa using h3,by simpa using h4,by simpa using h5⟩,h⟩
theorem locks_0{ns:List Node}{ds:List Dev}{l:List Lk}(h:ZF ns ds l=0):Zk ns ds=0∧l.length≤128∧lkG ds l l 0=0:=by
 unfold ZF at h
 split at h
 ·rename_i h1;exact absurd h h1
 ·rename_i h1
  split at h;· cases h
  exact⟨Classical.not_not.1 h1,by omega,h⟩
theorem Y7(ns:List Node)(ds:List Dev)(l:List Lk)(h:ZF ns ds l=0):Pure Tryz.prog G0 80 [netD ns ds,.sl (l.map Zm)] (.int .i64 0):=by
 refine Zh Tryz.func80 rfl Tryz.ntmps80 ?_
 obtain⟨e1,e2,e3⟩:=locks_0 h
 have f1:decide (128<(l.length:Int))=false:=by simp;omega
 refine R0 ?_
 refine R6 [.p ⟨_,_,_,check_pure ns ds e1⟩] ?_
 refine R0 ?_
 refine fl_F ?_
 refine R2 [] (by simp[f1];first|exact F3|exact F4) ?_
 refine fl_F ?_
 refine R0 ?_
 refine Zd (fun K0_1 hK0_1=>?_)
 refine Zg (X:=Nat) [1,2,17,18] [] (fun x=>[(19,.int .i64 x)]) (fun x=>[]) (fun x=>x≤l.length∧Hid (lkG ds l (l.drop x) x=0)) (fun x=>l.length - x) 0 (⟨by simp,Lib.hid e3⟩) (by simp) ?_
 simp only[KN,keep,but,reduceIte,Nat.reduceEqDiff,Nat.reduceBEq]
 rintro k ⟨hlek,hrel⟩ KL2 hKL2
 refine R0 ?_
 refine fl_C (fun c7=>?_) (fun c7=>?_)
 ·have hlt:k<l.length:=by simpa using c7
  have hkk:l[k]? = some l[k]:=by simp[hlt]
  have hd:=Lib.hid (List.drop_eq_getElem_cons hlt)
  have hg:=hrel.out
  rw[hd.out] at hg
  obtain⟨⟨q1,q2,q3,q4⟩,q5⟩:=lkG_0 hg
  have q5:=Lib.hid q5
  clear hg hd hrel
  generalize l[k]=x at *
  refine Zd (fun K1_3 hK1_3=>?_)
  refine R2 [] (by simp[hkk];first|exact F3|exact F4) ?_
  refine R2 [.p ⟨_,_,_,valid_pure ns ds x q1⟩] (by simp[hkk];first|exact F3|exact F4) ?_
  refine Zd (fun K2_4 hK2_4=>?_)
  refine R2 [] (by simp[hkk];first|exact F3|exact F4) ?_
  refine fl_F ?_
  rcases bf_ (decide (0<k)) with h12_33|h12_33
  ·have hk0:0<k:=by simpa using h12_33
   obtain⟨j,hj⟩:∃ j,k=j+1:=⟨k - 1,by omega⟩
   have hj1:((k:Int) - 1)=(j:Int):=by omega
   have hjj:l[j]? = some l[j]:=by simp[show j<l.length by omega]
   rw[hj,lkO_succ l j x (by omega)] at q2
   have hw:=w64 (n:=(j:Int)) (by omega) (by omega)
   refine R2 [.p ⟨_,_,_,ord_pure l[j] x⟩] (by simp[q2,hkk,h12_33,hk0,hjj,hj1,hw];(try simp (disch:=omega) only[w64]);first|exact F3|exact F4) ?_
   refine fl_F ?_
   refine R2 [.p ⟨_,_,_,other_pure (l.take k) (by simp;omega) x⟩] (by simp[List.map_take,q3,hkk];first|exact F3|exact F4) ?_
   refine fl_F ?_
   refine R2 [.p ⟨_,_,_,used_pure (l.take k) (by simp;omega) x.key⟩] (by simp[List.map_take,q4,hkk];first|exact F3|exact F4) ?_
   refine fl_F ?_
   refine Zc (hK2_4 _ _ _ ?_)
   refine Zc (hK1_3 _ _ _ ?_)
   refine R2 [] (by simp[hkk];(try simp (disch:=omega) only[w64]);first|exact F3|exact F4) ?_
   exact hKL2 _ _ _ (k+1) ⟨by omega,q5⟩ (by omega) (by simp)
  ·refine R2 [] (by simp[q2,hkk,h12_33];(try simp (disch:=omega) only[w64]);first|exact F3|exact F4) ?_
   refine fl_F ?_
   refine R2 [.p ⟨_,_,_,other_pure (l.take k) (by simp;omega) x⟩] (by simp[List.map_take,q3,hkk];first|exact F3|exact F4) ?_
   refine fl_F ?_
   refine R2 [.p ⟨_,_,_,used_pure (l.take k) (by simp;omega) x.key⟩] (by simp[List.map_take,q4,hkk];first|exact F3|exact F4) ?_
   refine fl_F ?_
   refine Zc (hK2_4 _ _ _ ?_)
   refine Zc (hK1_3 _ _ _ ?_)
   refine R2 [] (by simp[hkk];(try simp (disch:=omega) only[w64]);first|exact F3|exact F4) ?_
   exact hKL2 _ _ _ (k+1) ⟨by omega,q5⟩ (by omega) (by simp)
 ·have hge:l.length≤k:=by simpa using c7
  have hke:k=l.length:=by have:k≤l.length:=hlek;omega
  have hdn:=Lib.hid (List.drop_of_length_le hge)
  refine Ze (show K0_1 _ _ _ from hK0_1 _ _ _ ?_)
  refine R0 ?_
  refine Za ?_
  simp
theorem locked_pure(l:List Lk)(hl:l.length≤1000000)(d:Int):Pure Tryz.prog G0 16 [.sl (l.map Zm),.int .i64 d] (.tup [.int .i64 (Zx d l).1,.bool (Zx d l).2]):=by
 refine Zh Tryz.func16 rfl Tryz.ntmps16 ?_
 refine R0 ?_
 refine R0 ?_
 refine Zd (fun K0_1 hK0_1=>?_)
 refine Zg (X:=Nat) [1,8,9] [] (fun x=>[(10,.int .i64 x)]) (fun x=>[]) (fun x=>x≤l.length∧Hid (Zx d l=Zx d (l.drop x))) (fun x=>l.length - x) 0 (⟨by simp,Lib.hid rfl⟩) (by simp) ?_
 simp only[KN,keep,but,reduceIte,Nat.reduceEqDiff,Nat.reduceBEq]
 rintro k ⟨hlek,hrel⟩ KL2 hKL2
 refine R0 ?_
 refine fl_C (fun c2=>?_) (fun c2=>?_)
 ·have hlt:k<l.length:=by simpa using c2
  have hkk:l[k]? = some l[k]:=by simp[hlt]
  have hd:=Lib.hid (List.drop_eq_getElem_cons hlt)
  generalize l[k]=x at *
  refine Zd (fun K1_3 hK1_3=>?_)
  refine R2 [] (by simp[hkk];first|exact F3|exact F4) ?_
  refine R2 [] (by simp[hkk];first|exact F3|exact F4) ?_
  refine Zn (b:=x.dev==d) (by simp) (fun c4=>?_) (fun c4=>?_)
  ·have c5:x.dev=d:=by simpa using c4
   refine R2 [] (by simp[hkk];first|exact F3|exact F4) ?_
   refine Za ?_
   simp[hrel.out,hkk,hd.out,c5,Zx]
  ·have c5:x.dev≠d:=by simpa using c4
   refine Zc (hK1_3 _ _ _ ?_)
   refine R2 [] (by simp[hkk];(try simp (disch:=omega) only[w64]);first|exact F3|exact F4) ?_
   exact hKL2 _ _ _ (k+1) ⟨by omega,Lib.hid (by rw[hrel.out];simp[Zx,hkk,hd.out,c5])⟩ (by omega) (by simp)
 ·have hge:l.length≤k:=by simpa using c2
  have hke:k=l.length:=by have:k≤l.length:=hlek;omega
  have hdn:=Lib.hid (List.drop_of_length_le hge)
  refine Ze (show K0_1 _ _ _ from hK0_1 _ _ _ ?_)
  refine R0 ?_
  refine Za ?_
  simp[hrel.out,hdn.out,Zx]
theorem gap_pure(k:Int):Pure Tryz.prog G0 99 [.int .i64 k] (.bool (gapB k)):=by
 refine Zh Tryz.func99 rfl Tryz.ntmps99 ?_
 refine R0 ?_
 rcases bf_ (k==1) with h1_4|h1_4
 ·refine R2 [] (by simp[h1_4];first|exact F3|exact F4) ?_
  refine Za ?_
  simp
  exact Zp (by simp[gapB,h1_4])
 ·rcases bf_ (k==3) with h1_7|h1_7
  ·refine R2 [] (by simp[h1_4,h1_7];first|exact F3|exact F4) ?_
   refine Za ?_
   simp
   exact Zp (by simp[gapB,h1_4,h1_7])
  ·refine R2 [] (by simp[h1_4,h1_7];first|exact F3|exact F4) ?_
   refine Za ?_
   simp
   exact Zp (by simp[gapB,h1_4,h1_7])
theorem isearth_pure(k:Int):Pure Tryz.prog G0 145 [.int .i64 k] (.bool (k==4)):=by
 refine Zh Tryz.func145 rfl Tryz.ntmps145 ?_
 refine R0 ?_
 refine R0 ?_
 refine Za ?_
 simp
end
section
open Go Go.RowKit
def gndD(c:Int)(l:List Lk)(pr:List Int):D:=.agg [.int .i64 c,.sl (l.map Zm),.sl (Zb pr)]
@[simp] theorem gndD_eq(c:Int)(l:List Lk)(pr:List Int):gndD c l pr=.agg [.int .i64 c,.sl (l.map Zm),.sl (Zb pr)]:=rfl
structure Opr where
 dev:Int
 pos:Int
deriving DecidableEq
@[simp] def Yl(o:Opr):List D:=[.int .i64 o.dev,.int .i64 o.pos]
def StOK(ds:List Dev)(st:List Int):Prop:=st.length=ds.length∧∀ x∈st,x=1∨x=2
def ins(l:List Int)(v:Int):Bool:=l.any fun x=>v==x
theorem rising_pure(l:List Int)(hl:l.length≤1000000)(u:Int):Pure Tryz.prog G0 96 [.sl (Zb l),.int .i64 u] (.bool (risG u (-1) l)):=by
 refine Zh Tryz.func96 rfl Tryz.ntmps96 ?_
 refine R0 ?_
 refine R0 ?_
 refine R0 ?_
 refine Zd (fun K0_1 hK0_1=>?_)
 refine Zg (X:=Nat×Int) [1,9,10] [] (fun x=>[(11,.int .i64 x.1),(5,.int .i64 x.2)]) (fun x=>[]) (fun x=>x.1≤l.length∧Hid (risG u (-1) l=risG u x.2 (l.drop x.1))) (fun x=>l.length - x.1) (0,-1) (⟨by simp,Lib.hid rfl⟩) (by simp) ?_
 simp only[KN,keep,but,reduceIte,Nat.reduceEqDiff,Nat.reduceBEq]
 rintro⟨k,y⟩ ⟨hlek,hrel⟩ KL2 hKL2
 refine R0 ?_
 refine fl_C (fun c3=>?_) (fun c3=>?_)
 ·have hlt:k<l.length:=by simpa using c3
  have hkk:l[k]? = some l[k]:=by simp[hlt]
  have hd:=Lib.hid (List.drop_eq_getElem_cons hlt)
  generalize l[k]=x at *
  refine Zd (fun K1_3 hK1_3=>?_)
  refine R2 [] (by simp[hkk];first|exact F3|exact F4) ?_
  rcases bf_ (decide (x≤y)) with h5_17|h5_17
  ·have hxy:x≤y:=by simpa using h5_17
   refine R2 [] (by simp[hkk,h5_17,hxy];first|exact F3|exact F4) ?_
   refine fl_T ?_
   refine R2 [] (by simp[hkk];first|exact F3|exact F4) ?_
   refine Za ?_
   simp[hrel.out,hd.out,risG,hxy]
  ·rcases bf_ (decide (u≤x)) with h5_21|h5_21
   ·have hxy:x≤y∨u≤x:=by simp at h5_21;omega
    refine R2 [] (by simp[hkk,h5_17,h5_21,hxy];first|exact F3|exact F4) ?_
    refine fl_T ?_
    refine R2 [] (by simp[hkk];first|exact F3|exact F4) ?_
    refine Za ?_
    simp[hrel.out,hd.out,risG,hxy]
   ·have hxy:¬ (x≤y∨u≤x):=by simp at h5_17 h5_21;omega
    refine R2 [] (by simp[hkk,h5_17,h5_21,hxy];first|exact F3|exact F4) ?_
    refine fl_F ?_
    refine R2 [] (by simp[hkk];first|exact F3|exact F4) ?_
    refine Zc (hK1_3 _ _ _ ?_)
    refine R2 [] (by simp[hkk];(try simp (disch:=omega) only[w64]);first|exact F3|exact F4) ?_
    exact hKL2 _ _ _ (k+1,x) ⟨by show k+1≤l.length;omega,Lib.hid (by rw[hrel.out,hd.out];simp[risG,hxy])⟩ (by show _<_;omega) (by simp)
 ·have hge:l.length≤k:=by simpa using c3
  have hke:k=l.length:=by have:k≤l.length:=hlek;omega
  have hdn:=Lib.hid (List.drop_of_length_le hge)
  refine Ze (show K0_1 _ _ _ from hK0_1 _ _ _ ?_)
  refine R0 ?_
  refine Za ?_
  simp[hrel.out,risG,hdn.out]
theorem set_pure(l:List Int)(hl:l.length≤1000000)(u:Int):Pure Tryz.prog G0 81 [.sl (Zb l),.int .i64 u] (.bool (risG u (-1) l)):=by
 refine Zh Tryz.func81 rfl Tryz.ntmps81 ?_
 refine R0 ?_
 refine R6 [.p ⟨_,_,_,rising_pure l hl u⟩] ?_
 refine Za ?_
 simp
theorem zcheck_pure(ns:List Node)(ds:List Dev)(z:List Int)(hc:Zk ns ds=0)(hz:z≠[])(hl:z.length≤1000000)(hr:risG ns.length (-1) z=true):Pure Tryz.prog G0 56 [netD ns ds,.sl (Zb z)] (.int .i64 0):=by
 refine Zh Tryz.func56 rfl Tryz.ntmps56 ?_
 have f1:((z.length:Int)==0)=false:=by cases z with|nil=>exact absurd rfl hz|cons a b=>simp;omega
 refine R0 ?_
 refine R6 [.p ⟨_,_,_,check_pure ns ds hc⟩] ?_
 refine R0 ?_
 refine fl_F ?_
 refine Zd (fun K0_1 hK0_1=>?_)
 refine R2 [] (by simp[f1,hz];first|exact F3|exact F4) ?_
 refine fl_F ?_
 refine R2 [.p ⟨_,_,_,rising_pure z hl ns.length⟩] (by simp[hr];first|exact F3|exact F4) ?_
 refine fl_F ?_
 refine Zc (hK0_1 _ _ _ ?_)
 refine R0 ?_
 refine Za ?_
 simp
theorem gcheck_pure(ns:List Node)(ds:List Dev)(c:Int)(l:List Lk)(pr:List Int)(hc:0≤c∧c≤7)(h:ZF ns ds l=0)(hl:pr.length≤1000000)(hr:risG ns.length (-1) pr=true):Pure Tryz.prog G0 47 [netD ns ds,gndD c l pr] (.int .i64 0):=by
 refine Zh Tryz.func47 rfl Tryz.ntmps47 ?_
 have f1:decide (c<0)=false:=by simp;omega
 have f2:decide (7<c)=false:=by simp;omega
 refine R0 ?_
 refine R2 [] (by simp[f1,f2];first|exact F3|exact F4) ?_
 refine fl_F ?_
 refine R6 [.p ⟨_,_,_,Y7 ns ds l h⟩] ?_
 refine R0 ?_
 refine fl_F ?_
 refine R2 [.p ⟨_,_,_,set_pure pr hl ns.length⟩] (by simp[hr];first|exact F3|exact F4) ?_
 refine fl_F ?_
 refine R0 ?_
 refine Za ?_
 simp
def operB(k:Int):Bool:=decide (1≤k)&&decide (k≤6)&&(k != 5)
theorem operable_pure(k:Int):Pure Tryz.prog G0 133 [.int .i64 k] (.bool (operB k)):=by
 refine Zh Tryz.func133 rfl Tryz.ntmps133 ?_
 refine R0 ?_
 rcases bf_ (decide (1≤k)) with h1_4|h1_4
 ·rcases bf_ (decide (k≤6)) with h1_7|h1_7
  ·rcases bf_ (k != 5) with h1_11|h1_11
   ·refine R2 [] (by simp[h1_4,h1_7,h1_11];first|exact F3|exact F4) ?_
    refine Za ?_
    simp
    exact Zp (by simp[operB,h1_4,h1_7,h1_11])
   ·refine R2 [] (by simp[h1_4,h1_7,h1_11];first|exact F3|exact F4) ?_
    refine Za ?_
    simp
    exact Zp (by simp[operB,h1_4,h1_7,h1_11])
  ·refine R2 [] (by simp[h1_4,h1_7];first|exact F3|exact F4) ?_
   refine Za ?_
   simp
   exact Zp (by simp[operB,h1_4,h1_7])
 ·refine R2 [] (by simp[h1_4];first|exact F3|exact F4) ?_
  refine Za ?_
  simp
  exact Zp (by simp[operB,h1_4])
theorem differs1_pure(k:Lk)(st:List Int)(j:Nat)(hj:k.dev=j)(hl:j<st.length):Pure Tryz.prog G0 135 [.agg (Zm k),.vp [.sl (Zb st)]] (.bool (PO.at_ st j != k.pos)):=by
 refine Zh Tryz.func135 rfl Tryz.ntmps135 ?_
 have hjj:st[j]? = some st[j]:=by simp[hl]
 have ha:PO.at_ st j=st[j]:=by simp[PO.at_,hl]
 refine R0 ?_
 refine R2 [] (by simp[hj,hjj];first|exact F3|exact F4) ?_
 refine Za ?_
 simp[ha]
theorem differs_pure(c:Int)(l:List Lk)(hl:l.length≤1000000)(pr st:List Int)(hd:∀ k∈l,0≤k.dev∧k.dev<st.length):Pure Tryz.prog G0 86 [gndD c l pr,.sl (Zb st)] (.bool (l.any fun k=>PO.at_ st k.dev.toNat != k.pos)):=by
 refine Zh Tryz.func86 rfl Tryz.ntmps86 ?_
 refine R0 ?_
 refine R6 [.p ⟨_,_,_,Y6 l hl _ 135 [] [.vp [.sl (Zb st)]] ZH (by exact⟨fun g k=>by simp[mapO,Zy],fun n=>by simp[D.los,D.lo],by simp[ZB,ZA]⟩) (fun x hx=>differs1_pure x st x.dev.toNat (by have:=hd x hx;omega) (by have:=hd x hx;omega))⟩] ?_
 refine Za ?_
 simp
theorem position_pure(p:Int)(h:p=1∨p=2):Pure Tryz.prog G0 94 [.int .i64 p] (.bool true):=by
 refine Zh Tryz.func94 rfl Tryz.ntmps94 ?_
 rcases h with rfl|rfl
 all_goals
 refine R0 ?_
 refine R2 [] (by simp[posD];first|exact F3|exact F4) ?_
 refine Za ?_
 simp
theorem mcheck_pure(ns:List Node)(ds:List Dev)(st:List Int)(hc:Zk ns ds=0)(hl:st.length=ds.length)(c:Nat)(hp:∀ x∈st,Pure Tryz.prog G0 c [.int .i64 x] (.bool true)):Pure Tryz.prog G0 93 [netD ns ds,.sl (Zb st),.fn (.func c) [] []] (.int .i64 0):=by
 refine Zh Tryz.func93 rfl Tryz.ntmps93 ?_
 obtain⟨g1,g2,_⟩:=Zj hc
 refine R0 ?_
 refine R6 [.p ⟨_,_,_,check_pure ns ds hc⟩] ?_
 refine R0 ?_
 refine fl_F ?_
 refine R2 [] (by simp[hl];first|exact F3|exact F4) ?_
 refine fl_F ?_
 refine R0 ?_
 refine Zd (fun K0_1 hK0_1=>?_)
 refine Zg (X:=Nat) [2,21,22] [] (fun x=>[(23,.int .i64 x)]) (fun x=>[]) (fun x=>x≤st.length) (fun x=>st.length - x) 0 (by simp) (by simp) ?_
 simp only[KN,keep,but,reduceIte,Nat.reduceEqDiff,Nat.reduceBEq]
 rintro k hlek KL2 hKL2
 refine R0 ?_
 refine fl_C (fun c7=>?_) (fun c7=>?_)
 ·have hlt:k<st.length:=by simpa using c7
  have hkk:st[k]? = some st[k]:=by simp[hlt]
  have hd:=Lib.hid (List.drop_eq_getElem_cons hlt)
  have hpx:=hp st[k] (List.getElem_mem hlt)
  generalize st[k]=x at *
  refine Zd (fun K1_3 hK1_3=>?_)
  refine R2 [] (by simp[hkk];first|exact F3|exact F4) ?_
  refine R2 [.p ⟨_,_,_,hpx⟩] (by simp[hkk];first|exact F3|exact F4) ?_
  refine fl_F ?_
  refine Zc (hK1_3 _ _ _ ?_)
  refine R2 [] (by simp[hkk];(try simp (disch:=omega) only[w64]);first|exact F3|exact F4) ?_
  exact hKL2 _ _ _ (k+1) (by omega) (by omega) (by simp)
 ·have hge:st.length≤k:=by simpa using c7
  have hke:k=st.length:=by have:k≤st.length:=hlek;omega
  have hdn:=Lib.hid (List.drop_of_length_le hge)
  refine Ze (show K0_1 _ _ _ from hK0_1 _ _ _ ?_)
  refine R0 ?_
  refine Za ?_
  simp
theorem Y3(ns:List Node)(ds:List Dev)(st:List Int)(hc:Zk ns ds=0)(hs:StOK ds st):Pure Tryz.prog G0 55 [netD ns ds,.sl (Zb st)] (.int .i64 0):=by
 refine Zh Tryz.func55 rfl Tryz.ntmps55 ?_
 refine R0 ?_
 refine R6 [.p ⟨_,_,_,mcheck_pure ns ds st hc hs.1 94 (fun x hx=>position_pure x (hs.2 x hx))⟩] ?_
 refine Za ?_
 simp
theorem hzcheck_pure(ns:List Node)(ds:List Dev)(o:Opr)(c:Int)(l:List Lk)(pr:List Int)(hd:0≤o.dev∧o.dev<ds.length)(ho:o.pos=1∨o.pos=2)(hc:0≤c∧c≤7):Pure Tryz.prog G0 112 [netD ns ds,.agg (Yl o),gndD c l pr] (.int .i64 0):=by
 refine Zh Tryz.func112 rfl Tryz.ntmps112 ?_
 have f1:decide (o.dev<0)=false:=by simp;omega
 have f2:decide ((ds.length:Int)≤o.dev)=false:=by simp;omega
 have f3:decide (c<0)=false:=by simp;omega
 have f4:decide (7<c)=false:=by simp;omega
 rcases ho with ho|ho
 all_goals
 refine R0 ?_
 refine Zd (fun K0_1 hK0_1=>?_)
 refine R2 [] (by simp[f1,f2];first|exact F3|exact F4) ?_
 refine fl_F ?_
 rcases bf_ (o.pos != 1) with h3_22|h3_22
 ·refine R2 [] (by simp[ho,h3_22];first|exact F3|exact F4) ?_
  refine fl_F ?_
  refine R2 [] (by simp[f3,f4];first|exact F3|exact F4) ?_
  refine fl_F ?_
  refine Zc (hK0_1 _ _ _ ?_)
  refine R0 ?_
  refine Za ?_
  simp
 ·refine R2 [] (by simp[ho,h3_22];first|exact F3|exact F4) ?_
  refine fl_F ?_
  refine R2 [] (by simp[f3,f4];first|exact F3|exact F4) ?_
  refine fl_F ?_
  refine Zc (hK0_1 _ _ _ ?_)
  refine R0 ?_
  refine Za ?_
  simp
theorem closed_pure(i:Nat)(st:List Int)(hl:i<st.length):Pure Tryz.prog G0 119 [.int .i64 i,.vp [.sl (Zb st)]] (.bool (PO.at_ st i==2)):=by
 refine Zh Tryz.func119 rfl Tryz.ntmps119 ?_
 have hjj:st[i]? = some st[i]:=by simp[hl]
 have ha:PO.at_ st i=st[i]:=by simp[PO.at_,hl]
 refine R0 ?_
 refine R2 [] (by simp[hjj];first|exact F3|exact F4) ?_
 refine Za ?_
 simp[ha]
theorem never_pure(v:Int):Pure Tryz.prog G0 120 [.int .i64 v] (.bool false):=by
 refine Zh Tryz.func120 rfl Tryz.ntmps120 ?_
 refine R0 ?_
 refine R0 ?_
 refine Za ?_
 simp
theorem never2_pure(v:Int):Pure Tryz.prog G0 142 [.int .i64 v] (.bool false):=by
 refine Zh Tryz.func142 rfl Tryz.ntmps142 ?_
 refine R0 ?_
 refine R0 ?_
 refine Za ?_
 simp
theorem across_pure(d:Dev)(v:Int):Pure Tryz.prog G0 163 [.agg (Xj d),.int .i64 v] (.int .i64 (ZO d v)):=by
 refine Zh Tryz.func163 rfl Tryz.ntmps163 ?_
 refine R0 ?_
 refine Zd (fun K0_1 hK0_1=>?_)
 refine R6 [.p ⟨_,_,_,Yy d.kind⟩] ?_
 refine Zn (b:=!Zu d.kind) (by simp) (fun c1=>?_) (fun c1=>?_)
 ·refine Zc (hK0_1 _ _ _ ?_)
  refine R0 ?_
  refine Za ?_
  simp
  exact le_int (by simp at *;simp[ZO, *])
 ·refine R0 ?_
  refine Zn (b:=d.a==v) (by simp) (fun c2=>?_) (fun c2=>?_)
  ·refine R0 ?_
   refine Za ?_
   simp
   exact le_int (by simp at *;simp[ZO, *])
  ·refine R0 ?_
   refine Zn (b:=d.b==v) (by simp) (fun c4=>?_) (fun c4=>?_)
   ·refine R0 ?_
    refine Za ?_
    simp
    exact le_int (by simp at *;simp[ZO, *])
   ·refine Zc (hK0_1 _ _ _ ?_)
    refine R0 ?_
    refine Za ?_
    simp
    exact le_int (by simp at *;simp[ZO, *])
end
section
open Go Go.RowKit
def idxI(v:Int):List Int→Nat→Int
 | [],_ => -1
 | x::xs,k=>if v=x then k else idxI v xs (k+1)
theorem idxI_any(v:Int):∀ (xs:List Int) (k:Nat),decide (0≤idxI v xs k)=ins xs v
 | [],k=>rfl
 | x::xs,k=>by
  rw[idxI,ins,List.any_cons]
  by_cases h:v=x
  ·simp[h]
  ·have e:(v==x)=false:=by simpa using h
   rw[if_neg h,e,Bool.false_or]
   exact idxI_any v xs (k+1)
theorem iidx_pure(l:List Int)(hl:l.length≤1000000)(v:Int):Pure Tryz.prog G0 67 [.sl (Zb l),.int .i64 v] (.int .i64 (idxI v l 0)):=by
 refine Zh Tryz.func67 rfl Tryz.ntmps67 ?_
 refine R0 ?_
 refine R0 ?_
 refine Zd (fun K0_1 hK0_1=>?_)
 refine Zg (X:=Nat) [0,1,7] [] (fun x=>[(8,.int .i64 x)]) (fun x=>[]) (fun x=>x≤l.length∧Hid (idxI v l 0=idxI v (l.drop x) x)) (fun x=>l.length - x) 0 (⟨by simp,Lib.hid rfl⟩) (by simp) ?_
 simp only[KN,keep,but,reduceIte,Nat.reduceEqDiff,Nat.reduceBEq]
 rintro k ⟨hlek,hrel⟩ KL2 hKL2
 refine R0 ?_
 refine fl_C (fun c2=>?_) (fun c2=>?_)
 ·have hlt:k<l.length:=by simpa using c2
  have hkk:l[k]? = some l[k]:=by simp[hlt]
  have hd:=Lib.hid (List.drop_eq_getElem_cons hlt)
  generalize l[k]=x at *
  refine Zd (fun K1_3 hK1_3=>?_)
  refine R2 [] (by simp[hkk];first|exact F3|exact F4) ?_
  refine R2 [] (by simp[hkk];first|exact F3|exact F4) ?_
  refine fl_C (fun c4=>?_) (fun c4=>?_)
  ·have c6:v=x:=by simpa using c4
   refine R2 [] (by simp[hkk];first|exact F3|exact F4) ?_
   refine Za ?_
   simp
   exact le_int (by rw[hrel.out];simp[hkk,hd.out,c6,idxI])
  ·have c6:¬ v=x:=by simpa using c4
   refine Zc (hK1_3 _ _ _ ?_)
   refine R2 [] (by simp[hkk];(try simp (disch:=omega) only[w64]);first|exact F3|exact F4) ?_
   exact hKL2 _ _ _ (k+1) ⟨by omega,Lib.hid (by rw[hrel.out];simp[idxI,hkk,hd.out,c6])⟩ (by omega) (by simp)
 ·have hge:l.length≤k:=by simpa using c2
  have hke:k=l.length:=by have:k≤l.length:=hlek;omega
  have hdn:=Lib.hid (List.drop_of_length_le hge)
  refine Ze (show K0_1 _ _ _ from hK0_1 _ _ _ ?_)
  refine R0 ?_
  refine Za ?_
  simp
  exact le_int (by rw[hrel.out];simp[hdn.out,idxI])
theorem ZG(l:List Int)(hl:l.length≤1000000)(v:Int):Pure Tryz.prog G0 39 [.sl (Zb l),.int .i64 v] (.bool (ins l v)):=by
 refine Zh Tryz.func39 rfl Tryz.ntmps39 ?_
 refine R0 ?_
 refine R6 [.p ⟨_,_,_,iidx_pure l hl v⟩] ?_
 refine Za ?_
 simp[idxI_any]
end
section
open Go Go.RowKit
def iidxF(p:Int→Bool):List Int→Nat→Int
 | [],_ => -1
 | x::xs,k=>if p x then k else iidxF p xs (k+1)
theorem iidxF_any(p:Int→Bool):∀ (xs:List Int) (k:Nat),decide (0≤iidxF p xs k)=xs.any p
 | [],k=>rfl
 | x::xs,k=>by
  rw[iidxF,List.any_cons]
  cases h:p x
  ·simpa using iidxF_any p xs (k+1)
  ·simp
theorem iidxf_pure(l:List Int)(hl:l.length≤1000000)(p:Int→Bool)(c:Nat)(d1 d2:List D)(hq1:Clo d1)(hq2:Clo d2)(hp:∀ x∈l,Pure Tryz.prog G0 c (d1++.int .i64 x::d2) (.bool (p x))):Pure Tryz.prog G0 136 [.sl (Zb l),.fn (.func c) d1 d2] (.int .i64 (iidxF p l 0)):=by
 refine Zh Tryz.func136 rfl Tryz.ntmps136 ?_
 refine R2 [] (by simp[hq1.v,hq2.v,hq1.l,hq2.l,hq1.n,hq2.n];first|exact F3|exact F4) ?_
 refine R2 [] (by simp[hq1.v,hq2.v,hq1.l,hq2.l,hq1.n,hq2.n];first|exact F3|exact F4) ?_
 refine Zd (fun K0_1 hK0_1=>?_)
 refine Zg (X:=Nat) [0,1,7] [] (fun x=>[(8,.int .i64 x)]) (fun x=>[]) (fun x=>x≤l.length∧Hid (iidxF p l 0=iidxF p (l.drop x) x)) (fun x=>l.length - x) 0 (⟨by simp,Lib.hid rfl⟩) (by simp[hq1.l,hq2.l]) ?_
 simp only[KN,keep,but,reduceIte,Nat.reduceEqDiff,Nat.reduceBEq]
 rintro k ⟨hlek,hrel⟩ KL2 hKL2
 refine R2 [] (by simp[hq1.v,hq2.v,hq1.l,hq2.l,hq1.n,hq2.n];first|exact F3|exact F4) ?_
 refine fl_C (fun c2=>?_) (fun c2=>?_)
 ·have hlt:k<l.length:=by simpa using c2
  have hkk:l[k]? = some l[k]:=by simp[hlt]
  have hd:=Lib.hid (List.drop_eq_getElem_cons hlt)
  have hpx:=hp l[k] (List.getElem_mem hlt)
  generalize l[k]=x at *
  refine Zd (fun K1_3 hK1_3=>?_)
  refine R2 [] (by simp[hq1.v,hq2.v,hq1.l,hq2.l,hq1.n,hq2.n,hkk];first|exact F3|exact F4) ?_
  refine R2 [.p ⟨_,_,_,hpx⟩] (by simp[hq1.v,hq2.v,hq1.l,hq2.l,hq1.n,hq2.n,hkk];first|exact F3|exact F4) ?_
  refine fl_C (fun c4=>?_) (fun c4=>?_)
  ·refine R2 [] (by simp[hq1.v,hq2.v,hq1.l,hq2.l,hq1.n,hq2.n,hkk];first|exact F3|exact F4) ?_
   refine Za ?_
   simp[hrel.out,hkk,hd.out,c4,iidxF]
  ·refine Zc (hK1_3 _ _ _ ?_)
   refine R2 [] (by simp[hq1.v,hq2.v,hq1.l,hq2.l,hq1.n,hq2.n,hkk];(try simp (disch:=omega) only[w64]);first|exact F3|exact F4) ?_
   exact hKL2 _ _ _ (k+1) ⟨by omega,Lib.hid (by rw[hrel.out];simp[iidxF,hkk,hd.out,c4])⟩ (by omega) (by simp[hq1.l,hq2.l])
 ·have hge:l.length≤k:=by simpa using c2
  have hke:k=l.length:=by have:k≤l.length:=hlek;omega
  have hdn:=Lib.hid (List.drop_of_length_le hge)
  refine Ze (show K0_1 _ _ _ from hK0_1 _ _ _ ?_)
  refine R2 [] (by simp[hq1.v,hq2.v,hq1.l,hq2.l,hq1.n,hq2.n];first|exact F3|exact F4) ?_
  refine Za ?_
  simp[hrel.out,hdn.out,iidxF]
theorem ihasf_pure(l:List Int)(hl:l.length≤1000000)(p:Int→Bool)(c:Nat)(d1 d2:List D)(hq1:Clo d1)(hq2:Clo d2)(hp:∀ x∈l,Pure Tryz.prog G0 c (d1++.int .i64 x::d2) (.bool (p x))):Pure Tryz.prog G0 88 [.sl (Zb l),.fn (.func c) d1 d2] (.bool (l.any p)):=by
 refine Zh Tryz.func88 rfl Tryz.ntmps88 ?_
 refine R2 [] (by simp[hq1.v,hq2.v,hq1.l,hq2.l,hq1.n,hq2.n];first|exact F3|exact F4) ?_
 refine R2 [.p ⟨_,_,_,iidxf_pure l hl p c d1 d2 hq1 hq2 hp⟩] (by simp[hq1.v,hq2.v,hq1.l,hq2.l,hq1.n,hq2.n];first|exact F3|exact F4) ?_
 refine Za ?_
 simp[iidxF_any]
end
section
open Go Go.RowKit
theorem hin1_pure(k:Lk)(o:Opr):Pure Tryz.prog G0 150 [.agg (Zm k),.vp (Yl o)] (.bool (k.dev==o.dev)):=by
 refine Zh Tryz.func150 rfl Tryz.ntmps150 ?_
 refine R0 ?_
 refine R0 ?_
 refine Za ?_
 simp
theorem Xv(v:Int)(l:List Int)(hl:l.length≤1000000):Pure Tryz.prog G0 181 [.int .i64 v,.vp [.sl (Zb l)]] (.bool (ins l v)):=by
 refine Zh Tryz.func181 rfl Tryz.ntmps181 ?_
 refine R0 ?_
 refine R6 [.p ⟨_,_,_,ZG l hl v⟩] ?_
 refine Za ?_
 simp
theorem always_pure(v:Int):Pure Tryz.prog G0 182 [.int .i64 v] (.bool true):=by
 refine Zh Tryz.func182 rfl Tryz.ntmps182 ?_
 refine R0 ?_
 refine R0 ?_
 refine Za ?_
 simp
theorem wanted1_pure(x k:Lk):Pure Tryz.prog G0 63 [.agg (Zm x),.vp (Zm k)] (.bool (x.dev==k.dev)):=by
 refine Zh Tryz.func63 rfl Tryz.ntmps63 ?_
 refine R0 ?_
 refine R0 ?_
 refine Za ?_
 simp
end
section
open Go Go.RowKit
theorem colours_pure(ns:List Node)(ds:List Dev)(st ps:List Int)(hl1:ns.length≤32)(hl2:ds.length≤64)(hsl:st.length=ds.length)(hpl:ps.length=ns.length)(hpb:∀ p∈ps,0≤p∧p<32)(hda:∀ d∈ds,0≤d.a∧d.a<ns.length):Pure Tryz.prog G0 44 [netD ns ds,.sl (Zb st),.sl (Zb ps)] (.sl (Zb (colL ds st ps))):=by
 refine Zh Tryz.func44 rfl Tryz.ntmps44 ?_
 refine R0 ?_
 refine R0 ?_
 refine R0 ?_
 refine Zd (fun K0_1 hK0_1=>?_)
 refine fl_loop (X:=Nat×Nat) (fun x=>[(17,.int .i64 x.1),(15,dsD ds),(16,.int .i64 ds.length),(1,.sl (Zb st)),(2,.sl (Zb ps)),(3,.bp 0 0),(7,.rf 2 false)]) (fun x=>[(0,.box [nsD ns,dsD ds]),(2,.obj (.mapII Tryz.prog 3 3 x.2 (Z8 ps ((ds.zip st).take x.1))))]) (fun x=>x.1≤ds.length∧x.2≤x.1) (fun x=>ds.length - x.1) (0,0) (by simp) (by simp;rfl) ?_
 rintro⟨k,n⟩ ⟨hk,hn⟩ KL2 hKL2
 refine R0 ?_
 refine Zn (by simp;rfl) (fun hc=>?_) (fun hc=>?_)
 ·have hlt:k<ds.length:=by simpa using hc
  have hkk:ds[k]? = some ds[k]:=by simp[hlt]
  have hss:st[k]? = some st[k]:=by simp[show k<st.length by omega]
  have hd:=hda _ (List.getElem_mem hlt)
  obtain⟨a,ha⟩:∃ a:Nat,ds[k].a=a:=⟨_,(Int.toNat_of_nonneg hd.1).symm⟩
  have hal:a<ps.length:=by omega
  have haa:ps[a]? = some ps[a]:=by simp[hal]
  have hp:=hpb _ (List.getElem_mem hal)
  have hsn:=zip_snoc hlt (show k<st.length by omega)
  have hbc:=bits_cases ps ((ds.zip st).take k) ps[a]
  have he1:=bOr_earth hbc
  have hl1:=bOr_live hbc
  have he2:=orE_le hbc
  have hl2:=orL_le hbc
  have hat:PO.at_ ps (ds[k].a).toNat=ps[a]:=by rw[ha];simp[PO.at_,haa]
  generalize ds[k]=d at *
  generalize st[k]=s at *
  generalize ps[a]=p at *
  refine Zd (fun K1_3 hK1_3=>?_)
  refine R2 [] (by simp[hkk];first|exact F3|exact F4) ?_
  refine Zd (fun K2_4 hK2_4=>?_)
  refine R2 [] (by simp[hss];first|exact F3|exact F4) ?_
  refine Zn (by simp;rfl) (fun hc=>?_) (fun hc=>?_)
  ·refine Zc (hK2_4 _ _ _ ?_)
   refine Zc (hK1_3 _ _ _ ?_)
   refine R1 ?_
   exact hKL2 _ _ _ (k+1,n) ⟨by show k+1≤_;omega,by show n≤k+1;omega⟩ (by show _<_;omega) (by simp[hsn];exact (bits_not ps _ (d,s) (by simp at hc;simp[hc])).symm)
  ·have hc0:=hc
   refine R0 ?_
   refine Zn (by simp;rfl) (fun hc=>?_) (fun hc=>?_)
   ·refine R2 [] (by simp[ha,haa,he1];first|exact F3|exact F4) ?_
    refine Zc (hK2_4 _ _ _ ?_)
    refine Zc (hK1_3 _ _ _ ?_)
    refine R1 ?_
    exact hKL2 _ _ _ (k+1,n+1) ⟨by show k+1≤_;omega,by show n+1≤k+1;omega⟩ (by show _<_;omega) (by simp[hsn];exact by rw[bits_earth ps _ (d,s) (by simpa using hc0) (by simpa using hc),ite_at,hat])
   ·have h4:=hc
    rcases bf_ (d.kind==5) with h5|h5
    ·refine R2 [] (by simp[h5];first|exact F3|exact F4) ?_
     refine Zn (by simp;rfl) (fun _=>?_) (fun h=>by cases h)
     refine R2 [] (by simp[ha,haa,hl1];first|exact F3|exact F4) ?_
     refine Zc (hK2_4 _ _ _ ?_)
     refine Zc (hK1_3 _ _ _ ?_)
     refine R1 ?_
     exact hKL2 _ _ _ (k+1,n+1) ⟨by show k+1≤_;omega,by show n+1≤k+1;omega⟩ (by show _<_;omega) (by simp[hsn];exact by rw[bits_live ps _ (d,s) (by simpa using hc0) (.inl (by simpa using h5)),ite_at,hat])
    ·refine R2 [] (by simp[h5];first|exact F3|exact F4) ?_
     refine Zn (by simp;rfl) (fun hc=>?_) (fun hc=>?_)
     ·refine R2 [] (by simp[ha,haa,hl1];first|exact F3|exact F4) ?_
      refine Zc (hK2_4 _ _ _ ?_)
      refine Zc (hK1_3 _ _ _ ?_)
      refine R1 ?_
      exact hKL2 _ _ _ (k+1,n+1) ⟨by show k+1≤_;omega,by show n+1≤k+1;omega⟩ (by show _<_;omega) (by simp[hsn];exact by rw[bits_live ps _ (d,s) (by simpa using hc0) (.inr (by simpa using hc)),ite_at,hat])
     ·refine Zc (hK2_4 _ _ _ ?_)
      refine Zc (hK1_3 _ _ _ ?_)
      refine R1 ?_
      exact hKL2 _ _ _ (k+1,n) ⟨by show k+1≤_;omega,by show n≤k+1;omega⟩ (by show _<_;omega) (by simp[hsn];exact (bits_not ps _ (d,s) (by simp at hc h5 h4;simp[hc,h4,h5])).symm)
 ·have hge:ds.length≤k:=by simpa using hc
  have hk2:k=ds.length:=by have:k≤ds.length:=hk;omega
  have hke:(ds.zip st).take k=ds.zip st:=List.take_of_length_le (by simp;omega)
  have hcl:(colL ds st ps).length=ns.length:=by simp[colL,hpl]
  have hF0:YZ (colL ds st ps) 0 0=List.replicate ns.length 0:=by rw[filled_zero,hcl]
  refine Ze (show K0_1 _ _ _ from hK0_1 _ _ _ ?_)
  refine R0 ?_
  refine R0 ?_
  refine Zd (fun K3_5 hK3_5=>?_)
  refine fl_loop (X:=Nat) (fun x=>[(64,.int .i64 x),(62,.sl (Zb ps)),(63,.int .i64 ps.length),(10,.os 12 ns.length 0 ns.length),(7,.rf 2 false)]) (fun x=>[(12,.arr 1 (Zb (YZ (colL ds st ps) 0 x))),(2,.obj (.mapII Tryz.prog 3 3 n (Z8 ps (ds.zip st))))]) (fun x=>x≤ps.length) (fun x=>ps.length - x) 0 (by simp) (by simp[hke,hF0,← repI]) ?_
  rintro j hj KL6 hKL6
  refine R0 ?_
  refine Zn (by simp;rfl) (fun hc=>?_) (fun hc=>?_)
  ·have hlt:j<ps.length:=by simpa using hc
   have hjj:ps[j]? = some ps[j]:=by simp[hlt]
   have hp:=hpb _ (List.getElem_mem hlt)
   have hjn:j<ns.length:=by omega
   have hjc:j<(colL ds st ps).length:=by omega
   have hfl:=filled_len (colL ds st ps) 0 j (by omega)
   have hfj:=filled_at (colL ds st ps) 0 j hjc
   have hcj:(colL ds st ps)[j]=Z8 ps (ds.zip st) ps[j]:=by simp[colL]
   have hst:=filled_step (colL ds st ps) 0 j hjc
   rw[hcj] at hst
   refine Zd (fun K4_7 hK4_7=>?_)
   refine R2 [] (by simp[hjj];first|exact F3|exact F4) ?_
   refine R2 [] (by simp[hjn,hfj,hfl,hcl,hke];first|exact F3|exact F4) ?_
   refine Zc (hK4_7 _ _ _ ?_)
   refine R1 ?_
   exact hKL6 _ _ _ (j+1) (by omega) (by omega) (by simp[setI,hst])
  ·have hge:ps.length≤j:=by simpa using hc
   have hfa:=filled_all (colL ds st ps) 0 j (by omega)
   have htk:(Zb (colL ds st ps)).take ns.length=Zb (colL ds st ps):=List.take_of_length_le (by simp[hcl])
   refine Ze (show K3_5 _ _ _ from hK3_5 _ _ _ ?_)
   refine R0 ?_
   refine Za ?_
   simp[hfa,htk,hcl]
end
section
open Go Go.RowKit
theorem Z4(l:List Int)(hl:l.length≤1000000)(h0:l≠[])(nm:Nat):Imp Tryz.prog G0 36 [.sl (Zb l)] [] nm (.os nm l.length 0 l.length) [(nm,some (.arr 1 (Zb l)))]:=by
 refine ZC (gl:=[]) (nx1:=0) Tryz.func36 rfl Tryz.ntmps36 ?_
 obtain⟨y,ys,rfl⟩:∃ y ys,l=y::ys:=by cases l with|nil=>exact absurd rfl h0|cons y ys=>exact⟨y,ys,rfl⟩
 have hl2:ys.length+1≤1000000:=by simpa using hl
 refine R0 ?_
 refine R2 [] (by simp[Zb];first|exact F3|exact F4) ?_
 refine fl_F ?_
 refine R0 ?_
 refine Za ?_
 refine⟨.inr rfl,3,?_⟩
 simp[Zb]
end
section
open Go Go.RowKit
theorem nats_get(l:List Nat)(k:Nat):(nats l)[k]? = (l[k]?).map (fun x:Nat=>(x:Int)):=by rw[nats,List.getElem?_map]
attribute [simp] nats_len nats_get
theorem YH(a b:List Nat):nats (a++b)=nats a++nats b:=by simp[nats]
theorem Zw(a:Nat)(b:List Nat):nats (a::b)=(a:Int)::nats b:=rfl
@[simp] theorem nats_nil:nats []=[]:=rfl
theorem marks_get(oc:List Int)(u:Nat)(h:u<oc.length):(Yj oc)[u]? = some (decide (0≤PO.at_ oc u)):=by
 have h':u<(Yj oc).length:=by rw[Xl];exact h
 rw[List.getElem?_eq_getElem h',marks_at]
structure FIn(n:Nat)(ds:List Dev)(us:List Bool)(sp:Nat→Bool)(zs:List Nat)(out pre:List Int)(q:List Nat):Prop where
 qo:QOn n out q
 e:Xi n (ds.zip us) sp zs=PO.bfs (nbT sp (ds.zip us)) (PO.negs out+q.length) out q
 b:pre.length+q.length+PO.negs out≤2000
structure FRd(n:Nat)(ds:List Dev)(us:List Bool)(out:List Int)(v:Nat)(q:List Nat)(pl:Nat)(m:Nat)(oc:List Int)(qc:List Nat):Prop where
 qo:QOn n oc qc
 e:PO.scan (PO.at_ out v+1) (nbZ (ds.zip us) v) out q=PO.scan (PO.at_ out v+1) (nbZ ((ds.zip us).drop m) v) oc qc
 a:PO.at_ oc v=PO.at_ out v
 n:PO.negs oc+qc.length=PO.negs out+q.length
theorem FRd.skip{n:Nat}{ds:List Dev}{us:List Bool}{out:List Int}{v:Nat}{q:List Nat}{pl m:Nat}{oc:List Int}{qc:List Nat}(h:FRd n ds us out v q pl m oc qc)(hm:m<(ds.zip us).length)(hs:¬ (0≤ZO (ds.zip us)[m].1 v∧(ds.zip us)[m].2=true∧PO.at_ oc (ZO (ds.zip us)[m].1 v).toNat<0)):FRd n ds us out v q pl (m+1) oc qc:=by
 refine⟨h.qo,?_,h.a,h.n⟩
 rw[h.e,nbZ_drop _ _ _ hm]
 split
 ·rename_i hc
  simp only[PO.scan]
  rw[if_neg (fun hn=>hs ⟨hc.1,hc.2,hn⟩)]
 ·rfl
theorem FRd.push{n:Nat}{ds:List Dev}{us:List Bool}{out:List Int}{v:Nat}{q:List Nat}{pl m:Nat}{oc:List Int}{qc:List Nat}(h:FRd n ds us out v q pl m oc qc)(hm:m<(ds.zip us).length){w:Nat}(h1:ZO (ds.zip us)[m].1 v=w)(h2:(ds.zip us)[m].2=true)(h3:PO.at_ oc w<0)(hw:w<n)(hv:0≤PO.at_ out v) :
  FRd n ds us out v q pl (m+1) (oc.set w (PO.at_ out v+1)) (qc++[w]):=by
 have hst:=h.qo.step (v:=v) (by rw[h.a];exact hv) hw h3
 rw[h.a] at hst
 refine⟨hst.1,?_,hst.2.2.trans rfl,by have:=hst.2.1;have:=h.n;simp;omega⟩
 rw[h.e,nbZ_drop _ _ _ hm,if_pos ⟨by rw[h1];omega,h2⟩]
 simp only[PO.scan]
 rw[h1,Int.toNat_natCast,if_pos h3]
theorem flood_imp(ns:List Node)(ds:List Dev)(us:List Bool)(hl1:ns.length≤32)(hl2:ds.length≤64)(hsl:us.length=ds.length)(sp:Nat→Bool)(c1 c2:Nat)(d1 d2 e1 e2:List D)(hq1:Clo d1)(hq2:Clo d2)(hq3:Clo e1)(hq4:Clo e2)(hU:∀ (i:Nat) (h:i<us.length),Pure Tryz.prog G0 c1 (d1++.int .i64 i::d2) (.bool us[i]))(hP:∀ v:Nat,v<ns.length→Pure Tryz.prog G0 c2 (e1++.int .i64 v::e2) (.bool (sp v)))(zs:List Nat)(hg0:zs≠[])(hgl:zs.length≤1000)(hgn:∀ g∈zs,g<ns.length)(hd:∀ d∈ds,∀ v:Nat,ZO d v<ns.length)(nm:Nat):Imp Tryz.prog G0 121 [netD ns ds,.sl (Zb (nats zs)),.fn (.func c1) d1 d2,.fn (.func c2) e1 e2] [] nm (.os nm ns.length 0 ns.length) [(nm,some (.arr 1 (ZK (Yj (Xi ns.length (ds.zip us) sp zs)))))]:=by
 refine ZC (gl:=[]) (nx1:=0) (hargs:=by simp[hq1.inn,hq2.inn,hq3.inn,hq4.inn]) Tryz.func121 rfl Tryz.ntmps121 ?_
 refine R2 [] (by simp[hq1.v,hq2.v,hq1.l,hq2.l,hq1.n,hq2.n,hq3.v,hq4.v,hq3.l,hq4.l,hq3.n,hq4.n];first|exact F3|exact F4) ?_
 refine R2 [] (by simp[hq1.v,hq2.v,hq1.l,hq2.l,hq1.n,hq2.n,hq3.v,hq4.v,hq3.l,hq4.l,hq3.n,hq4.n];first|exact F3|exact F4) ?_
 refine R [.b ⟨_,_,_,_,_,_,Z4 (nats zs) (by simp;omega) (by simpa[nats] using hg0) 8⟩] (by simp[hq1.v,hq2.v,hq1.l,hq2.l,hq1.n,hq2.n,hq3.v,hq4.v,hq3.l,hq4.l,hq3.n,hq4.n];first|exact F3|exact F4) (by first|exact Zs _|exact Zq _|exact Zt _|trivial|omega|(simp;done)|(simp;omega)) ?_
 refine R2 [] (by simp[hq1.v,hq2.v,hq1.l,hq2.l,hq1.n,hq2.n,hq3.v,hq4.v,hq3.l,hq4.l,hq3.n,hq4.n];first|exact F3|exact F4) ?_
 refine Zd (fun K0_1 hK0_1=>?_)
 refine Zg (X:=Nat×List Int) [2,3,4,9,10,22,23] [5] (fun x=>[(24,.int .i64 x.1)]) (fun x=>[(5,.arr 1 (ZK (Yj x.2)))]) (fun x=>x.1≤zs.length∧x.2.length=ns.length∧Hid (PO.mark (List.replicate ns.length (-1)) zs=PO.mark x.2 (zs.drop x.1))) (fun x=>zs.length - x.1) (0,List.replicate ns.length (-1)) (⟨by simp,by simp,Lib.hid rfl⟩) (by simp[marks_rep,repB,hq1.l,hq2.l,hq3.l,hq4.l]) ?_
 simp only[KN,keep,but,reduceIte,Nat.reduceEqDiff,Nat.reduceBEq]
 rintro⟨k,out⟩ ⟨hk,hol,hrel⟩ KL2 hKL2
 replace hk:k≤zs.length:=hk
 replace hol:out.length=ns.length:=hol
 refine R2 [] (by simp[hq1.v,hq2.v,hq1.l,hq2.l,hq1.n,hq2.n,hq3.v,hq4.v,hq3.l,hq4.l,hq3.n,hq4.n];first|exact F3|exact F4) ?_
 refine fl_C (fun c4=>?_) (fun c4=>?_)
 ·have hlt:k<zs.length:=by simpa using c4
  have hgk:zs[k]<ns.length:=hgn _ (List.getElem_mem hlt)
  have hkk:zs[k]? = some zs[k]:=by simp[hlt]
  have hmg:=marks_get out zs[k] (by omega)
  have hst:Hid (PO.mark (List.replicate ns.length (-1)) zs=PO.mark (out.set zs[k] 0) (zs.drop (k+1))):=Lib.hid (by rw[hrel.out,List.drop_eq_getElem_cons hlt];rfl)
  have hms:=marks_set out zs[k] 0 (by omega)
  generalize zs[k]=g at *
  have hml:(Yj out).length=ns.length:=by rw[Xl,hol]
  refine Zd (fun K1_3 hK1_3=>?_)
  refine R2 [] (by simp[hq1.v,hq2.v,hq1.l,hq2.l,hq1.n,hq2.n,hq3.v,hq4.v,hq3.l,hq4.l,hq3.n,hq4.n,hkk,hmg,hml,hgk];first|exact F3|exact F4) ?_
  refine R2 [] (by simp[hq1.v,hq2.v,hq1.l,hq2.l,hq1.n,hq2.n,hq3.v,hq4.v,hq3.l,hq4.l,hq3.n,hq4.n,hkk,hmg,hml,hgk];first|exact F3|exact F4) ?_
  refine Zc (hK1_3 _ _ _ ?_)
  refine R2 [] (by simp[hq1.v,hq2.v,hq1.l,hq2.l,hq1.n,hq2.n,hq3.v,hq4.v,hq3.l,hq4.l,hq3.n,hq4.n,hkk,hmg,hml,hgk];(try simp (disch:=omega) only[w64]);first|exact F3|exact F4) ?_
  exact hKL2 _ _ _ (k+1,out.set g 0) ⟨by show k+1≤_;omega,by simp[hol],hst⟩ (by show _<_;omega) (by simp[setB,hms,hq1.l,hq2.l,hq3.l,hq4.l])
 ·have hge:zs.length≤k:=by simpa using c4
  have hmk:out=PO.mark (List.replicate ns.length (-1)) zs:=by rw[hrel.out,List.drop_of_length_le hge];rfl
  refine Ze (show K0_1 _ _ _ from hK0_1 _ _ _ ?_)
  refine Zd (fun K2_4 hK2_4=>?_)
  refine Zg (X:=List Int×List Int×List Nat) [2,3,4,9] [5,8] (fun x=>[(10,.os 8 (x.2.1.length+x.2.2.length) x.2.1.length x.2.2.length)]) (fun x=>[(5,.arr 1 (ZK (Yj x.1))),(8,.arr 1 (Zb (x.2.1++nats x.2.2)))]) (fun x=>Hid (FIn ns.length ds us sp zs x.1 x.2.1 x.2.2)) (fun x=>PO.negs x.1+x.2.2.length) (PO.mark (List.replicate ns.length (-1)) zs,[],zs) ((Lib.hid ⟨start_n _ _ hgn,rfl,by have:=negs_le (PO.mark (List.replicate ns.length (-1)) zs);simp[PO.mark_len] at this ⊢;omega⟩)) (by simp[hmk,hq1.l,hq2.l,hq3.l,hq4.l]) ?_
  simp only[KN,keep,but,reduceIte,Nat.reduceEqDiff,Nat.reduceBEq]
  rintro⟨out,pre,q⟩ hF KL5 hKL5
  replace hF:Hid (FIn ns.length ds us sp zs out pre q):=hF
  refine R2 [] (by simp[hq1.v,hq2.v,hq1.l,hq2.l,hq1.n,hq2.n,hq3.v,hq4.v,hq3.l,hq4.l,hq3.n,hq4.n];first|exact F3|exact F4) ?_
  refine fl_C (fun c8=>?_) (fun c8=>?_)
  ·obtain⟨v,q,rfl⟩:∃ v q1,q=v::q1:=by cases q with|nil=>simp at c8|cons v q1=>exact⟨v,q1,rfl⟩
   have hvn:=hF.out.qo.mem v (by simp)
   have hv0:=hvn.2
   have hPv:=hP v hvn.1
   have hFb:=hF.out.b
   simp only[List.length_cons] at hFb
   have hQ2:QOn ns.length out q:=⟨hF.out.qo.len,fun u hu=>hF.out.qo.mem u (by simp[hu])⟩
   refine Zd (fun K3_6 hK3_6=>?_)
   refine R2 [.p ⟨_,_,_,hPv⟩] (by simp[hq1.v,hq2.v,hq1.l,hq2.l,hq1.n,hq2.n,hq3.v,hq4.v,hq3.l,hq4.l,hq3.n,hq4.n,Zw];first|exact F3|exact F4) ?_
   refine fl_C (fun c10=>?_) (fun c10=>?_)
   ·have hF2:Hid (FIn ns.length ds us sp zs out (pre++[(v:Int)]) q):=Lib.hid ⟨hQ2,by rw[hF.out.e];simp only[List.length_cons,← Nat.add_assoc,PO.bfs,nbT,c10,if_true,PO.scan],by simp;omega⟩
    refine Ze (show K3_6 _ _ _ from hK3_6 _ _ _ ?_)
    refine R2 [] (by simp[hq1.v,hq2.v,hq1.l,hq2.l,hq1.n,hq2.n,hq3.v,hq4.v,hq3.l,hq4.l,hq3.n,hq4.n];first|exact F3|exact F4) ?_
    exact hKL5 _ _ _ (out,pre++[(v:Int)],q) hF2 (by show _<_;first|omega|(simp;done)|(simp;omega)) (by simp[Zw,hq1.l,hq2.l,hq3.l,hq4.l];exact le_os (by omega))
   ·refine R2 [] (by simp[hq1.v,hq2.v,hq1.l,hq2.l,hq1.n,hq2.n,hq3.v,hq4.v,hq3.l,hq4.l,hq3.n,hq4.n];first|exact F3|exact F4) ?_
    refine Zd (fun K4_7 hK4_7=>?_)
    refine Zg (X:=Nat×List Int×List Nat) [2,3,4,9,43,44] [5,8] (fun x=>[(45,.int .i64 x.1),(10,.os 8 (pre.length+(x.2.2.length+1)) pre.length (x.2.2.length+1))]) (fun x=>[(5,.arr 1 (ZK (Yj x.2.1))),(8,.arr 1 (Zb (pre++nats (v::x.2.2))))]) (fun x=>x.1≤ds.length∧Hid (FRd ns.length ds us out v q pre.length x.1 x.2.1 x.2.2)) (fun x=>ds.length - x.1) (0,out,q) (⟨by simp,Lib.hid ⟨hQ2,rfl,rfl,rfl⟩⟩) (by simp[Zw,hq1.l,hq2.l,hq3.l,hq4.l]) ?_
    simp only[KN,keep,but,reduceIte,Nat.reduceEqDiff,Nat.reduceBEq]
    rintro⟨m,oc,qc⟩ ⟨hm,hR⟩ KL8 hKL8
    replace hm:m≤ds.length:=hm
    replace hR:Hid (FRd ns.length ds us out v q pre.length m oc qc):=hR
    refine R2 [] (by simp[hq1.v,hq2.v,hq1.l,hq2.l,hq1.n,hq2.n,hq3.v,hq4.v,hq3.l,hq4.l,hq3.n,hq4.n];first|exact F3|exact F4) ?_
    refine fl_C (fun c12=>?_) (fun c12=>?_)
    ·have hlt:m<ds.length:=by simpa using c12
     have hmm:ds[m]? = some ds[m]:=by simp[hlt]
     have hus:m<us.length:=by omega
     have hUm:=hU m hus
     have hmz:m<(ds.zip us).length:=by simp;omega
     have hwn:=hd ds[m] (List.getElem_mem hlt) v
     have hRb:=hR.out.n
     have hcm:(ds.zip us)[m]=(ds[m],us[m]):=by simp
     obtain⟨y,hy⟩:∃ y,y=ZO ds[m] v:=⟨_,rfl⟩
     rw[← hy] at hwn
     refine Zd (fun K5_9 hK5_9=>?_)
     refine R2 [] (by simp[hq1.v,hq2.v,hq1.l,hq2.l,hq1.n,hq2.n,hq3.v,hq4.v,hq3.l,hq4.l,hq3.n,hq4.n,hmm,(hy.symm)];first|exact F3|exact F4) ?_
     refine R2 [.p ⟨_,_,_,across_pure ds[m] v⟩] (by simp[hq1.v,hq2.v,hq1.l,hq2.l,hq1.n,hq2.n,hq3.v,hq4.v,hq3.l,hq4.l,hq3.n,hq4.n,Zw,hmm,(hy.symm)];first|exact F3|exact F4) ?_
     rcases bf_ (decide (0≤y)) with h15_56|h15_56
     ·obtain⟨w,rfl⟩:∃ w:Nat,y=w:=⟨y.toNat,(Int.toNat_of_nonneg (by simpa using h15_56)).symm⟩
      have hwn:w<ns.length:=by omega
      have haw:ZO (ds.zip us)[m].1 v=w:=by rw[hcm,hy]
      have hmg:=marks_get oc w (by have:=hR.out.qo.len;omega)
      have hml:(Yj oc).length=ns.length:=by rw[Xl,hR.out.qo.len]
      rcases bf_ (decide (0≤PO.at_ oc w)) with h15_61|h15_61
      ·refine R2 [] (by simp[hq1.v,hq2.v,hq1.l,hq2.l,hq1.n,hq2.n,hq3.v,hq4.v,hq3.l,hq4.l,hq3.n,hq4.n,marks_at,hmm,(hy.symm),h15_56,hmg,hml,hwn,h15_61];first|exact F3|exact F4) ?_
       refine fl_F ?_
       refine Zc (hK5_9 _ _ _ ?_)
       refine R2 [] (by simp[hq1.v,hq2.v,hq1.l,hq2.l,hq1.n,hq2.n,hq3.v,hq4.v,hq3.l,hq4.l,hq3.n,hq4.n,hmm,(hy.symm),hmg,hml,hwn];(try simp (disch:=omega) only[w64]);first|exact F3|exact F4) ?_
       exact hKL8 _ _ _ (m+1,oc,qc) ⟨by show m+1≤_;omega,Lib.hid (hR.out.skip hmz (by intro h;have h1:=h.2.2;rw[haw] at h1;simp at h15_61 h1;omega))⟩ (by show _<_;omega) (by simp[Zw,hq1.l,hq2.l,hq3.l,hq4.l])
      ·rcases bf_ (us[m]) with h15_67|h15_67
       ·refine R2 [.p ⟨_,_,_,hUm⟩] (by simp[hq1.v,hq2.v,hq1.l,hq2.l,hq1.n,hq2.n,hq3.v,hq4.v,hq3.l,hq4.l,hq3.n,hq4.n,marks_at,hmm,(hy.symm),h15_56,hmg,hml,hwn,h15_61,h15_67];first|exact F3|exact F4) ?_
        refine fl_T ?_
        refine R2 [] (by simp[hq1.v,hq2.v,hq1.l,hq2.l,hq1.n,hq2.n,hq3.v,hq4.v,hq3.l,hq4.l,hq3.n,hq4.n,hmm,(hy.symm),hmg,hml,hwn];first|exact F3|exact F4) ?_
        refine R2 [] (by simp[hq1.v,hq2.v,hq1.l,hq2.l,hq1.n,hq2.n,hq3.v,hq4.v,hq3.l,hq4.l,hq3.n,hq4.n,Zw,hmm,(hy.symm),hmg,hml,hwn];first|exact F3|exact F4) ?_
        refine Zc (hK5_9 _ _ _ ?_)
        refine R2 [] (by simp[hq1.v,hq2.v,hq1.l,hq2.l,hq1.n,hq2.n,hq3.v,hq4.v,hq3.l,hq4.l,hq3.n,hq4.n,hmm,(hy.symm),hmg,hml,hwn];(try simp (disch:=omega) only[w64]);first|exact F3|exact F4) ?_
        exact hKL8 _ _ _ (m+1,oc.set w (PO.at_ out v+1),qc++[w]) ⟨by show m+1≤_;omega,Lib.hid (hR.out.push hmz haw (by rw[hcm];exact h15_67) (by simpa using h15_61) hwn hv0)⟩ (by show _<_;omega) (by simp[Yk,setB,YH,Zw,marks_set oc w (PO.at_ out v+1) (by omega),hq1.l,hq2.l,hq3.l,hq4.l];exact le_os (by omega))
       ·refine R2 [.p ⟨_,_,_,hUm⟩] (by simp[hq1.v,hq2.v,hq1.l,hq2.l,hq1.n,hq2.n,hq3.v,hq4.v,hq3.l,hq4.l,hq3.n,hq4.n,marks_at,hmm,(hy.symm),h15_56,hmg,hml,hwn,h15_61,h15_67];first|exact F3|exact F4) ?_
        refine fl_F ?_
        refine Zc (hK5_9 _ _ _ ?_)
        refine R2 [] (by simp[hq1.v,hq2.v,hq1.l,hq2.l,hq1.n,hq2.n,hq3.v,hq4.v,hq3.l,hq4.l,hq3.n,hq4.n,hmm,(hy.symm),hmg,hml,hwn];(try simp (disch:=omega) only[w64]);first|exact F3|exact F4) ?_
        exact hKL8 _ _ _ (m+1,oc,qc) ⟨by show m+1≤_;omega,Lib.hid (hR.out.skip hmz (by intro h;have h1:=h.2.1;rw[hcm] at h1;simp only at h1;rw[h15_67] at h1;cases h1))⟩ (by show _<_;omega) (by simp[Zw,hq1.l,hq2.l,hq3.l,hq4.l])
     ·refine R2 [] (by simp[hq1.v,hq2.v,hq1.l,hq2.l,hq1.n,hq2.n,hq3.v,hq4.v,hq3.l,hq4.l,hq3.n,hq4.n,marks_at,hmm,(hy.symm),h15_56];first|exact F3|exact F4) ?_
      refine fl_F ?_
      refine Zc (hK5_9 _ _ _ ?_)
      refine R2 [] (by simp[hq1.v,hq2.v,hq1.l,hq2.l,hq1.n,hq2.n,hq3.v,hq4.v,hq3.l,hq4.l,hq3.n,hq4.n,hmm,(hy.symm)];(try simp (disch:=omega) only[w64]);first|exact F3|exact F4) ?_
      exact hKL8 _ _ _ (m+1,oc,qc) ⟨by show m+1≤_;omega,Lib.hid (hR.out.skip hmz (by intro h;have h1:=h.1;rw[hcm] at h1;simp at h15_56;simp only at h1;omega))⟩ (by show _<_;omega) (by simp[Zw,hq1.l,hq2.l,hq3.l,hq4.l])
    ·have hge:ds.length≤m:=by simpa using c12
     have hF3:Hid (FIn ns.length ds us sp zs oc (pre++[(v:Int)]) qc):=Lib.hid ⟨hR.out.qo,by rw[hF.out.e];simp only[List.length_cons,← Nat.add_assoc,PO.bfs,nbT,c10];rw[if_neg (by decide),hR.out.e,List.drop_of_length_le (by simp;omega)];simp only[nbZ,List.filterMap_nil,PO.scan];rw[← hR.out.n],by have:=hR.out.n;simp;omega⟩
     have hmu:=hR.out.n
     refine Ze (show K4_7 _ _ _ from hK4_7 _ _ _ ?_)
     refine Zc (hK3_6 _ _ _ ?_)
     refine R2 [] (by simp[hq1.v,hq2.v,hq1.l,hq2.l,hq1.n,hq2.n,hq3.v,hq4.v,hq3.l,hq4.l,hq3.n,hq4.n];first|exact F3|exact F4) ?_
     exact hKL5 _ _ _ (oc,pre++[(v:Int)],qc) hF3 (by show _<_;first|omega|(simp;done)|(simp;omega)) (by simp[Zw,hq1.l,hq2.l,hq3.l,hq4.l];exact le_os (by omega))
  ·obtain rfl:q=[]:=by cases q with|nil=>rfl|cons v q1=>simp at c8
   have hfe:out=Xi ns.length (ds.zip us) sp zs:=by rw[hF.out.e];cases (PO.negs out+([]:List Nat).length)<;>rfl
   refine Ze (show K2_4 _ _ _ from hK2_4 _ _ _ ?_)
   refine R2 [] (by simp[hq1.v,hq2.v,hq1.l,hq2.l,hq1.n,hq2.n,hq3.v,hq4.v,hq3.l,hq4.l,hq3.n,hq4.n];first|exact F3|exact F4) ?_
   refine Za ?_
   refine⟨.inr rfl,5,?_⟩
   simp[hfe]
end
section
open Go Go.RowKit
structure ZOK(ns:List Node)(zs:List Nat):Prop where
 ne:zs≠[]
 lt:∀ z∈zs,z<ns.length
 ris:risG ns.length (-1) (nats zs)=true
 len:zs.length≤1000
theorem dev_across{ns:List Node}{ds:List Dev}(hc:Zk ns ds=0)(hn:1≤ns.length):∀ d∈ds,∀ v:Nat,ZO d v<ns.length:=fun d hd v=>across_lt ((ZM hc).ends d hd).2.2 hn v
theorem ZOK.pos{ns:List Node}{zs:List Nat}(h:ZOK ns zs):1≤ns.length:=by
 cases zs with
 | nil=>exact absurd rfl h.ne
 | cons z zs=>have:=h.lt z (by simp);omega
theorem scan_len(x:Int):∀ (ws:List Nat) (out:List Int) (q:List Nat),(PO.scan x ws out q).1.length=out.length
 | [],_,_=>rfl
 | w::ws,out,q=>by
  unfold PO.scan
  split
  ·rw[scan_len x ws];simp
  ·exact scan_len x ws out q
theorem bfs_len(nb:Nat→List Nat):∀ (f:Nat) (out:List Int) (q:List Nat),(PO.bfs nb f out q).length=out.length
 | 0,_,_=>rfl
 | _+1,_,[]=>rfl
 | f+1,out,v::q=>by unfold PO.bfs;rw[bfs_len nb f,scan_len]
theorem floodS_len(n:Nat)(zs:List (Dev×Bool))(sp:Nat→Bool)(gs:List Nat):(Xi n zs sp gs).length=n:=by rw[Xi,bfs_len,PO.mark_len];simp
theorem Xm(n:Nat)(ds:List Dev)(zs:List Nat)(gl:List Int):(Zv n ds zs gl).length=n:=by rw[Zv,Xl,floodS_len]
theorem those_imp(ns:List Node)(ds:List Dev)(l:List Lk)(h:ZF ns ds l=0)(pos:Int)(p:Int→Bool)(c:Nat)(hp:∀ k,Pure Tryz.prog G0 c [.int .i64 k] (.bool (p k)))(nm:Nat):Imp Tryz.prog G0 144 [netD ns ds,.sl (l.map Zm),.int .i64 pos,.fn (.func c) [] []] [] nm (.tup [.os nm (supN (YG p pos ds l) ds.length).length 0 (supN (YG p pos ds l) ds.length).length,.int .i64 0]) [(nm,some (.arr 1 (Zb (supN (YG p pos ds l) ds.length))))]:=by
 refine ZC (gl:=[]) (nx1:=0) Tryz.func144 rfl Tryz.ntmps144 ?_
 obtain⟨e1,e2,e3⟩:=locks_0 h
 obtain⟨g1,g2,_⟩:=Zj e1
 refine R0 ?_
 refine R6 [.p ⟨_,_,_,Y7 ns ds l h⟩] ?_
 refine R0 ?_
 refine fl_F ?_
 refine R0 ?_
 refine R0 ?_
 refine Zd (fun K0_1 hK0_1=>?_)
 refine Yf 11 1 (by simp) ?_
 refine Zg (X:=Nat) [1,2,3,23,24] [14] (fun x=>[(25,.int .i64 x),(11,.os 14 (supN (YG p pos ds l) x).length 0 (supN (YG p pos ds l) x).length)]) (fun x=>[(14,.arr 1 (Zb (supN (YG p pos ds l) x)))]) (fun x=>x≤ds.length) (fun x=>ds.length - x) 0 (by simp) (by simp[supN,Zb]) ?_
 simp only[KN,keep,but,reduceIte,Nat.reduceEqDiff,Nat.reduceBEq]
 rintro k hlek KL2 hKL2
 refine R0 ?_
 refine fl_C (fun c6=>?_) (fun c6=>?_)
 ·have hlt:k<ds.length:=by simpa using c6
  have hkk:ds[k]? = some ds[k]:=by simp[hlt]
  have hd:=Lib.hid (List.drop_eq_getElem_cons hlt)
  have hkd:(ds.map (·.kind)).getD k 0=ds[k].kind:=by simp[hlt]
  have hsl:=Z3 (YG p pos ds l) k
  generalize ds[k]=d at *
  refine Zd (fun K1_3 hK1_3=>?_)
  refine R2 [] (by simp[hkk];first|exact F3|exact F4) ?_
  refine R2 [.p ⟨_,_,_,locked_pure l (by omega) k⟩] (by simp[hkk];first|exact F3|exact F4) ?_
  rcases bf_ ((Zx (k:Int) l).2) with h9_36|h9_36
  ·rcases bf_ ((Zx (k:Int) l).1==pos) with h9_40|h9_40
   ·rcases bf_ (p d.kind) with h9_46|h9_46
    ·refine R2 [.p ⟨_,_,_,hp d.kind⟩] (by simp[hkk,h9_36,h9_40,h9_46];first|exact F3|exact F4) ?_
     refine fl_T ?_
     refine R2 [] (by simp[hkk];first|exact F3|exact F4) ?_
     refine Zc (hK1_3 _ _ _ ?_)
     refine R2 [] (by simp[hkk];(try simp (disch:=omega) only[w64]);first|exact F3|exact F4) ?_
     exact hKL2 _ _ _ (k+1) (by omega) (by omega) (by simp[supN,YG,hkd,Yk,hkk,hd.out,h9_36,h9_40,h9_46])
    ·refine R2 [.p ⟨_,_,_,hp d.kind⟩] (by simp[hkk,h9_36,h9_40,h9_46];first|exact F3|exact F4) ?_
     refine fl_F ?_
     refine Zc (hK1_3 _ _ _ ?_)
     refine R2 [] (by simp[hkk];(try simp (disch:=omega) only[w64]);first|exact F3|exact F4) ?_
     exact hKL2 _ _ _ (k+1) (by omega) (by omega) (by simp[supN,YG,hkd,Yk,hkk,hd.out,h9_36,h9_40,h9_46])
   ·refine R2 [.p ⟨_,_,_,hp d.kind⟩] (by simp[hkk,h9_36,h9_40];first|exact F3|exact F4) ?_
    refine fl_F ?_
    refine Zc (hK1_3 _ _ _ ?_)
    refine R2 [] (by simp[hkk];(try simp (disch:=omega) only[w64]);first|exact F3|exact F4) ?_
    exact hKL2 _ _ _ (k+1) (by omega) (by omega) (by simp[supN,YG,hkd,Yk,hkk,hd.out,h9_36,h9_40])
  ·refine R2 [.p ⟨_,_,_,hp d.kind⟩] (by simp[hkk,h9_36];first|exact F3|exact F4) ?_
   refine fl_F ?_
   refine Zc (hK1_3 _ _ _ ?_)
   refine R2 [] (by simp[hkk];(try simp (disch:=omega) only[w64]);first|exact F3|exact F4) ?_
   exact hKL2 _ _ _ (k+1) (by omega) (by omega) (by simp[supN,YG,hkd,Yk,hkk,hd.out,h9_36])
 ·have hge:ds.length≤k:=by simpa using c6
  have hke:k=ds.length:=by have:k≤ds.length:=hlek;omega
  have hdn:=Lib.hid (List.drop_of_length_le hge)
  refine Ze (show K0_1 _ _ _ from hK0_1 _ _ _ ?_)
  refine R0 ?_
  refine Za ?_
  refine⟨.inr rfl,14,?_⟩
  simp[hke]
theorem gaps_imp(ns:List Node)(ds:List Dev)(l:List Lk)(h:ZF ns ds l=0)(nm:Nat):Imp Tryz.prog G0 104 [netD ns ds,.sl (l.map Zm)] [] nm (.tup [.os nm (ZR ds l).length 0 (ZR ds l).length,.int .i64 0]) [(nm,some (.arr 1 (Zb (ZR ds l))))]:=by
 refine ZC (gl:=[]) (nx1:=0) Tryz.func104 rfl Tryz.ntmps104 ?_
 refine R0 ?_
 refine R [.b ⟨_,_,_,_,_,_,those_imp ns ds l h 1 gapB 99 gap_pure 5⟩] (by simp;first|exact F3|exact F4) (by first|exact Zs _|exact Zq _|exact Zt _|trivial|omega|(simp;done)|(simp;omega)) ?_
 refine Za ?_
 refine⟨.inr rfl,5,?_⟩
 simp[ZR]
theorem earths_imp(ns:List Node)(ds:List Dev)(l:List Lk)(h:ZF ns ds l=0)(nm:Nat):Imp Tryz.prog G0 103 [netD ns ds,.sl (l.map Zm)] [] nm (.tup [.os nm (Yu ds l).length 0 (Yu ds l).length,.int .i64 0]) [(nm,some (.arr 1 (Zb (Yu ds l))))]:=by
 refine ZC (gl:=[]) (nx1:=0) Tryz.func103 rfl Tryz.ntmps103 ?_
 refine R0 ?_
 refine R [.b ⟨_,_,_,_,_,_,those_imp ns ds l h 2 (fun k=>k==4) 145 isearth_pure 5⟩] (by simp;first|exact F3|exact F4) (by first|exact Zs _|exact Zq _|exact Zt _|trivial|omega|(simp;done)|(simp;omega)) ?_
 refine Za ?_
 refine⟨.inr rfl,5,?_⟩
 simp[Yu]
theorem region1_pure(i:Nat)(gl:List Int)(hl:gl.length≤1000000):Pure Tryz.prog G0 141 [.int .i64 i,.vp [.sl (Zb gl)]] (.bool (!(gl.any (fun x=>(i:Int)==x)))):=by
 refine Zh Tryz.func141 rfl Tryz.ntmps141 ?_
 refine R0 ?_
 refine R6 [.p ⟨_,_,_,ZG gl hl i⟩] ?_
 refine Za ?_
 simp[ins]
theorem region_imp(ns:List Node)(ds:List Dev)(hc:Zk ns ds=0)(zs:List Nat)(hz:ZOK ns zs)(gl:List Int)(hl:gl.length≤1000000)(nm:Nat):Imp Tryz.prog G0 100 [netD ns ds,.sl (Zb (nats zs)),.sl (Zb gl)] [] nm (.os nm ns.length 0 ns.length) [(nm,some (.arr 1 (ZK (Zv ns.length ds zs gl))))]:=by
 refine ZC (gl:=[]) (nx1:=0) Tryz.func100 rfl Tryz.ntmps100 ?_
 obtain⟨g1,g2,_⟩:=Zj hc
 refine R0 ?_
 refine R0 ?_
 refine R [.b ⟨_,_,_,_,_,_,flood_imp ns ds (usB gl ds.length) g1 g2 (usB_len _ _) (fun _=>false) 141 142 [] [.vp [.sl (Zb gl)]] [] [] ZH (by exact⟨fun g k=>by simp[mapO,Zy],fun n=>by simp[D.los,D.lo],by simp[ZB,ZA]⟩) ZH ZH (fun i h=>by rw[usB_at];exact region1_pure i gl hl) (fun v _=>never2_pure v) zs hz.ne hz.len hz.lt (dev_across hc hz.pos) 8⟩] (by simp;first|exact F3|exact F4) (by first|exact Zs _|exact Zq _|exact Zt _|trivial|omega|(simp;done)|(simp;omega)) ?_
 refine Za ?_
 refine⟨.inr rfl,8,?_⟩
 simp[Zv]
theorem at_pure(r:List Bool)(d:Dev)(ha:0≤d.a∧d.a<r.length)(hb:Zu d.kind=true→0≤d.b∧d.b<r.length):Pure Tryz.prog G0 102 [.sl (ZK r),.agg (Xj d)] (.bool (atB r d)):=by
 refine Zh Tryz.func102 rfl Tryz.ntmps102 ?_
 obtain⟨a,haa⟩:∃ a:Nat,d.a=a:=⟨_,(Int.toNat_of_nonneg ha.1).symm⟩
 have hal:a<r.length:=by omega
 refine R0 ?_
 rcases bf_ (r[a]) with h1_9|h1_9
 ·refine R2 [] (by simp[haa,hal,h1_9];first|exact F3|exact F4) ?_
  refine Za ?_
  simp
  exact Zp (by simp[atB,haa,hal,h1_9])
 ·rcases bf_ (Zu d.kind) with h1_13|h1_13
  ·obtain⟨hb1,hb2⟩:=hb h1_13
   obtain⟨b,hbb⟩:∃ b:Nat,d.b=b:=⟨_,(Int.toNat_of_nonneg hb1).symm⟩
   have hbl:b<r.length:=by omega
   rcases bf_ (r[b]) with h1_19|h1_19
   ·refine R2 [.p ⟨_,_,_,Yy d.kind⟩] (by simp[haa,hal,h1_9,h1_13,h1_19,hbb,hbl];first|exact F3|exact F4) ?_
    refine Za ?_
    simp
    exact Zp (by simp[atB,haa,hal,h1_9,h1_13,hbb,hbl,h1_19])
   ·refine R2 [.p ⟨_,_,_,Yy d.kind⟩] (by simp[haa,hal,h1_9,h1_13,h1_19,hbb,hbl];first|exact F3|exact F4) ?_
    refine Za ?_
    simp
    exact Zp (by simp[atB,haa,hal,h1_9,h1_13,hbb,hbl,h1_19])
  ·refine R2 [.p ⟨_,_,_,Yy d.kind⟩] (by simp[haa,hal,h1_9,h1_13];first|exact F3|exact F4) ?_
   refine Za ?_
   simp
   exact Zp (by simp[atB,haa,hal,h1_9,h1_13])
end
section
open Go Go.RowKit
theorem intsD_takek(l:List Int)(k:Nat):(Zb l).take k=Zb (l.take k):=by simp[Zb]
theorem zcheck_ok(ns:List Node)(ds:List Dev)(hc:Zk ns ds=0)(zs:List Nat)(hz:ZOK ns zs):Pure Tryz.prog G0 56 [netD ns ds,.sl (Zb (nats zs))] (.int .i64 0):=zcheck_pure ns ds (nats zs) hc (by have:=hz.ne;simpa[nats] using this) (by simp;have:=hz.len;omega) hz.ris
theorem dev_at{ns:List Node}{ds:List Dev}(hc:Zk ns ds=0){d:Dev}(hd:d∈ds):(0≤d.a∧d.a<ns.length)∧(Zu d.kind=true→0≤d.b∧d.b<ns.length):=by
 obtain⟨h1,h2,h3,_⟩:=Y0 ((ZM hc).ends d hd).2.2
 exact⟨⟨h1,h2⟩,fun hj=>⟨(h3 hj).1,(h3 hj).2.1⟩⟩
theorem enough_pure(ns:List Node)(ds:List Dev)(hc:Zk ns ds=0)(zs:List Nat)(hz:ZOK ns zs)(gl:List Int)(hl:gl.length≤1000000):Pure Tryz.prog G0 75 [netD ns ds,.sl (Zb (nats zs)),.sl (Zb gl)] (.bool (enoughB ns.length ds zs gl)):=by
 refine Zh Tryz.func75 rfl Tryz.ntmps75 ?_
 obtain⟨g1,g2,_⟩:=Zj hc
 have hrl:=Xm ns.length ds zs gl
 have htk:(ZK (Zv ns.length ds zs gl)).take ns.length=ZK (Zv ns.length ds zs gl):=List.take_of_length_le (by simp[hrl])
 refine R0 ?_
 refine R [.b ⟨_,_,_,_,_,_,region_imp ns ds hc zs hz gl hl 5⟩] (by simp;first|exact F3|exact F4) (by first|exact Zs _|exact Zq _|exact Zt _|trivial|omega|(simp;done)|(simp;omega)) ?_
 refine R0 ?_
 refine Zd (fun K0_1 hK0_1=>?_)
 refine Zg (X:=Nat) [2,7,16,17] [] (fun x=>[(18,.int .i64 x)]) (fun x=>[]) (fun x=>x≤ds.length∧Hid (enoughB ns.length ds zs gl=Xf (Zv ns.length ds zs gl) gl (ds.drop x) x)) (fun x=>ds.length - x) 0 (⟨by simp,Lib.hid rfl⟩) (by simp) ?_
 simp only[KN,keep,but,reduceIte,Nat.reduceEqDiff,Nat.reduceBEq]
 rintro k ⟨hlek,hrel⟩ KL2 hKL2
 refine R0 ?_
 refine fl_C (fun c3=>?_) (fun c3=>?_)
 ·have hlt:k<ds.length:=by simpa using c3
  have hkk:ds[k]? = some ds[k]:=by simp[hlt]
  have hd:=Lib.hid (List.drop_eq_getElem_cons hlt)
  have hda:=dev_at hc (List.getElem_mem hlt)
  have hat:=at_pure (Zv ns.length ds zs gl) ds[k] (by rw[hrl];exact hda.1) (by rw[hrl];exact hda.2)
  generalize ds[k]=d at *
  refine Zd (fun K1_3 hK1_3=>?_)
  refine R2 [] (by simp[hkk];first|exact F3|exact F4) ?_
  rcases bf_ (d.kind==5) with h5_25|h5_25
  ·refine R2 [] (by simp[hkk,h5_25];first|exact F3|exact F4) ?_
   rcases bf_ (atB (Zv ns.length ds zs gl) d) with h6_41|h6_41
   ·refine R2 [.p ⟨_,_,_,hat⟩] (by simp[hrl,htk,hkk,h6_41];first|exact F3|exact F4) ?_
    refine fl_T ?_
    refine R2 [] (by simp[hkk];first|exact F3|exact F4) ?_
    refine Za ?_
    simp;exact Zp (by rw[hrel.out,hd.out,Xf,badB,show (gl.any fun x=>(k:Int)==x)=ins gl k from rfl];simp[hkk,hd.out,h5_25,h6_41])
   ·refine R2 [.p ⟨_,_,_,hat⟩] (by simp[hrl,htk,hkk,h6_41];first|exact F3|exact F4) ?_
    refine fl_F ?_
    refine Zc (hK1_3 _ _ _ ?_)
    refine R2 [] (by simp[hkk];(try simp (disch:=omega) only[w64]);first|exact F3|exact F4) ?_
    exact hKL2 _ _ _ (k+1) ⟨by omega,Lib.hid (by rw[hrel.out,hd.out,Xf,badB,show (gl.any fun x=>(k:Int)==x)=ins gl k from rfl];simp[hkk,hd.out,h5_25,h6_41])⟩ (by omega) (by simp)
  ·refine R2 [] (by simp[hkk,h5_25];first|exact F3|exact F4) ?_
   rcases bf_ (d.kind==6) with h6_30|h6_30
   ·rcases bf_ (ins gl k) with h6_34|h6_34
    ·refine R2 [.p ⟨_,_,_,ZG gl hl k⟩] (by simp[hrl,htk,hkk,h6_30,h6_34];first|exact F3|exact F4) ?_
     refine fl_F ?_
     refine Zc (hK1_3 _ _ _ ?_)
     refine R2 [] (by simp[hkk];(try simp (disch:=omega) only[w64]);first|exact F3|exact F4) ?_
     exact hKL2 _ _ _ (k+1) ⟨by omega,Lib.hid (by rw[hrel.out,hd.out,Xf,badB,show (gl.any fun x=>(k:Int)==x)=ins gl k from rfl];simp[hkk,hd.out,h5_25,h6_30,h6_34])⟩ (by omega) (by simp)
    ·rcases bf_ (atB (Zv ns.length ds zs gl) d) with h6_41|h6_41
     ·refine R2 [.p ⟨_,_,_,ZG gl hl k⟩,.p ⟨_,_,_,hat⟩] (by simp[hrl,htk,hkk,h6_30,h6_34,h6_41];first|exact F3|exact F4) ?_
      refine fl_T ?_
      refine R2 [] (by simp[hkk];first|exact F3|exact F4) ?_
      refine Za ?_
      simp;exact Zp (by rw[hrel.out,hd.out,Xf,badB,show (gl.any fun x=>(k:Int)==x)=ins gl k from rfl];simp[hkk,hd.out,h5_25,h6_30,h6_34,h6_41])
     ·refine R2 [.p ⟨_,_,_,ZG gl hl k⟩,.p ⟨_,_,_,hat⟩] (by simp[hrl,htk,hkk,h6_30,h6_34,h6_41];first|exact F3|exact F4) ?_
      refine fl_F ?_
      refine Zc (hK1_3 _ _ _ ?_)
      refine R2 [] (by simp[hkk];(try simp (disch:=omega) only[w64]);first|exact F3|exact F4) ?_
      exact hKL2 _ _ _ (k+1) ⟨by omega,Lib.hid (by rw[hrel.out,hd.out,Xf,badB,show (gl.any fun x=>(k:Int)==x)=ins gl k from rfl];simp[hkk,hd.out,h5_25,h6_30,h6_34,h6_41])⟩ (by omega) (by simp)
   ·refine R2 [] (by simp[hrl,htk,hkk,h6_30];first|exact F3|exact F4) ?_
    refine fl_F ?_
    refine Zc (hK1_3 _ _ _ ?_)
    refine R2 [] (by simp[hkk];(try simp (disch:=omega) only[w64]);first|exact F3|exact F4) ?_
    exact hKL2 _ _ _ (k+1) ⟨by omega,Lib.hid (by rw[hrel.out,hd.out,Xf,badB,show (gl.any fun x=>(k:Int)==x)=ins gl k from rfl];simp[hkk,hd.out,h5_25,h6_30])⟩ (by omega) (by simp)
 ·have hge:ds.length≤k:=by simpa using c3
  have hke:k=ds.length:=by have:k≤ds.length:=hlek;omega
  have hdn:=Lib.hid (List.drop_of_length_le hge)
  refine Ze (show K0_1 _ _ _ from hK0_1 _ _ _ ?_)
  refine R0 ?_
  refine Za ?_
  simp;exact Zp (by rw[hrel.out,hdn.out];rfl)
theorem zlocked_imp(ns:List Node)(ds:List Dev)(hc:Zk ns ds=0)(zs:List Nat)(hz:ZOK ns zs)(l:List Lk)(h:ZF ns ds l=0)(nm:Nat):Imp Tryz.prog G0 74 [netD ns ds,.sl (l.map Zm),.sl (Zb (nats zs))] [] nm (.tup [.os nm (ZR ds l).length 0 (ZR ds l).length,.int .i64 0]) [(nm,some (.arr 1 (Zb (ZR ds l))))]:=by
 refine ZC (gl:=[]) (nx1:=0) Tryz.func74 rfl Tryz.ntmps74 ?_
 refine R0 ?_
 refine R [.b ⟨_,_,_,_,_,_,gaps_imp ns ds l h 5⟩] (by simp;first|exact F3|exact F4) (by first|exact Zs _|exact Zq _|exact Zt _|trivial|omega|(simp;done)|(simp;omega)) ?_
 refine R0 ?_
 refine fl_T ?_
 refine R6 [.p ⟨_,_,_,zcheck_ok ns ds hc zs hz⟩] ?_
 refine R0 ?_
 refine Za ?_
 refine⟨.inr rfl,5,?_⟩
 simp
theorem isolated_pure(ns:List Node)(ds:List Dev)(hc:Zk ns ds=0)(zs:List Nat)(hz:ZOK ns zs)(l:List Lk)(h:ZF ns ds l=0):Pure Tryz.prog G0 41 [netD ns ds,.sl (l.map Zm),.sl (Zb (nats zs))] (.tup [.bool (enoughB ns.length ds zs (ZR ds l)),.int .i64 0]):=by
 refine Zh Tryz.func41 rfl Tryz.ntmps41 ?_
 obtain⟨g1,g2,_⟩:=Zj hc
 have hgl:(ZR ds l).length≤ds.length:=Z3 _ _
 refine R0 ?_
 refine R [.b ⟨_,_,_,_,_,_,zlocked_imp ns ds hc zs hz l h 6⟩] (by simp;first|exact F3|exact F4) (by first|exact Zs _|exact Zq _|exact Zt _|trivial|omega|(simp;done)|(simp;omega)) ?_
 refine R0 ?_
 refine fl_F ?_
 refine R6 [.p ⟨_,_,_,enough_pure ns ds hc zs hz (ZR ds l) (by omega)⟩] ?_
 refine Za ?_
 simp
theorem zchk_pure(ns:List Node)(ds:List Dev)(hc:Zk ns ds=0)(zs:List Nat)(hz:ZOK ns zs)(gl:List Int)(hg:GG ds gl):Pure Tryz.prog G0 146 [netD ns ds,.sl (Zb (nats zs)),.sl (Zb gl)] (.int .i64 0):=by
 refine Zh Tryz.func146 rfl Tryz.ntmps146 ?_
 refine R0 ?_
 refine R6 [.p ⟨_,_,_,zcheck_ok ns ds hc zs hz⟩] ?_
 refine R0 ?_
 refine fl_F ?_
 refine R0 ?_
 refine Zd (fun K0_1 hK0_1=>?_)
 refine Zg (X:=Nat) [2,3,16,17] [] (fun x=>[(18,.int .i64 x)]) (fun x=>[]) (fun x=>x≤gl.length) (fun x=>gl.length - x) 0 (by simp) (by simp) ?_
 simp only[KN,keep,but,reduceIte,Nat.reduceEqDiff,Nat.reduceBEq]
 rintro k hlek KL2 hKL2
 refine R0 ?_
 refine fl_C (fun c5=>?_) (fun c5=>?_)
 ·have hlt:k<gl.length:=by simpa using c5
  have hkk:gl[k]? = some gl[k]:=by simp[hlt]
  have hd:=Lib.hid (List.drop_eq_getElem_cons hlt)
  have hlen:=hg.len
  have hris:risG ds.length (-1) (gl.take (k+1))=true:=hg.ris _
  obtain⟨q1,q2,q3⟩:=hg.kind gl[k] (List.getElem_mem hlt)
  obtain⟨j,hxd⟩:∃ j:Nat,gl[k]=j:=⟨_,(Int.toNat_of_nonneg q1).symm⟩
  have hjl:j<ds.length:=by omega
  have hdk:ds[j]? = some ds[j]:=by simp[hjl]
  have hgb:gapB ds[j].kind=true:=by have:=q3;rw[hxd] at this;simpa[hjl] using this
  generalize ds[j]=d at *
  have hk1:((k:Int)+1).toNat=k+1:=by omega
  have hk0:(0:Int)≤(k:Int)+1:=by omega
  have hw:=w64 (n:=(k:Int)+1) (by omega) (by omega)
  generalize gl[k]=x at *
  refine Zd (fun K1_3 hK1_3=>?_)
  refine R2 [] (by simp[hkk];first|exact F3|exact F4) ?_
  refine Zd (fun K2_4 hK2_4=>?_)
  refine R [.p ⟨_,_,_,rising_pure (gl.take (k+1)) (by simp;have:=hg.len;omega) ds.length⟩] (by simp[intsD_takek,hw,hk0,hk1,hris,hkk];(try simp (disch:=omega) only[w64]);first|exact F3|exact F4) (by exact⟨intsD_es _,by omega⟩) ?_
  refine fl_F ?_
  refine R2 [.p ⟨_,_,_,gap_pure d.kind⟩] (by simp[hxd,hdk,hgb,hkk];first|exact F3|exact F4) ?_
  refine fl_F ?_
  refine Zc (hK2_4 _ _ _ ?_)
  refine Zc (hK1_3 _ _ _ ?_)
  refine R2 [] (by simp[hkk];(try simp (disch:=omega) only[w64]);first|exact F3|exact F4) ?_
  exact hKL2 _ _ _ (k+1) (by omega) (by omega) (by simp)
 ·have hge:gl.length≤k:=by simpa using c5
  have hke:k=gl.length:=by have:k≤gl.length:=hlek;omega
  have hdn:=Lib.hid (List.drop_of_length_le hge)
  refine Ze (show K0_1 _ _ _ from hK0_1 _ _ _ ?_)
  refine R0 ?_
  refine Za ?_
  simp
theorem Region_imp(ns:List Node)(ds:List Dev)(hc:Zk ns ds=0)(zs:List Nat)(hz:ZOK ns zs)(gl:List Int)(hg:GG ds gl)(nm:Nat):Imp Tryz.prog G0 105 [netD ns ds,.sl (Zb (nats zs)),.sl (Zb gl)] [] nm (.tup [.os nm (regN ns.length ds zs gl).length 0 (regN ns.length ds zs gl).length,.int .i64 0]) [(nm,some (.arr 1 (Zb (regN ns.length ds zs gl))))]:=by
 refine ZC (gl:=[]) (nx1:=0) Tryz.func105 rfl Tryz.ntmps105 ?_
 obtain⟨g1,g2,_⟩:=Zj hc
 have hrl:=Xm ns.length ds zs gl
 refine R0 ?_
 refine R6 [.p ⟨_,_,_,zchk_pure ns ds hc zs hz gl hg⟩] ?_
 refine R0 ?_
 refine fl_F ?_
 refine R0 ?_
 refine R [.b ⟨_,_,_,_,_,_,region_imp ns ds hc zs hz gl (by have:=hg.len;omega) 14⟩] (by simp[hrl];first|exact F3|exact F4) (by first|exact Zs _|exact Zq _|exact Zt _|trivial|omega|(simp;done)|(simp;omega)) ?_
 refine Zd (fun K0_1 hK0_1=>?_)
 refine Yf 9 1 (by simp) ?_
 refine Zg (X:=Nat) [22,23] [17] (fun x=>[(24,.int .i64 x),(9,.os 17 (supN (fun v=>(Zv ns.length ds zs gl).getD v false) x).length 0 (supN (fun v=>(Zv ns.length ds zs gl).getD v false) x).length)]) (fun x=>[(17,.arr 1 (Zb (supN (fun v=>(Zv ns.length ds zs gl).getD v false) x)))]) (fun x=>x≤(Zv ns.length ds zs gl).length) (fun x=>(Zv ns.length ds zs gl).length - x) 0 (by simp) (by simp[supN,Zb,hrl]) ?_
 simp only[KN,keep,but,reduceIte,Nat.reduceEqDiff,Nat.reduceBEq]
 rintro k hlek KL2 hKL2
 refine R2 [] (by simp[hrl];first|exact F3|exact F4) ?_
 refine fl_C (fun c6=>?_) (fun c6=>?_)
 ·have hlt:k<(Zv ns.length ds zs gl).length:=by rw[hrl];simpa using c6
  have hkk:(Zv ns.length ds zs gl)[k]? = some (Zv ns.length ds zs gl)[k]:=by simp[hlt]
  have hd:=Lib.hid (List.drop_eq_getElem_cons hlt)
  have hln:k<ns.length:=by omega
  have hkd:(Zv ns.length ds zs gl).getD k false=(Zv ns.length ds zs gl)[k]:=by simp[hlt]
  have hsl:=Z3 (fun v=>(Zv ns.length ds zs gl).getD v false) k
  simp only[List.getD_eq_getElem?_getD] at hsl
  refine Zd (fun K1_3 hK1_3=>?_)
  refine R2 [] (by simp[hrl,hln,hkk];first|exact F3|exact F4) ?_
  rcases bf_ ((Zv ns.length ds zs gl)[k]) with h8_29|h8_29
  ·refine R2 [] (by simp[hkk,h8_29];first|exact F3|exact F4) ?_
   refine fl_T ?_
   refine R2 [] (by simp[hkk];first|exact F3|exact F4) ?_
   refine Zc (hK1_3 _ _ _ ?_)
   refine R2 [] (by simp[hkk];(try simp (disch:=omega) only[w64]);first|exact F3|exact F4) ?_
   exact hKL2 _ _ _ (k+1) (by omega) (by omega) (by simp[supN,hkd,Yk,hkk,hd.out,h8_29])
  ·refine R2 [] (by simp[hkk,h8_29];first|exact F3|exact F4) ?_
   refine fl_F ?_
   refine Zc (hK1_3 _ _ _ ?_)
   refine R2 [] (by simp[hkk];(try simp (disch:=omega) only[w64]);first|exact F3|exact F4) ?_
   exact hKL2 _ _ _ (k+1) (by omega) (by omega) (by simp[supN,hkd,Yk,hkk,hd.out,h8_29])
 ·have hge:(Zv ns.length ds zs gl).length≤k:=by rw[hrl];simpa using c6
  have hke:k=(Zv ns.length ds zs gl).length:=by have:k≤(Zv ns.length ds zs gl).length:=hlek;omega
  have hdn:=Lib.hid (List.drop_of_length_le hge)
  have hrn:regN ns.length ds zs gl=supN (fun v=>(Zv ns.length ds zs gl).getD v false) k:=by rw[regN,hke,hrl]
  refine Ze (show K0_1 _ _ _ from hK0_1 _ _ _ ?_)
  refine R0 ?_
  refine Za ?_
  refine⟨.inr rfl,17,?_⟩
  simp[hrn]
end
section
open Go Go.RowKit
theorem intsD_app(a b:List Int):Zb a++Zb b=Zb (a++b):=by simp[Zb]
theorem iidxF_eq(p:Int→Bool):∀ (l:List Int) (k:Nat),iidxF p l k=idx p l k
 | [],_=>rfl
 | x::l,k=>by simp only[iidxF,idx];rw[iidxF_eq p l]
structure DInv(p:Int→Bool)(l:List Int)(j:Nat)(cur:List Int):Prop where
 len:cur.length=l.length
 tk:cur.take (Yg p (l.take j)).length=Yg p (l.take j)
 dr:cur.drop j=l.drop j
 le:(Yg p (l.take j)).length≤j
theorem keepL_all{p:Int→Bool}{l:List Int}(h:∀ x∈l,p x=false):Yg p l=l:=by
 unfold Yg
 rw[List.filter_eq_self]
 intro x hx;rw[h x hx];rfl
theorem keepL_len(p:Int→Bool)(l:List Int):(Yg p l).length≤l.length:=List.length_filter_le _ _
theorem DInv.start{p:Int→Bool}{l:List Int}{i:Nat}(hi:i<l.length)(hp:p l[i]=true)(hb:∀ x∈l.take i,p x=false):DInv p l (i+1) l∧(Yg p (l.take (i+1))).length=i:=by
 have e:Yg p (l.take (i+1))=l.take i:=by rw[keepL_snoc p l i hi,hp,keepL_all hb];simp
 refine⟨⟨rfl,by rw[e];simp,rfl,by rw[e];simp;omega⟩,by rw[e];simp;omega⟩
theorem DInv.skip{p:Int→Bool}{l cur:List Int}{j:Nat}(h:DInv p l j cur)(hj:j<l.length)(hp:p l[j]=true):DInv p l (j+1) cur∧Yg p (l.take (j+1))=Yg p (l.take j):=by
 have e:Yg p (l.take (j+1))=Yg p (l.take j):=by rw[keepL_snoc p l j hj,hp];simp
 refine⟨⟨h.len,by rw[e];exact h.tk,?_,by rw[e];have:=h.le;omega⟩,e⟩
 have:=congrArg (List.drop 1) h.dr
 simpa only[List.drop_drop] using this
theorem DInv.put{p:Int→Bool}{l cur:List Int}{j:Nat}(h:DInv p l j cur)(hj:j<l.length)(hp:p l[j]=false):DInv p l (j+1) (cur.set (Yg p (l.take j)).length l[j])∧Yg p (l.take (j+1))=Yg p (l.take j)++[l[j]]:=by
 have e:Yg p (l.take (j+1))=Yg p (l.take j)++[l[j]]:=by rw[keepL_snoc p l j hj,hp];simp
 have hle:=h.le
 refine⟨⟨by simp[h.len],?_,?_,by rw[e];simp;omega⟩,e⟩
 ·rw[e]
  simp only[List.length_append,List.length_cons,List.length_nil]
  rw[List.take_succ_eq_append_getElem (by simp[h.len];omega)]
  rw[List.take_set_of_le (by omega),h.tk];simp
 ·have:=congrArg (List.drop 1) h.dr
  simp only[List.drop_drop] at this
  rw[List.drop_set_of_lt (by omega)];exact this
theorem DInv.at_{p:Int→Bool}{l cur:List Int}{j:Nat}(h:DInv p l j cur)(hj:j<l.length):cur[j]'(by rw[h.len];exact hj)=l[j]:=by
 have:=congrArg (fun x=>x[0]?) h.dr
 simpa[h.len,hj] using this
theorem delf_imp(l:List Int)(hl:l.length≤1000000)(p:Int→Bool)(c:Nat)(d1 d2:List D)(hq1:Clo d1)(hq2:Clo d2)(hp:∀ x∈l,Pure Tryz.prog G0 c (d1++.int .i64 x::d2) (.bool (p x)))(n nm:Nat)(hnm:n≠nm):Imp Tryz.prog G0 97 [.os n l.length 0 l.length,.fn (.func c) d1 d2] [(n,.arr 1 (Zb l))] nm (.os n l.length 0 (Yg p l).length) [(n,some (.arr 1 (Zb (Yg p l++List.replicate (l.length - (Yg p l).length) 0))))]:=by
 refine ZC (gl:=[(n,.arr 1 (Zb l))]) (nx1:=n+1) (hargs:=by simp[hq1.inn,hq2.inn]) Tryz.func97 rfl Tryz.ntmps97 ?_
 have hsp:=idx_splitD p l 0
 rw[← iidxF_eq] at hsp
 have hte:(Zb l).take l.length=Zb l:=List.take_of_length_le (by simp)
 refine R2 [] (by simp[hq1.v,hq2.v,hq1.l,hq2.l,hq1.n,hq2.n];first|exact F3|exact F4) ?_
 refine R2 [.p ⟨_,_,_,iidxf_pure l hl p c d1 d2 hq1 hq2 hp⟩] (by simp[hq1.v,hq2.v,hq1.l,hq2.l,hq1.n,hq2.n,hte];first|exact F3|exact F4) ?_
 refine R2 [] (by simp[hq1.v,hq2.v,hq1.l,hq2.l,hq1.n,hq2.n];first|exact F3|exact F4) ?_
 refine Zn (b:=iidxF p l 0 == -1) (by simp) (fun c2=>?_) (fun c2=>?_)
 ·have hall:∀ x∈l,p x=false:=by rcases hsp with⟨_,h⟩|⟨i,hi,h,_⟩;exact h;rw[h] at c2;simp at c2
  have hka:=keepL_all hall
  refine R2 [] (by simp[hq1.v,hq2.v,hq1.l,hq2.l,hq1.n,hq2.n];first|exact F3|exact F4) ?_
  refine Za ?_
  refine⟨.inr rfl,n+1,?_⟩
  simp[hka,hnm]
 ·obtain⟨i,hi,he,hpi,hbe⟩:∃ i,∃ h:i<l.length,iidxF p l 0=(i:Int)∧p l[i]=true∧∀ x∈l.take i,p x=false:=by rcases hsp with⟨h,_⟩|⟨i,hi,h,h2,h3⟩;rw[h] at c2;simp at c2;exact⟨i,hi,by rw[h];simp,h2,h3⟩
  obtain⟨hst,hkl0⟩:=DInv.start hi hpi hbe
  refine R2 [] (by simp[hq1.v,hq2.v,hq1.l,hq2.l,hq1.n,hq2.n];(try simp (disch:=omega) only[w64]);first|exact F3|exact F4) ?_
  refine Zd (fun K0_1 hK0_1=>?_)
  refine Zg (X:=Nat×List Int) [0,1] [n] (fun x=>[(5,.int .i64 (Yg p (l.take x.1)).length),(6,.int .i64 x.1)]) (fun x=>[(n,.arr 1 (Zb x.2))]) (fun x=>x.1≤l.length∧Hid (DInv p l x.1 x.2)) (fun x=>l.length - x.1) (i+1,l) (⟨by show i+1≤_;omega,Lib.hid hst⟩) (by simp[he,hkl0,hq1.l,hq2.l];omega) ?_
  simp only[KN,keep,but,reduceIte,Nat.reduceEqDiff,Nat.reduceBEq]
  rintro⟨j,cur⟩ ⟨hj,hD⟩ KL2 hKL2
  replace hj:j≤l.length:=hj
  replace hD:Hid (DInv p l j cur):=hD
  have hcl:=hD.out.len
  refine R2 [] (by simp[hq1.v,hq2.v,hq1.l,hq2.l,hq1.n,hq2.n,hcl];first|exact F3|exact F4) ?_
  refine fl_C (fun c5=>?_) (fun c5=>?_)
  ·have hjl:j<l.length:=by simpa using c5
   have hpx:=hp l[j] (List.getElem_mem hjl)
   have hcj:=hD.out.at_ hjl
   have hkl:(Yg p (l.take j)).length<l.length:=by have:=hD.out.le;omega
   refine Zd (fun K1_3 hK1_3=>?_)
   refine R2 [] (by simp[hq1.v,hq2.v,hq1.l,hq2.l,hq1.n,hq2.n,hcl,hcj,hjl];first|exact F3|exact F4) ?_
   rcases bf_ (p l[j]) with h8_28|h8_28
   ·refine R2 [.p ⟨_,_,_,hpx⟩] (by simp[hq1.v,hq2.v,hq1.l,hq2.l,hq1.n,hq2.n,h8_28];first|exact F3|exact F4) ?_
    refine fl_F ?_
    refine Zc (hK1_3 _ _ _ ?_)
    refine R2 [] (by simp[hq1.v,hq2.v,hq1.l,hq2.l,hq1.n,hq2.n];(try simp (disch:=omega) only[w64]);first|exact F3|exact F4) ?_
    exact hKL2 _ _ _ (j+1,cur) ⟨by show j+1≤_;omega,Lib.hid (hD.out.skip hjl h8_28).1⟩ (by show _<_;omega) (by simp[(hD.out.skip hjl h8_28).2,setI,hq1.l,hq2.l];try omega)
   ·refine R2 [.p ⟨_,_,_,hpx⟩] (by simp[hq1.v,hq2.v,hq1.l,hq2.l,hq1.n,hq2.n,h8_28];first|exact F3|exact F4) ?_
    refine fl_T ?_
    refine R2 [] (by simp[hq1.v,hq2.v,hq1.l,hq2.l,hq1.n,hq2.n,hcl,hkl];first|exact F3|exact F4) ?_
    refine R2 [] (by simp[hq1.v,hq2.v,hq1.l,hq2.l,hq1.n,hq2.n];(try simp (disch:=omega) only[w64]);first|exact F3|exact F4) ?_
    refine Zc (hK1_3 _ _ _ ?_)
    refine R2 [] (by simp[hq1.v,hq2.v,hq1.l,hq2.l,hq1.n,hq2.n];(try simp (disch:=omega) only[w64]);first|exact F3|exact F4) ?_
    exact hKL2 _ _ _ (j+1,cur.set (Yg p (l.take j)).length l[j]) ⟨by show j+1≤_;omega,Lib.hid (hD.out.put hjl h8_28).1⟩ (by show _<_;omega) (by simp[(hD.out.put hjl h8_28).2,setI,hq1.l,hq2.l];try omega)
  ·have hje:l.take j=l:=List.take_of_length_le (by simpa using c5)
   have hkl:=keepL_len p l
   have htk:=hD.out.tk
   rw[hje] at htk
   have hdr:(Zb cur).drop ((Yg p l).length+(l.length - (Yg p l).length))=[]:=List.drop_of_length_le (by simp[hcl];omega)
   refine Ze (show K0_1 _ _ _ from hK0_1 _ _ _ ?_)
   refine R2 [] (by simp[hq1.v,hq2.v,hq1.l,hq2.l,hq1.n,hq2.n,hcl,hje];first|exact F3|exact F4) ?_
   refine R2 [] (by simp[hq1.v,hq2.v,hq1.l,hq2.l,hq1.n,hq2.n,hcl,hje];first|exact F3|exact F4) ?_
   refine Za ?_
   refine⟨.inr rfl,n+1,?_⟩
   simp[hje,hcl,hnm,hdr,intsD_takek,htk,repI,intsD_app]
end
end Go.Proofs.YtjdgofpcmcobnaaGreatDoor.AL

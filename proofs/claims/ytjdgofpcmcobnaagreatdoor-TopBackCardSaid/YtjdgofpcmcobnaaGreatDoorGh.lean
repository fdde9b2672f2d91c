/-
  Contracts: earthing, plans, colours, supply, duty, hazards.
-/
import Derived.Test.YtjdgofpcmcobnaaGreatDoorGd
import Derived.Test.YtjdgofpcmcobnaaGreatDoorGg
import Derived.Test.YtjdgofpcmcobnaaGreatDoorGf
set_option maxRecDepth 100000
set_option maxHeartbeats 2000000
attribute [local simp] Go.Proofs.YtjdgofpcmcobnaaGreatDoor.AL.onesD Go.Proofs.YtjdgofpcmcobnaaGreatDoor.AL.oneD
set_option linter.unusedVariables false
set_option linter.unusedSimpArgs false
namespace Go.Proofs.YtjdgofpcmcobnaaGreatDoor.AL
section
open Go Go.RowKit
theorem prot3_pure(v:Int)(r:List Bool)(j:Nat)(hj:v=j)(hl:j<r.length):Pure Tryz.prog G0 183 [.int .i64 v,.vp [.sl (ZK r)]] (.bool (r.getD v.toNat false)):=by
 refine Zh Tryz.func183 rfl Tryz.ntmps183 ?_
 refine R0 ?_
 refine R2 [] (by simp[hj,hl];first|exact F3|exact F4) ?_
 refine Za ?_
 simp[hj,hl]
theorem protected_pure(ns:List Node)(ds:List Dev)(hc:Zk ns ds=0)(v:Nat)(hv:v<ns.length)(gl:List Int)(hl:gl.length≤1000000)(hg:∀ x∈gl,0≤x∧x<ns.length):Pure Tryz.prog G0 162 [netD ns ds,.int .i64 v,.sl (Zb gl)] (.bool (protB ns.length ds v gl)):=by
 refine Zh Tryz.func162 rfl Tryz.ntmps162 ?_
 obtain⟨g1,g2,_⟩:=Zj hc
 have hrl:(YW ns.length ds v gl).length=ns.length:=by rw[YW,Xl,floodS_len]
 have hmr:Yj (Xi ns.length (ds.zip (List.replicate ds.length true)) (Y2 gl) [v])=YW ns.length ds v gl:=rfl
 have htk:(ZK (YW ns.length ds v gl)).take ns.length=ZK (YW ns.length ds v gl):=List.take_of_length_le (by simp[hrl])
 have hnv:[[D.int .i64 (v:Int)]]=Zb (nats [v]):=rfl
 refine R0 ?_
 refine R0 ?_
 refine R0 ?_
 refine R [.b ⟨_,_,_,_,_,_,flood_imp ns ds (List.replicate ds.length true) g1 g2 (by simp) (Y2 gl) 182 181 [] [] [] [.vp [.sl (Zb gl)]] ZH ZH ZH (by exact⟨fun g k=>by simp[mapO,Zy],fun n=>by simp[D.los,D.lo],by simp[ZB,ZA]⟩) (fun i h=>by rw[List.getElem_replicate];exact always_pure i) (fun u _=>Xv u gl hl) [v] (by simp) (by simp) (by simpa using hv) (dev_across hc (by omega)) 11⟩] (by simp[hmr,hnv];first|exact F3|exact F4) (by first|exact Zq _|exact⟨Le.refl _,Zq _⟩|(simp[hnv];exact Zq _)) ?_
 refine R0 ?_
 refine Zd (fun K0_1 hK0_1=>?_)
 refine Zg (X:=Nat) [5,7,9,21,22] [] (fun x=>[(23,.int .i64 x)]) (fun x=>[]) (fun x=>x≤ds.length∧Hid (ds.any (srcB (YW ns.length ds v gl) gl)=(ds.drop x).any (srcB (YW ns.length ds v gl) gl))) (fun x=>ds.length - x) 0 (⟨by simp,Lib.hid rfl⟩) (by simp) ?_
 simp only[KN,keep,but,reduceIte,Nat.reduceEqDiff,Nat.reduceBEq]
 rintro k ⟨hlek,hrel⟩ KL2 hKL2
 refine R0 ?_
 refine fl_C (fun c5=>?_) (fun c5=>?_)
 ·have hlt:k<ds.length:=by simpa using c5
  have hkk:ds[k]? = some ds[k]:=by simp[hlt]
  have hd:=Lib.hid (List.drop_eq_getElem_cons hlt)
  obtain⟨⟨ha1,ha2⟩,_⟩:=dev_at hc (List.getElem_mem hlt)
  obtain⟨a,hda⟩:∃ a:Nat,ds[k].a=a:=⟨_,(Int.toNat_of_nonneg ha1).symm⟩
  have hal:a<ns.length:=by omega
  have hap:a<(YW ns.length ds v gl).length:=by rw[hrl];exact hal
  have hga:(YW ns.length ds v gl).getD a false=(YW ns.length ds v gl)[a]'hap:=by simp[hrl,hal]
  clear ha2
  generalize ds[k]=d at *
  refine Zd (fun K1_3 hK1_3=>?_)
  refine R2 [] (by simp[hkk];first|exact F3|exact F4) ?_
  rcases bf_ (d.kind==5) with h7_29|h7_29
  ·refine R2 [] (by simp[hkk,h7_29];first|exact F3|exact F4) ?_
   rcases bf_ ((YW ns.length ds v gl)[a]) with h8_41|h8_41
   ·rcases bf_ (ins gl (a:Int)) with h8_47|h8_47
    ·refine R2 [.p ⟨_,_,_,Xv d.a gl hl⟩] (by simp[hda,hal,hrl,hkk,h8_41,h8_47];first|exact F3|exact F4) ?_
     refine fl_F ?_
     refine Zc (hK1_3 _ _ _ ?_)
     refine R2 [] (by simp[hkk];(try simp (disch:=omega) only[w64]);first|exact F3|exact F4) ?_
     exact hKL2 _ _ _ (k+1) ⟨by omega,Lib.hid (by rw[hrel.out,hd.out,List.any_cons,show srcB (YW ns.length ds v gl) gl d=false from (by have h9:=h8_47;simp only[srcB,Y2,hda,Int.toNat_natCast,hga];try rw[show (gl.any fun x=>(a:Int)==x)=ins gl a from rfl];simp[hkk,hd.out,h7_29,h8_41,h8_47,h9]),Bool.false_or])⟩ (by omega) (by simp)
    ·refine R2 [.p ⟨_,_,_,Xv d.a gl hl⟩] (by simp[hda,hal,hrl,hkk,h8_41,h8_47];first|exact F3|exact F4) ?_
     refine fl_T ?_
     refine R2 [] (by simp[hkk];first|exact F3|exact F4) ?_
     refine Za ?_
     simp;exact Zp (by rw[protB,hrel.out,hd.out,List.any_cons,show srcB (YW ns.length ds v gl) gl d=true from (by have h9:=h8_47;simp only[srcB,Y2,hda,Int.toNat_natCast,hga];rw[show (gl.any fun x=>(a:Int)==x)=ins gl a from rfl];simp[hkk,hd.out,h7_29,h8_41,h8_47,h9])];rfl)
   ·refine R2 [] (by simp[hda,hal,hrl,hkk,h8_41];first|exact F3|exact F4) ?_
    refine fl_F ?_
    refine Zc (hK1_3 _ _ _ ?_)
    refine R2 [] (by simp[hkk];(try simp (disch:=omega) only[w64]);first|exact F3|exact F4) ?_
    exact hKL2 _ _ _ (k+1) ⟨by omega,Lib.hid (by rw[hrel.out,hd.out,List.any_cons,show srcB (YW ns.length ds v gl) gl d=false from (by simp only[srcB,Y2,hda,Int.toNat_natCast,hga];try rw[show (gl.any fun x=>(a:Int)==x)=ins gl a from rfl];simp[hkk,hd.out,h7_29,h8_41]),Bool.false_or])⟩ (by omega) (by simp)
  ·rcases bf_ (d.kind==6) with h7_33|h7_33
   ·refine R2 [] (by simp[hkk,h7_29,h7_33];first|exact F3|exact F4) ?_
    rcases bf_ ((YW ns.length ds v gl)[a]) with h8_41|h8_41
    ·rcases bf_ (ins gl (a:Int)) with h8_47|h8_47
     ·refine R2 [.p ⟨_,_,_,Xv d.a gl hl⟩] (by simp[hda,hal,hrl,hkk,h8_41,h8_47];first|exact F3|exact F4) ?_
      refine fl_F ?_
      refine Zc (hK1_3 _ _ _ ?_)
      refine R2 [] (by simp[hkk];(try simp (disch:=omega) only[w64]);first|exact F3|exact F4) ?_
      exact hKL2 _ _ _ (k+1) ⟨by omega,Lib.hid (by rw[hrel.out,hd.out,List.any_cons,show srcB (YW ns.length ds v gl) gl d=false from (by have h9:=h8_47;simp only[srcB,Y2,hda,Int.toNat_natCast,hga];try rw[show (gl.any fun x=>(a:Int)==x)=ins gl a from rfl];simp[hkk,hd.out,h7_29,h7_33,h8_41,h8_47,h9]),Bool.false_or])⟩ (by omega) (by simp)
     ·refine R2 [.p ⟨_,_,_,Xv d.a gl hl⟩] (by simp[hda,hal,hrl,hkk,h8_41,h8_47];first|exact F3|exact F4) ?_
      refine fl_T ?_
      refine R2 [] (by simp[hkk];first|exact F3|exact F4) ?_
      refine Za ?_
      simp;exact Zp (by rw[protB,hrel.out,hd.out,List.any_cons,show srcB (YW ns.length ds v gl) gl d=true from (by have h9:=h8_47;simp only[srcB,Y2,hda,Int.toNat_natCast,hga];rw[show (gl.any fun x=>(a:Int)==x)=ins gl a from rfl];simp[hkk,hd.out,h7_29,h7_33,h8_41,h8_47,h9])];rfl)
    ·refine R2 [] (by simp[hda,hal,hrl,hkk,h8_41];first|exact F3|exact F4) ?_
     refine fl_F ?_
     refine Zc (hK1_3 _ _ _ ?_)
     refine R2 [] (by simp[hkk];(try simp (disch:=omega) only[w64]);first|exact F3|exact F4) ?_
     exact hKL2 _ _ _ (k+1) ⟨by omega,Lib.hid (by rw[hrel.out,hd.out,List.any_cons,show srcB (YW ns.length ds v gl) gl d=false from (by simp only[srcB,Y2,hda,Int.toNat_natCast,hga];try rw[show (gl.any fun x=>(a:Int)==x)=ins gl a from rfl];simp[hkk,hd.out,h7_29,h7_33,h8_41]),Bool.false_or])⟩ (by omega) (by simp)
   ·refine R2 [] (by simp[hkk,h7_29,h7_33];first|exact F3|exact F4) ?_
    refine R2 [] (by simp[hda,hal,hrl,hkk];first|exact F3|exact F4) ?_
    refine fl_F ?_
    refine Zc (hK1_3 _ _ _ ?_)
    refine R2 [] (by simp[hkk];(try simp (disch:=omega) only[w64]);first|exact F3|exact F4) ?_
    exact hKL2 _ _ _ (k+1) ⟨by omega,Lib.hid (by rw[hrel.out,hd.out,List.any_cons,show srcB (YW ns.length ds v gl) gl d=false from (by simp only[srcB,Y2,hda,Int.toNat_natCast,hga];try rw[show (gl.any fun x=>(a:Int)==x)=ins gl a from rfl];simp[hkk,hd.out,h7_29,h7_33]),Bool.false_or])⟩ (by omega) (by simp)
 ·have hge:ds.length≤k:=by simpa using c5
  have hke:k=ds.length:=by have:k≤ds.length:=hlek;omega
  have hdn:=Lib.hid (List.drop_of_length_le hge)
  refine Ze (show K0_1 _ _ _ from hK0_1 _ _ _ ?_)
  refine R2 [.p ⟨_,_,_,ihasf_pure gl hl (fun x=>(YW ns.length ds v gl).getD x.toNat false) 183 [] [.vp [.sl (ZK (YW ns.length ds v gl))]] ZH (by exact⟨fun g k=>by simp[mapO,Zy],fun n=>by simp[D.los,D.lo],by simp[ZB,ZA]⟩) (fun x hx=>prot3_pure x (YW ns.length ds v gl) x.toNat (by have:=hg x hx;omega) (by have:=hg x hx;omega))⟩] (by simp[hrl,htk];first|exact F3|exact F4) ?_
  refine Za ?_
  simp;exact Zp (by rw[protB,hrel.out,hdn.out];rfl)
theorem missL_snoc(n:Nat)(ds:List Dev)(zs:List Nat)(gl:List Int)(k:Nat)(hk:k<zs.length):Xu n ds (zs.take (k+1)) gl=Xu n ds (zs.take k) gl++(if protB n ds zs[k] gl=true then [] else [zs[k]]):=by
 unfold Xu
 rw[List.take_succ_eq_append_getElem hk,List.filter_append]
 cases h:protB n ds zs[k] gl<;>simp[h]
theorem missL_len(n:Nat)(ds:List Dev)(zs:List Nat)(gl:List Int)(k:Nat):(Xu n ds (zs.take k) gl).length≤k:=Nat.le_trans (List.length_filter_le _ _) (by simp;omega)
theorem missing_pure(ns:List Node)(ds:List Dev)(hc:Zk ns ds=0)(zs:List Nat)(hz:ZOK ns zs)(gl:List Int)(hl:gl.length≤1000000)(hg:∀ x∈gl,0≤x∧x<ns.length):Pure Tryz.prog G0 118 [netD ns ds,.sl (Zb (nats zs)),.sl (Zb gl)] (.sl (Zb (nats (Xu ns.length ds zs gl)))):=by
 refine Zh Tryz.func118 rfl Tryz.ntmps118 ?_
 refine R0 ?_
 refine fl_scope (X:=Nat) 0 5 (fun x=>[(8,.int .i64 x),(7,.os 4 (Xu ns.length ds (zs.take x) gl).length 0 (Xu ns.length ds (zs.take x) gl).length),(1,.sl (Zb (nats zs))),(2,.sl (Zb gl)),(3,.bp 0 0)]) (fun x=>[(0,.box [nsD ns,dsD ds]),(4,.arr 1 (Zb (nats (Xu ns.length ds (zs.take x) gl))))]) (fun x=>x≤zs.length) (fun x=>zs.length - x) rfl (by omega) ?_ ?_
 ·rintro k hk K hK
  have hml:=missL_len ns.length ds zs gl k
  have hzl:=hz.len
  by_cases hlt:k<zs.length
  ·have hne:((k:Int)==(zs.length:Int))=false:=by simp;omega
   have hzk:zs[k]? = some zs[k]:=by simp[hlt]
   have hnk:(nats zs)[k]'(by simp[hlt])=(zs[k]:Int):=by simp[nats]
   have hp:=protected_pure ns ds hc zs[k] (hz.lt _ (List.getElem_mem hlt)) gl hl hg
   have hsn:=missL_snoc ns.length ds zs gl k hlt
   generalize zs[k]=z at *
   refine R2 [] (by simp[hne];first|exact F3|exact F4) ?_
   refine fl_F ?_
   rcases bf_ (protB ns.length ds z gl) with h1|h1
   ·refine R2 [.p ⟨_,_,_,hp⟩] (by simp[hzk,hlt,hnk,h1];first|exact F3|exact F4) ?_
    refine Zn (by first|rfl|(simp[h1];rfl)) (fun h=>by cases h) (fun _=>?_)
    refine R1 ?_
    exact awpL_goto ⟨rfl,hK _ _ _ (k+1) (by omega) (by omega) (by simp[hsn,h1])⟩
   ·refine R2 [.p ⟨_,_,_,hp⟩] (by simp[hzk,hlt,hnk,h1];first|exact F3|exact F4) ?_
    refine Zn (by first|rfl|(simp[h1];rfl)) (fun _=>?_) (fun h=>by cases h)
    refine R2 [] (by simp[hzk,hlt,hnk];first|exact F3|exact F4) ?_
    refine R1 ?_
    exact awpL_goto ⟨rfl,hK _ _ _ (k+1) (by omega) (by omega) (by simp[hsn,h1,Yk,YH,Zw])⟩
  ·have hke:k=zs.length:=by have:k≤zs.length:=hk;omega
   have hte:zs.take k=zs:=List.take_of_length_le (by omega)
   have htl:(Zb (nats (Xu ns.length ds zs gl))).take (Xu ns.length ds zs gl).length=Zb (nats (Xu ns.length ds zs gl)):=List.take_of_length_le (by simp)
   refine R2 [] (by simp[hke];first|exact F3|exact F4) ?_
   refine fl_T ?_
   refine R0 ?_
   refine Za ?_
   simp[hte,htl]
 ·intro K hK hp
  refine R0 ?_
  refine R0 ?_
  refine awpL_label ?_
  refine Yf 7 1 (by simp) ?_
  exact awpL_sub _ _ (by simp[Xu]) (by simp[Xu,Zb]) (hp 0 (by omega))
end
section
open Go Go.RowKit
theorem points1_pure(ns:List Node)(ds:List Dev)(r:List Bool)(g:Int)(j:Nat)(hj:g=j)(hl:j<ds.length)(ha:∀ d∈ds,(0≤d.a∧d.a<r.length)∧(Zu d.kind=true→0≤d.b∧d.b<r.length)):Pure Tryz.prog G0 101 [.int .i64 g,.vp [.sl (ZK r)],.vp [nsD ns,dsD ds]] (.bool (!(devB ds (atB r) g))):=by
 refine Zh Tryz.func101 rfl Tryz.ntmps101 ?_
 have hjj:ds[j]? = some ds[j]:=by simp[hl]
 obtain⟨q1,q2⟩:=ha _ (List.getElem_mem hl)
 have hdv:devB ds (atB r) g=atB r ds[j]:=by rw[hj,devB_at ds _ j hl]
 generalize ds[j]=d at *
 refine R0 ?_
 refine R2 [.p ⟨_,_,_,at_pure r d q1 q2⟩] (by simp[hj,hjj];first|exact F3|exact F4) ?_
 refine Za ?_
 simp[hdv]
theorem points_pure(ns:List Node)(ds:List Dev)(hc:Zk ns ds=0)(zs:List Nat)(hz:ZOK ns zs)(l:List Lk)(h:ZF ns ds l=0):Pure Tryz.prog G0 61 [netD ns ds,.sl (l.map Zm),.sl (Zb (nats zs))] (.tup [.sl (Zb (pointsL ns.length ds zs l)),.int .i64 0]):=by
 refine Zh Tryz.func61 rfl Tryz.ntmps61 ?_
 obtain⟨g1,g2,_⟩:=Zj hc
 have hrl:=Xm ns.length ds zs (ZR ds l)
 have hgl:(ZR ds l).length≤ds.length:=Z3 _ _
 have hgm:∀ x∈ZR ds l,∃ j:Nat,x=j∧j<ds.length:=fun x hx=>by obtain⟨j,h1,h2,_⟩:=(Yt _ _ _).1 hx;exact⟨j,h1,h2⟩
 have htk:(ZK (Zv ns.length ds zs (ZR ds l))).take ns.length=ZK (Zv ns.length ds zs (ZR ds l)):=List.take_of_length_le (by simp[hrl])
 refine R0 ?_
 refine R [.b ⟨_,_,_,_,_,_,zlocked_imp ns ds hc zs hz l h 6⟩] (by simp;first|exact F3|exact F4) (by first|exact Zs _|exact Zq _|exact Zt _|trivial|omega|(simp;done)|(simp;omega)) ?_
 refine R0 ?_
 refine fl_F ?_
 refine R [.b ⟨_,_,_,_,_,_,region_imp ns ds hc zs hz (ZR ds l) (by omega) 17⟩] (by simp[hrl];first|exact F3|exact F4) (by first|exact Zs _|exact Zq _|exact Zt _|trivial|omega|(simp;done)|(simp;omega)) ?_
 refine YT [0,17,18] ?_
 refine R2 [.i ⟨_,_,_,_,_,_,delf_imp (ZR ds l) (by omega) (fun x=>!(devB ds (atB (Zv ns.length ds zs (ZR ds l))) x)) 101 [] [.vp [.sl (ZK (Zv ns.length ds zs (ZR ds l)))],.vp [nsD ns,dsD ds]] ZH (by exact⟨fun g k=>by simp[mapO,Zy],fun n=>by simp[D.los,D.lo],by simp[ZB,ZA]⟩) (fun x hx=>by obtain⟨j,e,hj⟩:=hgm x hx;exact points1_pure ns ds _ x j e hj (fun d hd=>by rw[hrl];exact dev_at hc hd)) 6 22 (by decide)⟩] (by simp[hrl,htk];first|exact F3|exact F4) ?_
 refine Za ?_
 simp[pointsL,intsD_takek,Nat.add_sub_of_le (keepL_len (fun x=>!(devB ds (atB (Zv ns.length ds zs (ZR ds l))) x)) (ZR ds l)),keepL_len]
theorem counted2_pure(ns:List Node)(ds:List Dev)(v x:Int)(j:Nat)(hj:x=j)(hl:j<ds.length):Pure Tryz.prog G0 107 [.int .i64 x,.vp [nsD ns,dsD ds],.vp [.int .i64 v]] (.bool (devB ds (fun d=>d.a==v) x)):=by
 refine Zh Tryz.func107 rfl Tryz.ntmps107 ?_
 have hjj:ds[j]? = some ds[j]:=by simp[hl]
 have hdv:devB ds (fun d=>d.a==v) x=(ds[j].a==v):=by rw[hj,devB_at ds _ j hl]
 generalize ds[j]=d at *
 refine R0 ?_
 refine R2 [] (by simp[hj,hjj];first|exact F3|exact F4) ?_
 refine Za ?_
 simp[hdv]
theorem counted1_pure(ns:List Node)(ds:List Dev)(el:List Int)(hl:el.length≤1000000)(he:∀ x∈el,∃ j:Nat,x=j∧j<ds.length)(v:Int):Pure Tryz.prog G0 106 [.int .i64 v,.vp [.sl (Zb el)],.vp [nsD ns,dsD ds]] (.bool (!(el.any (fun d=>devB ds (fun x=>x.a==v) d)))):=by
 refine Zh Tryz.func106 rfl Tryz.ntmps106 ?_
 refine R0 ?_
 refine R6 [.p ⟨_,_,_,ihasf_pure el hl (fun d=>devB ds (fun x=>x.a==v) d) 107 [] [.vp [nsD ns,dsD ds],.vp [.int .i64 v]] ZH (by exact⟨fun g k=>by simp[mapO,Zy],fun n=>by simp[D.los,D.lo],by simp[ZB,ZA]⟩) (fun x hx=>by obtain⟨j,e,hj⟩:=he x hx;exact counted2_pure ns ds v x j e hj)⟩] ?_
 refine Za ?_
 simp
theorem counted_pure(ns:List Node)(ds:List Dev)(hc:Zk ns ds=0)(zs:List Nat)(hz:ZOK ns zs)(l:List Lk)(h:ZF ns ds l=0):Pure Tryz.prog G0 62 [netD ns ds,.sl (l.map Zm),.sl (Zb (nats zs))] (.tup [.sl (Zb (countedL ns.length ds zs l)),.int .i64 0]):=by
 refine Zh Tryz.func62 rfl Tryz.ntmps62 ?_
 obtain⟨g1,g2,_⟩:=Zj hc
 have hgl:(ZR ds l).length≤ds.length:=Z3 _ _
 have hel:(Yu ds l).length≤ds.length:=Z3 _ _
 have hrn:(regN ns.length ds zs (ZR ds l)).length≤ns.length:=Z3 _ _
 have hem:∀ x∈Yu ds l,∃ j:Nat,x=j∧j<ds.length:=fun x hx=>by obtain⟨j,h1,h2,_⟩:=(Yt _ _ _).1 hx;exact⟨j,h1,h2⟩
 have hgg:GG ds (ZR ds l):=GG.those g2 1 l
 have htk:(Zb (Yu ds l)).take (Yu ds l).length=Zb (Yu ds l):=List.take_of_length_le (by simp)
 refine R0 ?_
 refine R [.b ⟨_,_,_,_,_,_,earths_imp ns ds l h 5⟩] (by simp;first|exact F3|exact F4) (by first|exact Zs _|exact Zq _|exact Zt _|trivial|omega|(simp;done)|(simp;omega)) ?_
 refine R0 ?_
 refine fl_F ?_
 refine R [.b ⟨_,_,_,_,_,_,gaps_imp ns ds l h 16⟩] (by simp;first|exact F3|exact F4) (by first|exact Zs _|exact Zq _|exact Zt _|trivial|omega|(simp;done)|(simp;omega)) ?_
 refine R [.b ⟨_,_,_,_,_,_,Region_imp ns ds hc zs hz (ZR ds l) hgg 25⟩] (by simp;first|exact F3|exact F4) (by first|exact Zs _|exact Zq _|exact Zt _|trivial|omega|(simp;done)|(simp;omega)) ?_
 refine R0 ?_
 refine fl_F ?_
 refine YT [0,5,9] ?_
 refine R2 [.i ⟨_,_,_,_,_,_,delf_imp (regN ns.length ds zs (ZR ds l)) (by omega) (fun v=>!((Yu ds l).any (fun d=>devB ds (fun x=>x.a==v) d))) 106 [] [.vp [.sl (Zb (Yu ds l))],.vp [nsD ns,dsD ds]] ZH (by exact⟨fun g k=>by simp[mapO,Zy],fun n=>by simp[D.los,D.lo],by simp[ZB,ZA]⟩) (fun x hx=>counted1_pure ns ds _ (by omega) hem x) 25 35 (by decide)⟩] (by simp[htk];first|exact F3|exact F4) ?_
 refine Za ?_
 simp[countedL,intsD_takek,Nat.add_sub_of_le (keepL_len (fun v=>!((Yu ds l).any (fun d=>devB ds (fun x=>x.a==v) d))) (regN ns.length ds zs (ZR ds l))),keepL_len]
theorem Missing_pure(ns:List Node)(ds:List Dev)(hc:Zk ns ds=0)(zs:List Nat)(hz:ZOK ns zs)(l:List Lk)(h:ZF ns ds l=0):Pure Tryz.prog G0 76 [netD ns ds,.sl (l.map Zm),.sl (Zb (nats zs))] (.tup [.sl (Zb (nats (Xu ns.length ds zs (countedL ns.length ds zs l)))),.int .i64 0]):=by
 refine Zh Tryz.func76 rfl Tryz.ntmps76 ?_
 obtain⟨g1,g2,_⟩:=Zj hc
 have hcl:=countedL_len ns.length ds zs l
 refine R0 ?_
 refine R6 [.p ⟨_,_,_,counted_pure ns ds hc zs hz l h⟩] ?_
 refine R0 ?_
 refine fl_F ?_
 refine R6 [.p ⟨_,_,_,missing_pure ns ds hc zs hz (countedL ns.length ds zs l) (by omega) (fun x hx=>countedL_ok hx)⟩] ?_
 refine Za ?_
 simp
theorem sides_pure(ns:List Node)(ds:List Dev)(hc:Zk ns ds=0)(zs:List Nat)(hz:ZOK ns zs)(l:List Lk)(h:ZF ns ds l=0):Pure Tryz.prog G0 42 [netD ns ds,.sl (l.map Zm),.sl (Zb (nats zs))] (.tup [.bool (Xu ns.length ds zs (countedL ns.length ds zs l)).isEmpty,.int .i64 0]):=by
 refine Zh Tryz.func42 rfl Tryz.ntmps42 ?_
 have hie:(((Xu ns.length ds zs (countedL ns.length ds zs l)).length:Int)==0)=(Xu ns.length ds zs (countedL ns.length ds zs l)).isEmpty:=by cases (Xu ns.length ds zs (countedL ns.length ds zs l))<;>simp;omega
 refine R0 ?_
 refine R6 [.p ⟨_,_,_,Missing_pure ns ds hc zs hz l h⟩] ?_
 refine R2 [] (by simp[hie];first|exact F3|exact F4) ?_
 refine Za ?_
 simp[hie]
theorem secure_pure(ns:List Node)(ds:List Dev)(hc:Zk ns ds=0)(zs:List Nat)(hz:ZOK ns zs)(l:List Lk)(h:ZF ns ds l=0):Pure Tryz.prog G0 14 [netD ns ds,.sl (l.map Zm),.sl (Zb (nats zs))] (.tup [.bool (secureB ns.length ds zs l),.int .i64 0]):=by
 refine Zh Tryz.func14 rfl Tryz.ntmps14 ?_
 refine R0 ?_
 refine R6 [.p ⟨_,_,_,isolated_pure ns ds hc zs hz l h⟩] ?_
 rcases bf_ (enoughB ns.length ds zs (ZR ds l)) with h2_20|h2_20
 ·refine R2 [] (by simp[h2_20];first|exact F3|exact F4) ?_
  refine fl_F ?_
  refine R6 [.p ⟨_,_,_,sides_pure ns ds hc zs hz l h⟩] ?_
  refine Za ?_
  simp[secureB,h2_20]
 ·refine R2 [] (by simp[h2_20];first|exact F3|exact F4) ?_
  refine fl_T ?_
  refine R0 ?_
  refine Za ?_
  simp[secureB,h2_20]
end
section
open Go Go.RowKit
theorem ord_neg{a b:Lk}(h:a.dev<b.dev):decide (0≤ordL a b)=false:=by
 have h1:cmpI a.dev b.dev = -1:=by unfold cmpI;rw[if_pos h]
 unfold ordL
 rw[h1]
 simp[orI]
theorem locks_ok{ns:List Node}{ds:List Dev}{l:List Lk}(hc:Zk ns ds=0)(hlen:l.length≤128)(hE:∀ x∈l,lkE ds x=0)(hs:l.Pairwise (fun a b=>a.dev<b.dev))(hk:l.Pairwise (fun a b=>a.key≠b.key)):ZF ns ds l=0:=by
 unfold ZF
 rw[if_neg (by rw[hc];simp),if_neg (by omega)]
 have key:∀ n k,n=l.length - k→k≤l.length→lkG ds l (l.drop k) k=0:=by
  intro n
  induction n with
  | zero=>intro k h1 h2;rw[List.drop_of_length_le (by omega)];rfl
  | succ n ih =>
   intro k h1 h2
   have hlt:k<l.length:=by omega
   rw[List.drop_eq_getElem_cons hlt]
   have hat:lkAt ds l k l[k]=0:=by
    unfold lkAt
    rw[if_neg (by rw[hE _ (List.getElem_mem hlt)];simp)]
    have hbef:∀ y∈l.take k,y.dev<l[k].dev∧y.key≠l[k].key:=by
     intro y hy
     obtain⟨j,hj,rfl⟩:=List.getElem_of_mem hy
     simp only[List.length_take] at hj
     simp only[List.getElem_take]
     exact⟨List.pairwise_iff_getElem.1 hs j k (by omega) hlt (by omega),List.pairwise_iff_getElem.1 hk j k (by omega) hlt (by omega)⟩
    have h0:lkO l k l[k]=false:=by
     cases k with
     | zero=>rfl
     | succ j =>
      rw[lkO_succ l j _ (by omega)]
      exact ord_neg (List.pairwise_iff_getElem.1 hs j (j+1) (by omega) hlt (by omega))
    rw[if_neg (by rw[h0];simp),if_neg,if_neg]
    ·intro h
     obtain⟨y,hy,he⟩:=List.any_eq_true.1 h
     exact (hbef y hy).2 (by simpa using he)
    ·intro h
     obtain⟨y,hy,he⟩:=List.any_eq_true.1 h
     have:=(hbef y hy).1
     simp at he
     omega
   unfold lkG
   rw[if_neg (by rw[hat];simp)]
   exact ih (k+1) (by omega) (by omega)
 have:=key _ 0 rfl (by omega)
 simpa using this
def Xd(ds:List Dev)(st:List Int)(i:Nat):Bool:=(gapB ((ds.map (·.kind)).getD i 0)&&(PO.at_ st i==1))||(((ds.map (·.kind)).getD i 0==4)&&(PO.at_ st i==2))
def Yh(ds:List Dev)(st:List Int):Nat→List Lk
 | 0=>[]
 | k+1=>Yh ds st k++(if Xd ds st k=true then [⟨k,PO.at_ st k,k⟩] else [])
abbrev Zo(ds:List Dev)(st:List Int):List Lk:=Yh ds st ds.length
theorem Yz(ds:List Dev)(st:List Int):∀ (k:Nat) (x:Lk),x∈Yh ds st k↔∃ j:Nat,j<k∧Xd ds st j=true∧x=⟨j,PO.at_ st j,j⟩
 | 0,x=>by simp[Yh]
 | k+1,x=>by
  rw[Yh,List.mem_append,Yz ds st k x]
  constructor
  ·rintro (⟨j,h1,h2,h3⟩|h)
   ·exact⟨j,by omega,h2,h3⟩
   ·split at h
    ·rename_i hb
     exact⟨k,by omega,hb,by simpa using h⟩
    ·simp at h
  ·rintro⟨j,h1,h2,h3⟩
   rcases Nat.lt_or_ge j k with h|h
   ·exact .inl ⟨j,h,h2,h3⟩
   ·obtain rfl:j=k:=by omega
    right;rw[if_pos h2];simp[h3]
theorem locksP_len(ds:List Dev)(st:List Int):∀ k,(Yh ds st k).length≤k
 | 0=>by simp[Yh]
 | k+1=>by
  have:=locksP_len ds st k
  rw[Yh]
  split<;>simp<;>omega
theorem locksP_pw(ds:List Dev)(st:List Int):∀ k,(Yh ds st k).Pairwise (fun a b=>a.dev<b.dev)∧(Yh ds st k).Pairwise (fun a b=>a.key≠b.key)
 | 0=>by simp[Yh]
 | k+1=>by
  obtain⟨h1,h2⟩:=locksP_pw ds st k
  rw[Yh]
  split
  ·refine⟨List.pairwise_append.2 ⟨h1,by simp,fun a ha b hb=>?_⟩,List.pairwise_append.2 ⟨h2,by simp,fun a ha b hb=>?_⟩⟩
   ·obtain⟨j,hj,_,rfl⟩:=(Yz ds st k a).1 ha
    obtain rfl:b=⟨k,PO.at_ st k,k⟩:=by simpa using hb
    simp;omega
   ·obtain⟨j,hj,_,rfl⟩:=(Yz ds st k a).1 ha
    obtain rfl:b=⟨k,PO.at_ st k,k⟩:=by simpa using hb
    simp;omega
  ·simpa using ⟨h1,h2⟩
theorem locksL_ok{ns:List Node}{ds:List Dev}{st:List Int}(hc:Zk ns ds=0)(hs:StOK ds st):ZF ns ds (Zo ds st)=0:=by
 have hl:=(Zj hc).2.1
 have hlen:=locksP_len ds st ds.length
 refine locks_ok hc (by show (Yh ds st ds.length).length≤_;omega) (fun x hx=>?_) (locksP_pw ds st _).1 (locksP_pw ds st _).2
 obtain⟨j,hj,hb,rfl⟩:=(Yz ds st _ x).1 hx
 have hjs:j<st.length:=by rw[hs.1];exact hj
 have hp:=hs.2 st[j] (List.getElem_mem hjs)
 have ha:PO.at_ st j=st[j]:=by simp[PO.at_,hjs]
 unfold lkE
 rw[if_neg (by simp;omega),if_neg,if_neg (by simp only[ha];omega),if_neg (by simp;omega)]
 intro h5
 have h5:(ds.map (·.kind)).getD j 0=5:=h5
 unfold Xd at hb
 rw[h5] at hb
 simp[gapB] at hb
theorem plocks_imp(ns:List Node)(ds:List Dev)(hc:Zk ns ds=0)(st:List Int)(hs:StOK ds st)(nm:Nat):Imp Tryz.prog G0 60 [netD ns ds,.sl (Zb st)] [] nm (.os nm (Zo ds st).length 0 (Zo ds st).length) [(nm,some (.arr 3 ((Zo ds st).map Zm)))]:=by
 refine ZC (gl:=[]) (nx1:=0) Tryz.func60 rfl Tryz.ntmps60 ?_
 obtain⟨g1,g2,_⟩:=Zj hc
 have hsl:=hs.1
 refine R0 ?_
 refine R0 ?_
 refine R0 ?_
 refine Zd (fun K0_1 hK0_1=>?_)
 refine Yf 5 3 (by simp) ?_
 refine Zg (X:=Nat) [1,10,11] [7] (fun x=>[(12,.int .i64 x),(5,.os 7 (Yh ds st x).length 0 (Yh ds st x).length)]) (fun x=>[(7,.arr 3 ((Yh ds st x).map Zm))]) (fun x=>x≤ds.length) (fun x=>ds.length - x) 0 (by simp) (by simp[Yh]) ?_
 simp only[KN,keep,but,reduceIte,Nat.reduceEqDiff,Nat.reduceBEq]
 rintro k hlek KL2 hKL2
 refine R0 ?_
 refine fl_C (fun c3=>?_) (fun c3=>?_)
 ·have hlt:k<ds.length:=by simpa using c3
  have hkk:ds[k]? = some ds[k]:=by simp[hlt]
  have hd:=Lib.hid (List.drop_eq_getElem_cons hlt)
  have hkd:(ds.map (·.kind)).getD k 0=ds[k].kind:=by simp[hlt]
  have hll:=locksP_len ds st k
  have hks:k<st.length:=by omega
  have hat:PO.at_ st k=st[k]:=by simp[PO.at_,hks]
  have hkk2:st[k]? = some st[k]:=by simp[hks]
  generalize st[k]=p at *
  generalize ds[k]=d at *
  refine Zd (fun K1_3 hK1_3=>?_)
  refine R2 [] (by simp[hkk];first|exact F3|exact F4) ?_
  rcases bf_ (gapB d.kind) with h5_19|h5_19
  ·rcases bf_ (p==1) with h5_25|h5_25
   ·refine R2 [.p ⟨_,_,_,gap_pure d.kind⟩] (by simp[hkk2,hkk,h5_19,h5_25];first|exact F3|exact F4) ?_
    refine R2 [] (by simp[hkk2,hkk];first|exact F3|exact F4) ?_
    refine fl_T ?_
    refine R2 [] (by simp[hkk2,hkk];first|exact F3|exact F4) ?_
    refine Zc (hK1_3 _ _ _ ?_)
    refine R2 [] (by simp[hkk];(try simp (disch:=omega) only[w64]);first|exact F3|exact F4) ?_
    exact hKL2 _ _ _ (k+1) (by omega) (by omega) (by simp[Yh,Xd,hkd,hat,hkk,hd.out,h5_19,h5_25])
   ·refine R2 [.p ⟨_,_,_,gap_pure d.kind⟩] (by simp[hkk2,hkk,h5_19,h5_25];first|exact F3|exact F4) ?_
    rcases bf_ (d.kind==4) with h6_31|h6_31
    ·rcases bf_ (p==2) with h6_37|h6_37
     ·refine R2 [] (by simp[hkk2,hkk,h6_31,h6_37];first|exact F3|exact F4) ?_
      refine fl_T ?_
      refine R2 [] (by simp[hkk2,hkk];first|exact F3|exact F4) ?_
      refine Zc (hK1_3 _ _ _ ?_)
      refine R2 [] (by simp[hkk];(try simp (disch:=omega) only[w64]);first|exact F3|exact F4) ?_
      exact hKL2 _ _ _ (k+1) (by omega) (by omega) (by simp[Yh,Xd,hkd,hat,hkk,hd.out,h5_19,h5_25,h6_31,h6_37])
     ·refine R2 [] (by simp[hkk2,hkk,h6_31,h6_37];first|exact F3|exact F4) ?_
      refine fl_F ?_
      refine Zc (hK1_3 _ _ _ ?_)
      refine R2 [] (by simp[hkk];(try simp (disch:=omega) only[w64]);first|exact F3|exact F4) ?_
      exact hKL2 _ _ _ (k+1) (by omega) (by omega) (by simp[Yh,Xd,hkd,hat,hkk,hd.out,h5_19,h5_25,h6_31,h6_37])
    ·refine R2 [] (by simp[hkk2,hkk,h6_31];first|exact F3|exact F4) ?_
     refine fl_F ?_
     refine Zc (hK1_3 _ _ _ ?_)
     refine R2 [] (by simp[hkk];(try simp (disch:=omega) only[w64]);first|exact F3|exact F4) ?_
     exact hKL2 _ _ _ (k+1) (by omega) (by omega) (by simp[Yh,Xd,hkd,hat,hkk,hd.out,h5_19,h5_25,h6_31])
  ·refine R2 [.p ⟨_,_,_,gap_pure d.kind⟩] (by simp[hkk2,hkk,h5_19];first|exact F3|exact F4) ?_
   rcases bf_ (d.kind==4) with h6_31|h6_31
   ·rcases bf_ (p==2) with h6_37|h6_37
    ·refine R2 [] (by simp[hkk2,hkk,h6_31,h6_37];first|exact F3|exact F4) ?_
     refine fl_T ?_
     refine R2 [] (by simp[hkk2,hkk];first|exact F3|exact F4) ?_
     refine Zc (hK1_3 _ _ _ ?_)
     refine R2 [] (by simp[hkk];(try simp (disch:=omega) only[w64]);first|exact F3|exact F4) ?_
     exact hKL2 _ _ _ (k+1) (by omega) (by omega) (by simp[Yh,Xd,hkd,hat,hkk,hd.out,h5_19,h6_31,h6_37])
    ·refine R2 [] (by simp[hkk2,hkk,h6_31,h6_37];first|exact F3|exact F4) ?_
     refine fl_F ?_
     refine Zc (hK1_3 _ _ _ ?_)
     refine R2 [] (by simp[hkk];(try simp (disch:=omega) only[w64]);first|exact F3|exact F4) ?_
     exact hKL2 _ _ _ (k+1) (by omega) (by omega) (by simp[Yh,Xd,hkd,hat,hkk,hd.out,h5_19,h6_31,h6_37])
   ·refine R2 [] (by simp[hkk2,hkk,h6_31];first|exact F3|exact F4) ?_
    refine fl_F ?_
    refine Zc (hK1_3 _ _ _ ?_)
    refine R2 [] (by simp[hkk];(try simp (disch:=omega) only[w64]);first|exact F3|exact F4) ?_
    exact hKL2 _ _ _ (k+1) (by omega) (by omega) (by simp[Yh,Xd,hkd,hat,hkk,hd.out,h5_19,h6_31])
 ·have hge:ds.length≤k:=by simpa using c3
  have hke:k=ds.length:=by have:k≤ds.length:=hlek;omega
  have hdn:=Lib.hid (List.drop_of_length_le hge)
  refine Ze (show K0_1 _ _ _ from hK0_1 _ _ _ ?_)
  refine R0 ?_
  refine Za ?_
  refine⟨.inr rfl,7,?_⟩
  simp[hke]
theorem secured_pure(ns:List Node)(ds:List Dev)(hc:Zk ns ds=0)(zs:List Nat)(hz:ZOK ns zs)(st:List Int)(hs:StOK ds st):Pure Tryz.prog G0 58 [netD ns ds,.sl (Zb st),.sl (Zb (nats zs))] (.bool (secureB ns.length ds zs (Zo ds st))):=by
 refine Zh Tryz.func58 rfl Tryz.ntmps58 ?_
 refine R0 ?_
 refine R [.b ⟨_,_,_,_,_,_,plocks_imp ns ds hc st hs 5⟩,.p ⟨_,_,_,secure_pure ns ds hc zs hz (Zo ds st) (locksL_ok hc hs)⟩] (by simp;first|exact F3|exact F4) (by first|exact Zs _|exact Zq _|exact Zt _|trivial|omega|(simp;done)|(simp;omega)) ?_
 refine R0 ?_
 refine Za ?_
 simp
end
section
open Go Go.RowKit
theorem floodS_D(n:Nat)(ds:List Dev)(st:List Int)(gs:List Nat):Xi n (ds.zip (YF st)) (fun _=>false) gs=Xh n ds st gs:=rfl
theorem useOf_len(st:List Int):(YF st).length=st.length:=by simp[YF]
theorem fillP_stp(out:List Int)(bs:List Bool)(v:Int)(k:Nat)(h1:k<out.length)(h2:k<bs.length):fillP out (bs.take (k+1)) v=(if bs[k]=true then (fillP out (bs.take k) v).set k v else fillP out (bs.take k) v):=by
 induction out generalizing bs k with
 | nil=>simp at h1
 | cons o os ih =>
  cases bs with
  | nil=>simp at h2
  | cons b bs =>
   cases k with
   | zero=>cases b<;>simp[fillP]<;>cases os<;>rfl
   | succ k =>
    simp only[List.take_succ_cons,fillP,List.getElem_cons_succ]
    rw[ih bs k (by simpa using h1) (by simpa using h2)]
    by_cases hb:bs[k]'(by simpa using h2)=true<;>simp[hb]
theorem fillP_none(out:List Int)(v:Int):fillP out [] v=out:=by cases out<;>rfl
theorem parts_pure(ns:List Node)(ds:List Dev)(hc:Zk ns ds=0)(hn:1≤ns.length)(st:List Int)(hs:StOK ds st):Pure Tryz.prog G0 77 [netD ns ds,.sl (Zb st)] (.sl (Zb (partsL ns.length ds st))):=by
 refine Zh Tryz.func77 rfl Tryz.ntmps77 ?_
 obtain⟨g1,g2,_⟩:=Zj hc
 have hsl:=hs.1
 have htk:(Zb (partsL ns.length ds st)).take ns.length=Zb (partsL ns.length ds st):=List.take_of_length_le (by simp[Yd])
 refine R0 ?_
 refine R0 ?_
 refine R0 ?_
 refine Zd (fun K0_1 hK0_1=>?_)
 refine Zg (X:=Nat) [2,3,5,17] [6] (fun x=>[(18,.int .i64 x)]) (fun x=>[(6,.arr 1 (Zb (List.replicate x (-1)++List.replicate (ns.length - x) 0)))]) (fun x=>x≤ns.length) (fun x=>ns.length - x) 0 ((by simp)) (by simp[repI]) ?_
 simp only[KN,keep,but,reduceIte,Nat.reduceEqDiff,Nat.reduceBEq]
 rintro k hk KL2 hKL2
 refine R0 ?_
 refine fl_C (fun c3=>?_) (fun c3=>?_)
 ·have hlt:k<ns.length:=by simpa using c3
  have hst:(List.replicate k (-1:Int)++List.replicate (ns.length - k) 0).set k (-1)=List.replicate (k+1) (-1)++List.replicate (ns.length - (k+1)) 0:=by rw[set_tail _ k (ns.length - k) 0 (-1) (by simp) (by omega),← List.replicate_succ',Nat.sub_sub]
  have hll:k+(ns.length - k)=ns.length:=by omega
  have hzz:(List.replicate k (-1:Int)++List.replicate (ns.length - k) 0)[k]? = some 0:=by rw[List.getElem?_append_right (by simp),List.length_replicate,Nat.sub_self,List.getElem?_replicate,if_pos (by omega)]
  refine Zd (fun K1_3 hK1_3=>?_)
  refine R2 [] (by simp[hlt,hll,hzz];first|exact F3|exact F4) ?_
  refine R2 [] (by simp[hlt,hll,hzz];first|exact F3|exact F4) ?_
  refine Zc (hK1_3 _ _ _ ?_)
  refine R2 [] (by simp[hlt,hll,hzz];(try simp (disch:=omega) only[w64]);first|exact F3|exact F4) ?_
  exact hKL2 _ _ _ (k+1) (by show k+1≤_;omega) (by show _<_;omega) (by simp[setI,hst])
 ·have hke:k=ns.length:=Nat.le_antisymm hk (by simpa using c3)
  refine Ze (show K0_1 _ _ _ from hK0_1 _ _ _ ?_)
  refine R0 ?_
  refine R0 ?_
  refine R2 [] (by simp[hke];first|exact F3|exact F4) ?_
  refine Zd (fun K2_4 hK2_4=>?_)
  refine Zg (X:=Nat) [2,5,7,8,27] [6] (fun x=>[(28,.int .i64 x)]) (fun x=>[(6,.arr 1 (Zb (Z6 ns.length ds st x)))]) (fun x=>x≤ns.length) (fun x=>ns.length - x) 0 ((by simp)) (by simp[hke,Z6]) ?_
  simp only[KN,keep,but,reduceIte,Nat.reduceEqDiff,Nat.reduceBEq]
  rintro v hv KL5 hKL5
  have hpl:(Z6 ns.length ds st v).length=ns.length:=partsTo_len _ _ _ _
  refine R0 ?_
  refine fl_C (fun c10=>?_) (fun c10=>?_)
  ·have hvn:v<ns.length:=by simpa using c10
   have hvl:v<(Z6 ns.length ds st v).length:=by omega
   have hva:(Z6 ns.length ds st v)[v]=PO.at_ (Z6 ns.length ds st v) v:=by simp[PO.at_,hvl]
   have hsu:=partsTo_succ ns.length ds st v
   unfold partStep at hsu
   have hnv:[[D.int .i64 (v:Int)]]=Zb (nats [v]):=rfl
   have hml:(Yj (Xh ns.length ds st [v])).length=ns.length:=by rw[← floodS_D,Xl,floodS_len]
   refine Zd (fun K3_6 hK3_6=>?_)
   refine R2 [] (by simp[hvn];first|exact F3|exact F4) ?_
   refine R2 [] (by simp[hpl,hva,hvn];first|exact F3|exact F4) ?_
   refine Zn (b:=decide (0≤PO.at_ (Z6 ns.length ds st v) v)) (by simp[hva]) (fun c12=>?_) (fun c12=>?_)
   ·have c13:0≤PO.at_ (Z6 ns.length ds st v) v:=by simpa[hva] using c12
    rw[if_pos c13] at hsu
    refine Ze (show K3_6 _ _ _ from hK3_6 _ _ _ ?_)
    refine R2 [] (by simp[hvn];(try simp (disch:=omega) only[w64]);first|exact F3|exact F4) ?_
    exact hKL5 _ _ _ (v+1) (by show v+1≤_;omega) (by show _<_;omega) (by simp[hsu])
   ·have c13:¬ 0≤PO.at_ (Z6 ns.length ds st v) v:=by simpa[hva] using c12
    rw[if_neg c13] at hsu
    refine R [.b ⟨_,_,_,_,_,_,flood_imp ns ds (YF st) g1 g2 (by rw[useOf_len];exact hsl) (fun _=>false) 119 120 [] [.vp [.sl (Zb st)]] [] [] ZH (by exact⟨fun g k=>by simp[mapO,Zy],fun n=>by simp[D.los,D.lo],by simp[ZB,ZA]⟩) ZH ZH (fun i h=>by rw[show (YF st)[i]=(PO.at_ st i==2) from by (rw[useOf_len] at h;simp[YF,PO.at_,h])];exact closed_pure i st (by rw[useOf_len] at h;exact h)) (fun v _=>never_pure v) [v] (by simp) (by simp) (by simpa using hvn) (dev_across hc hn) 31⟩] (by simp[hnv,floodS_D,hml,hvn];first|exact F3|exact F4) (by first|exact Zq _|exact⟨Le.refl _,Zq _⟩|(simp[hnv];exact Zq _)) ?_
    refine Zd (fun K4_7 hK4_7=>?_)
    refine Zg (X:=Nat) [2,5,7,8,9,27,28,41,42] [6] (fun x=>[(43,.int .i64 x)]) (fun x=>[(6,.arr 1 (Zb (fillP (Z6 ns.length ds st v) ((Yj (Xh ns.length ds st [v])).take x) v)))]) (fun x=>x≤ns.length) (fun x=>ns.length - x) 0 ((by simp)) (by simp[floodS_D,fillP_none]) ?_
    simp only[KN,keep,but,reduceIte,Nat.reduceEqDiff,Nat.reduceBEq]
    rintro j hj KL8 hKL8
    have hfl:(fillP (Z6 ns.length ds st v) ((Yj (Xh ns.length ds st [v])).take j) v).length=ns.length:=by rw[fillP_len,hpl]
    refine R2 [] (by simp[hvn];first|exact F3|exact F4) ?_
    refine fl_C (fun c14=>?_) (fun c14=>?_)
    ·have hjn:j<ns.length:=by simpa using c14
     have hfs:=fillP_stp (Z6 ns.length ds st v) (Yj (Xh ns.length ds st [v])) v j (by omega) (by omega)
     have hjm:j<(Yj (Xh ns.length ds st [v])).length:=by omega
     refine Zd (fun K5_9 hK5_9=>?_)
     refine R2 [] (by simp[hml,floodS_D,hvn,hjn];first|exact F3|exact F4) ?_
     rcases bf_ ((Yj (Xh ns.length ds st [v]))[j]) with h16_48|h16_48
     ·refine R2 [] (by simp[hvn,hjn,h16_48];first|exact F3|exact F4) ?_
      refine fl_T ?_
      refine R2 [] (by simp[hfl,hvn,hjn];first|exact F3|exact F4) ?_
      refine Zc (hK5_9 _ _ _ ?_)
      refine R2 [] (by simp[hvn,hjn];(try simp (disch:=omega) only[w64]);first|exact F3|exact F4) ?_
      exact hKL8 _ _ _ (j+1) (by show j+1≤_;omega) (by show _<_;omega) (by simp[setI,hfs,h16_48])
     ·refine R2 [] (by simp[hvn,hjn,h16_48];first|exact F3|exact F4) ?_
      refine fl_F ?_
      refine Zc (hK5_9 _ _ _ ?_)
      refine R2 [] (by simp[hvn,hjn];(try simp (disch:=omega) only[w64]);first|exact F3|exact F4) ?_
      exact hKL8 _ _ _ (j+1) (by show j+1≤_;omega) (by show _<_;omega) (by simp[setI,hfs,h16_48])
    ·have hte:(Yj (Xh ns.length ds st [v])).take j=Yj (Xh ns.length ds st [v]):=List.take_of_length_le (by rw[hml];simpa using c14)
     refine Ze (show K4_7 _ _ _ from hK4_7 _ _ _ ?_)
     refine Zc (hK3_6 _ _ _ ?_)
     refine R2 [] (by simp[hvn];(try simp (disch:=omega) only[w64]);first|exact F3|exact F4) ?_
     exact hKL5 _ _ _ (v+1) (by show v+1≤_;omega) (by show _<_;omega) (by simp[hsu,hte])
  ·have hve:v=ns.length:=Nat.le_antisymm hv (by simpa using c10)
   refine Ze (show K2_4 _ _ _ from hK2_4 _ _ _ ?_)
   refine R0 ?_
   refine Za ?_
   simp[hve,htk,Yd,partsTo_len,show Z6 ns.length ds st ns.length=partsL ns.length ds st from rfl]
theorem both_pure(ns:List Node)(ds:List Dev)(hc:Zk ns ds=0)(hn:1≤ns.length)(st:List Int)(hs:StOK ds st):Pure Tryz.prog G0 71 [netD ns ds,.sl (Zb st)] (.tup [.sl (Zb (partsL ns.length ds st)),.sl (Zb (colF ns.length ds st))]):=by
 refine Zh Tryz.func71 rfl Tryz.ntmps71 ?_
 obtain⟨g1,g2,_⟩:=Zj hc
 refine R0 ?_
 refine R6 [.p ⟨_,_,_,parts_pure ns ds hc hn st hs⟩] ?_
 refine R6 [.p ⟨_,_,_,colours_pure ns ds st (partsL ns.length ds st) g1 g2 hs.1 (Yd _ _ _) (parts_bound (ZM hc) g1 st) (fun d hd=>(dev_at hc hd).1)⟩] ?_
 refine Za ?_
 simp[colF]
theorem supplied_imp(ns:List Node)(ds:List Dev)(hc:Zk ns ds=0)(hn:1≤ns.length)(st:List Int)(hs:StOK ds st)(nm:Nat):Imp Tryz.prog G0 82 [netD ns ds,.sl (Zb st)] [] nm (.os nm (supL ns ds st).length 0 (supL ns ds st).length) [(nm,some (.arr 1 (Zb (supL ns ds st))))]:=by
 refine ZC (gl:=[]) (nx1:=0) Tryz.func82 rfl Tryz.ntmps82 ?_
 obtain⟨g1,g2,_⟩:=Zj hc
 have hcl:=Y1 ns.length ds st
 refine R0 ?_
 refine R6 [.p ⟨_,_,_,both_pure ns ds hc hn st hs⟩] ?_
 refine R0 ?_
 refine R0 ?_
 refine Zd (fun K0_1 hK0_1=>?_)
 refine Yf 7 1 (by simp) ?_
 refine Zg (X:=Nat) [6,17,18] [15] (fun x=>[(19,.int .i64 x),(7,.os 15 (supN (suppB ns ds st) x).length 0 (supN (suppB ns ds st) x).length)]) (fun x=>[(15,.arr 1 (Zb (supN (suppB ns ds st) x)))]) (fun x=>x≤ns.length) (fun x=>ns.length - x) 0 (by simp) (by simp[supN,Zb]) ?_
 simp only[KN,keep,but,reduceIte,Nat.reduceEqDiff,Nat.reduceBEq]
 rintro k hlek KL2 hKL2
 refine R0 ?_
 refine fl_C (fun c4=>?_) (fun c4=>?_)
 ·have hlt:k<ns.length:=by simpa using c4
  have hkk:ns[k]? = some ns[k]:=by simp[hlt]
  have hd:=Lib.hid (List.drop_eq_getElem_cons hlt)
  have hca:custAt ns k=ns[k].cust:=by simp[custAt,hlt]
  have hsl:=Z3 (suppB ns ds st) k
  have hkc:k<(colF ns.length ds st).length:=by omega
  have hat:PO.at_ (colL ds st (partsL ns.length ds st)) k=(colF ns.length ds st)[k]:=by rw[show colL ds st (partsL ns.length ds st)=colF ns.length ds st from rfl];simp[PO.at_,hkc]
  have hkk2:(colF ns.length ds st)[k]? = some (colF ns.length ds st)[k]:=by simp[hkc]
  generalize (colF ns.length ds st)[k]=p at *
  generalize ns[k]=d at *
  refine Zd (fun K1_3 hK1_3=>?_)
  refine R2 [] (by simp[hkk];first|exact F3|exact F4) ?_
  rcases bf_ (decide (0<d.cust)) with h6_26|h6_26
  ·rcases bf_ (p==1) with h6_32|h6_32
   ·refine R2 [] (by simp[hkk2,hkk,h6_26,h6_32];first|exact F3|exact F4) ?_
    refine fl_T ?_
    refine R2 [] (by simp[hkk];first|exact F3|exact F4) ?_
    refine Zc (hK1_3 _ _ _ ?_)
    refine R2 [] (by simp[hkk];(try simp (disch:=omega) only[w64]);first|exact F3|exact F4) ?_
    exact hKL2 _ _ _ (k+1) (by omega) (by omega) (by simp only[decide_eq_true_eq,decide_eq_false_iff_not] at *;simp[supN,suppB,hca,hat,Yk,hkk,hd.out,h6_26,h6_32])
   ·refine R2 [] (by simp[hkk2,hkk,h6_26,h6_32];first|exact F3|exact F4) ?_
    refine fl_F ?_
    refine Zc (hK1_3 _ _ _ ?_)
    refine R2 [] (by simp[hkk];(try simp (disch:=omega) only[w64]);first|exact F3|exact F4) ?_
    exact hKL2 _ _ _ (k+1) (by omega) (by omega) (by simp only[decide_eq_true_eq,decide_eq_false_iff_not] at *;simp[supN,suppB,hca,hat,Yk,hkk,hd.out,h6_26,h6_32])
  ·refine R2 [] (by simp[hkk2,hkk,h6_26];first|exact F3|exact F4) ?_
   refine fl_F ?_
   refine Zc (hK1_3 _ _ _ ?_)
   refine R2 [] (by simp[hkk];(try simp (disch:=omega) only[w64]);first|exact F3|exact F4) ?_
   exact hKL2 _ _ _ (k+1) (by omega) (by omega) (by simp only[decide_eq_true_eq,decide_eq_false_iff_not] at *;simp[supN,suppB,hca,hat,Yk,hkk,hd.out,h6_26])
 ·have hge:ns.length≤k:=by simpa using c4
  have hke:k=ns.length:=by have:k≤ns.length:=hlek;omega
  have hdn:=Lib.hid (List.drop_of_length_le hge)
  refine Ze (show K0_1 _ _ _ from hK0_1 _ _ _ ?_)
  refine R0 ?_
  refine Za ?_
  refine⟨.inr rfl,15,?_⟩
  simp[hke,supL]
theorem Supplied_imp(ns:List Node)(ds:List Dev)(hc:Zk ns ds=0)(hn:1≤ns.length)(st:List Int)(hs:StOK ds st)(nm:Nat):Imp Tryz.prog G0 48 [netD ns ds,.sl (Zb st)] [] nm (.tup [.os nm (supL ns ds st).length 0 (supL ns ds st).length,.int .i64 0]) [(nm,some (.arr 1 (Zb (supL ns ds st))))]:=by
 refine ZC (gl:=[]) (nx1:=0) Tryz.func48 rfl Tryz.ntmps48 ?_
 refine R0 ?_
 refine R6 [.p ⟨_,_,_,Y3 ns ds st hc hs⟩] ?_
 refine R0 ?_
 refine fl_F ?_
 refine R [.b ⟨_,_,_,_,_,_,supplied_imp ns ds hc hn st hs 11⟩] (by simp;first|exact F3|exact F4) (by first|exact Zs _|exact Zq _|exact Zt _|trivial|omega|(simp;done)|(simp;omega)) ?_
 refine Za ?_
 refine⟨.inr rfl,11,?_⟩
 simp
theorem customers_pure(ns:List Node)(ds:List Dev)(hc:Zk ns ds=0)(l:List Int)(hl:l.length≤1000)(hi:∀ x∈l,0≤x∧x<ns.length):Pure Tryz.prog G0 49 [netD ns ds,.sl (Zb l)] (.int .i64 (custF ns l)):=by
 refine Zh Tryz.func49 rfl Tryz.ntmps49 ?_
 obtain⟨g1,g2,_⟩:=Zj hc
 have hcb:=custF_bound (ns:=ns) (checkL_cust hc)
 refine R0 ?_
 refine R0 ?_
 refine R0 ?_
 refine Zd (fun K0_1 hK0_1=>?_)
 refine Zg (X:=Nat×Int) [2,8,9] [] (fun x=>[(10,.int .i64 x.1),(5,.int .i64 x.2)]) (fun x=>[]) (fun x=>x.1≤l.length∧Hid (x.2=custF ns (l.take x.1))) (fun x=>l.length - x.1) (0,0) (⟨by simp,Lib.hid (by simp[custF])⟩) (by simp) ?_
 simp only[KN,keep,but,reduceIte,Nat.reduceEqDiff,Nat.reduceBEq]
 rintro⟨k,y⟩ ⟨hlek,hrel⟩ KL2 hKL2
 refine R0 ?_
 refine fl_C (fun c3=>?_) (fun c3=>?_)
 ·have hlt:k<l.length:=by simpa using c3
  have hkk:l[k]? = some l[k]:=by simp[hlt]
  have hd:=Lib.hid (List.drop_eq_getElem_cons hlt)
  have hii:=hi _ (List.getElem_mem hlt)
  have htk:l.take (k+1)=l.take k++[l[k]]:=List.take_succ_eq_append_getElem hlt
  obtain⟨j,hj⟩:∃ j:Nat,l[k]=j:=⟨_,(Int.toNat_of_nonneg hii.1).symm⟩
  have hjn:j<ns.length:=by omega
  have hjj:ns[j]? = some ns[j]:=by simp[hjn]
  have hca:custAt ns j=ns[j].cust:=by simp[custAt,hjn]
  have hb1:=hcb (l.take k)
  have hb2:=checkL_cust hc _ (List.getElem_mem hjn)
  have hsn:=custF_snoc ns (l.take k) j
  have hyy:=hrel.out
  simp only at hyy
  have hll:(l.take k).length=k:=by simp;omega
  rw[hll] at hb1
  have hw:=w64 (n:=y+ns[j].cust) (by omega) (by omega)
  generalize ns[j]=nd at *
  generalize l[k]=v at *
  refine Zd (fun K1_3 hK1_3=>?_)
  refine R2 [] (by simp[hj,hkk];first|exact F3|exact F4) ?_
  refine R2 [] (by simp[hj,hjj,hw,hkk];(try simp (disch:=omega) only[w64]);first|exact F3|exact F4) ?_
  refine Zc (hK1_3 _ _ _ ?_)
  refine R2 [] (by simp[hkk];(try simp (disch:=omega) only[w64]);first|exact F3|exact F4) ?_
  exact hKL2 _ _ _ (k+1,y+nd.cust) ⟨by show k+1≤l.length;omega,Lib.hid (by show y+nd.cust=custF ns (l.take (k+1));rw[htk,hj,hsn,← hyy,hca])⟩ (by show _<_;omega) (by simp)
 ·have hge:l.length≤k:=by simpa using c3
  have hke:k=l.length:=by have:k≤l.length:=hlek;omega
  have hdn:=Lib.hid (List.drop_of_length_le hge)
  have htk:l.take k=l:=List.take_of_length_le hge
  refine Ze (show K0_1 _ _ _ from hK0_1 _ _ _ ?_)
  refine R0 ?_
  refine Za ?_
  simp
  exact le_int (by have:=hrel.out;simp only at this;rw[this,htk])
theorem lost1_pure(v:Int)(l:List Int)(hl:l.length≤1000000):Pure Tryz.prog G0 98 [.int .i64 v,.vp [.sl (Zb l)]] (.bool (ins l v)):=by
 refine Zh Tryz.func98 rfl Tryz.ntmps98 ?_
 refine R0 ?_
 refine R6 [.p ⟨_,_,_,ZG l hl v⟩] ?_
 refine Za ?_
 simp
theorem keep_lost(a b:List Int):Yg (fun v=>ins b v) a=lostL a b:=by
 unfold Yg lostL
 congr 1
 funext v
 congr 1
 unfold ins
 induction b with
 | nil=>rfl
 | cons x b ih=>simp only[List.any_cons,List.contains_cons,ih]
theorem lost_pure(ns:List Node)(ds:List Dev)(hc:Zk ns ds=0)(hn:1≤ns.length)(st:List Int)(hs:StOK ds st)(tt:List Int)(ht:StOK ds tt):Pure Tryz.prog G0 59 [netD ns ds,.sl (Zb st),.sl (Zb tt)] (.tup [.sl (Zb (lostL (supL ns ds st) (supL ns ds tt))),.int .i64 (custF ns (lostL (supL ns ds st) (supL ns ds tt))),.int .i64 0]):=by
 refine Zh Tryz.func59 rfl Tryz.ntmps59 ?_
 obtain⟨g1,g2,_⟩:=Zj hc
 have hl1:=supL_len ns ds st
 have hl2:=supL_len ns ds tt
 have hl3:=lostL_len (supL ns ds st) (supL ns ds tt)
 have hka:=Nat.add_sub_of_le hl3
 have htk:(Zb (supL ns ds tt)).take (supL ns ds tt).length=Zb (supL ns ds tt):=List.take_of_length_le (by simp)
 have htk2:(Zb (lostL (supL ns ds st) (supL ns ds tt)++List.replicate ((supL ns ds st).length - (lostL (supL ns ds st) (supL ns ds tt)).length) 0)).take (lostL (supL ns ds st) (supL ns ds tt)).length=Zb (lostL (supL ns ds st) (supL ns ds tt)):=by rw[intsD_takek];simp
 refine R0 ?_
 refine R [.b ⟨_,_,_,_,_,_,Supplied_imp ns ds hc hn st hs 6⟩] (by simp;first|exact F3|exact F4) (by first|exact Zs _|exact Zq _|exact Zt _|trivial|omega|(simp;done)|(simp;omega)) ?_
 refine R0 ?_
 refine fl_F ?_
 refine R [.b ⟨_,_,_,_,_,_,Supplied_imp ns ds hc hn tt ht 16⟩] (by simp;first|exact F3|exact F4) (by first|exact Zs _|exact Zq _|exact Zt _|trivial|omega|(simp;done)|(simp;omega)) ?_
 refine R0 ?_
 refine fl_F ?_
 refine YT [16,20] ?_
 refine R2 [.i ⟨_,_,_,_,_,_,delf_imp (supL ns ds st) (by omega) (fun v=>ins (supL ns ds tt) v) 98 [] [.vp [.sl (Zb (supL ns ds tt))]] ZH (by exact⟨fun g k=>by simp[mapO,Zy],fun n=>by simp[D.los,D.lo],by simp[ZB,ZA]⟩) (fun x _=>lost1_pure x _ (by omega)) 6 27 (by decide)⟩] (by simp[htk,keep_lost];first|exact F3|exact F4) ?_
 refine R2 [.p ⟨_,_,_,customers_pure ns ds hc (lostL (supL ns ds st) (supL ns ds tt)) (by omega) (fun x hx=>lostL_in (supL_in ns ds st) x hx)⟩] (by simp[htk2,hka,hl3];first|exact F3|exact F4) ?_
 refine Za ?_
 simp[htk2,hka,hl3]
end
section
open Go Go.RowKit
theorem deadV_in{n:Nat}{d:Dev}{ps oc:List Int}(hE:Y9 d n=true)(h:(deadV d ps oc).2=true):0≤(deadV d ps oc).1∧(deadV d ps oc).1<n:=by
 obtain⟨h1,h2,h3,h4⟩:=Y0 hE
 by_cases h4k:d.kind=4
 ·unfold deadV deadR sidesV at h
  simp[h4k] at h
 cases hj:Zu d.kind
 ·have hs:sidesV d ps oc=((true,liveO (oc.getD d.a.toNat 0)),(-1,d.a),true):=by unfold sidesV;rw[if_neg h4k,if_pos hj]
  unfold deadV at h ⊢
  rw[hs] at h ⊢
  generalize liveO (oc.getD d.a.toNat 0)=l at *
  cases l<;>simp[deadR] at h ⊢
  omega
 ·obtain⟨h5,h6,_⟩:=h3 hj
  have hs:sidesV d ps oc=((liveO (oc.getD d.a.toNat 0),liveO (oc.getD d.b.toNat 0)),(d.a,d.b),ps.getD d.a.toNat 0 != ps.getD d.b.toNat 0):=by unfold sidesV;rw[if_neg h4k,if_neg (by rw[hj];decide)]
  unfold deadV at h ⊢
  rw[hs] at h ⊢
  generalize liveO (oc.getD d.a.toNat 0)=l at *
  generalize liveO (oc.getD d.b.toNat 0)=m at *
  generalize (ps.getD d.a.toNat 0 != ps.getD d.b.toNat 0)=q at *
  cases q
  ·simp[deadR] at h
  ·cases l<;>cases m<;>simp[deadR] at h ⊢<;>omega
def vwRow(ns:List Node)(ds:List Dev)(d:Dev)(ps oc cc:List Int):List D:=[nsD ns,dsD ds,.str d.name,.int .i64 d.kind,.int .i64 d.a,.int .i64 d.b,.int .i64 d.comp,.sl (Zb ps),.sl (Zb oc),.sl (Zb cc)]
attribute [simp] vwRow
structure VOK(ns:List Node)(d:Dev)(ps oc cc:List Int):Prop where
 e:Y9 d ns.length=true
 p:ps.length=ns.length
 o:oc.length=ns.length
 c:cc.length=ns.length
 n:ns.length≤32
 cl:∀ x∈oc,x=0∨x=1∨x=2∨x=3
theorem with_pure(st:List Int)(hl:st.length≤1000)(i:Nat)(hi:i<st.length)(p:Int):Pure Tryz.prog G0 153 [.sl (Zb st),.int .i64 i,.int .i64 p] (.sl (Zb (st.set i p))):=by
 refine Zh Tryz.func153 rfl Tryz.ntmps153 ?_
 have hne:st≠[]:=by intro h;rw[h] at hi;simp at hi
 have hii:decide ((i:Int)<st.length)=true:=by simp;omega
 have htk:(Zb (st.set i p)).take st.length=Zb (st.set i p):=List.take_of_length_le (by simp)
 refine R0 ?_
 refine R [.b ⟨_,_,_,_,_,_,Z4 st (by omega) hne 2⟩] (by simp;first|exact F3|exact F4) (by first|exact Zs _|exact Zq _|exact Zt _|trivial|omega|(simp;done)|(simp;omega)) ?_
 refine R2 [] (by simp[hii,hi];first|exact F3|exact F4) ?_
 refine fl_T ?_
 refine R2 [] (by simp[hi];first|exact F3|exact F4) ?_
 refine R0 ?_
 refine Za ?_
 simp[setI,htk]
theorem fault_pure(ns:List Node)(ds:List Dev)(d:Dev)(ps oc cc:List Int)(hv:VOK ns d ps oc cc):Pure Tryz.prog G0 189 [.agg (vwRow ns ds d ps oc cc)] (.bool (faultV d cc)):=by
 refine Zh Tryz.func189 rfl Tryz.ntmps189 ?_
 obtain⟨he,hp1,ho1,hc1,hn1,hcl⟩:=hv
 obtain⟨h1,h2,h3,h4⟩:=Y0 he
 obtain⟨a,ha⟩:∃ a:Nat,d.a=a:=⟨_,(Int.toNat_of_nonneg h1).symm⟩
 have hal:a<ns.length:=by omega
 have hac:a<cc.length:=by omega
 have hga:cc.getD d.a.toNat 0=cc[a]:=by rw[ha];simp[hac]
 have hgb:∀ b:Nat,d.b=b→∀ hb:b<cc.length,cc.getD d.b.toNat 0=cc[b]:=by intro b h hb;rw[h];simp[hb]
 refine R0 ?_
 refine R0 ?_
 rcases bf_ (cc[a]==3) with h2_12|h2_12
 ·refine R2 [] (by simp[ha,hac,h2_12];first|exact F3|exact F4) ?_
  refine Za ?_
  simp
  exact Zp (by simp only[faultV,hga];first|(simp[h2_12];done)|(rw[hgb];simp[h2_12]))
 ·rcases bf_ (Zu d.kind) with h2_17|h2_17
  ·obtain⟨h5,h6,_⟩:=h3 h2_17
   obtain⟨b,hb⟩:∃ b:Nat,d.b=b:=⟨_,(Int.toNat_of_nonneg h5).symm⟩
   have hbc:b<cc.length:=by omega
   have hgb:=hgb b hb hbc
   rcases bf_ (cc[b]==3) with h2_27|h2_27
   ·refine R2 [.p ⟨_,_,_,Yy d.kind⟩] (by simp[ha,hac,h2_12,h2_17,h2_27,hb,hbc];first|exact F3|exact F4) ?_
    refine Za ?_
    simp
    exact Zp (by simp only[faultV,hga];first|(simp[h2_12,h2_17,hb,hbc,h2_27];done)|(rw[hgb];simp[h2_12,h2_17,hb,hbc,h2_27]))
   ·refine R2 [.p ⟨_,_,_,Yy d.kind⟩] (by simp[ha,hac,h2_12,h2_17,h2_27,hb,hbc];first|exact F3|exact F4) ?_
    refine Za ?_
    simp
    exact Zp (by simp only[faultV,hga];first|(simp[h2_12,h2_17,hb,hbc,h2_27];done)|(rw[hgb];simp[h2_12,h2_17,hb,hbc,h2_27]))
  ·refine R2 [.p ⟨_,_,_,Yy d.kind⟩] (by simp[ha,hac,h2_12,h2_17];first|exact F3|exact F4) ?_
   refine Za ?_
   simp
   exact Zp (by simp only[faultV,hga];first|(simp[h2_12,h2_17];done)|(rw[hgb];simp[h2_12,h2_17]))
theorem sides1_pure(ns:List Node)(ds:List Dev)(d:Dev)(ps oc cc:List Int)(hv:VOK ns d ps oc cc)(k:Nat)(hk:k<ns.length):Pure Tryz.prog G0 229 [.int .i64 k,.vp (vwRow ns ds d ps oc cc)] (.bool (liveO (oc.getD k 0))):=by
 refine Zh Tryz.func229 rfl Tryz.ntmps229 ?_
 have hko:k<oc.length:=by rw[hv.o];exact hk
 have hx:=hv.cl _ (List.getElem_mem hko)
 have hg:oc.getD k 0=oc[k]:=by simp[hko]
 have hkk:oc[k]? = some oc[k]:=by simp[hko]
 generalize oc[k]=x at *
 refine R0 ?_
 refine R2 [] (by simp[hkk];first|exact F3|exact F4) ?_
 refine Za ?_
 rw[hg];rcases hx with rfl|rfl|rfl|rfl<;>first|(simp[liveO,bAnd];done)|(simp[liveO,bAnd];exact Zp (by decide))
theorem vsides_pure(ns:List Node)(ds:List Dev)(d:Dev)(ps oc cc:List Int)(hv:VOK ns d ps oc cc):Pure Tryz.prog G0 215 [.agg (vwRow ns ds d ps oc cc)] (.tup [.agg [.bool (sidesV d ps oc).1.1,.bool (sidesV d ps oc).1.2],.agg [.int .i64 (sidesV d ps oc).2.1.1,.int .i64 (sidesV d ps oc).2.1.2],.bool (sidesV d ps oc).2.2]):=by
 refine Zh Tryz.func215 rfl Tryz.ntmps215 ?_
 have hsd:=sides1_pure ns ds d ps oc cc hv
 obtain⟨he,hp1,ho1,hc1,hn1,hcl⟩:=hv
 obtain⟨h1,h2,h3,h4⟩:=Y0 he
 obtain⟨a,ha⟩:∃ a:Nat,d.a=a:=⟨_,(Int.toNat_of_nonneg h1).symm⟩
 have hal:a<ns.length:=by omega
 have hap:a<ps.length:=by omega
 have hga:ps.getD d.a.toNat 0=ps[a]:=by rw[ha];simp[hap]
 have hka:ps[a]? = some ps[a]:=by simp[hap]
 have hgo:oc.getD d.a.toNat 0=oc.getD a 0:=by rw[ha];simp
 refine R0 ?_
 refine R0 ?_
 refine Zd (fun K0_1 hK0_1=>?_)
 refine R0 ?_
 refine Zn (b:=d.kind==4) (by simp) (fun c2=>?_) (fun c2=>?_)
 ·have c3:d.kind=4:=by simpa using c2
  refine R0 ?_
  refine Za ?_
  simp[sidesV,c3]
 ·have c3:¬ d.kind=4:=by simpa using c2
  rcases bf_ (Zu d.kind) with h4_18|h4_18
  ·obtain⟨h5,h6,_⟩:=h3 h4_18
   obtain⟨b,hb⟩:∃ b:Nat,d.b=b:=⟨_,(Int.toNat_of_nonneg h5).symm⟩
   have hbp:b<ps.length:=by omega
   have hgb:ps.getD d.b.toNat 0=ps[b]:=by rw[hb];simp[hbp]
   have hkb:ps[b]? = some ps[b]:=by simp[hbp]
   have hgob:oc.getD d.b.toNat 0=oc.getD b 0:=by rw[hb];simp
   have hbl:b<ns.length:=by omega
   refine R2 [.p ⟨_,_,_,Yy d.kind⟩] (by simp[h4_18];first|exact F3|exact F4) ?_
   refine fl_F ?_
   refine Zc (hK0_1 _ _ _ ?_)
   refine R2 [.p ⟨_,_,_,hsd a hal⟩,.p ⟨_,_,_,hsd b hbl⟩] (by simp[ha,hb,hka,hkb];first|exact F3|exact F4) ?_
   refine Za ?_
   simp[sidesV,c3,h4_18,hgo,hgob,ha,hb,hka,hkb]
  ·refine R2 [.p ⟨_,_,_,Yy d.kind⟩] (by simp[h4_18];first|exact F3|exact F4) ?_
   refine fl_T ?_
   refine R2 [.p ⟨_,_,_,hsd a hal⟩] (by simp[ha];first|exact F3|exact F4) ?_
   refine Za ?_
   simp[sidesV,c3,h4_18,hgo,ha]
theorem parallel_pure(ns:List Node)(ds:List Dev)(d:Dev)(ps oc cc:List Int)(hv:VOK ns d ps oc cc):Pure Tryz.prog G0 190 [.agg (vwRow ns ds d ps oc cc)] (.bool (parallelV d ps oc)):=by
 refine Zh Tryz.func190 rfl Tryz.ntmps190 ?_
 refine R0 ?_
 refine R6 [.p ⟨_,_,_,vsides_pure ns ds d ps oc cc hv⟩] ?_
 rcases bf_ ((sidesV d ps oc).2.2) with h2_12|h2_12
 ·rcases bf_ ((sidesV d ps oc).1.1) with h2_15|h2_15
  ·rcases bf_ ((sidesV d ps oc).1.2) with h2_19|h2_19
   ·refine R2 [] (by simp[h2_12,h2_15,h2_19];first|exact F3|exact F4) ?_
    refine Za ?_
    simp
    exact Zp (by simp[parallelV,h2_12,h2_15,h2_19])
   ·refine R2 [] (by simp[h2_12,h2_15,h2_19];first|exact F3|exact F4) ?_
    refine Za ?_
    simp
    exact Zp (by simp[parallelV,h2_12,h2_15,h2_19])
  ·refine R2 [] (by simp[h2_12,h2_15];first|exact F3|exact F4) ?_
   refine Za ?_
   simp
   exact Zp (by simp[parallelV,h2_12,h2_15])
 ·refine R2 [] (by simp[h2_12];first|exact F3|exact F4) ?_
  refine Za ?_
  simp
  exact Zp (by simp[parallelV,h2_12])
theorem dead_pure(ns:List Node)(ds:List Dev)(d:Dev)(ps oc cc:List Int)(hv:VOK ns d ps oc cc):Pure Tryz.prog G0 216 [.agg (vwRow ns ds d ps oc cc)] (.tup [.int .i64 (deadV d ps oc).1,.bool (deadV d ps oc).2]):=by
 refine Zh Tryz.func216 rfl Tryz.ntmps216 ?_
 have hdr:deadV d ps oc=deadR (sidesV d ps oc):=rfl
 have hvs:=vsides_pure ns ds d ps oc cc hv
 generalize deadV d ps oc=r at *
 generalize sidesV d ps oc=S at *
 obtain⟨⟨l0,l1⟩,⟨n0,n1⟩,ok⟩:=S
 simp only at hvs
 subst hdr
 refine R0 ?_
 refine R6 [.p ⟨_,_,_,hvs⟩] ?_
 rcases bf_ (ok) with h2_13|h2_13
 ·rcases bf_ (l0==l1) with h2_20|h2_20
  ·refine R2 [] (by simp[h2_13,h2_20];first|exact F3|exact F4) ?_
   refine fl_T ?_
   refine R0 ?_
   refine Za ?_
   cases ok<;>cases l0<;>cases l1<;>simp[deadR] at *
  ·refine R2 [] (by simp[h2_13,h2_20];first|exact F3|exact F4) ?_
   refine fl_F ?_
   rcases bf_ (l0) with h4_23|h4_23
   ·refine R2 [] (by simp[h4_23];first|exact F3|exact F4) ?_
    refine fl_T ?_
    refine R0 ?_
    refine Za ?_
    cases ok<;>cases l0<;>cases l1<;>simp[deadR] at *
   ·refine R2 [] (by simp[h4_23];first|exact F3|exact F4) ?_
    refine fl_F ?_
    refine R0 ?_
    refine Za ?_
    cases ok<;>cases l0<;>cases l1<;>simp[deadR] at *
 ·refine R2 [] (by simp[h2_13];first|exact F3|exact F4) ?_
  refine fl_T ?_
  refine R0 ?_
  refine Za ?_
  cases ok<;>cases l0<;>cases l1<;>simp[deadR] at *
theorem charging_pure(ns:List Node)(ds:List Dev)(d:Dev)(ps oc cc:List Int)(hv:VOK ns d ps oc cc):Pure Tryz.prog G0 192 [.agg (vwRow ns ds d ps oc cc)] (.bool (deadV d ps oc).2):=by
 refine Zh Tryz.func192 rfl Tryz.ntmps192 ?_
 refine R0 ?_
 refine R6 [.p ⟨_,_,_,dead_pure ns ds d ps oc cc hv⟩] ?_
 refine R0 ?_
 refine Za ?_
 simp
theorem load_pure(ns:List Node)(ds:List Dev)(d:Dev)(ps oc cc:List Int)(hv:VOK ns d ps oc cc)(hd:(deadV d ps oc).2=true→0≤(deadV d ps oc).1∧(deadV d ps oc).1<ns.length):Pure Tryz.prog G0 191 [.agg (vwRow ns ds d ps oc cc)] (.bool (loadV ns d ps oc)):=by
 refine Zh Tryz.func191 rfl Tryz.ntmps191 ?_
 have hdp:=dead_pure ns ds d ps oc cc hv
 have hpl:=hv.p
 have hvn:=hv.n
 have hlv:loadV ns d ps oc=((deadV d ps oc).2&&loadG ps (ps.getD (deadV d ps oc).1.toNat 0) ns ns.length 0):=rfl
 generalize loadV ns d ps oc=rr at *
 generalize deadV d ps oc=r at *
 obtain⟨m,ok⟩:=r
 simp only at hdp hlv hd
 subst hlv
 refine R0 ?_
 refine R6 [.p ⟨_,_,_,hdp⟩] ?_
 rcases bf_ (ok) with h2_12|h2_12
 ·obtain⟨hm1,hm2⟩:=hd h2_12
  obtain⟨j,rfl⟩:∃ j:Nat,m=j:=⟨_,(Int.toNat_of_nonneg hm1).symm⟩
  have hjp:j<ps.length:=by omega
  have hkj:ps[j]? = some ps[j]:=by simp[hjp]
  have hgj:ps.getD (j:Int).toNat 0=ps[j]:=by simp[hjp]
  rw[hgj]
  generalize ps[j]=q at *
  refine R2 [] (by simp[h2_12];first|exact F3|exact F4) ?_
  refine fl_F ?_
  refine R0 ?_
  refine Zd (fun K0_1 hK0_1=>?_)
  refine Zg (X:=Nat) [1,3,16,17] [] (fun x=>[(18,.int .i64 x)]) (fun x=>[]) (fun x=>x≤ns.length∧Hid (loadG ps q ns ns.length 0=loadG ps q ns (ns.length - x) x)) (fun x=>ns.length - x) 0 (⟨by simp,Lib.hid (by simp)⟩) (by simp) ?_
  simp only[KN,keep,but,reduceIte,Nat.reduceEqDiff,Nat.reduceBEq]
  rintro k ⟨hlek,hrel⟩ KL2 hKL2
  refine R0 ?_
  refine fl_C (fun c5=>?_) (fun c5=>?_)
  ·have hlt:k<ns.length:=by simpa using c5
   have hkk:ns[k]? = some ns[k]:=by simp[hlt]
   have hd:=Lib.hid (List.drop_eq_getElem_cons hlt)
   have hkp:k<ps.length:=by omega
   have hkk2:ps[k]? = some ps[k]:=by simp[hkp]
   have hlg:loadG ps q ns (ns.length - k) k=if custB ps q ns k=true then true else loadG ps q ns (ns.length - (k+1)) (k+1):=by rw[show ns.length - k=(ns.length - (k+1))+1 by omega];rfl
   have hcb:custB ps q ns k=(decide (0<ns[k].cust)&&(ps[k]==q)):=by simp[custB,hlt,hkp]
   generalize ps[k]=p at *
   generalize ns[k]=x at *
   refine Zd (fun K1_3 hK1_3=>?_)
   refine R2 [] (by simp[hkk];first|exact F3|exact F4) ?_
   rcases bf_ (decide (0<x.cust)) with h7_25|h7_25
   ·rcases bf_ (p==q) with h7_37|h7_37
    ·refine R2 [] (by simp[hkj,hkk2,hkk,h7_25,h7_37];first|exact F3|exact F4) ?_
     refine fl_T ?_
     refine R2 [] (by simp[hkk];first|exact F3|exact F4) ?_
     refine Za ?_
     simp;exact Zp (by rw[hrel.out,hlg,hcb];simp[h2_12,hkk,hd.out,h7_25,h7_37])
    ·refine R2 [] (by simp[hkj,hkk2,hkk,h7_25,h7_37];first|exact F3|exact F4) ?_
     refine fl_F ?_
     refine Zc (hK1_3 _ _ _ ?_)
     refine R2 [] (by simp[hkk];(try simp (disch:=omega) only[w64]);first|exact F3|exact F4) ?_
     exact hKL2 _ _ _ (k+1) ⟨by omega,Lib.hid (by rw[hrel.out,hlg,hcb];simp[h2_12,hkk,hd.out,h7_25,h7_37])⟩ (by omega) (by simp)
   ·refine R2 [] (by simp[hkj,hkk2,hkk,h7_25];first|exact F3|exact F4) ?_
    refine fl_F ?_
    refine Zc (hK1_3 _ _ _ ?_)
    refine R2 [] (by simp[hkk];(try simp (disch:=omega) only[w64]);first|exact F3|exact F4) ?_
    exact hKL2 _ _ _ (k+1) ⟨by omega,Lib.hid (by rw[hrel.out,hlg,hcb];simp[h2_12,hkk,hd.out,h7_25])⟩ (by omega) (by simp)
  ·have hge:ns.length≤k:=by simpa using c5
   have hke:k=ns.length:=by have:k≤ns.length:=hlek;omega
   have hdn:=Lib.hid (List.drop_of_length_le hge)
   refine Ze (show K0_1 _ _ _ from hK0_1 _ _ _ ?_)
   refine R0 ?_
   refine Za ?_
   simp[h2_12];exact Zp (by rw[hrel.out,hke,Nat.sub_self];rfl)
 ·refine R2 [] (by simp[h2_12];first|exact F3|exact F4) ?_
  refine fl_T ?_
  refine R0 ?_
  refine Za ?_
  first|(simp[h2_12];done)|(rw[h2_12];simp)
theorem ddev_pure(ns:List Node)(ds:List Dev)(i:Nat)(hi:i<ds.length):Pure Tryz.prog G0 174 [netD ns ds,.int .i64 i] (.int .i64 0):=by
 refine Zh Tryz.func174 rfl Tryz.ntmps174 ?_
 have f1:decide ((i:Int)<0)=false:=by first|(simp;done)|(simp;omega)
 have f2:decide (ds.length≤i)=false:=by simp;omega
 refine R0 ?_
 refine R2 [] (by simp[f1,f2];first|exact F3|exact F4) ?_
 refine fl_F ?_
 refine R0 ?_
 refine Za ?_
 simp
def dutyRows:List (List D):=[[.fn (.func 189) [] [],.int .i64 4],[.fn (.func 190) [] [],.int .i64 3],[.fn (.func 191) [] [],.int .i64 2],[.fn (.func 192) [] [],.int .i64 1]]
def dutyBk(ns:List Node)(d:Dev)(ps oc cc:List Int):Nat→Bool
 | 0=>faultV d cc
 | 1=>parallelV d ps oc
 | 2=>loadV ns d ps oc
 | _=>(deadV d ps oc).2
def dutyV(ns:List Node)(d:Dev)(ps oc cc:List Int):Int:=if faultV d cc=true then 4 else if parallelV d ps oc=true then 3 else if loadV ns d ps oc=true then 2 else if (deadV d ps oc).2=true then 1 else 0
theorem dutyRows_at(k:Nat)(h:k<4):dutyRows[k]? = some [.fn (.func (189+k)) [] [],.int .i64 (4 - k)]:=by
 rcases (by omega:k=0∨k=1∨k=2∨k=3) with rfl|rfl|rfl|rfl<;>rfl
theorem dutyBk_pure(ns:List Node)(ds:List Dev)(d:Dev)(ps oc cc:List Int)(hv:VOK ns d ps oc cc)(k:Nat)(h:k<4):Pure Tryz.prog G0 (189+k) [.agg (vwRow ns ds d ps oc cc)] (.bool (dutyBk ns d ps oc cc k)):=by
 rcases (by omega:k=0∨k=1∨k=2∨k=3) with rfl|rfl|rfl|rfl
 ·exact fault_pure ns ds d ps oc cc hv
 ·exact parallel_pure ns ds d ps oc cc hv
 ·exact load_pure ns ds d ps oc cc hv (fun h=>deadV_in hv.e h)
 ·exact charging_pure ns ds d ps oc cc hv
theorem duty_hit{ns:List Node}{d:Dev}{ps oc cc:List Int}{k:Nat}(h:k<4)(hb:∀ j,j<k→dutyBk ns d ps oc cc j=false)(hk:dutyBk ns d ps oc cc k=true):dutyV ns d ps oc cc=4 - k:=by
 have h0:=hb 0;have h1:=hb 1;have h2:=hb 2
 unfold dutyV
 rcases (by omega:k=0∨k=1∨k=2∨k=3) with rfl|rfl|rfl|rfl
 ·simp[dutyBk] at hk;simp[hk]
 ·simp[dutyBk] at hk h0;simp[hk,h0]
 ·simp[dutyBk] at hk h0 h1;simp[hk,h0,h1]
 ·simp[dutyBk] at hk h0 h1 h2;simp[hk,h0,h1,h2]
theorem duty_none{ns:List Node}{d:Dev}{ps oc cc:List Int}(hb:∀ j,j<4→dutyBk ns d ps oc cc j=false):dutyV ns d ps oc cc=0:=by
 have h0:=hb 0;have h1:=hb 1;have h2:=hb 2;have h3:=hb 3
 simp[dutyBk] at h0 h1 h2 h3
 unfold dutyV
 simp[h0,h1,h2,h3]
theorem colF_in{n:Nat}{ds:List Dev}(hD:DevsIn n ds)(st:List Int):∀ x∈colF n ds st,x=0∨x=1∨x=2∨x=3:=by
 intro x hx
 obtain⟨p,_,rfl⟩:=List.mem_map.1 hx
 exact bits_cases _ _ _
def dutyL(ns:List Node)(ds:List Dev)(st:List Int)(i:Nat):Int:=match ds[i]? with
 | some d=>dutyV ns d (partsL ns.length ds (st.set i 1)) (colF ns.length ds (st.set i 1)) (colF ns.length ds (st.set i 2))
 | none=>0
theorem StOK.set{ds:List Dev}{st:List Int}(h:StOK ds st)(i:Nat){p:Int}(hp:p=1∨p=2):StOK ds (st.set i p):=by
 refine⟨by simp[h.1],fun x hx=>?_⟩
 rcases List.mem_or_eq_of_mem_set hx with h1|rfl
 ·exact h.2 x h1
 ·exact hp
theorem of_pure(ns:List Node)(ds:List Dev)(hc:Zk ns ds=0)(hn:1≤ns.length)(st:List Int)(hs:StOK ds st)(i:Nat)(hi:i<ds.length):Pure Tryz.prog G0 175 [netD ns ds,.sl (Zb st),.int .i64 i] (.int .i64 (dutyL ns ds st i)):=by
 refine Zh Tryz.func175 rfl Tryz.ntmps175 ?_
 obtain⟨g1,g2,_⟩:=Zj hc
 have hsl:=hs.1
 have hdd:ds[i]? = some ds[i]:=by simp[hi]
 have hdl:dutyL ns ds st i=dutyV ns ds[i] (partsL ns.length ds (st.set i 1)) (colF ns.length ds (st.set i 1)) (colF ns.length ds (st.set i 2)):=by simp[dutyL,hi]
 have hv:VOK ns ds[i] (partsL ns.length ds (st.set i 1)) (colF ns.length ds (st.set i 1)) (colF ns.length ds (st.set i 2)):=⟨((ZM hc).ends _ (List.getElem_mem hi)).2.2,Yd _ _ _,Y1 _ _ _,Y1 _ _ _,g1,colF_in (ZM hc) _⟩
 have hb1:=both_pure ns ds hc hn (st.set i 1) (hs.set i (.inl rfl))
 have hb2:=both_pure ns ds hc hn (st.set i 2) (hs.set i (.inr rfl))
 have hw1:=with_pure st (by omega) i (by omega) 1
 have hw2:=with_pure st (by omega) i (by omega) 2
 have hbk:=dutyBk_pure ns ds ds[i] _ _ _ hv
 rw[hdl]
 generalize ds[i]=d at *
 generalize partsL ns.length ds (st.set i 1)=ps at *
 generalize colF ns.length ds (st.set i 1)=oc at *
 generalize partsL ns.length ds (st.set i 2)=ps2 at *
 generalize colF ns.length ds (st.set i 2)=cc at *
 refine R0 ?_
 refine R2 [] (by simp[hdd];first|exact F3|exact F4) ?_
 refine R6 [.p ⟨_,_,_,hw1⟩,.p ⟨_,_,_,hb1⟩] ?_
 refine R6 [.p ⟨_,_,_,hw2⟩,.p ⟨_,_,_,hb2⟩] ?_
 refine R0 ?_
 refine Zd (fun K0_1 hK0_1=>?_)
 refine Zg (X:=Nat) [7,40,41] [37] (fun x=>[(42,.int .i64 x)]) (fun x=>[(37,.arr 2 dutyRows)]) (fun x=>x≤4∧Hid (∀ j,j<x→dutyBk ns d ps oc cc j=false)) (fun x=>4 - x) 0 (⟨by omega,Lib.hid (fun j h=>absurd h (Nat.not_lt_zero _))⟩) (by simp[dutyRows]) ?_
 simp only[KN,keep,but,reduceIte,Nat.reduceEqDiff,Nat.reduceBEq]
 rintro k ⟨hk,hrel⟩ KL2 hKL2
 replace hk:k≤4:=hk
 have hdl4:dutyRows.length=4:=rfl
 refine R2 [] (by simp[hdl4];first|exact F3|exact F4) ?_
 refine fl_C (fun c5=>?_) (fun c5=>?_)
 ·have hk4:k<4:=Int.ofNat_lt.1 (by simpa using c5)
  have hrow:=dutyRows_at k hk4
  have hkl:k<dutyRows.length:=hk4
  have hrow2:dutyRows[k]=[.fn (.func (189+k)) [] [],.int .i64 (4 - k)]:=by rw[List.getElem?_eq_getElem hkl] at hrow;exact Option.some.inj hrow
  refine Zd (fun K1_3 hK1_3=>?_)
  refine R2 [] (by simp[hrow,hrow2,hdl4,hk4];first|exact F3|exact F4) ?_
  rcases bf_ (dutyBk ns d ps oc cc k) with h7_49|h7_49
  ·refine R2 [.p ⟨_,_,_,hbk k hk4⟩] (by simp[h7_49];first|exact F3|exact F4) ?_
   refine fl_T ?_
   refine R0 ?_
   refine Za ?_
   simp;exact le_int (duty_hit hk4 hrel.out h7_49).symm
  ·refine R2 [.p ⟨_,_,_,hbk k hk4⟩] (by simp[h7_49];first|exact F3|exact F4) ?_
   refine fl_F ?_
   refine Zc (hK1_3 _ _ _ ?_)
   refine R1 ?_
   exact hKL2 _ _ _ (k+1) ⟨by show k+1≤4;omega,Lib.hid (fun j hj=>by (have h9:j<k+1:=hj);exact (Nat.lt_or_ge j k).elim (fun h=>hrel.out j h) (fun h=>(show j=k by omega)▸h7_49))⟩ (by show _<_;omega) (by simp)
 ·have hk5:4≤k:=Int.ofNat_le.1 (by simpa using c5)
  have hk4:k=4:=by omega
  subst hk4
  refine Ze (show K0_1 _ _ _ from hK0_1 _ _ _ ?_)
  refine R0 ?_
  refine Za ?_
  simp;exact le_int (duty_none hrel.out).symm
theorem Of_pure(ns:List Node)(ds:List Dev)(hc:Zk ns ds=0)(hn:1≤ns.length)(st:List Int)(hs:StOK ds st)(i:Nat)(hi:i<ds.length):Pure Tryz.prog G0 152 [netD ns ds,.sl (Zb st),.int .i64 i] (.tup [.int .i64 (dutyL ns ds st i),.int .i64 0]):=by
 refine Zh Tryz.func152 rfl Tryz.ntmps152 ?_
 refine R0 ?_
 refine R6 [.p ⟨_,_,_,Y3 ns ds st hc hs⟩] ?_
 refine R0 ?_
 refine fl_T ?_
 refine R6 [.p ⟨_,_,_,ddev_pure ns ds i hi⟩] ?_
 refine R0 ?_
 refine fl_F ?_
 refine R6 [.p ⟨_,_,_,of_pure ns ds hc hn st hs i hi⟩] ?_
 refine Za ?_
 simp
end
section
open Go Go.RowKit
def badV(kind pos x:Int):Bool:=if kind=3 then (x==2)||((x==3)||(x==4)) else if kind=4 then (pos==1)&&(x==4) else if kind=6 then (pos==2)&&(x==3) else kind==5
theorem bad_pure(ns:List Node)(ds:List Dev)(st:List Int)(o:Opr)(k x:Int)(hk:k≠1):Pure Tryz.prog G0 154 [netD ns ds,.sl (Zb st),.agg (Yl o),.int .i64 k,.int .i64 x] (.bool (badV k o.pos x)):=by
 refine Zh Tryz.func154 rfl Tryz.ntmps154 ?_
 have h1:(k==1)=false:=by simpa using hk
 refine R0 ?_
 refine R0 ?_
 refine Zd (fun K0_1 hK0_1=>?_)
 refine R0 ?_
 refine Zn (b:=k==3) (by simp) (fun c2=>?_) (fun c2=>?_)
 ·have e2:k=3:=by simpa using c2
  rcases bf_ (x==2) with h3_15|h3_15
  ·refine R2 [] (by simp[h3_15];first|exact F3|exact F4) ?_
   refine Za ?_
   first|(simp[badV,e2,h3_15];done)|(simp;exact Zp (by simp[badV,e2,h3_15]))
  ·rcases bf_ (x==3) with h3_18|h3_18
   ·refine R2 [] (by simp[h3_15,h3_18];first|exact F3|exact F4) ?_
    refine Za ?_
    first|(simp[badV,e2,h3_15,h3_18];done)|(simp;exact Zp (by simp[badV,e2,h3_15,h3_18]))
   ·rcases bf_ (x==4) with h3_22|h3_22
    ·refine R2 [] (by simp[h3_15,h3_18,h3_22];first|exact F3|exact F4) ?_
     refine Za ?_
     first|(simp[badV,e2,h3_15,h3_18,h3_22];done)|(simp;exact Zp (by simp[badV,e2,h3_15,h3_18,h3_22]))
    ·refine R2 [] (by simp[h3_15,h3_18,h3_22];first|exact F3|exact F4) ?_
     refine Za ?_
     first|(simp[badV,e2,h3_15,h3_18,h3_22];done)|(simp;exact Zp (by simp[badV,e2,h3_15,h3_18,h3_22]))
 ·have e2:¬ k=3:=by simpa using c2
  refine R2 [] (by simp[h1];first|exact F3|exact F4) ?_
  refine fl_F ?_
  refine R0 ?_
  refine Zn (b:=k==4) (by simp) (fun c6=>?_) (fun c6=>?_)
  ·have e3:k=4:=by simpa using c6
   rcases bf_ (o.pos==1) with h7_35|h7_35
   ·rcases bf_ (x==4) with h7_38|h7_38
    ·refine R2 [] (by simp[h7_35,h7_38];first|exact F3|exact F4) ?_
     refine Za ?_
     first|(simp[badV,e2,e3,h7_35,h7_38];done)|(simp;exact Zp (by simp[badV,e2,e3,h7_35,h7_38]))
    ·refine R2 [] (by simp[h7_35,h7_38];first|exact F3|exact F4) ?_
     refine Za ?_
     first|(simp[badV,e2,e3,h7_35,h7_38];done)|(simp;exact Zp (by simp[badV,e2,e3,h7_35,h7_38]))
   ·refine R2 [] (by simp[h7_35];first|exact F3|exact F4) ?_
    refine Za ?_
    first|(simp[badV,e2,e3,h7_35];done)|(simp;exact Zp (by simp[badV,e2,e3,h7_35]))
  ·have e3:¬ k=4:=by simpa using c6
   refine R0 ?_
   refine Zn (b:=k==6) (by simp) (fun c8=>?_) (fun c8=>?_)
   ·have e4:k=6:=by simpa using c8
    rcases bf_ (o.pos==2) with h9_44|h9_44
    ·rcases bf_ (x==3) with h9_47|h9_47
     ·refine R2 [] (by simp[h9_44,h9_47];first|exact F3|exact F4) ?_
      refine Za ?_
      first|(simp[badV,e2,e3,e4,h9_44,h9_47];done)|(simp;exact Zp (by simp[badV,e2,e3,e4,h9_44,h9_47]))
     ·refine R2 [] (by simp[h9_44,h9_47];first|exact F3|exact F4) ?_
      refine Za ?_
      first|(simp[badV,e2,e3,e4,h9_44,h9_47];done)|(simp;exact Zp (by simp[badV,e2,e3,e4,h9_44,h9_47]))
    ·refine R2 [] (by simp[h9_44];first|exact F3|exact F4) ?_
     refine Za ?_
     first|(simp[badV,e2,e3,e4,h9_44];done)|(simp;exact Zp (by simp[badV,e2,e3,e4,h9_44]))
   ·have e4:¬ k=6:=by simpa using c8
    refine Zc (hK0_1 _ _ _ ?_)
    refine R0 ?_
    refine Za ?_
    first|(simp[badV,e2,e3,e4];done)|(simp;exact Zp (by simp[badV,e2,e3,e4]))
def hazL(ns:List Node)(ds:List Dev)(st:List Int)(pr:List Int)(i:Nat)(pos:Int):List Int:=match ds[i]? with
 | some d=>hz4 ((pos==2)&&(dutyL ns ds st i==4)) (badV d.kind pos (dutyL ns ds st i)) (!(lostL (supL ns ds st) (supL ns ds (st.set i pos))).isEmpty) (((pos==2)&&(d.kind==4))&&!(ins pr d.a))
 | none=>[]
structure HOK(ds:List Dev)(st:List Int)(c:Int)(l:List Lk)(o:Opr)(i:Nat):Prop where
 lt:i<ds.length
 dev:o.dev=i
 pos:o.pos=1∨o.pos=2
 ne:PO.at_ st i≠o.pos
 kd:∀ d,ds[i]? = some d→d.kind≠1∧d.comp=c
 lk:∀ x∈l,x.dev≠i
 ll:l.length≤1000
 c0:0≤c∧c≤7
theorem hin_pure(ns:List Node)(ds:List Dev)(hc:Zk ns ds=0)(hn:1≤ns.length)(st:List Int)(hs:StOK ds st)(c:Int)(l:List Lk)(pr:List Int)(hp:pr.length≤1000)(o:Opr)(i:Nat)(ho:HOK ds st c l o i):Pure Tryz.prog G0 113 [netD ns ds,.sl (Zb st),.agg (Yl o),gndD c l pr] (.sl (Zb (hazL ns ds st pr i o.pos))):=by
 refine Zh Tryz.func113 rfl Tryz.ntmps113 ?_
 obtain⟨g1,g2,_⟩:=Zj hc
 have hsl:=hs.1
 obtain⟨hi,hd,hpos,hne,hk,hl,hll,_⟩:=ho
 obtain⟨dev,pos⟩:=o
 simp only at hd hpos hne
 subst hd
 have hdd:ds[i]? = some ds[i]:=by simp[hi]
 have hsi:i<st.length:=by omega
 have hss:st[i]? = some st[i]:=by simp[hsi]
 have hat:PO.at_ st i=st[i]:=by simp[PO.at_,hsi]
 have hsp:(st[i]==pos)=false:=by rw[← hat];simpa using hne
 obtain⟨hk1,hk2⟩:=hk _ hdd
 have hla:(l.any fun x=>x.dev==(i:Int))=false:=by rw[List.any_eq_false];intro x hx;simpa using hl x hx
 have hcc:(ds[i].comp != c)=false:=by rw[hk2];simp
 have hof:=Of_pure ns ds hc hn st hs i hi
 have hwi:=with_pure st (by omega) i hsi pos
 have hlo:=lost_pure ns ds hc hn st hs (st.set i pos) (hs.set i hpos)
 have hls:=lostL_len (supL ns ds st) (supL ns ds (st.set i pos))
 have hls2:=supL_len ns ds st
 have hie:decide (0<(lostL (supL ns ds st) (supL ns ds (st.set i pos))).length)=!(lostL (supL ns ds st) (supL ns ds (st.set i pos))).isEmpty:=by cases (lostL (supL ns ds st) (supL ns ds (st.set i pos)))<;>simp
 have hhl:hazL ns ds st pr i pos=hz4 ((pos==2)&&(dutyL ns ds st i==4)) (badV ds[i].kind pos (dutyL ns ds st i)) (!(lostL (supL ns ds st) (supL ns ds (st.set i pos))).isEmpty) (((pos==2)&&(ds[i].kind==4))&&!(ins pr ds[i].a)):=by simp[hazL,hi]
 rw[hhl]
 generalize ds[i]=d at *
 generalize st[i]=sv at *
 generalize dutyL ns ds st i=x at *
 generalize lostL (supL ns ds st) (supL ns ds (st.set i pos))=lo at *
 have hbad:=bad_pure ns ds st ⟨i,pos⟩ d.kind x hk1
 refine R0 ?_
 refine R2 [] (by simp[hdd];first|exact F3|exact F4) ?_
 refine R2 [.p ⟨_,_,_,Y6 l (by omega) (fun x=>x.dev==(i:Int)) 150 [] [.vp [.int .i64 i,.int .i64 pos]] ZH (by exact⟨fun g k=>by simp[mapO,Zy],fun n=>by simp[D.los,D.lo],by simp[ZB,ZA]⟩) (fun x _=>hin1_pure x ⟨i,pos⟩)⟩] (by simp[hla];first|exact F3|exact F4) ?_
 refine R2 [] (by simp[hcc];first|exact F3|exact F4) ?_
 refine R2 [] (by simp[hss,hsp];first|exact F3|exact F4) ?_
 refine fl_F ?_
 refine R6 [.p ⟨_,_,_,hof⟩] ?_
 rcases bf_ (pos==2) with h7_58|h7_58
 ·refine R2 [] (by simp[h7_58];first|exact F3|exact F4) ?_
  refine R2 [.p ⟨_,_,_,hwi⟩,.p ⟨_,_,_,hlo⟩] (by simp[h7_58];first|exact F3|exact F4) ?_
  rcases bf_ (d.kind==4) with h9_96|h9_96
  ·rcases bf_ (x==4) with h9_77|h9_77
   ·rcases bf_ (ins pr d.a) with h9_103|h9_103
    ·refine R2 [.p ⟨_,_,_,hbad⟩,.p ⟨_,_,_,ZG pr (by omega) d.a⟩,.p ⟨_,_,_,Xk ((pos==2)&&(x==4)) (badV d.kind pos x) (!lo.isEmpty) (((pos==2)&&(d.kind==4))&&!(ins pr d.a))⟩] (by simp[hie,hzA,h7_58,h9_96,h9_77,h9_103];first|exact F3|exact F4) ?_
     refine Za ?_
     simp[h7_58,h9_96,h9_77,h9_103]
    ·refine R2 [.p ⟨_,_,_,hbad⟩,.p ⟨_,_,_,ZG pr (by omega) d.a⟩,.p ⟨_,_,_,Xk ((pos==2)&&(x==4)) (badV d.kind pos x) (!lo.isEmpty) (((pos==2)&&(d.kind==4))&&!(ins pr d.a))⟩] (by simp[hie,hzA,h7_58,h9_96,h9_77,h9_103];first|exact F3|exact F4) ?_
     refine Za ?_
     simp[h7_58,h9_96,h9_77,h9_103]
   ·rcases bf_ (ins pr d.a) with h9_103|h9_103
    ·refine R2 [.p ⟨_,_,_,hbad⟩,.p ⟨_,_,_,ZG pr (by omega) d.a⟩,.p ⟨_,_,_,Xk ((pos==2)&&(x==4)) (badV d.kind pos x) (!lo.isEmpty) (((pos==2)&&(d.kind==4))&&!(ins pr d.a))⟩] (by simp[hie,hzA,h7_58,h9_96,h9_77,h9_103];first|exact F3|exact F4) ?_
     refine Za ?_
     simp[h7_58,h9_96,h9_77,h9_103]
    ·refine R2 [.p ⟨_,_,_,hbad⟩,.p ⟨_,_,_,ZG pr (by omega) d.a⟩,.p ⟨_,_,_,Xk ((pos==2)&&(x==4)) (badV d.kind pos x) (!lo.isEmpty) (((pos==2)&&(d.kind==4))&&!(ins pr d.a))⟩] (by simp[hie,hzA,h7_58,h9_96,h9_77,h9_103];first|exact F3|exact F4) ?_
     refine Za ?_
     simp[h7_58,h9_96,h9_77,h9_103]
  ·rcases bf_ (x==4) with h9_77|h9_77
   ·refine R2 [.p ⟨_,_,_,hbad⟩,.p ⟨_,_,_,Xk ((pos==2)&&(x==4)) (badV d.kind pos x) (!lo.isEmpty) (((pos==2)&&(d.kind==4))&&!(ins pr d.a))⟩] (by simp[hie,hzA,h7_58,h9_96,h9_77];first|exact F3|exact F4) ?_
    refine Za ?_
    simp[h7_58,h9_96,h9_77]
   ·refine R2 [.p ⟨_,_,_,hbad⟩,.p ⟨_,_,_,Xk ((pos==2)&&(x==4)) (badV d.kind pos x) (!lo.isEmpty) (((pos==2)&&(d.kind==4))&&!(ins pr d.a))⟩] (by simp[hie,hzA,h7_58,h9_96,h9_77];first|exact F3|exact F4) ?_
    refine Za ?_
    simp[h7_58,h9_96,h9_77]
 ·refine R2 [] (by simp[h7_58];first|exact F3|exact F4) ?_
  refine R2 [.p ⟨_,_,_,hwi⟩,.p ⟨_,_,_,hlo⟩] (by simp[h7_58];first|exact F3|exact F4) ?_
  refine R2 [.p ⟨_,_,_,hbad⟩,.p ⟨_,_,_,Xk ((pos==2)&&(x==4)) (badV d.kind pos x) (!lo.isEmpty) (((pos==2)&&(d.kind==4))&&!(ins pr d.a))⟩] (by simp[hie,hzA,h7_58];first|exact F3|exact F4) ?_
  refine Za ?_
  simp[h7_58]
theorem hIn_pure(ns:List Node)(ds:List Dev)(hc:Zk ns ds=0)(hn:1≤ns.length)(st:List Int)(hs:StOK ds st)(c:Int)(l:List Lk)(pr:List Int)(hp:pr.length≤1000)(o:Opr)(i:Nat)(ho:HOK ds st c l o i):Pure Tryz.prog G0 69 [netD ns ds,.sl (Zb st),.agg (Yl o),gndD c l pr] (.tup [.sl (Zb (hazL ns ds st pr i o.pos)),.int .i64 0]):=by
 refine Zh Tryz.func69 rfl Tryz.ntmps69 ?_
 refine R0 ?_
 refine R6 [.p ⟨_,_,_,Y3 ns ds st hc hs⟩] ?_
 refine R0 ?_
 refine fl_T ?_
 refine R6 [.p ⟨_,_,_,hzcheck_pure ns ds o c l pr (by rw[ho.dev];have:=ho.lt;omega) ho.pos ho.c0⟩] ?_
 refine R0 ?_
 refine fl_F ?_
 refine R6 [.p ⟨_,_,_,hin_pure ns ds hc hn st hs c l pr hp o i ho⟩] ?_
 refine Za ?_
 simp
theorem prob11_pure(h:Int)(b:List Int)(hl:b.length≤1000000):Pure Tryz.prog G0 89 [.int .i64 h,.vp [.sl (Zb b)]] (.bool (!(ins b h))):=by
 refine Zh Tryz.func89 rfl Tryz.ntmps89 ?_
 refine R0 ?_
 refine R6 [.p ⟨_,_,_,ZG b hl h⟩] ?_
 refine Za ?_
 simp
theorem hz4_len(a b c d:Bool):(hz4 a b c d).length≤4:=by cases a<;>cases b<;>cases c<;>cases d<;>decide
theorem hazL_len(ns:List Node)(ds:List Dev)(st:List Int)(pr:List Int)(i:Nat)(pos:Int):(hazL ns ds st pr i pos).length≤4:=by
 unfold hazL
 split
 ·exact hz4_len _ _ _ _
 ·simp
theorem prob1_pure(ns:List Node)(ds:List Dev)(hc:Zk ns ds=0)(hn:1≤ns.length)(st:List Int)(hs:StOK ds st)(c:Int)(l:List Lk)(pr:List Int)(hp:pr.length≤1000)(o:Opr)(i:Nat)(ho:HOK ds st c l o i)(b:List Int)(hb:b.length≤1000):Pure Tryz.prog G0 87 [.sl (Zb st),.agg (Yl o),.vp [nsD ns,dsD ds],.vp [.int .i64 c,.sl (l.map Zm),.sl (Zb pr)],.vp [.sl (Zb b)]] (.bool (!((hazL ns ds st pr i o.pos).any fun h=>!(ins b h)))):=by
 refine Zh Tryz.func87 rfl Tryz.ntmps87 ?_
 have hhl:=hazL_len ns ds st pr i o.pos
 refine R0 ?_
 refine R6 [.p ⟨_,_,_,hIn_pure ns ds hc hn st hs c l pr hp o i ho⟩] ?_
 refine R6 [.p ⟨_,_,_,ihasf_pure (hazL ns ds st pr i o.pos) (by omega) (fun h=>!(ins b h)) 89 [] [.vp [.sl (Zb b)]] ZH (by exact⟨fun g k=>by simp[mapO,Zy],fun n=>by simp[D.los,D.lo],by simp[ZB,ZA]⟩) (fun x _=>prob11_pure x b (by omega))⟩] ?_
 refine Za ?_
 simp
def movB(ds:List Dev)(c:Int)(l:List Lk)(i:Nat):Bool:=match ds[i]? with
 | some d=>operB d.kind&&(d.kind != 1)&&(d.comp==c)&&!(l.any fun x=>x.dev==(i:Int))
 | none=>false
abbrev movL(ds:List Dev)(c:Int)(l:List Lk):List Int:=supN (movB ds c l) ds.length
theorem moves_pure(ns:List Node)(ds:List Dev)(c:Int)(l:List Lk)(pr:List Int)(hc:0≤c∧c≤7)(h:ZF ns ds l=0)(hp:pr.length≤1000000)(hr:risG ns.length (-1) pr=true)(hm:(movL ds c l).length≤10):Pure Tryz.prog G0 85 [netD ns ds,gndD c l pr] (.tup [.sl (Zb (movL ds c l)),.int .i64 0]):=by
 refine Zh Tryz.func85 rfl Tryz.ntmps85 ?_
 obtain⟨e1,e2,e3⟩:=locks_0 h
 obtain⟨g1,g2,_⟩:=Zj e1
 have htk:(Zb (movL ds c l)).take (movL ds c l).length=Zb (movL ds c l):=List.take_of_length_le (by simp)
 refine R0 ?_
 refine R6 [.p ⟨_,_,_,check_pure ns ds e1⟩] ?_
 refine R0 ?_
 refine fl_T ?_
 refine R6 [.p ⟨_,_,_,gcheck_pure ns ds c l pr hc h hp hr⟩] ?_
 refine R0 ?_
 refine fl_F ?_
 refine R0 ?_
 refine R0 ?_
 refine Zd (fun K0_1 hK0_1=>?_)
 refine Yf 7 1 (by simp) ?_
 refine Zg (X:=Nat) [3,22,23] [20] (fun x=>[(24,.int .i64 x),(7,.os 20 (supN (movB ds c l) x).length 0 (supN (movB ds c l) x).length)]) (fun x=>[(20,.arr 1 (Zb (supN (movB ds c l) x)))]) (fun x=>x≤ds.length) (fun x=>ds.length - x) 0 (by simp) (by simp[supN,Zb]) ?_
 simp only[KN,keep,but,reduceIte,Nat.reduceEqDiff,Nat.reduceBEq]
 rintro k hlek KL2 hKL2
 refine R0 ?_
 refine fl_C (fun c8=>?_) (fun c8=>?_)
 ·have hlt:k<ds.length:=by simpa using c8
  have hkk:ds[k]? = some ds[k]:=by simp[hlt]
  have hd:=Lib.hid (List.drop_eq_getElem_cons hlt)
  have hmb:movB ds c l k=(operB ds[k].kind&&(ds[k].kind != 1)&&(ds[k].comp==c)&&!(l.any fun x=>x.dev==(k:Int))):=by simp[movB,hlt]
  have hsl:=Z3 (movB ds c l) k
  generalize ds[k]=d at *
  refine Zd (fun K1_3 hK1_3=>?_)
  refine R2 [] (by simp[hkk];first|exact F3|exact F4) ?_
  rcases bf_ (operB d.kind) with h10_31|h10_31
  ·rcases bf_ (d.kind != 1) with h10_35|h10_35
   ·rcases bf_ (d.comp==c) with h10_42|h10_42
    ·refine R2 [.p ⟨_,_,_,operable_pure d.kind⟩] (by simp[hkk,h10_31,h10_35,h10_42];first|exact F3|exact F4) ?_
     rcases bf_ (l.any fun x=>x.dev==(k:Int)) with h11_49|h11_49
     ·refine R2 [.p ⟨_,_,_,Y6 l (by omega) (fun x=>x.dev==(k:Int)) 134 [] [.vp [.int .i64 k]] ZH (by exact⟨fun g k=>by simp[mapO,Zy],fun n=>by simp[D.los,D.lo],by simp[ZB,ZA]⟩) (fun x _=>moves1_pure x k)⟩] (by simp[hkk,h11_49];first|exact F3|exact F4) ?_
      refine fl_F ?_
      refine Zc (hK1_3 _ _ _ ?_)
      refine R2 [] (by simp[hkk];(try simp (disch:=omega) only[w64]);first|exact F3|exact F4) ?_
      exact hKL2 _ _ _ (k+1) (by omega) (by omega) (by (try simp only[bne_iff_ne,beq_iff_eq,bne_eq_false_iff_eq,beq_eq_false_iff_ne] at *);simp[supN,hmb,Yk,hkk,hd.out,h10_31,h10_35,h10_42,h11_49])
     ·refine R2 [.p ⟨_,_,_,Y6 l (by omega) (fun x=>x.dev==(k:Int)) 134 [] [.vp [.int .i64 k]] ZH (by exact⟨fun g k=>by simp[mapO,Zy],fun n=>by simp[D.los,D.lo],by simp[ZB,ZA]⟩) (fun x _=>moves1_pure x k)⟩] (by simp[hkk,h11_49];first|exact F3|exact F4) ?_
      refine fl_T ?_
      refine R2 [] (by simp[hkk];first|exact F3|exact F4) ?_
      refine Zc (hK1_3 _ _ _ ?_)
      refine R2 [] (by simp[hkk];(try simp (disch:=omega) only[w64]);first|exact F3|exact F4) ?_
      exact hKL2 _ _ _ (k+1) (by omega) (by omega) (by (try simp only[bne_iff_ne,beq_iff_eq,bne_eq_false_iff_eq,beq_eq_false_iff_ne] at *);simp[supN,hmb,Yk,hkk,hd.out,h10_31,h10_35,h10_42,h11_49])
    ·refine R2 [.p ⟨_,_,_,operable_pure d.kind⟩] (by simp[hkk,h10_31,h10_35,h10_42];first|exact F3|exact F4) ?_
     refine R2 [] (by simp[hkk];first|exact F3|exact F4) ?_
     refine fl_F ?_
     refine Zc (hK1_3 _ _ _ ?_)
     refine R2 [] (by simp[hkk];(try simp (disch:=omega) only[w64]);first|exact F3|exact F4) ?_
     exact hKL2 _ _ _ (k+1) (by omega) (by omega) (by (try simp only[bne_iff_ne,beq_iff_eq,bne_eq_false_iff_eq,beq_eq_false_iff_ne] at *);simp[supN,hmb,Yk,hkk,hd.out,h10_31,h10_35,h10_42])
   ·refine R2 [.p ⟨_,_,_,operable_pure d.kind⟩] (by simp[hkk,h10_31,h10_35];first|exact F3|exact F4) ?_
    refine R2 [] (by simp[hkk];first|exact F3|exact F4) ?_
    refine fl_F ?_
    refine Zc (hK1_3 _ _ _ ?_)
    refine R2 [] (by simp[hkk];(try simp (disch:=omega) only[w64]);first|exact F3|exact F4) ?_
    exact hKL2 _ _ _ (k+1) (by omega) (by omega) (by (try simp only[bne_iff_ne,beq_iff_eq,bne_eq_false_iff_eq,beq_eq_false_iff_ne] at *);simp[supN,hmb,Yk,hkk,hd.out,h10_31,h10_35])
  ·refine R2 [.p ⟨_,_,_,operable_pure d.kind⟩] (by simp[hkk,h10_31];first|exact F3|exact F4) ?_
   refine R2 [] (by simp[hkk];first|exact F3|exact F4) ?_
   refine fl_F ?_
   refine Zc (hK1_3 _ _ _ ?_)
   refine R2 [] (by simp[hkk];(try simp (disch:=omega) only[w64]);first|exact F3|exact F4) ?_
   exact hKL2 _ _ _ (k+1) (by omega) (by omega) (by (try simp only[bne_iff_ne,beq_iff_eq,bne_eq_false_iff_eq,beq_eq_false_iff_ne] at *);simp[supN,hmb,Yk,hkk,hd.out,h10_31])
 ·have hge:ds.length≤k:=by simpa using c8
  have hke:k=ds.length:=by have:k≤ds.length:=hlek;omega
  have hdn:=Lib.hid (List.drop_of_length_le hge)
  have hfin:decide (10<((supN (movB ds c l) k).length:Int))=false:=by rw[hke];have h9:(supN (movB ds c l) ds.length).length≤10:=hm;simp;omega
  refine Ze (show K0_1 _ _ _ from hK0_1 _ _ _ ?_)
  refine R2 [] (by simp[hfin];first|exact F3|exact F4) ?_
  refine fl_F ?_
  refine R0 ?_
  refine Za ?_
  simp[hke,htk]
end
end Go.Proofs.YtjdgofpcmcobnaaGreatDoor.AL

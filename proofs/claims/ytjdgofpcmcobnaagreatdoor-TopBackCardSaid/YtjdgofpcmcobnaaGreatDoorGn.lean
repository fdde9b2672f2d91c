/-
  Contract: the bay.
-/
import Derived.Test.YtjdgofpcmcobnaaGreatDoorGm
set_option maxRecDepth 100000
set_option maxHeartbeats 2000000
set_option linter.unusedVariables false
set_option linter.unusedSimpArgs false
namespace Go.Proofs.YtjdgofpcmcobnaaGreatDoor.AL
section
open Go Go.RowKit
theorem bay_imp(d:Dk)(hd:DkOK d)(nm:Nat)(hnm:5≠nm):Imp Tryz.prog G0 9 [.bp 5 0] [(5,.box (Xy d))] nm (.tup [netD (bayN d) (bayD d),.sl (Zb (bayS d))]) [(5,some (.box (Xy (bayK d))))]:=by
 refine ZC (gl:=[(5,.box (Xy d))]) (nx1:=6) Tryz.func9 rfl Tryz.ntmps9 ?_
 refine R0 ?_
 refine R0 ?_
 refine awpL_ownB 8 0 3 [.nils,.nils] (by simp) (by simp) ?_
 refine awpL_ownB 8 1 5 [.os 9 0 0 0,.nils] (by simp) (by simp) ?_
 refine R0 ?_
 refine Zd (fun K0_1 hK0_1=>?_)
 refine Zg (X:=Nat) [0,2,4] [5,9,8] (fun x=>[(5,.int .i64 x)]) (fun x=>[(5,.box (Xy (ZQ x d).2)),(9,.arr 3 ((ZQ x d).1.map nodeRow)),(8,.box [.os 9 x 0 x,.os 10 0 0 0])]) (fun x=>x≤6) (fun x=>6 - x) 0 (by simp) (by simp[ZQ];try omega) ?_
 simp only[KN,keep,but,reduceIte,Nat.reduceEqDiff,Nat.reduceBEq]
 rintro k hk6 KL2 hKL2
 replace hk6:k≤6:=hk6
 have hdk:=nodesB_ok k hd
 have hnl:=nodesB_len k d
 obtain⟨e,he⟩:∃ e,(ZQ k d).2=e:=⟨_,rfl⟩
 rw[he] at hdk
 refine R0 ?_
 refine Zn (b:=decide ((k:Int)<6)) (by simp) (fun c3=>?_) (fun c3=>?_)
 ·have hlt:k<6:=by have:=of_decide_eq_true c3;omega
  have hv20:=e.nx.v_rng (a:=20) (by decide)
  have hw20:IntKind.wrap .i64 (1+e.nx.v 20)=1+e.nx.v 20:=w64 (by omega) (by omega)
  refine Zd (fun K1_3 hK1_3=>?_)
  refine R6 [.p ⟨_,_,_,nameN_pure k hlt⟩] ?_
  rcases bf_ (decide (0<k)) with h6_18|h6_18
  ·have hk0:0<k:=of_decide_eq_true h6_18
   rcases bf_ (e.v 2==0) with h6_21|h6_21
   ·refine R2 [.i ⟨_,_,_,_,_,_,one_imp e hdk 2 (by decide) (by decide) 5 23 (by omega)⟩] (by simp[he,h6_18,h6_21,hk0];first|exact F3|exact F4) ?_
    refine fl_T ?_
    refine R2 [.i ⟨_,_,_,_,_,_,next_imp e.nx hdk.nx 20 (by decide) (by decide) 5 26 (by omega)⟩] (by simp[hw20,he];(try simp (disch:=omega) only[w64]);first|exact F3|exact F4) ?_
    refine R0 ?_
    refine Zc (hK1_3 _ _ _ ?_)
    refine R1 ?_
    exact hKL2 _ _ _ (k+1) (by show k+1≤6;omega) (by show _<_;omega) (by simp[ZQ,nodeB,he,h6_18,hk0,h6_21];try omega)
   ·refine R2 [.i ⟨_,_,_,_,_,_,one_imp e hdk 2 (by decide) (by decide) 5 23 (by omega)⟩] (by simp[he,h6_18,h6_21,hk0];first|exact F3|exact F4) ?_
    refine fl_F ?_
    refine R0 ?_
    refine Zc (hK1_3 _ _ _ ?_)
    refine R1 ?_
    exact hKL2 _ _ _ (k+1) (by show k+1≤6;omega) (by show _<_;omega) (by simp[ZQ,nodeB,he,h6_18,hk0,h6_21];try omega)
  ·have hk0:¬ 0<k:=of_decide_eq_false h6_18
   refine R2 [] (by simp[he,h6_18,hk0];first|exact F3|exact F4) ?_
   refine fl_F ?_
   refine R0 ?_
   refine Zc (hK1_3 _ _ _ ?_)
   refine R1 ?_
   exact hKL2 _ _ _ (k+1) (by show k+1≤6;omega) (by show _<_;omega) (by simp[ZQ,nodeB,he,h6_18,hk0];try omega)
 ·have hke:k=6:=by have:=of_decide_eq_false c3;omega
  subst hke
  refine Ze (show K0_1 _ _ _ from hK0_1 _ _ _ ?_)
  refine R0 ?_
  refine R0 ?_
  refine R0 ?_
  refine Zd (fun K2_4 hK2_4=>?_)
  refine Zg (X:=Nat) [0,2,4,7] [10,8] (fun x=>[(8,.int .i64 x)]) (fun x=>[(10,.arr 5 (([dS0]++lineD.take x).map Xj)),(8,.box [.os 9 6 0 6,.os 10 (1+x) 0 (1+x)])]) (fun x=>x≤5) (fun x=>5 - x) 0 (by simp) (by simp[dS0];try omega) ?_
  simp only[KN,keep,but,reduceIte,Nat.reduceEqDiff,Nat.reduceBEq]
  rintro k hk5 KL5 hKL5
  replace hk5:k≤5:=hk5
  refine R0 ?_
  refine Zn (b:=decide ((k:Int)<5)) (by simp) (fun c12=>?_) (fun c12=>?_)
  ·have hlt5:k<5:=by have:=of_decide_eq_true c12;omega
   refine Zd (fun K3_6 hK3_6=>?_)
   rcases (show k=0∨k=1∨k=2∨k=3∨k=4 by omega) with rfl|rfl|rfl|rfl|rfl
   ·refine R2 [.p ⟨_,_,_,nameX_pure 0 (by decide)⟩] (by simp;(try simp (disch:=omega) only[w64]);first|exact F3|exact F4) ?_
    refine Zc (hK3_6 _ _ _ ?_)
    refine R1 ?_
    exact hKL5 _ _ _ (0+1) (by show _+1≤5;omega) (by show _<_;omega) (by simp[lineD,dS0];try omega)
   ·refine R2 [.p ⟨_,_,_,nameX_pure 1 (by decide)⟩] (by simp;(try simp (disch:=omega) only[w64]);first|exact F3|exact F4) ?_
    refine Zc (hK3_6 _ _ _ ?_)
    refine R1 ?_
    exact hKL5 _ _ _ (1+1) (by show _+1≤5;omega) (by show _<_;omega) (by simp[lineD,dS0];try omega)
   ·refine R2 [.p ⟨_,_,_,nameX_pure 2 (by decide)⟩] (by simp;(try simp (disch:=omega) only[w64]);first|exact F3|exact F4) ?_
    refine Zc (hK3_6 _ _ _ ?_)
    refine R1 ?_
    exact hKL5 _ _ _ (2+1) (by show _+1≤5;omega) (by show _<_;omega) (by simp[lineD,dS0];try omega)
   ·refine R2 [.p ⟨_,_,_,nameX_pure 3 (by decide)⟩] (by simp;(try simp (disch:=omega) only[w64]);first|exact F3|exact F4) ?_
    refine Zc (hK3_6 _ _ _ ?_)
    refine R1 ?_
    exact hKL5 _ _ _ (3+1) (by show _+1≤5;omega) (by show _<_;omega) (by simp[lineD,dS0];try omega)
   ·refine R2 [.p ⟨_,_,_,nameX_pure 4 (by decide)⟩] (by simp;(try simp (disch:=omega) only[w64]);first|exact F3|exact F4) ?_
    refine Zc (hK3_6 _ _ _ ?_)
    refine R1 ?_
    exact hKL5 _ _ _ (4+1) (by show _+1≤5;omega) (by show _<_;omega) (by simp[lineD,dS0];try omega)
  ·have hke5:k=5:=by have:=of_decide_eq_false c12;omega
   subst hke5
   obtain⟨f,hf⟩:∃ f,(ZQ 6 d).2=f:=⟨_,rfl⟩
   have hfk:=nodesB_ok 6 hd
   rw[hf] at hfk
   refine Ze (show K2_4 _ _ _ from hK2_4 _ _ _ ?_)
   refine R0 ?_
   refine R0 ?_
   refine R2 [.i ⟨_,_,_,_,_,_,next_imp f hfk 4 (by decide) (by decide) 5 37 (by omega)⟩] (by simp[hf];first|exact F3|exact F4) ?_
   refine awpL_cut (X:=List Dev×List Int×Dk) (fun x=>[(0,.bp 5 0),(2,.bp 6 0),(4,.bp 8 0),(9,.os 34 (8+x.2.1.length) 0 (8+x.2.1.length))]) (fun x=>[(5,.box (Xy x.2.2)),(6,.box [.nils,.nils]),(8,.box [.os 9 6 0 6,.os 10 (8+x.1.length) 0 (8+x.1.length)]),(9,.arr 3 ((ZQ 6 d).1.map nodeRow)),(10,.arr 5 ((baseD++x.1).map Xj)),(34,.arr 1 (Zb (baseS++x.2.1)))]) (fun x=>x=xtra f) (fun KC4_7 hKC4_7=>?_) ?_
   ·refine Zd (fun K4_7 hK4_7=>?_)
    refine R0 ?_
    refine Zn (b:=f.v 4==0) (by simp) (fun c18=>?_) (fun c18=>?_)
    ·refine R0 ?_
     refine R0 ?_
     refine Zc (hK4_7 _ _ _ ?_)
     exact hKC4_7 _ _ _ (xtra f) rfl (by simp[xtra,baseD,baseS,lineD,earthsD,dS0,Zb,c3,c18])
    ·refine R0 ?_
     refine Zn (b:=f.v 4==1) (by simp) (fun c21=>?_) (fun c21=>?_)
     ·have hv2:=f.nx.v_rng (a:=2) (by decide)
      have hw2:IntKind.wrap .i64 (1+f.nx.v 2)=1+f.nx.v 2:=w64 (by omega) (by omega)
      refine R0 ?_
      refine R2 [.i ⟨_,_,_,_,_,_,next_imp f.nx hfk.nx 2 (by decide) (by decide) 5 51 (by omega)⟩] (by simp[hw2];(try simp (disch:=omega) only[w64]);first|exact F3|exact F4) ?_
      refine Zc (hK4_7 _ _ _ ?_)
      exact hKC4_7 _ _ _ (xtra f) rfl (by simp[xtra,baseD,baseS,lineD,earthsD,dS0,Zb,c3,c18,c21])
     ·refine R0 ?_
      refine Zn (b:=f.v 4==2) (by simp) (fun c24=>?_) (fun c24=>?_)
      ·refine R0 ?_
       refine R0 ?_
       refine Zc (hK4_7 _ _ _ ?_)
       exact hKC4_7 _ _ _ (xtra f) rfl (by simp[xtra,baseD,baseS,lineD,earthsD,dS0,Zb,c3,c18,c21,c24])
      ·refine Zc (hK4_7 _ _ _ ?_)
       exact hKC4_7 _ _ _ (xtra f) rfl (by simp[xtra,baseD,baseS,lineD,earthsD,dS0,Zb,c3,c18,c21,c24])
   ·rintro⟨xd,xs,g⟩ hxt
    have hgk:DkOK g:=by have:=xtra_ok hfk;rw[← hxt] at this;exact this
    have hxl:=xtra_len f
    rw[← hxt] at hxl
    replace hxl:xd.length=xs.length∧xs.length≤1:=hxl
    obtain⟨st,hst⟩:∃ st,baseS++xs=st:=⟨_,rfl⟩
    have hsl:st.length=8+xs.length:=by rw[← hst];simp[baseS];omega
    refine R6 [.i ⟨_,_,_,_,_,_,one_imp g hgk 3 (by decide) (by decide) 5 39 (by omega)⟩] ?_
    refine Zn (b:=g.v 3==0) (by simp) (fun c27=>?_) (fun c27=>?_)
    ·have hv5:=g.nx.v_rng (a:=5) (by decide)
     obtain⟨j,hj⟩:∃ j:Nat,g.nx.v 5=j:=⟨(g.nx.v 5).toNat,by omega⟩
     have hj5:j<5:=by omega
     have hwj:IntKind.wrap .i64 (1+(j:Int))=((1+j:Nat):Int):=by rw[w64 (by omega) (by omega)];omega
     have hjl:1+j<st.length:=by omega
     have h0j:(0:Int)≤1+(j:Int):=by omega
     have hj8:1+j<8+xs.length:=by omega
     have hb8:baseS.length=8:=rfl
     obtain⟨y,hyy⟩:∃ y,st[1+j]? = some y:=⟨_,List.getElem?_eq_getElem hjl⟩
     obtain⟨_,hyg⟩:=List.getElem?_eq_some_iff.1 hyy
     have hbl:(baseS++xs).length=st.length:=by rw[hst]
     have hjt:((1:Int)+(j:Int)).toNat=1+j:=by omega
     refine R2 [.i ⟨_,_,_,_,_,_,next_imp g.nx hgk.nx 5 (by decide) (by decide) 5 42 (by omega)⟩] (by simp[hj,hwj,hjl,hjt,h0j,hj8,hb8,hst,hyy,hyg,hsl,setI];(try simp (disch:=omega) only[w64]);first|exact F3|exact F4) ?_
     refine R0 ?_
     refine Za ?_
     refine⟨.inr rfl,6,?_⟩
     have hbx:bayX d=(xd,xs,g):=by rw[bayX,hf,← hxt]
     have hbd:baseD.length=8:=rfl
     have ht1:List.take 6 ((ZQ 6 d).1.map nodeRow)=(ZQ 6 d).1.map nodeRow:=List.take_of_length_le (by simp)
     have ht2:List.take (8+xd.length) (baseD.map Xj++xd.map Xj)=baseD.map Xj++xd.map Xj:=List.take_of_length_le (by simp[hbd])
     have ht3:∀ s:List Int,s.length=st.length→List.take (8+xs.length) (Zb s)=Zb s:=fun s hs=>List.take_of_length_le (by simp;omega)
     simp[bayN,bayD,bayS,bayK,hbx,cutS,hst,hbd,ht1,ht2,ht3,hsl,hnm,c3,c27]
     try simp[hj,hjt]
    ·refine R0 ?_
     refine Za ?_
     refine⟨.inr rfl,6,?_⟩
     have hbx:bayX d=(xd,xs,g):=by rw[bayX,hf,← hxt]
     have hbd:baseD.length=8:=rfl
     have ht1:List.take 6 ((ZQ 6 d).1.map nodeRow)=(ZQ 6 d).1.map nodeRow:=List.take_of_length_le (by simp)
     have ht2:List.take (8+xd.length) (baseD.map Xj++xd.map Xj)=baseD.map Xj++xd.map Xj:=List.take_of_length_le (by simp[hbd])
     have ht3:∀ s:List Int,s.length=st.length→List.take (8+xs.length) (Zb s)=Zb s:=fun s hs=>List.take_of_length_le (by simp;omega)
     simp[bayN,bayD,bayS,bayK,hbx,cutS,hst,hbd,ht1,ht2,ht3,hsl,hnm,c3,c27]
     try simp[hj,hjt]
end
end Go.Proofs.YtjdgofpcmcobnaaGreatDoor.AL

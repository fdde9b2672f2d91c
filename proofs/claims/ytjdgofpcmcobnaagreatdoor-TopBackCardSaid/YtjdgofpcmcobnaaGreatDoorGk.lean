/-
  Contracts: programmes, and the steps of a simulation.
-/
import Derived.Test.YtjdgofpcmcobnaaGreatDoorGh
import Derived.Test.YtjdgofpcmcobnaaGreatDoorGd
import Derived.Test.YtjdgofpcmcobnaaGreatDoorGj
set_option maxRecDepth 100000
set_option maxHeartbeats 2000000
set_option linter.unusedVariables false
set_option linter.unusedSimpArgs false
namespace Go.Proofs.YtjdgofpcmcobnaaGreatDoor.AL
section
open Go Go.RowKit
attribute [local simp] onesD oneD
theorem colours_imp(ns:List Node)(ds:List Dev)(st ps:List Int)(hl1:ns.length≤32)(hl2:ds.length≤64)(hsl:st.length=ds.length)(hpl:ps.length=ns.length)(hpb:∀ p∈ps,0≤p∧p<32)(hda:∀ d∈ds,0≤d.a∧d.a<ns.length)(nm:Nat):Imp Tryz.prog G0 44 [netD ns ds,.sl (Zb st),.sl (Zb ps)] [] nm (.os nm ns.length 0 ns.length) [(nm,some (.arr 1 (Zb (colL ds st ps))))]:=by
 refine ZC (gl:=[]) (nx1:=0) Tryz.func44 rfl Tryz.ntmps44 ?_
 refine R0 ?_
 refine R0 ?_
 refine R0 ?_
 refine Zd (fun K0_1 hK0_1=>?_)
 refine fl_loop (X:=Nat×Nat) (fun x=>[(17,.int .i64 x.1),(15,dsD ds),(16,.int .i64 ds.length),(1,.sl (Zb st)),(2,.sl (Zb ps)),(3,.bp 0 0),(7,.rf 2 false)]) (fun x=>[(0,.box [nsD ns,dsD ds]),(2,.obj (.mapII Tryz.prog 3 3 x.2 (Z8 ps ((ds.zip st).take x.1))))]) (fun x=>x.1≤ds.length∧x.2≤x.1) (fun x=>ds.length - x.1) (0,0) (by simp) (by simp;rfl) ?_
 rintro⟨k,n⟩ ⟨hk,hn⟩ KL2 hKL2
 refine R0 ?_
 refine Zn (by simp;rfl) (fun hc=>?_) (fun hc=>?_)
 ·have hlt:k<ds.length:=by simpa using hc
  have hkk:ds[k]? = some ds[k]:=by simp[hlt]
  have hss:st[k]? = some st[k]:=by simp[show k<st.length by omega]
  have hd:=hda _ (List.getElem_mem hlt)
  obtain⟨a,ha⟩:∃ a:Nat,ds[k].a=a:=⟨_,(Int.toNat_of_nonneg hd.1).symm⟩
  have hal:a<ps.length:=by omega
  have haa:ps[a]? = some ps[a]:=by simp[hal]
  have hp:=hpb _ (List.getElem_mem hal)
  have hsn:=zip_snoc hlt (show k<st.length by omega)
  have hbc:=bits_cases ps ((ds.zip st).take k) ps[a]
  have he1:=bOr_earth hbc
  have hl1:=bOr_live hbc
  have he2:=orE_le hbc
  have hl2:=orL_le hbc
  have hat:PO.at_ ps (ds[k].a).toNat=ps[a]:=by rw[ha];simp[PO.at_,haa]
  generalize ds[k]=d at *
  generalize st[k]=s at *
  generalize ps[a]=p at *
  refine Zd (fun K1_3 hK1_3=>?_)
  refine R2 [] (by simp[hkk];first|exact F3|exact F4) ?_
  refine Zd (fun K2_4 hK2_4=>?_)
  refine R2 [] (by simp[hss];first|exact F3|exact F4) ?_
  refine Zn (by simp;rfl) (fun hc=>?_) (fun hc=>?_)
  ·refine Zc (hK2_4 _ _ _ ?_)
   refine Zc (hK1_3 _ _ _ ?_)
   refine R1 ?_
   exact hKL2 _ _ _ (k+1,n) ⟨by show k+1≤_;omega,by show n≤k+1;omega⟩ (by show _<_;omega) (by simp[hsn];exact (bits_not ps _ (d,s) (by simp at hc;simp[hc])).symm)
  ·have hc0:=hc
   refine R0 ?_
   refine Zn (by simp;rfl) (fun hc=>?_) (fun hc=>?_)
   ·refine R2 [] (by simp[ha,haa,he1];first|exact F3|exact F4) ?_
    refine Zc (hK2_4 _ _ _ ?_)
    refine Zc (hK1_3 _ _ _ ?_)
    refine R1 ?_
    exact hKL2 _ _ _ (k+1,n+1) ⟨by show k+1≤_;omega,by show n+1≤k+1;omega⟩ (by show _<_;omega) (by simp[hsn];exact by rw[bits_earth ps _ (d,s) (by simpa using hc0) (by simpa using hc),ite_at,hat])
   ·have h4:=hc
    rcases bf_ (d.kind==5) with h5|h5
    ·refine R2 [] (by simp[h5];first|exact F3|exact F4) ?_
     refine Zn (by simp;rfl) (fun _=>?_) (fun h=>by cases h)
     refine R2 [] (by simp[ha,haa,hl1];first|exact F3|exact F4) ?_
     refine Zc (hK2_4 _ _ _ ?_)
     refine Zc (hK1_3 _ _ _ ?_)
     refine R1 ?_
     exact hKL2 _ _ _ (k+1,n+1) ⟨by show k+1≤_;omega,by show n+1≤k+1;omega⟩ (by show _<_;omega) (by simp[hsn];exact by rw[bits_live ps _ (d,s) (by simpa using hc0) (.inl (by simpa using h5)),ite_at,hat])
    ·refine R2 [] (by simp[h5];first|exact F3|exact F4) ?_
     refine Zn (by simp;rfl) (fun hc=>?_) (fun hc=>?_)
     ·refine R2 [] (by simp[ha,haa,hl1];first|exact F3|exact F4) ?_
      refine Zc (hK2_4 _ _ _ ?_)
      refine Zc (hK1_3 _ _ _ ?_)
      refine R1 ?_
      exact hKL2 _ _ _ (k+1,n+1) ⟨by show k+1≤_;omega,by show n+1≤k+1;omega⟩ (by show _<_;omega) (by simp[hsn];exact by rw[bits_live ps _ (d,s) (by simpa using hc0) (.inr (by simpa using hc)),ite_at,hat])
     ·refine Zc (hK2_4 _ _ _ ?_)
      refine Zc (hK1_3 _ _ _ ?_)
      refine R1 ?_
      exact hKL2 _ _ _ (k+1,n) ⟨by show k+1≤_;omega,by show n≤k+1;omega⟩ (by show _<_;omega) (by simp[hsn];exact (bits_not ps _ (d,s) (by simp at hc h5 h4;simp[hc,h4,h5])).symm)
 ·have hge:ds.length≤k:=by simpa using hc
  have hk2:k=ds.length:=by have:k≤ds.length:=hk;omega
  have hke:(ds.zip st).take k=ds.zip st:=List.take_of_length_le (by simp;omega)
  have hcl:(colL ds st ps).length=ns.length:=by simp[colL,hpl]
  have hF0:YZ (colL ds st ps) 0 0=List.replicate ns.length 0:=by rw[filled_zero,hcl]
  refine Ze (show K0_1 _ _ _ from hK0_1 _ _ _ ?_)
  refine R0 ?_
  refine R0 ?_
  refine Zd (fun K3_5 hK3_5=>?_)
  refine fl_loop (X:=Nat) (fun x=>[(64,.int .i64 x),(62,.sl (Zb ps)),(63,.int .i64 ps.length),(10,.os 12 ns.length 0 ns.length),(7,.rf 2 false)]) (fun x=>[(12,.arr 1 (Zb (YZ (colL ds st ps) 0 x))),(2,.obj (.mapII Tryz.prog 3 3 n (Z8 ps (ds.zip st))))]) (fun x=>x≤ps.length) (fun x=>ps.length - x) 0 (by simp) (by simp[hke,hF0,← repI]) ?_
  rintro j hj KL6 hKL6
  refine R0 ?_
  refine Zn (by simp;rfl) (fun hc=>?_) (fun hc=>?_)
  ·have hlt:j<ps.length:=by simpa using hc
   have hjj:ps[j]? = some ps[j]:=by simp[hlt]
   have hp:=hpb _ (List.getElem_mem hlt)
   have hjn:j<ns.length:=by omega
   have hjc:j<(colL ds st ps).length:=by omega
   have hfl:=filled_len (colL ds st ps) 0 j (by omega)
   have hfj:=filled_at (colL ds st ps) 0 j hjc
   have hcj:(colL ds st ps)[j]=Z8 ps (ds.zip st) ps[j]:=by simp[colL]
   have hst:=filled_step (colL ds st ps) 0 j hjc
   rw[hcj] at hst
   refine Zd (fun K4_7 hK4_7=>?_)
   refine R2 [] (by simp[hjj];first|exact F3|exact F4) ?_
   refine R2 [] (by simp[hjn,hfj,hfl,hcl,hke];first|exact F3|exact F4) ?_
   refine Zc (hK4_7 _ _ _ ?_)
   refine R1 ?_
   exact hKL6 _ _ _ (j+1) (by omega) (by omega) (by simp[setI,hst])
  ·have hge:ps.length≤j:=by simpa using hc
   have hfa:=filled_all (colL ds st ps) 0 j (by omega)
   have htk:(Zb (colL ds st ps)).take ns.length=Zb (colL ds st ps):=List.take_of_length_le (by simp[hcl])
   refine Ze (show K3_5 _ _ _ from hK3_5 _ _ _ ?_)
   refine R0 ?_
   refine Za ?_
   refine⟨.inr rfl,12,?_⟩
   simp[hfa,htk,hcl]
theorem both_imp(ns:List Node)(ds:List Dev)(hc:Zk ns ds=0)(hn:1≤ns.length)(st:List Int)(hs:StOK ds st)(nm:Nat):Imp Tryz.prog G0 71 [netD ns ds,.sl (Zb st)] [] nm (.tup [.any,.os nm ns.length 0 ns.length]) [(nm,some (.arr 1 (Zb (colF ns.length ds st))))]:=by
 refine ZC (gl:=[]) (nx1:=0) Tryz.func71 rfl Tryz.ntmps71 ?_
 obtain⟨g1,g2,_⟩:=Zj hc
 refine R0 ?_
 refine R6 [.p ⟨_,_,_,parts_pure ns ds hc hn st hs⟩] ?_
 refine R [.b ⟨_,_,_,_,_,_,colours_imp ns ds st (partsL ns.length ds st) g1 g2 hs.1 (Yd _ _ _) (parts_bound (ZM hc) g1 st) (fun d hd=>(dev_at hc hd).1) 11⟩] (by simp;first|exact F3|exact F4) (by first|exact Zs _|exact Zq _|exact Zt _|trivial|omega|(simp;done)|(simp;omega)) ?_
 refine awpL_le 4 .any (Le.any _) ?_
 refine Za ?_
 refine⟨.inr rfl,11,?_⟩
 simp[colF]
end
section
open Go Go.RowKit
attribute [local simp] onesD oneD
inductive FE where
 | w (s:ByteArray)|dev|nod|pos|key
def feT:FE→Nat
 | .w _=>213|.dev=>215|.nod=>218|.pos=>216|.key=>217
def feV:FE→D
 | .w s=>.str s|_=>.agg []
abbrev feD(x:FE):D:=.ifc (feT x) (feV x)
def feRow(x:FE):List D:=[feD x]
def YQ(k:Int):List FE :=
 if k=1 then [.w ⟨#[111,112,101,110]⟩,.dev]
 else if k=2 then [.w ⟨#[99,108,111,115,101]⟩,.dev]
 else if k=3 then [.w ⟨#[108,111,99,107]⟩,.dev,.pos,.w ⟨#[107,101,121]⟩,.key]
 else if k=4 then [.w ⟨#[117,110,108,111,99,107]⟩,.dev,.w ⟨#[107,101,121]⟩,.key]
 else if k=5 then [.w ⟨#[112,114,111,118,101]⟩,.nod]
 else if k=6 then [.w ⟨#[99,104,101,99,107]⟩,.dev,.pos]
 else []
theorem form_pure(k:Int)(hk:1≤k∧k≤6):Pure Tryz.prog G0 148 [.int .i64 k] (.sl ((YQ k).map feRow)):=by
 refine Zh Tryz.func148 rfl Tryz.ntmps148 ?_
 refine R0 ?_
 refine R0 ?_
 refine Zd (fun K0_1 hK0_1=>?_)
 refine R0 ?_
 refine Zn (b:=k==1) (by simp) (fun c2=>?_) (fun c2=>?_)
 ·refine R0 ?_
  refine Za ?_
  have hkk:k=1∨k=2∨k=3∨k=4∨k=5∨k=6:=by omega
  rcases hkk with rfl|rfl|rfl|rfl|rfl|rfl<;>first|(exfalso;simp_all;done)|(simp[YQ,feRow,feT,feV];done)|(simp[YQ,feRow,feT,feV];exact Le.refl _)
 ·refine R0 ?_
  refine Zn (b:=k==2) (by simp) (fun c4=>?_) (fun c4=>?_)
  ·refine R0 ?_
   refine Za ?_
   have hkk:k=1∨k=2∨k=3∨k=4∨k=5∨k=6:=by omega
   rcases hkk with rfl|rfl|rfl|rfl|rfl|rfl<;>first|(exfalso;simp_all;done)|(simp[YQ,feRow,feT,feV];done)|(simp[YQ,feRow,feT,feV];exact Le.refl _)
  ·refine R0 ?_
   refine Zn (b:=k==3) (by simp) (fun c6=>?_) (fun c6=>?_)
   ·refine R0 ?_
    refine Za ?_
    have hkk:k=1∨k=2∨k=3∨k=4∨k=5∨k=6:=by omega
    rcases hkk with rfl|rfl|rfl|rfl|rfl|rfl<;>first|(exfalso;simp_all;done)|(simp[YQ,feRow,feT,feV];done)|(simp[YQ,feRow,feT,feV];exact Le.refl _)
   ·refine R0 ?_
    refine Zn (b:=k==4) (by simp) (fun c8=>?_) (fun c8=>?_)
    ·refine R0 ?_
     refine Za ?_
     have hkk:k=1∨k=2∨k=3∨k=4∨k=5∨k=6:=by omega
     rcases hkk with rfl|rfl|rfl|rfl|rfl|rfl<;>first|(exfalso;simp_all;done)|(simp[YQ,feRow,feT,feV];done)|(simp[YQ,feRow,feT,feV];exact Le.refl _)
    ·refine R0 ?_
     refine Zn (b:=k==5) (by simp) (fun c10=>?_) (fun c10=>?_)
     ·refine R0 ?_
      refine Za ?_
      have hkk:k=1∨k=2∨k=3∨k=4∨k=5∨k=6:=by omega
      rcases hkk with rfl|rfl|rfl|rfl|rfl|rfl<;>first|(exfalso;simp_all;done)|(simp[YQ,feRow,feT,feV];done)|(simp[YQ,feRow,feT,feV];exact Le.refl _)
     ·refine R0 ?_
      refine Zn (b:=k==6) (by simp) (fun c12=>?_) (fun c12=>?_)
      ·refine R0 ?_
       refine Za ?_
       have hkk:k=1∨k=2∨k=3∨k=4∨k=5∨k=6:=by omega
       rcases hkk with rfl|rfl|rfl|rfl|rfl|rfl<;>first|(exfalso;simp_all;done)|(simp[YQ,feRow,feT,feV];done)|(simp[YQ,feRow,feT,feV];exact Le.refl _)
      ·refine Zc (hK0_1 _ _ _ ?_)
       refine R0 ?_
       refine Za ?_
       have hkk:k=1∨k=2∨k=3∨k=4∨k=5∨k=6:=by omega
       rcases hkk with rfl|rfl|rfl|rfl|rfl|rfl<;>first|(exfalso;simp_all;done)|(simp[YQ,feRow,feT,feV];done)|(simp[YQ,feRow,feT,feV];exact Le.refl _)
end
section
open Go Go.RowKit
attribute [local simp] onesD oneD
theorem same74:SameOK Tryz.prog 74 [.i,.i,.i,.i,.i]:=⟨by kernel_rfl,by kernel_rfl,by kernel_rfl⟩
theorem same62:SameOK Tryz.prog 62 [.i,.i,.i]:=⟨by kernel_rfl,by kernel_rfl,by kernel_rfl⟩
structure WB where
 a:Bool
 b:Bool
 c:Bool
 d:Bool
@[simp] def wbRow(w:WB):List D:=[.bool w.a,.bool w.b,.bool w.c,.bool w.d]
def hasO(nn nd:Nat)(p:Stp×WB)(x:FE):Stp×WB:=match x with
 | .w _=>p
 | .dev=>({ p.1 with dev:=0 },{ p.2 with a:=decide (p.1.dev<0)||decide ((nd:Int)≤p.1.dev) })
 | .nod=>({ p.1 with nod:=0 },{ p.2 with b:=!(decide (0≤p.1.nod)&&decide (p.1.nod<nn)) })
 | .pos=>({ p.1 with pos:=0 },{ p.2 with c:=p.1.pos != 1&&p.1.pos != 2 })
 | .key=>({ p.1 with key:=0 },{ p.2 with d:=decide (p.1.key<0)||decide (65536<p.1.key) })
def hasF(nn nd:Nat)(s:Stp)(fs:List FE):Stp×WB:=fs.foldl (hasO nn nd) (s,⟨false,false,false,false⟩)
theorem hasF_take(nn nd:Nat)(s:Stp)(fs:List FE)(k:Nat)(x:FE)(h:fs[k]? = some x):hasF nn nd s (fs.take (k+1))=hasO nn nd (hasF nn nd s (fs.take k)) x:=by
 rw[List.take_add_one,h]
 simp[hasF]
theorem fe_dev{x:FE}(h:feT x=215):x=.dev:=by cases x<;>simp[feT] at h ⊢
theorem fe_nod{x:FE}(h:feT x=218):x=.nod:=by cases x<;>simp[feT] at h ⊢
theorem fe_pos{x:FE}(h:feT x=216):x=.pos:=by cases x<;>simp[feT] at h ⊢
theorem fe_key{x:FE}(h:feT x=217):x=.key:=by cases x<;>simp[feT] at h ⊢
theorem fe_word{nn nd:Nat}{p:Stp×WB}{x:FE}(h1:¬ feT x=215)(h2:¬ feT x=218)(h3:¬ feT x=216)(h4:¬ feT x=217):hasO nn nd p x=p:=by cases x<;>simp[feT] at h1 h2 h3 h4 ⊢<;>rfl
theorem has_pure(ns:List Node)(ds:List Dev)(hd:ds.length≤64)(s:Stp)(fs:List FE)(hl:fs.length≤100):Pure Tryz.prog G0 149 [netD ns ds,.agg (Zr s),.sl (fs.map feRow)] (.tup [.agg (Zr (hasF ns.length ds.length s fs).1),.agg (wbRow (hasF ns.length ds.length s fs).2)]):=by
 refine Zh Tryz.func149 rfl Tryz.ntmps149 ?_
 refine R0 ?_
 refine R0 ?_
 refine R0 ?_
 refine Zd (fun K0_1 hK0_1=>?_)
 refine Zg (X:=Nat×Stp×WB) [3,4,6,7,8,11,12] [1,4] (fun x=>[(13,.int .i64 x.1)]) (fun x=>[(1,.box (Zr x.2.1)),(4,.box (wbRow x.2.2))]) (fun x=>x.1≤fs.length∧Hid (hasF ns.length ds.length s (fs.take x.1)=x.2)) (fun x=>fs.length - x.1) (0,s,⟨false,false,false,false⟩) (⟨Nat.zero_le _,Lib.hid rfl⟩) (by simp;try rfl) ?_
 simp only[KN,keep,but,reduceIte,Nat.reduceEqDiff,Nat.reduceBEq]
 rintro⟨k,⟨s1,w1⟩⟩ ⟨hlek,hrel⟩ KL2 hKL2
 replace hrel:Hid (hasF ns.length ds.length s (fs.take k)=(s1,w1)):=hrel
 refine R0 ?_
 refine fl_C (fun c3=>?_) (fun c3=>?_)
 ·have hlt:k<fs.length:=by simpa using c3
  have hkk:fs[k]? = some fs[k]:=by simp[hlt]
  have hd:=Lib.hid (List.drop_eq_getElem_cons hlt)
  have htk:=hasF_take ns.length ds.length s fs k fs[k] (by simp[hlt])
  rw[hrel.out] at htk
  generalize fs[k]=x at *
  refine Zd (fun K1_3 hK1_3=>?_)
  refine R2 [] (by simp[feRow,hkk];first|exact F3|exact F4) ?_
  refine R2 [] (by simp[hkk];first|exact F3|exact F4) ?_
  refine Zd (fun K2_4 hK2_4=>?_)
  rcases bf_ (decide (feT x=215)) with h6_19|h6_19
  ·have g6:=of_decide_eq_true h6_19
   have e6:=fe_dev g6
   refine R2 [] (by simp[hkk,h6_19,g6];first|exact F3|exact F4) ?_
   refine fl_T ?_
   rcases bf_ (decide (s1.dev<0)) with h7_23|h7_23
   ·refine R2 [] (by simp[hkk,h7_23];first|exact F3|exact F4) ?_
    refine R2 [] (by simp[hkk];first|exact F3|exact F4) ?_
    refine Zc (hK2_4 _ _ _ ?_)
    refine Zc (hK1_3 _ _ _ ?_)
    refine R2 [] (by simp[hkk];(try simp (disch:=omega) only[w64]);first|exact F3|exact F4) ?_
    exact hKL2 _ _ _ (k+1,hasO ns.length ds.length (s1,w1) x) ⟨by show k+1≤_;omega,Lib.hid htk⟩ (by show _<_;omega) (by simp[hasO,e6,hkk,hd.out,h6_19,g6,h7_23])
   ·rcases bf_ (decide ((ds.length:Int)≤s1.dev)) with h7_30|h7_30
    ·refine R2 [] (by simp[hkk,h7_23,h7_30];first|exact F3|exact F4) ?_
     refine R2 [] (by simp[hkk];first|exact F3|exact F4) ?_
     refine Zc (hK2_4 _ _ _ ?_)
     refine Zc (hK1_3 _ _ _ ?_)
     refine R2 [] (by simp[hkk];(try simp (disch:=omega) only[w64]);first|exact F3|exact F4) ?_
     exact hKL2 _ _ _ (k+1,hasO ns.length ds.length (s1,w1) x) ⟨by show k+1≤_;omega,Lib.hid htk⟩ (by show _<_;omega) (by simp[hasO,e6,hkk,hd.out,h6_19,g6,h7_23,h7_30])
    ·refine R2 [] (by simp[hkk,h7_23,h7_30];first|exact F3|exact F4) ?_
     refine R2 [] (by simp[hkk];first|exact F3|exact F4) ?_
     refine Zc (hK2_4 _ _ _ ?_)
     refine Zc (hK1_3 _ _ _ ?_)
     refine R2 [] (by simp[hkk];(try simp (disch:=omega) only[w64]);first|exact F3|exact F4) ?_
     exact hKL2 _ _ _ (k+1,hasO ns.length ds.length (s1,w1) x) ⟨by show k+1≤_;omega,Lib.hid htk⟩ (by show _<_;omega) (by simp[hasO,e6,hkk,hd.out,h6_19,g6,h7_23,h7_30])
  ·have g6:=of_decide_eq_false h6_19
   refine R2 [] (by simp[hkk,h6_19,g6];first|exact F3|exact F4) ?_
   refine fl_F ?_
   rcases bf_ (decide (feT x=218)) with h9_35|h9_35
   ·have g9:=of_decide_eq_true h9_35
    have e9:=fe_nod g9
    refine R2 [] (by simp[hkk,h9_35,g9];first|exact F3|exact F4) ?_
    refine fl_T ?_
    refine R2 [.p ⟨_,_,_,exists_pure ns ds s1.nod⟩] (by simp[hkk];first|exact F3|exact F4) ?_
    refine R2 [] (by simp[hkk];first|exact F3|exact F4) ?_
    refine Zc (hK2_4 _ _ _ ?_)
    refine Zc (hK1_3 _ _ _ ?_)
    refine R2 [] (by simp[hkk];(try simp (disch:=omega) only[w64]);first|exact F3|exact F4) ?_
    exact hKL2 _ _ _ (k+1,hasO ns.length ds.length (s1,w1) x) ⟨by show k+1≤_;omega,Lib.hid htk⟩ (by show _<_;omega) (by simp[hasO,e9,hkk,hd.out,h6_19,g6,h9_35,g9])
   ·have g9:=of_decide_eq_false h9_35
    refine R2 [] (by simp[hkk,h9_35,g9];first|exact F3|exact F4) ?_
    refine fl_F ?_
    rcases bf_ (decide (feT x=216)) with h12_45|h12_45
    ·have g12:=of_decide_eq_true h12_45
     have e12:=fe_pos g12
     refine R2 [] (by simp[hkk,h12_45,g12];first|exact F3|exact F4) ?_
     refine fl_T ?_
     rcases bf_ (s1.pos != 1) with h13_49|h13_49
     ·rcases bf_ (s1.pos != 2) with h13_53|h13_53
      ·refine R2 [] (by simp[hkk,h13_49,h13_53];first|exact F3|exact F4) ?_
       refine R2 [] (by simp[hkk];first|exact F3|exact F4) ?_
       refine Zc (hK2_4 _ _ _ ?_)
       refine Zc (hK1_3 _ _ _ ?_)
       refine R2 [] (by simp[hkk];(try simp (disch:=omega) only[w64]);first|exact F3|exact F4) ?_
       exact hKL2 _ _ _ (k+1,hasO ns.length ds.length (s1,w1) x) ⟨by show k+1≤_;omega,Lib.hid htk⟩ (by show _<_;omega) (by simp[hasO,e12,hkk,hd.out,h6_19,g6,h9_35,g9,h12_45,g12,h13_49,h13_53])
      ·refine R2 [] (by simp[hkk,h13_49,h13_53];first|exact F3|exact F4) ?_
       refine R2 [] (by simp[hkk];first|exact F3|exact F4) ?_
       refine Zc (hK2_4 _ _ _ ?_)
       refine Zc (hK1_3 _ _ _ ?_)
       refine R2 [] (by simp[hkk];(try simp (disch:=omega) only[w64]);first|exact F3|exact F4) ?_
       exact hKL2 _ _ _ (k+1,hasO ns.length ds.length (s1,w1) x) ⟨by show k+1≤_;omega,Lib.hid htk⟩ (by show _<_;omega) (by simp[hasO,e12,hkk,hd.out,h6_19,g6,h9_35,g9,h12_45,g12,h13_49,h13_53])
     ·refine R2 [] (by simp[hkk,h13_49];first|exact F3|exact F4) ?_
      refine R2 [] (by simp[hkk];first|exact F3|exact F4) ?_
      refine Zc (hK2_4 _ _ _ ?_)
      refine Zc (hK1_3 _ _ _ ?_)
      refine R2 [] (by simp[hkk];(try simp (disch:=omega) only[w64]);first|exact F3|exact F4) ?_
      exact hKL2 _ _ _ (k+1,hasO ns.length ds.length (s1,w1) x) ⟨by show k+1≤_;omega,Lib.hid htk⟩ (by show _<_;omega) (by simp[hasO,e12,hkk,hd.out,h6_19,g6,h9_35,g9,h12_45,g12,h13_49])
    ·have g12:=of_decide_eq_false h12_45
     refine R2 [] (by simp[hkk,h12_45,g12];first|exact F3|exact F4) ?_
     refine fl_F ?_
     rcases bf_ (decide (feT x=217)) with h15_58|h15_58
     ·have g15:=of_decide_eq_true h15_58
      have e15:=fe_key g15
      refine R2 [] (by simp[hkk,h15_58,g15];first|exact F3|exact F4) ?_
      refine fl_T ?_
      rcases bf_ (decide (s1.key<0)) with h16_62|h16_62
      ·refine R2 [] (by simp[hkk,h16_62];first|exact F3|exact F4) ?_
       refine R2 [] (by simp[hkk];first|exact F3|exact F4) ?_
       refine Zc (hK2_4 _ _ _ ?_)
       refine Zc (hK1_3 _ _ _ ?_)
       refine R2 [] (by simp[hkk];(try simp (disch:=omega) only[w64]);first|exact F3|exact F4) ?_
       exact hKL2 _ _ _ (k+1,hasO ns.length ds.length (s1,w1) x) ⟨by show k+1≤_;omega,Lib.hid htk⟩ (by show _<_;omega) (by simp[hasO,e15,hkk,hd.out,h6_19,g6,h9_35,g9,h12_45,g12,h15_58,g15,h16_62])
      ·rcases bf_ (decide (65536<s1.key)) with h16_66|h16_66
       ·refine R2 [] (by simp[hkk,h16_62,h16_66];first|exact F3|exact F4) ?_
        refine R2 [] (by simp[hkk];first|exact F3|exact F4) ?_
        refine Zc (hK2_4 _ _ _ ?_)
        refine Zc (hK1_3 _ _ _ ?_)
        refine R2 [] (by simp[hkk];(try simp (disch:=omega) only[w64]);first|exact F3|exact F4) ?_
        exact hKL2 _ _ _ (k+1,hasO ns.length ds.length (s1,w1) x) ⟨by show k+1≤_;omega,Lib.hid htk⟩ (by show _<_;omega) (by simp[hasO,e15,hkk,hd.out,h6_19,g6,h9_35,g9,h12_45,g12,h15_58,g15,h16_62,h16_66])
       ·refine R2 [] (by simp[hkk,h16_62,h16_66];first|exact F3|exact F4) ?_
        refine R2 [] (by simp[hkk];first|exact F3|exact F4) ?_
        refine Zc (hK2_4 _ _ _ ?_)
        refine Zc (hK1_3 _ _ _ ?_)
        refine R2 [] (by simp[hkk];(try simp (disch:=omega) only[w64]);first|exact F3|exact F4) ?_
        exact hKL2 _ _ _ (k+1,hasO ns.length ds.length (s1,w1) x) ⟨by show k+1≤_;omega,Lib.hid htk⟩ (by show _<_;omega) (by simp[hasO,e15,hkk,hd.out,h6_19,g6,h9_35,g9,h12_45,g12,h15_58,g15,h16_62,h16_66])
     ·have g15:=of_decide_eq_false h15_58
      refine R2 [] (by simp[hkk,h15_58,g15];first|exact F3|exact F4) ?_
      refine fl_F ?_
      refine Zc (hK2_4 _ _ _ ?_)
      refine Zc (hK1_3 _ _ _ ?_)
      refine R2 [] (by simp[hkk];(try simp (disch:=omega) only[w64]);first|exact F3|exact F4) ?_
      exact hKL2 _ _ _ (k+1,hasO ns.length ds.length (s1,w1) x) ⟨by show k+1≤_;omega,Lib.hid htk⟩ (by show _<_;omega) (by simp[fe_word g6 g9 g12 g15])
 ·have hge:fs.length≤k:=by simpa using c3
  have hke:k=fs.length:=by have:k≤fs.length:=hlek;omega
  have hdn:=Lib.hid (List.drop_of_length_le hge)
  refine Ze (show K0_1 _ _ _ from hK0_1 _ _ _ ?_)
  refine R0 ?_
  refine Za ?_
  have hr2:hasF ns.length ds.length s fs=(s1,w1):=by rw[← hrel.out,List.take_of_length_le hge]
  simp[hke]
  rw[hr2]
  exact Le.refl _
def StpOK(nn nd:Nat)(s:Stp):Prop:=(1≤s.knd∧s.knd≤6)∧hasF nn nd s (YQ s.knd)=(⟨s.knd,0,0,0,0⟩,⟨false,false,false,false⟩)
theorem form_len(k:Int):(YQ k).length≤5:=by
 unfold YQ
 repeat' split
 all_goals simp
theorem form_ne{k:Int}(h:1≤k∧k≤6):YQ k≠[]:=by
 have hkk:k=1∨k=2∨k=3∨k=4∨k=5∨k=6:=by omega
 rcases hkk with rfl|rfl|rfl|rfl|rfl|rfl<;>simp[YQ]
theorem pstep_pure(ns:List Node)(ds:List Dev)(hd:ds.length≤64)(s:Stp)(hs:StpOK ns.length ds.length s):Pure Tryz.prog G0 109 [netD ns ds,.agg (Zr s)] (.int .i64 0):=by
 refine Zh Tryz.func109 rfl Tryz.ntmps109 ?_
 have hfl:=form_len s.knd
 obtain⟨f0,fr,hfr⟩:=List.exists_cons_of_ne_nil (form_ne hs.1)
 have hr:=has_pure ns ds hd s (YQ s.knd) (by omega)
 rw[hs.2] at hr
 refine R0 ?_
 refine R6 [.p ⟨_,_,_,form_pure s.knd hs.1⟩] ?_
 refine R2 [] (by simp[hfr];first|exact F3|exact F4) ?_
 refine fl_F ?_
 refine R2 [.p ⟨_,_,_,hr⟩] (by simp[hfr];first|exact F3|exact F4) ?_
 refine R0 ?_
 refine Zd (fun K0_1 hK0_1=>?_)
 refine Zg (X:=Nat) [3,6,7,22] [] (fun x=>[(23,.int .i64 x)]) (fun x=>[]) (fun x=>x≤4) (fun x=>4 - x) 0 (by simp) (by simp) ?_
 simp only[KN,keep,but,reduceIte,Nat.reduceEqDiff,Nat.reduceBEq]
 rintro k hk4 KL2 hKL2
 refine R0 ?_
 refine fl_C (fun c6=>?_) (fun c6=>?_)
 ·have hlt:k<4:=by have h9:=c6;simp at h9;omega
  obtain⟨e4,he4⟩:∃ e,[D.int .i64 8,.int .i64 7,.int .i64 10,.int .i64 5][k]? = some e:=⟨_,List.getElem?_eq_getElem (by simpa using hlt)⟩
  obtain⟨r4,hb4⟩:∃ r,List.drop k [D.bool false,.bool false,.bool false,.bool false]=.bool false::r:=by have:k=0∨k=1∨k=2∨k=3:=(by omega);rcases this with rfl|rfl|rfl|rfl<;>exact⟨_,rfl⟩
  refine Zd (fun K1_3 hK1_3=>?_)
  refine R2 [] (by simp[he4,hlt];first|exact F3|exact F4) ?_
  refine R2 [] (by simp[hb4,hlt];first|exact F3|exact F4) ?_
  refine fl_F ?_
  refine Zc (hK1_3 _ _ _ ?_)
  refine R1 ?_
  exact hKL2 _ _ _ (k+1) (by show k+1≤4;omega) (by show _<_;omega) (by simp)
 ·refine Ze (show K0_1 _ _ _ from hK0_1 _ _ _ ?_)
  refine R2 [] (by simp[eq_true same74];first|exact F3|exact F4) ?_
  refine fl_F ?_
  refine R0 ?_
  refine Za ?_
  simp
end
section
open Go Go.RowKit
attribute [local simp] onesD oneD
def lkD:List Lk→D
 | []=>.nils
 | x::l=>.sl ((x::l).map Zm)
def pvD:List Int→D
 | []=>.nils
 | x::l=>.sl (Zb (x::l))
theorem le_lkD:∀ l:List Lk,Le (lkD l) (.sl (l.map Zm))
 | []=>Le.nils
 | _::_=>Le.refl _
theorem le_pvD:∀ l:List Int,Le (pvD l) (.sl (Zb l))
 | []=>Le.nils
 | _::_=>Le.refl _
theorem lkD_ne{l:List Lk}(h:l≠[]):lkD l=.sl (l.map Zm):=by cases l with|nil=>exact absurd rfl h|cons x l=>rfl
abbrev gD(c:Int)(l:List Lk)(pr:List Int):D:=.agg [.int .i64 c,lkD l,pvD pr]
theorem le_gD(c:Int)(l:List Lk)(pr:List Int):Le (gD c l pr) (gndD c l pr):=Xw ⟨Le.refl _,le_lkD l,le_pvD pr,trivial⟩
@[simp 5000] theorem viewE_lkD(g:Nat→Option Blk)(k:Nat)(l:List Lk):Zy g (k+1) (lkD l)=some (lkD l):=by cases l<;>simp[lkD,Zy]
@[simp 5000] theorem viewE_pvD(g:Nat→Option Blk)(k:Nat)(l:List Int):Zy g (k+1) (pvD l)=some (pvD l):=by cases l<;>simp[pvD,Zy]
@[simp 5000] theorem viewK_lkD(p:Nat→Bool)(g:Nat→Option Blk)(k:Nat)(l:List Lk):YJ p g (k+1) (lkD l)=some (lkD l):=by cases l<;>simp[lkD,YJ]
@[simp 5000] theorem viewK_pvD(p:Nat→Bool)(g:Nat→Option Blk)(k:Nat)(l:List Int):YJ p g (k+1) (pvD l)=some (pvD l):=by cases l<;>simp[pvD,YJ]
@[simp 5000] theorem viewKE_lkD(p:Nat→Bool)(g:Nat→Option Blk)(k:Nat)(l:List Lk):Z7 p g (k+1) (lkD l)=some (lkD l):=by cases l<;>simp[lkD,Z7]
@[simp 5000] theorem viewKE_pvD(p:Nat→Bool)(g:Nat→Option Blk)(k:Nat)(l:List Int):Z7 p g (k+1) (pvD l)=some (pvD l):=by cases l<;>simp[pvD,Z7]
@[simp 5000] theorem names_lkD(l:List Lk):ZA (lkD l)=[]:=by cases l<;>rfl
@[simp 5000] theorem names_pvD(l:List Int):ZA (pvD l)=[]:=by cases l<;>rfl
@[simp 5000] theorem lo_lkD(n:Nat)(l:List Lk):(lkD l).lo n=true:=by cases l<;>simp[lkD,D.lo]
@[simp 5000] theorem lo_pvD(n:Nat)(l:List Int):(pvD l).lo n=true:=by cases l<;>simp[pvD,D.lo]
@[simp 5000] theorem inn_lkD(p:Nat→Bool)(l:List Lk):(lkD l).inn p=true:=by cases l<;>simp[lkD,D.inn]
@[simp 5000] theorem inn_pvD(p:Nat→Bool)(l:List Int):(pvD l).inn p=true:=by cases l<;>simp[pvD,D.inn]
@[simp 5000] theorem ren_lkD(r:Nat→Nat)(l:List Lk):(lkD l).ren r=lkD l:=by cases l<;>simp[lkD,D.ren]
@[simp 5000] theorem ren_pvD(r:Nat→Nat)(l:List Int):(pvD l).ren r=pvD l:=by cases l<;>simp[pvD,D.ren]
@[simp 5000] theorem storD_lkD(l:List Lk):Z5 (lkD l)=true:=by cases l<;>rfl
@[simp 5000] theorem storD_pvD(l:List Int):Z5 (pvD l)=true:=by cases l<;>rfl
@[simp 5000] theorem cells_lkD(l:List Lk):Zf (lkD l)=[lkD l]:=by cases l<;>rfl
@[simp 5000] theorem cells_pvD(l:List Int):Zf (pvD l)=[pvD l]:=by cases l<;>rfl
@[simp 5000] theorem one_lkD(l:List Lk):oneD (lkD l)=true:=by cases l<;>rfl
@[simp 5000] theorem one_pvD(l:List Int):oneD (pvD l)=true:=by cases l<;>rfl
@[simp 5000] theorem nameOf_lkD(l:List Lk):Z2 (lkD l)=[]:=by cases l<;>rfl
@[simp] theorem ones_cons(d:D)(ds:List D):onesD (d::ds)=(oneD d&&onesD ds):=rfl
@[simp] theorem one_int(k n):oneD (.int k n)=true:=rfl
@[simp] theorem one_bool(b):oneD (.bool b)=true:=rfl
@[simp] theorem one_str(s):oneD (.str s)=true:=rfl
@[simp] theorem one_nils:oneD .nils=true:=rfl
@[simp] theorem one_sl(r):oneD (.sl r)=true:=rfl
@[simp] theorem one_os(a b c d):oneD (.os a b c d)=true:=rfl
@[simp] theorem one_vp(r):oneD (.vp r)=true:=rfl
@[simp] theorem one_bp(a b):oneD (.bp a b)=true:=rfl
@[simp] theorem one_fn(a b c):oneD (.fn a b c)=true:=rfl
@[simp] theorem ones_nil:onesD []=true:=rfl
@[simp 5000] theorem nameOf_pvD(l:List Int):Z2 (pvD l)=[]:=by cases l<;>rfl
theorem pcheck_pure(ns:List Node)(ds:List Dev)(hc:Zk ns ds=0)(nm:ByteArray)(h1:nm.size≤65536)(h2:YP nm=true)(ss:List Stp)(hl:ss.length≤64)(hs:∀ s∈ss,StpOK ns.length ds.length s):Pure Tryz.prog G0 65 [netD ns ds,.agg [.str nm,.sl (ss.map Zr)]] (.int .i64 0):=by
 refine Zh Tryz.func65 rfl Tryz.ntmps65 ?_
 obtain⟨g1,g2,_⟩:=Zj hc
 have hl64:¬ (64:Int)<(ss.length:Int):=by omega
 refine R0 ?_
 refine R6 [.p ⟨_,_,_,check_pure ns ds hc⟩] ?_
 refine R0 ?_
 refine fl_F ?_
 refine Zd (fun K0_1 hK0_1=>?_)
 refine R2 [.p ⟨_,_,_,name_pure nm h1⟩] (by simp[h2];first|exact F3|exact F4) ?_
 refine fl_F ?_
 refine R2 [] (by simp[hl64];first|exact F3|exact F4) ?_
 refine fl_F ?_
 refine Zc (hK0_1 _ _ _ ?_)
 refine R0 ?_
 refine Zd (fun K1_2 hK1_2=>?_)
 refine Zg (X:=Nat) [2,25,26] [] (fun x=>[(27,.int .i64 x)]) (fun x=>[]) (fun x=>x≤ss.length) (fun x=>ss.length - x) 0 (by simp) (by simp) ?_
 simp only[KN,keep,but,reduceIte,Nat.reduceEqDiff,Nat.reduceBEq]
 rintro k hlek KL3 hKL3
 refine R0 ?_
 refine fl_C (fun c9=>?_) (fun c9=>?_)
 ·have hlt:k<ss.length:=by simpa using c9
  have hkk:ss[k]? = some ss[k]:=by simp[hlt]
  have hd:=Lib.hid (List.drop_eq_getElem_cons hlt)
  have hso:=hs _ (List.getElem_mem hlt)
  generalize ss[k]=s at *
  refine Zd (fun K2_4 hK2_4=>?_)
  refine R2 [] (by simp[hkk];first|exact F3|exact F4) ?_
  refine R2 [.p ⟨_,_,_,pstep_pure ns ds g2 s hso⟩] (by simp[hkk];first|exact F3|exact F4) ?_
  refine R2 [] (by simp[hkk];first|exact F3|exact F4) ?_
  refine fl_F ?_
  refine Zc (hK2_4 _ _ _ ?_)
  refine R2 [] (by simp[hkk];(try simp (disch:=omega) only[w64]);first|exact F3|exact F4) ?_
  exact hKL3 _ _ _ (k+1) (by omega) (by omega) (by simp)
 ·have hge:ss.length≤k:=by simpa using c9
  have hke:k=ss.length:=by have:k≤ss.length:=hlek;omega
  have hdn:=Lib.hid (List.drop_of_length_le hge)
  refine Ze (show K1_2 _ _ _ from hK1_2 _ _ _ ?_)
  refine R0 ?_
  refine Za ?_
  simp
def lkSame(k x:Lk):Bool:=(k.dev==x.dev)&&((k.pos==x.pos)&&(k.key==x.key))
def lkidx:List Lk→Lk→Nat→Int
 | [],_,_ => -1
 | x::l,k,i=>if lkSame k x=true then (i:Int) else lkidx l k (i+1)
theorem lindex_pure(l:List Lk)(hl:l.length≤1000000)(u:Lk):Pure Tryz.prog G0 159 [.sl (l.map Zm),.agg (Zm u)] (.int .i64 (lkidx l u 0)):=by
 refine Zh Tryz.func159 rfl Tryz.ntmps159 ?_
 refine R0 ?_
 refine R0 ?_
 refine Zd (fun K0_1 hK0_1=>?_)
 refine Zg (X:=Nat) [0,3,7] [] (fun x=>[(8,.int .i64 x)]) (fun x=>[]) (fun x=>x≤l.length∧Hid (lkidx l u 0=lkidx (l.drop x) u x)) (fun x=>l.length - x) 0 (⟨Nat.zero_le _,Lib.hid rfl⟩) (by simp) ?_
 simp only[KN,keep,but,reduceIte,Nat.reduceEqDiff,Nat.reduceBEq]
 rintro k ⟨hlek,hrel⟩ KL2 hKL2
 refine R0 ?_
 refine fl_C (fun c2=>?_) (fun c2=>?_)
 ·have hlt:k<l.length:=by simpa using c2
  have hkk:l[k]? = some l[k]:=by simp[hlt]
  have hd:=Lib.hid (List.drop_eq_getElem_cons hlt)
  have hrel2:=hrel.out
  rw[hd.out,lkidx] at hrel2
  generalize l[k]=x at *
  refine Zd (fun K1_3 hK1_3=>?_)
  refine R2 [] (by simp[hkk];first|exact F3|exact F4) ?_
  rcases bf_ (lkSame u x) with h4_16|h4_16
  ·have hsx:=h4_16
   simp only[lkSame] at hsx
   refine R2 [] (by simp[eq_true same62,hkk,h4_16,hsx];first|exact F3|exact F4) ?_
   refine fl_T ?_
   refine R2 [] (by simp[hkk];first|exact F3|exact F4) ?_
   refine Za ?_
   simp[hrel2,h4_16]
  ·have hsx:=h4_16
   simp only[lkSame] at hsx
   refine R2 [] (by simp[eq_true same62,hkk,h4_16,hsx];first|exact F3|exact F4) ?_
   refine fl_F ?_
   refine Zc (hK1_3 _ _ _ ?_)
   refine R2 [] (by simp[hkk];(try simp (disch:=omega) only[w64]);first|exact F3|exact F4) ?_
   exact hKL2 _ _ _ (k+1) ⟨by omega,Lib.hid (by rw[hrel2,if_neg (by simp[h4_16])])⟩ (by show _<_;omega) (by simp)
 ·have hge:l.length≤k:=by simpa using c2
  have hke:k=l.length:=by have:k≤l.length:=hlek;omega
  have hdn:=Lib.hid (List.drop_of_length_le hge)
  refine Ze (show K0_1 _ _ _ from hK0_1 _ _ _ ?_)
  refine R0 ?_
  refine Za ?_
  simp[hrel.out,hdn.out,lkidx]
end
section
open Go Go.RowKit
attribute [simp] le_lkD le_pvD
@[simp] theorem gD_eq(c:Int)(l:List Lk)(pr:List Int):gD c l pr=.agg [.int .i64 c,lkD l,pvD pr]:=rfl
@[simp] theorem pvD_nil:pvD []=.nils:=rfl
@[simp] theorem lkD_nil:lkD []=.nils:=rfl
@[simp] theorem lkD_one(x:Lk):lkD [x]=.sl [Zm x]:=rfl
@[simp] theorem le_gD2(c:Int)(l:List Lk)(pr:List Int):Le (.agg [.int .i64 c,lkD l,pvD pr]) (.agg [.int .i64 c,.sl (l.map Zm),.sl (Zb pr)]):=le_gD c l pr
@[simp] theorem le_gD3(c:Int)(l:List Lk)(pr:List Int):Le (.agg [.int .i64 c,.sl (l.map Zm),pvD pr]) (.agg [.int .i64 c,.sl (l.map Zm),.sl (Zb pr)]):=Xw ⟨Le.refl _,Le.refl _,le_pvD pr,trivial⟩
@[simp] theorem le_gD4(c:Int)(l:List Lk)(pr:List Int):Le (.agg [.int .i64 c,lkD l,.sl (Zb pr)]) (.agg [.int .i64 c,.sl (l.map Zm),.sl (Zb pr)]):=Xw ⟨Le.refl _,le_lkD l,Le.refl _,trivial⟩
theorem removeN_pure(ns:List Node)(ds:List Dev)(l:List Lk)(h:ZF ns ds l=0)(d key:Int)(hk:(Zx d l).2=false):Pure Tryz.prog G0 116 [netD ns ds,lkD l,.int .i64 d,.int .i64 key] (.tup [.nils,.int .i64 15]):=by
 refine Zh Tryz.func116 rfl Tryz.ntmps116 ?_
 have hll:=(locks_0 h).2.1
 refine R0 ?_
 refine R6 [.p ⟨_,_,_,Y7 ns ds l h⟩] ?_
 refine R0 ?_
 refine fl_F ?_
 refine R6 [.p ⟨_,_,_,locked_pure l (by omega) d⟩] ?_
 refine R2 [.p ⟨_,_,_,lindex_pure l (by omega) ⟨d,(Zx d l).1,key⟩⟩] (by simp[Zm];first|exact F3|exact F4) ?_
 refine R2 [] (by simp[hk];first|exact F3|exact F4) ?_
 refine fl_T ?_
 refine R0 ?_
 refine Za ?_
 simp
theorem operatedG_pure(ns:List Node)(ds:List Dev)(c:Int)(l:List Lk)(pr:List Int)(i:Nat)(p:Int)(d:Dev)(hd:ds[i]? = some d):Pure Tryz.prog G0 70 [netD ns ds,gD c l pr,.agg (Yl ⟨(i:Int),p⟩)] (gD c l (if (p==2&&d.kind != 4)=true then [] else pr)):=by
 refine Zh Tryz.func70 rfl Tryz.ntmps70 ?_
 obtain⟨hil,hkd⟩:=List.getElem?_eq_some_iff.1 hd
 refine R0 ?_
 rcases bf_ (p==2) with h1_9|h1_9
 ·rcases bf_ (d.kind != 4) with h1_18|h1_18
  ·refine R2 [] (by simp[hil,hkd,hd,h1_9,h1_18];first|exact F3|exact F4) ?_
   refine fl_T ?_
   refine R0 ?_
   refine R0 ?_
   refine Za ?_
   have hdk:(d.kind==4)=!(d.kind != 4):=by simp[bne]
   simp[h1_9,h1_18]
  ·refine R2 [] (by simp[hil,hkd,hd,h1_9,h1_18];first|exact F3|exact F4) ?_
   refine fl_F ?_
   refine R0 ?_
   refine Za ?_
   have hdk:(d.kind==4)=!(d.kind != 4):=by simp[bne]
   simp[h1_9,h1_18]
 ·refine R2 [] (by simp[hil,hkd,hd,h1_9];first|exact F3|exact F4) ?_
  refine fl_F ?_
  refine R0 ?_
  refine Za ?_
  have hdk:(d.kind==4)=!(d.kind != 4):=by simp[bne]
  simp[h1_9]
theorem glockedN_pure(ns:List Node)(ds:List Dev)(c:Int)(h:ZF ns ds []=0)(pr:List Int)(s:Stp)(hs3:s.knd=3)(hk:lkE ds ⟨s.dev,s.pos,s.key⟩=0):Pure Tryz.prog G0 73 [netD ns ds,gD c [] pr,.agg (Zr s)] (.tup [gD c [⟨s.dev,s.pos,s.key⟩] pr,.bool true]):=by
 refine Zh Tryz.func73 rfl Tryz.ntmps73 ?_
 refine R0 ?_
 refine R6 [.p ⟨_,_,_,removeN_pure ns ds [] h s.dev s.key rfl⟩] ?_
 refine R2 [] (by simp[hs3];first|exact F3|exact F4) ?_
 refine fl_T ?_
 refine R6 [.p ⟨_,_,_,addN_pure ns ds h ⟨s.dev,s.pos,s.key⟩ hk⟩] ?_
 refine R0 ?_
 refine fl_F ?_
 refine R0 ?_
 refine R0 ?_
 refine Za ?_
 simp
theorem glocked_pure(ns:List Node)(ds:List Dev)(c:Int)(l:List Lk)(h:ZF ns ds l=0)(pr:List Int)(s:Stp)(hs3:s.knd=3)(hk:lkE ds ⟨s.dev,s.pos,s.key⟩=0)(hu:(l.any fun x=>x.key==s.key)=false)(ho:(l.any fun x=>(x.dev==s.dev)&&(x.pos != s.pos))=false)(hr:(Zx s.dev l).2=false)(hl:l.length≤11)(h0:l≠[]):Pure Tryz.prog G0 73 [netD ns ds,gD c l pr,.agg (Zr s)] (.tup [gD c (srtL l.length 1 (l++[⟨s.dev,s.pos,s.key⟩])) pr,.bool true]):=by
 refine Zh Tryz.func73 rfl Tryz.ntmps73 ?_
 have hne:srtL l.length 1 (l++[⟨s.dev,s.pos,s.key⟩])≠[]:=by intro e;have:=congrArg List.length e;simp at this
 refine R0 ?_
 refine R6 [.p ⟨_,_,_,removeN_pure ns ds l h s.dev s.key hr⟩] ?_
 refine R2 [] (by simp[hs3];first|exact F3|exact F4) ?_
 refine fl_T ?_
 refine R6 [.p ⟨_,_,_,add_pure ns ds l h ⟨s.dev,s.pos,s.key⟩ hk hu ho hl h0⟩] ?_
 refine R0 ?_
 refine fl_F ?_
 refine R0 ?_
 refine R0 ?_
 refine Za ?_
 simp[lkD_ne hne]
end
section
open Go Go.RowKit
theorem step1_imp(ns:List Node)(ds:List Dev)(hc:Zk ns ds=0)(hn:1≤ns.length)(st:List Int)(hs:StOK ds st)(c:Int)(l:List Lk)(pr:List Int)(hp:pr.length≤1000)(i:Nat)(d:Dev)(hd:ds[i]? = some d)(ho:HOK ds st c l ⟨(i:Int),1⟩ i)(m nm:Nat)(hnm:m≠nm):Imp Tryz.prog G0 40 [netD ns ds,.os m st.length 0 st.length,gD c l pr,.agg (Zr ⟨1,(i:Int),0,0,0⟩)] [(m,.arr 1 (Zb st))] nm (.tup [.sl (Zb (hazL ns ds st pr i 1)),.os nm st.length 0 st.length,gD c l (if ((1:Int)==2&&d.kind != 4)=true then [] else pr),.bool true]) [(m,none),(nm,some (.arr 1 (Zb (st.set i 1))))]:=by
 refine ZC (gl:=[(m,.arr 1 (Zb st))]) (nx1:=m+1) Tryz.func40 rfl Tryz.ntmps40 ?_
 obtain⟨g1,g2,_⟩:=Zj hc
 obtain⟨hil,hkd⟩:=List.getElem?_eq_some_iff.1 hd
 have hsl:=hs.1
 have hst0:st≠[]:=by intro e;subst e;simp at hsl;omega
 have hi2:i<st.length:=by omega
 refine YT [m] ?_
 refine R0 ?_
 refine R0 ?_
 refine Zd (fun K0_1 hK0_1=>?_)
 refine R0 ?_
 refine fl_T ?_
 refine fl_T ?_
 refine R6 [.p ⟨_,_,_,Xx ⟨(i:Int),1⟩ (by simp)⟩] ?_
 refine R2 [.p ⟨_,_,_,hIn_pure ns ds hc hn st hs c l pr hp ⟨(i:Int),1⟩ i ho⟩] (by simp[hst0];first|exact F3|exact F4) ?_
 refine R [.b ⟨_,_,_,_,_,_,Z4 st (by omega) hst0 (m+1+7+2+2+4+10+1)⟩] (by simp[hst0];first|exact F3|exact F4) (by first|exact Zs _|exact Zq _|exact Zt _|trivial|omega|(simp;done)|(simp;omega)) ?_
 refine R2 [] (by simp[hi2,setI];first|exact F3|exact F4) ?_
 refine R6 [.p ⟨_,_,_,operatedG_pure ns ds c l pr i 1 d hd⟩] ?_
 refine Za ?_
 refine⟨.inr rfl,(m+1+7+2+2+4+10+1),?_⟩
 simp[hnm]
theorem step2_imp(ns:List Node)(ds:List Dev)(hc:Zk ns ds=0)(hn:1≤ns.length)(st:List Int)(hs:StOK ds st)(c:Int)(l:List Lk)(pr:List Int)(hp:pr.length≤1000)(i:Nat)(d:Dev)(hd:ds[i]? = some d)(ho:HOK ds st c l ⟨(i:Int),2⟩ i)(m nm:Nat)(hnm:m≠nm):Imp Tryz.prog G0 40 [netD ns ds,.os m st.length 0 st.length,gD c l pr,.agg (Zr ⟨2,(i:Int),0,0,0⟩)] [(m,.arr 1 (Zb st))] nm (.tup [.sl (Zb (hazL ns ds st pr i 2)),.os nm st.length 0 st.length,gD c l (if ((2:Int)==2&&d.kind != 4)=true then [] else pr),.bool true]) [(m,none),(nm,some (.arr 1 (Zb (st.set i 2))))]:=by
 refine ZC (gl:=[(m,.arr 1 (Zb st))]) (nx1:=m+1) Tryz.func40 rfl Tryz.ntmps40 ?_
 obtain⟨g1,g2,_⟩:=Zj hc
 obtain⟨hil,hkd⟩:=List.getElem?_eq_some_iff.1 hd
 have hsl:=hs.1
 have hst0:st≠[]:=by intro e;subst e;simp at hsl;omega
 have hi2:i<st.length:=by omega
 refine YT [m] ?_
 refine R0 ?_
 refine R0 ?_
 refine Zd (fun K0_1 hK0_1=>?_)
 refine R0 ?_
 refine fl_F ?_
 refine R0 ?_
 refine fl_T ?_
 refine R6 [.p ⟨_,_,_,Xx ⟨(i:Int),2⟩ (by simp)⟩] ?_
 refine R2 [.p ⟨_,_,_,hIn_pure ns ds hc hn st hs c l pr hp ⟨(i:Int),2⟩ i ho⟩] (by simp[hst0];first|exact F3|exact F4) ?_
 refine R [.b ⟨_,_,_,_,_,_,Z4 st (by omega) hst0 (m+1+7+2+2+2+4+10+1)⟩] (by simp[hst0];first|exact F3|exact F4) (by first|exact Zs _|exact Zq _|exact Zt _|trivial|omega|(simp;done)|(simp;omega)) ?_
 refine R2 [] (by simp[hi2,setI];first|exact F3|exact F4) ?_
 refine R6 [.p ⟨_,_,_,operatedG_pure ns ds c l pr i 2 d hd⟩] ?_
 refine Za ?_
 refine⟨.inr rfl,(m+1+7+2+2+2+4+10+1),?_⟩
 simp[hnm]
end
section
open Go Go.RowKit
@[simp] theorem nn0(m  : Nat):(m=m+1)=False:=eq_false (by omega)
@[simp] theorem nn1(m a0:Nat):(m=m+1+a0)=False:=eq_false (by omega)
@[simp] theorem nn4(m a0 a1 a2 a3:Nat):(m=m+1+a0+a1+a2+a3)=False:=eq_false (by omega)
@[simp] theorem nn5(m a0 a1 a2 a3 a4:Nat):(m=m+1+a0+a1+a2+a3+a4)=False:=eq_false (by omega)
@[simp] theorem nn6(m a0 a1 a2 a3 a4 a5:Nat):(m=m+1+a0+a1+a2+a3+a4+a5)=False:=eq_false (by omega)
@[simp] theorem nn7(m a0 a1 a2 a3 a4 a5 a6:Nat):(m=m+1+a0+a1+a2+a3+a4+a5+a6)=False:=eq_false (by omega)
@[simp] theorem nn8(m a0 a1 a2 a3 a4 a5 a6 a7:Nat):(m=m+1+a0+a1+a2+a3+a4+a5+a6+a7)=False:=eq_false (by omega)
@[simp] theorem nn10(m a0 a1 a2 a3 a4 a5 a6 a7 a8 a9:Nat):(m=m+1+a0+a1+a2+a3+a4+a5+a6+a7+a8+a9)=False:=eq_false (by omega)
theorem step5_imp(ns:List Node)(ds:List Dev)(hc:Zk ns ds=0)(hn:1≤ns.length)(st:List Int)(hs:StOK ds st)(c:Int)(l:List Lk)(pr:List Int)(pr2:List Int)(v:Nat)(hv:v<ns.length)(hd:liveO ((colF ns.length ds st).getD v 0)=false)(hpr:Pure Tryz.prog G0 72 [gD c l pr,.int .i64 v] (gD c l pr2))(m nm:Nat)(hnm:m≠nm):Imp Tryz.prog G0 40 [netD ns ds,.os m st.length 0 st.length,gD c l pr,.agg (Zr ⟨5,0,(v:Int),0,0⟩)] [(m,.arr 1 (Zb st))] nm (.tup [.nils,.os m st.length 0 st.length,gD c l pr2,.bool true]) [(m,some (.arr 1 (Zb st)))]:=by
 refine ZC (gl:=[(m,.arr 1 (Zb st))]) (nx1:=m+1) Tryz.func40 rfl Tryz.ntmps40 ?_
 have hsl:=hs.1
 obtain⟨g1,g2,_⟩:=Zj hc
 have hcl:=Y1 ns.length ds st
 have hvc:v<(colF ns.length ds st).length:=by omega
 obtain⟨x,hx⟩:∃ x,(colF ns.length ds st)[v]? = some x:=⟨_,List.getElem?_eq_getElem hvc⟩
 obtain⟨_,hxv⟩:=List.getElem?_eq_some_iff.1 hx
 have hgx:(colF ns.length ds st).getD v 0=x:=by simp[hx]
 have hrg:=colF_in (ZM hc) st x (List.mem_of_getElem? hx)
 have hba:bAnd .i64 x 1=0:=by rw[hgx] at hd;rcases hrg with rfl|rfl|rfl|rfl<;>first|decide|(simp[liveO] at hd)
 refine R0 ?_
 refine R0 ?_
 refine Zd (fun K0_1 hK0_1=>?_)
 refine R0 ?_
 refine fl_F ?_
 refine R0 ?_
 refine fl_F ?_
 refine R0 ?_
 refine fl_T ?_
 refine R [.b ⟨_,_,_,_,_,_,both_imp ns ds hc hn st hs (m+1+7+2+2+2+2+2)⟩] (by simp;first|exact F3|exact F4) (by first|exact Zs _|exact Zq _|exact Zt _|trivial|omega|(simp;done)|(simp;omega)) ?_
 refine R2 [] (by simp[hvc,hx,hxv,hcl,hv,hba];first|exact F3|exact F4) ?_
 refine fl_F ?_
 refine R6 [.p ⟨_,_,_,hpr⟩] ?_
 refine Za ?_
 refine⟨.inr rfl,m+1,?_⟩
 simp[hnm]
theorem step3N_imp(ns:List Node)(ds:List Dev)(hc:Zk ns ds=0)(hn:1≤ns.length)(st:List Int)(hs:StOK ds st)(c:Int)(pr:List Int)(h:ZF ns ds []=0)(i:Nat)(p key:Int)(hi:st[i]? = some p)(hk:lkE ds ⟨(i:Int),p,key⟩=0)(m nm:Nat)(hnm:m≠nm):Imp Tryz.prog G0 40 [netD ns ds,.os m st.length 0 st.length,gD c [] pr,.agg (Zr ⟨3,(i:Int),0,p,key⟩)] [(m,.arr 1 (Zb st))] nm (.tup [.nils,.os m st.length 0 st.length,gD c [⟨(i:Int),p,key⟩] pr,.bool true]) [(m,some (.arr 1 (Zb st)))]:=by
 refine ZC (gl:=[(m,.arr 1 (Zb st))]) (nx1:=m+1) Tryz.func40 rfl Tryz.ntmps40 ?_
 have hsl:=hs.1
 obtain⟨g1,g2,_⟩:=Zj hc
 obtain⟨hil,hip⟩:=List.getElem?_eq_some_iff.1 hi
 refine R0 ?_
 refine R0 ?_
 refine Zd (fun K0_1 hK0_1=>?_)
 refine R0 ?_
 refine fl_F ?_
 refine R0 ?_
 refine fl_F ?_
 refine R0 ?_
 refine fl_F ?_
 refine R0 ?_
 refine fl_F ?_
 refine R0 ?_
 refine fl_T ?_
 refine R2 [] (by simp[hil,hip,hi];first|exact F3|exact F4) ?_
 refine fl_F ?_
 refine R0 ?_
 refine fl_F ?_
 refine Zc (hK0_1 _ _ _ ?_)
 refine R6 [.p ⟨_,_,_,glockedN_pure ns ds c h pr ⟨3,(i:Int),0,p,key⟩ rfl hk⟩] ?_
 refine R0 ?_
 refine fl_F ?_
 refine R0 ?_
 refine Za ?_
 refine⟨.inr rfl,m+1,?_⟩
 simp[hnm]
theorem step3_imp(ns:List Node)(ds:List Dev)(hc:Zk ns ds=0)(hn:1≤ns.length)(st:List Int)(hs:StOK ds st)(c:Int)(l:List Lk)(pr:List Int)(h:ZF ns ds l=0)(i:Nat)(p key:Int)(hi:st[i]? = some p)(hk:lkE ds ⟨(i:Int),p,key⟩=0)(hu:(l.any fun x=>x.key==key)=false)(ho:(l.any fun x=>(x.dev==(i:Int))&&(x.pos != p))=false)(hr:(Zx (i:Int) l).2=false)(hl:l.length≤11)(h0:l≠[])(m nm:Nat)(hnm:m≠nm):Imp Tryz.prog G0 40 [netD ns ds,.os m st.length 0 st.length,gD c l pr,.agg (Zr ⟨3,(i:Int),0,p,key⟩)] [(m,.arr 1 (Zb st))] nm (.tup [.nils,.os m st.length 0 st.length,gD c (srtL l.length 1 (l++[⟨(i:Int),p,key⟩])) pr,.bool true]) [(m,some (.arr 1 (Zb st)))]:=by
 refine ZC (gl:=[(m,.arr 1 (Zb st))]) (nx1:=m+1) Tryz.func40 rfl Tryz.ntmps40 ?_
 have hsl:=hs.1
 obtain⟨g1,g2,_⟩:=Zj hc
 obtain⟨hil,hip⟩:=List.getElem?_eq_some_iff.1 hi
 refine R0 ?_
 refine R0 ?_
 refine Zd (fun K0_1 hK0_1=>?_)
 refine R0 ?_
 refine fl_F ?_
 refine R0 ?_
 refine fl_F ?_
 refine R0 ?_
 refine fl_F ?_
 refine R0 ?_
 refine fl_F ?_
 refine R0 ?_
 refine fl_T ?_
 refine R2 [] (by simp[hil,hip,hi];first|exact F3|exact F4) ?_
 refine fl_F ?_
 refine R0 ?_
 refine fl_F ?_
 refine Zc (hK0_1 _ _ _ ?_)
 refine R6 [.p ⟨_,_,_,glocked_pure ns ds c l h pr ⟨3,(i:Int),0,p,key⟩ rfl hk hu ho hr hl h0⟩] ?_
 refine R0 ?_
 refine fl_F ?_
 refine R0 ?_
 refine Za ?_
 refine⟨.inr rfl,m+1,?_⟩
 simp[hnm]
end
end Go.Proofs.YtjdgofpcmcobnaaGreatDoor.AL

/-
  The law, from what holds of plain data.
-/
import Derived.Test.YtjdgofpcmcobnaaGreatDoorGm
import Derived.Test.YtjdgofpcmcobnaaGreatDoorGn
import Derived.Test.YtjdgofpcmcobnaaGreatDoorGl
import Derived.Test.YtjdgofpcmcobnaaGreatDoorGf
set_option maxRecDepth 100000
set_option maxHeartbeats 2000000
set_option linter.unusedVariables false
set_option linter.unusedSimpArgs false
namespace Go.Proofs.YtjdgofpcmcobnaaGreatDoor.AL
open Go Go.RowKit
theorem Imp.argsLe {P:Program} {G:Nat→Option (List D)} {k:Nat} {A A':List D} {gl:List (Nat×Blk)} {nm:Nat} {R:D} {upd:List (Nat×Option Blk)} (h:Imp P G k A gl nm R upd) (hA:Les A' A):Imp P G k A' gl nm R upd :=
 ⟨h.body,fun c dom ι w st vs hP hG hr hg hn hs hv=>h.calls c dom ι w st vs hP hG hr hg hn (by rw [hs]; exact hA.at.1) (fun i hi=>hA.at.2 i (by rw [hA.at.1]; exact hi) hi _ _ _ _ (hv i (by rw [hA.at.1]; exact hi)))⟩
def Agr (ds:List Dev) (L:List Lk) (F s:List Int):Prop:=∀ i:Nat,i < ds.length→((lockedL (i:Int) L).2=true∨((ds[i]?).map (·.kind))=some 5)→PO.at_ s i=PO.at_ F i
def nmI:ByteArray:=⟨#[73,83,79,76,65,84,69]⟩
def IsoHyp (ns:List Node) (ds:List Dev) (st:List Int) (z:List Nat) (key:Int):Prop :=
 Pure Tryz.prog G0 11 [netD ns ds,.sl (intsD st),gndD 0 [] [],.sl (intsD (nats z)),.int .i64 key] (.tup [.agg [.str ⟨#[]⟩,.nils],.int .i64 15]) ∨
 ∃ (ss:List Stp) (fd:List Fnd) (L:List Lk) (pr:List Int) (F:List Int),
  Pure Tryz.prog G0 11 [netD ns ds,.sl (intsD st),gndD 0 [] [],.sl (intsD (nats z)),.int .i64 key] (.tup [.agg [.str nmI,.sl (ss.map stpRow)],.int .i64 0]) ∧
  (∀ nm,Imp Tryz.prog G0 13 [netD ns ds,.sl (intsD st),.agg [.int .i64 0,.nils,.nils],.agg [.str nmI,.sl (ss.map stpRow)],.sl (intsD [])] [] nm (.tup [.sl (fd.map fRow),.os nm st.length 0 st.length,gD 0 L pr,.int .i64 ss.length,.int .i64 0]) [(nm,some (.arr 1 (intsD F)))]) ∧
  locksE ns ds L=0∧secureB ns.length ds z L=true∧StOK ds F∧F.length=st.length ∧
  ∀ s,StOK ds s→Agr ds L F s→∀ v∈z,liveO ((colF ns.length ds s).getD v 0)=false
theorem Agr.step {ds:List Dev} {L:List Lk} {F s:List Int} (h:Agr ds L F s) {i:Nat} {p:Int} {x:Dev} (hx:ds[i]? = some x) (h1:(lockedL (i:Int) L).2=false) (h2:(x.kind==5)=false):Agr ds L F (s.set i p):=by
 intro j hj hl
 by_cases e:i=j
 ·subst e
  rcases hl with hl | hl
  ·rw [h1] at hl; cases hl
  ·rw [hx] at hl; simp at hl; simp [hl] at h2
 ·have h9:=h j hj hl
  rw [← h9]
  simp [PO.at_,List.getElem?_set,e]
theorem StOK.put {ds:List Dev} {s:List Int} (h:StOK ds s) (i:Nat) {p:Int} (hp:p=1∨p=2):StOK ds (s.set i p):=by
 refine ⟨by simp [h.1],fun x hx=>?_⟩
 rcases List.mem_or_eq_of_mem_set hx with h9 | rfl
 ·exact h.2 x h9
 ·exact hp
theorem isolated_main (l:List Int) (hI:∀ (hl:l.length≤400),∃ z:List Nat,(zoneF (bayN (newDk l)).length (bayK (newDk l))).1=nats z∧(∀ v∈z,v < (bayN (newDk l)).length)∧z.length≤100∧ZOK (bayN (newDk l)) z∧checkL (bayN (newDk l)) (bayD (newDk l))=0∧(bayN (newDk l)).length=6∧8≤(bayD (newDk l)).length∧(bayD (newDk l)).length≤9∧(bayS (newDk l)).length=(bayD (newDk l)).length∧DkOK (bayK (newDk l))∧IsoHyp (bayN (newDk l)) (bayD (newDk l)) (bayS (newDk l)) z (1+(zoneF (bayN (newDk l)).length (bayK (newDk l))).2.v 50)):Pure Tryz.prog G0 3 [.sl (intsD l)] (.bool true):=by
 refine entry Tryz.func3 rfl Tryz.ntmps3 ?_
 refine R0 ?_
 refine R2 [.p ⟨_,_,_,few_pure l⟩] (by simp; first|exact F3|exact F4) ?_
 refine fl_cond (b:=!(decide (l.length≤400))) (by simp) (fun c1=>?_) (fun c1=>?_)
 ·refine R2 [.p ⟨_,_,_,first_fact⟩] (by simp; first|exact F3|exact F4) ?_
  refine awpL_ret ?_
  simp
 ·have hl:l.length≤400:=by simpa using c1
  have hd:=newDk_ok l hl
  have hbay:=fun nm h=>bay_imp (newDk l) hd nm h
  obtain ⟨z,hz1,hzv,hzl,hzo,hc,hn6,hd8,hd9,hsl,hkk,hI⟩:=hI hl
  generalize bayN (newDk l)=ns at *
  generalize bayD (newDk l)=ds at *
  generalize bayS (newDk l)=st at *
  generalize bayK (newDk l)=dk at *
  have hzf:=zoneF_ok ns.length hkk
  have hzi:=fun nm h=>zone_imp dk hkk ns ds (by omega) (by omega) nm h
  rw [hz1] at hzi
  generalize (zoneF ns.length dk).2=d2 at *
  have hv50:=d2.v_rng (a:=50) (by decide)
  have hw50:IntKind.wrap .i64 (1+d2.v 50)=1+d2.v 50:=w64 (by omega) (by omega)
  refine R2 [.i ⟨_,_,_,_,_,_,new_imp l 5⟩] (by simp; first|exact F3|exact F4) ?_
  refine R2 [.i ⟨_,_,_,_,_,_,hbay 8 (by decide)⟩] (by simp; first|exact F3|exact F4) ?_
  refine R2 [.i ⟨_,_,_,_,_,_,hzi 17 (by decide)⟩] (by simp; first|exact F3|exact F4) ?_
  rcases hI with hI | ⟨ss,fd,L,pr,F,hI,hRun,hL,hsec,hF,hFl,hsafe⟩
  ·refine R [.i ⟨_,_,_,_,_,_,next_imp d2 hzf 50 (by decide) (by decide) 5 24 (by decide)⟩,.p ⟨_,_,_,hI⟩] (by simp [hw50]; (try simp (disch:=omega) only [w64]); first|exact F3|exact F4) (by exact le_agg ⟨Le.refl _,Le.nils,Le.nils,trivial⟩) ?_
   refine R0 ?_
   refine fl_T ?_
   refine R2 [.p ⟨_,_,_,first_fact⟩] (by simp; first|exact F3|exact F4) ?_
   refine awpL_ret ?_
   simp
  ·have hRun2:=fun nm=>(hRun nm).argsLe (A':=[netD ns ds,.sl (intsD st),.agg [.int .i64 0,.nils,.nils],.agg [.str nmI,.sl (ss.map stpRow)],.nils]) ⟨Le.refl _,Le.refl _,Le.refl _,Le.refl _,Le.nils,trivial⟩
   refine R [.i ⟨_,_,_,_,_,_,next_imp d2 hzf 50 (by decide) (by decide) 5 24 (by decide)⟩,.p ⟨_,_,_,hI⟩] (by simp [hw50]; (try simp (disch:=omega) only [w64]); first|exact F3|exact F4) (by exact le_agg ⟨Le.refl _,Le.nils,Le.nils,trivial⟩) ?_
   refine R0 ?_
   refine fl_F ?_
   refine R2 [.i ⟨_,_,_,_,_,_,hRun2 39⟩] (by simp; first|exact F3|exact F4) ?_
   refine R0 ?_
   refine fl_F ?_
   refine R2 [.p ⟨_,_,_,secure_pure ns ds hc z hzo L hL⟩] (by simp [hsec]; first|exact F3|exact F4) ?_
   refine R2 [] (by simp [hsec]; first|exact F3|exact F4) ?_
   refine fl_F ?_
   refine R0 ?_
   refine fl_block (fun K0_1 hK0_1=>?_)
   refine fl_loopK (X:=Nat×List Int×Dk) [3,4,6,10,11] [5,39] (fun x=>[(16,.int .i64 x.1)]) (fun x=>[(5,.box (dkRow x.2.2)),(39,.arr 1 (intsD x.2.1))]) (fun x=>x.1≤8∧DkOK x.2.2∧StOK ds x.2.1∧Agr ds L F x.2.1) (fun x=>8 - x.1) (0,F,d2.nx) (⟨Nat.zero_le _,hzf.nx,hF,fun _ _ _=>rfl⟩) (by simp; try omega) ?_
   simp only [KN,keep,but,reduceIte,Nat.reduceEqDiff,Nat.reduceBEq]
   rintro ⟨k,s,e⟩ ⟨hk8,hek,hso,hag⟩ KL2 hKL2
   replace hk8:k≤8:=hk8
   replace hek:DkOK e:=hek
   replace hso:StOK ds s:=hso
   replace hag:Agr ds L F s:=hag
   refine R0 ?_
   refine fl_C (fun c16=>?_) (fun c16=>?_)
   ·have hlt8:k < 8:=by have h9:=c16; simp at h9; omega
    have hdl:=e.v_rng (a:=ds.length) (by omega)
    have hd2v:=e.nx.v_rng (a:=2) (by decide)
    obtain ⟨i,hi⟩:∃ i:Nat,e.v ds.length=i:=⟨(e.v ds.length).toNat,by omega⟩
    obtain ⟨p,hp⟩:∃ p:Int,1+e.nx.v 2=p:=⟨_,rfl⟩
    have hp12:p=1∨p=2:=by omega
    have hil:i < ds.length:=by omega
    obtain ⟨x,hx⟩:∃ x,ds[i]? = some x:=⟨_,List.getElem?_eq_getElem hil⟩
    obtain ⟨_,hxi⟩:=List.getElem?_eq_some_iff.1 hx
    have hs8:s.length=st.length:=by rw [hso.1,hsl]
    have hil2:i < s.length:=by omega
    have hil3:i < st.length:=by omega
    have htk:List.take st.length (intsD (s.set i p))=intsD (s.set i p):=List.take_of_length_le (by simp; omega)
    obtain ⟨y0,hsy⟩:∃ y0,s[i]? = some y0:=⟨_,List.getElem?_eq_getElem hil2⟩
    obtain ⟨_,hsg⟩:=List.getElem?_eq_some_iff.1 hsy
    refine fl_block (fun K1_3 hK1_3=>?_)
    refine R2 [.i ⟨_,_,_,_,_,_,op_imp e hek ns ds (by omega) (by omega) 89 (by decide)⟩] (by simp [hi,hp]; first|exact F3|exact F4) ?_
    refine R2 [.p ⟨_,_,_,locked_pure L (by have:=(locks_0 hL).2.1; omega) (i:Int)⟩] (by simp; first|exact F3|exact F4) ?_
    rcases bf_ ((lockedL (i:Int) L).2) with h20_112 | h20_112
    ·refine R2 [] (by simp [hx,hxi,hil,h20_112]; first|exact F3|exact F4) ?_
     refine fl_T ?_
     refine awpL_exit (show K1_3 _ _ _ from hK1_3 _ _ _ ?_)
     refine R1 ?_
     exact hKL2 _ _ _ (k+1,s,e.nx.nx) ⟨by show k+1≤8; omega,hek.nx.nx,hso,hag⟩ (by show 8 - (k+1) < 8 - k; omega) (by simp; try omega)
    ·rcases bf_ (x.kind==5) with h20_121 | h20_121
     ·refine R2 [] (by simp [hx,hxi,hil,h20_112,h20_121]; first|exact F3|exact F4) ?_
      refine fl_T ?_
      refine awpL_exit (show K1_3 _ _ _ from hK1_3 _ _ _ ?_)
      refine R1 ?_
      exact hKL2 _ _ _ (k+1,s,e.nx.nx) ⟨by show k+1≤8; omega,hek.nx.nx,hso,hag⟩ (by show 8 - (k+1) < 8 - k; omega) (by simp; try omega)
     ·have hs2:=hso.put i hp12
      have ha2:=hag.step (p:=p) hx h20_112 h20_121
      have hsf:=hsafe _ hs2 ha2
      have hcl0:(colF ns.length ds (s.set i p)).length=ns.length:=colF_len _ _ _
      refine R2 [] (by simp [hx,hxi,hil,h20_112,h20_121]; first|exact F3|exact F4) ?_
      refine fl_F ?_
      refine R2 [] (by simp [hil3,hs8,setI,hsy,hsg]; first|exact F3|exact F4) ?_
      refine R [.b ⟨_,_,_,_,_,_,Colours_imp ns ds hc (by omega) (s.set i p) hs2 122⟩] (by simp [hs8,htk,ed1]; first|exact F3|exact F4) (by first|exact all_sc_i _|exact all_sc_b _|exact all_sc_l _|trivial|omega|(simp;done)|(simp;omega)) ?_
      refine R2 [] (by simp [hcl0]; first|exact F3|exact F4) ?_
      refine fl_F ?_
      refine R0 ?_
      refine fl_block (fun K2_4 hK2_4=>?_)
      refine fl_loopK (X:=Nat) [3,4,6,10,11,16,20,145,146] [] (fun x=>[(147,.int .i64 x)]) (fun x=>[]) (fun x=>x≤z.length) (fun x=>z.length - x) 0 (by simp) (by simp) ?_
      simp only [KN,keep,but,reduceIte,Nat.reduceEqDiff,Nat.reduceBEq]
      rintro j hlej KL5 hKL5
      refine R0 ?_
      refine fl_C (fun c26=>?_) (fun c26=>?_)
      ·have hlt:j < z.length:=by simpa using c26
       have hkk:z[j]? = some z[j]:=by simp [hlt]
       have hd:=Lib.hid (List.drop_eq_getElem_cons hlt)
       have hvz:z[j]∈z:=List.getElem_mem hlt
       have hvn:=hzv _ hvz
       have hsv:=hsf _ hvz
       have hcl:=hcl0
       have hvc:z[j] < (colF ns.length ds (s.set i p)).length:=by omega
       obtain ⟨y,hvx⟩:∃ y,(colF ns.length ds (s.set i p))[z[j]]? = some y:=⟨_,List.getElem?_eq_getElem hvc⟩
       obtain ⟨_,hxv⟩:=List.getElem?_eq_some_iff.1 hvx
       have hgx:(colF ns.length ds (s.set i p)).getD z[j] 0=y:=by simp [hvx]
       have hrg:=colF_in (checkL_zero hc) (s.set i p) y (List.mem_of_getElem? hvx)
       have hba:bAnd .i64 y 1=0:=by rw [hgx] at hsv; rcases hrg with rfl | rfl | rfl | rfl <;> first | decide | (simp [liveO] at hsv)
       generalize z[j]=v at *
       refine fl_block (fun K3_6 hK3_6=>?_)
       refine R2 [] (by simp [hkk]; first|exact F3|exact F4) ?_
       refine R2 [] (by simp [hcl0,hvx,hxv,hvn,hba,hkk]; first|exact F3|exact F4) ?_
       refine fl_F ?_
       refine awpL_nil (hK3_6 _ _ _ ?_)
       refine R2 [] (by simp [hkk]; (try simp (disch:=omega) only [w64]); first|exact F3|exact F4) ?_
       exact hKL5 _ _ _ (j+1) (by omega) (by omega) (by simp)
      ·have hge:z.length≤j:=by simpa using c26
       have hke:j=z.length:=by have:j≤z.length:=hlej; omega
       have hdn:=Lib.hid (List.drop_of_length_le hge)
       refine awpL_exit (show K2_4 _ _ _ from hK2_4 _ _ _ ?_)
       refine awpL_nil (hK1_3 _ _ _ ?_)
       refine R1 ?_
       exact hKL2 _ _ _ (k+1,s.set i p,e.nx.nx) ⟨by show k+1≤8; omega,hek.nx.nx,hs2,ha2⟩ (by show 8 - (k+1) < 8 - k; omega) (by simp; try omega)
   ·refine awpL_exit (show K0_1 _ _ _ from hK0_1 _ _ _ ?_)
    refine R2 [.p ⟨_,_,_,first_fact⟩] (by simp; first|exact F3|exact F4) ?_
    refine awpL_ret ?_
    simp
end Go.Proofs.YtjdgofpcmcobnaaGreatDoor.AL
namespace Go.Proofs.YtjdgofpcmcobnaaGreatDoor.AL
open Go Go.RowKit
theorem prov0_2:Pure Tryz.prog G0 72 [.agg [.int .i64 0,.nils,.nils],.int .i64 2] (.agg [.int .i64 0,.nils,.sl [[.int .i64 2]]]):=ev1 (F:=[]) (fun p hp=>by cases hp) 3000 (by kernel_rfl)
theorem prov0_3:Pure Tryz.prog G0 72 [.agg [.int .i64 0,.nils,.nils],.int .i64 3] (.agg [.int .i64 0,.nils,.sl [[.int .i64 3]]]):=ev1 (F:=[]) (fun p hp=>by cases hp) 3000 (by kernel_rfl)
theorem prov2_2:Pure Tryz.prog G0 72 [.agg [.int .i64 0,.nils,.sl [[.int .i64 2]]],.int .i64 2] (.agg [.int .i64 0,.nils,.sl [[.int .i64 2]]]):=ev1 (F:=[]) (fun p hp=>by cases hp) 3000 (by kernel_rfl)
theorem prov2_3:Pure Tryz.prog G0 72 [.agg [.int .i64 0,.nils,.sl [[.int .i64 2]]],.int .i64 3] (.agg [.int .i64 0,.nils,.sl [[.int .i64 2],[.int .i64 3]]]):=ev1 (F:=[]) (fun p hp=>by cases hp) 3000 (by kernel_rfl)
theorem prov3_3:Pure Tryz.prog G0 72 [.agg [.int .i64 0,.nils,.sl [[.int .i64 3]]],.int .i64 3] (.agg [.int .i64 0,.nils,.sl [[.int .i64 3]]]):=ev1 (F:=[]) (fun p hp=>by cases hp) 3000 (by kernel_rfl)
theorem prov23_2:Pure Tryz.prog G0 72 [.agg [.int .i64 0,.nils,.sl [[.int .i64 2],[.int .i64 3]]],.int .i64 2] (.agg [.int .i64 0,.nils,.sl [[.int .i64 2],[.int .i64 3]]]):=ev1 (F:=[]) (fun p hp=>by cases hp) 3000 (by kernel_rfl)
theorem prov23_3:Pure Tryz.prog G0 72 [.agg [.int .i64 0,.nils,.sl [[.int .i64 2],[.int .i64 3]]],.int .i64 3] (.agg [.int .i64 0,.nils,.sl [[.int .i64 2],[.int .i64 3]]]):=ev1 (F:=[]) (fun p hp=>by cases hp) 3000 (by kernel_rfl)
end Go.Proofs.YtjdgofpcmcobnaaGreatDoor.AL

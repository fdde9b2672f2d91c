/-
  A run of code on data, and that it is sound.
-/
import Derived.Test.YtjdgofpcmcobnaaGreatDoorGc
import Derived.Test.YtjdgofpcmcobnaaGreatDoorGb
import Derived.MapKept
import Derived.Lib.SliceRun
set_option maxRecDepth 100000
set_option maxHeartbeats 2000000
set_option linter.unusedVariables false
set_option linter.unusedSimpArgs false
namespace Go.Proofs.YtjdgofpcmcobnaaGreatDoor.AL
section
open Go Go.RowKit Go.MapKept
def MK.eqb:MK→MK→Bool
 | .s a,.s b=>decide (a=b)
 | .i k a,.i k' b=>decide (k=k')&&decide (a=b)
 | _,_=>false
theorem MK.eqb_iff:∀ {a b:MK},MK.eqb a b=true↔a=b
 | .s a,.s b=>by simp[MK.eqb]
 | .i k a,.i k' b=>by simp[MK.eqb]
 | .s _,.i _ _=>by simp[MK.eqb]
 | .i _ _,.s _=>by simp[MK.eqb]
theorem MK.val_inj:∀ {a b:MK},a.val=b.val→a=b
 | .s a,.s b,h=>by simp only[MK.val,Value.string.injEq,ByteArray.mk.injEq] at h;rw[show a=b by simpa using congrArg Array.toList h]
 | .i k a,.i k' b,h=>by simp only[MK.val,Value.int.injEq] at h;rw[h.1,h.2]
 | .s _,.i _ _,h=>by simp[MK.val] at h
 | .i _ _,.s _,h=>by simp[MK.val] at h
def mkIdx(q:MK):List MK→Nat→Option Nat
 | [],_=>none
 | x::xs,i=>cond (MK.eqb q x) (some i) (mkIdx q xs (i+1))
theorem mkIdx_lt{q:MK}:∀ {ks:List MK} {i j:Nat},mkIdx q ks i=some j→i≤j∧j - i<ks.length∧ks[j - i]? = some q
 | [],_,_,h=>by cases h
 | x::xs,i,j,h=>by
  simp only[mkIdx] at h
  cases hb:MK.eqb q x with
  | true =>
   rw[hb] at h
   simp only[cond_true,Option.some.injEq] at h
   subst h
   exact⟨Nat.le_refl _,by simp,by simp[MK.eqb_iff.1 hb]⟩
  | false =>
   rw[hb] at h
   obtain⟨h1,h2,h3⟩:=mkIdx_lt (by simpa only[cond_false] using h)
   rw[show j - i=(j - (i+1))+1 by omega]
   exact⟨by omega,by simpa using h2,by simpa using h3⟩
def keyMK:D→Option MK
 | .str b=>some (.s b.data.toList)
 | .int k n=>some (.i k n)
 | _=>none
def okMK:TyK→MK→Bool
 | .str,.s _=>true
 | .int k,.i k' _=>decide (k=k')
 | _,_=>false
theorem keyMK_val{w:World}{F:Nat→Prop}{ι:Nat→Option IB}{v:Value}{d:D}{q:MK}(h:Rep w F ι v d)(hq:keyMK d=some q):v=q.val:=by
 cases d<;>simp only[keyMK,Option.some.injEq,reduceCtorEq] at hq
 ·subst hq;exact h.is_int
 ·subst hq;exact h.is_str
theorem okMK_key{P:Program}{d:TypeDesc}{k:TyK}{q:MK}(hk:kB P d k=true)(h:okMK k q=true):IsKey d q.val:=by
 cases k<;>cases q<;>simp only[okMK,Bool.false_eq_true,decide_eq_true_eq] at h
 ·rw[kB_str hk];trivial
 ·subst h;rw[kB_int hk];rfl
theorem findNow_mk{d:TypeDesc}{q:MK}(hq:IsKey d q.val):∀ (ks:List MK) (l:List MapEntry) (i:Nat),l.map (·.key)=ks.map MK.val→(∀ x∈ks,IsKey d x.val) →
  Instr.findNow d q.val l i=some ((mkIdx q ks i).map (fun j=>(j,(l.getD (j - i) default).val)))
 | [],[],_,_,_=>rfl
 | [],_::_,_,h,_=>by simp at h
 | _::_,[],_,h,_=>by simp at h
 | x::xs,e::es,i,h,hx=>by
  simp only[List.map_cons,List.cons.injEq] at h
  obtain⟨r,hr,hiff⟩:=sameNow_of_keys hq (show IsKey d e.key by rw[h.1];exact hx x (by simp))
  simp only[mkIdx]
  cases hb:MK.eqb q x with
  | true =>
   have e1:q.val=e.key:=by rw[h.1,MK.eqb_iff.1 hb]
   have:r=true:=hiff.2 e1
   subst this
   simp[Instr.findNow,hr]
  | false =>
   have:r=false:=by
    cases r with
    | false=>rfl
    | true=>rw[MK.eqb_iff.2 (MK.val_inj ((hiff.1 rfl).trans h.1))] at hb;cases hb
   subst this
   have ih:=findNow_mk hq xs es (i+1) h.2 (fun y hy=>hx y (List.mem_cons_of_mem _ hy))
   simp only[Instr.findNow,hr,cond_false,ih]
   cases hj:mkIdx q xs (i+1) with
   | none=>rfl
   | some j =>
    obtain⟨h1,_⟩:=mkIdx_lt hj
    simp only[Option.map_some]
    rw[show j - i=(j - (i+1))+1 by omega]
    simp
def mapT(Ty:Nat→Option TyI)(t:Nat):Option (TyI×TyI) :=
 match Ty t with
 | some i=>match i.k with
  | .map k e=>match Ty k,Ty e with
   | some ki,some ei=>some (ki,ei)
   | _,_=>none
  | _=>none
 | none=>none
section
variable {P:Program} {G:Nat→Option (List D)} {Ty:Nat→Option TyI} {o:Oper} {ρ:Operand→D} {g:Nat→Option Blk} {nm:Nat}
theorem mapT_ok(hty:TyOK P Ty){t:Nat}{ki ei:TyI}(h:mapT Ty t=some (ki,ei)):∃ k e dk z,P.underlying t=some (.map k e)∧P.underlying k=some dk∧kB P dk ki.k=true∧(∀ w,(zeroValue e).run P w=.ok z w)∧zB z ei.zero=true:=by
 unfold mapT at h
 split at h
 ·rename_i i hi
  split at h
  ·rename_i k e hk
   split at h
   ·rename_i ki' ei' hik hie
    cases h
    obtain⟨_,d1,_,_,u1,_,_,k1,_,_⟩:=hty.get hi
    obtain⟨_,d2,_,_,u2,_,_,k2,_,_⟩:=hty.get hik
    obtain⟨inf,d3,z3,f3,u3,_,_,k3,y3,q3⟩:=hty.get hie
    rw[hk] at k1
    exact⟨k,e,d2,z3,by rw[u1,kB_map k1],u2,k2,fun w=>zero_run f3 y3 w,q3⟩
   ·cases h
  ·cases h
 ·cases h
theorem do_makeMapM{t:Nat}(ho:o.op=.makeMap t none):Do P G o ρ g nm (.rf nm false) [(nm,some (.mp [] []))]:=by
 intro c dom ι a w σ st K Q hP hG hr hρ hg hnm hd hK
 subst hG
 have hrun:(execOp a.eval o).run P w=.ok (.value (.map (some w.heap.size))) (w.alloc (.map #[] 0)):=by
  rw[show execOp a.eval o=(do pure (.value (← Instr.makeMap t none))) by unfold execOp;rw[ho];rfl]
  simp[run_makeMap]
 unfold Oper.wp
 rw[hrun]
 obtain⟨h1,h2⟩:=hr.none_of hnm
 obtain⟨r1,r2⟩:=hr.one (w':=w.alloc (.map #[] 0)) nm ⟨true,w.heap.size,0,0,1,0⟩ (.mp [] []) rfl rfl rfl (by simp) (fun b hb=>.inl (Below.heap_alloc w _ b hb)) (fun _=>⟨by simp,.inr (Nat.le_refl _)⟩)
  (fun ib hib=>by rw[h1] at hib;cases hib) (fun f1 f2 =>
   ⟨⟨true,w.heap.size,0,0,1,0⟩,#[],0,by simp[updI],rfl,Nat.one_pos,Xp _ _,rfl,rfl,⟨by simp,by simp⟩,fun i hi=>absurd hi (Nat.not_lt_zero _)⟩)
 exact hK _ _ _ (r1.put _ (.rf nm false) (.rf nm false ⟨true,w.heap.size,0,0,1,0⟩ _ (by simp[updI]) rfl rfl) o.dst hd)
theorem rf_mp{c:Ctx}{dom:Nat→Prop}{ι:Nat→Option IB}{a:Act}{w:World}{σ:Nat→D}{st:Nat→Option Blk}(hr:Rel c dom ι a w σ st){m:Nat}{ks:List MK}{cs:List D}{v:Value}(h1:Rep w (Fb c ι st) ι v (.rf m false))(hs:st m=some (.mp ks cs)) :
  ∃ ib es ck,ι m=some ib∧ib.box=true∧0<ib.cap∧w.heap[ib.blk]? = some (.map es ck)∧es.size=cs.length∧es.toList.map (·.key)=ks.map MK.val∧(∀ i (hi:i<cs.length),Rep w (Fb c ι st) ι (es.getD i default).val cs[i])∧v=.map (some ib.blk)∧Births es ck:=by
 obtain⟨ib,es,ck,b1,b2,b3,b4,b5,b6,bB,b8⟩:=hr.blk m _ hs
 cases h1 with
 | pure _ _ h=>cases h
 | rf n ch ib' v hn hb hv =>
  obtain rfl:ib'=ib:=Option.some.inj (hn.symm.trans b1)
  exact⟨ib',es,ck,hn,hb,b3,b4,b5,b6,b8,hv,bB⟩
def lookM(ki ei:TyI)(q:MK)(ks:List MK)(cs:List D)(ok:Bool):Option D :=
 cond (ks.all (okMK ki.k)&&okMK ki.k q) (match mkIdx q ks 0 with
  | some j=>(match cs[j]? with|some v=>some (cond ok (.tup [v,.bool true]) v)|none=>none)
  | none=>some (cond ok (.tup [ei.zero,.bool false]) ei.zero)) none
theorem tup2_rep{w:World}{F:Nat→Prop}{ι:Nat→Option IB}{v:Value}{d:D}{b:Bool}(h:Rep w F ι v d):Rep w F ι (.tuple #[v,.bool b]) (.tup [d,.bool b]):=by
 refine .tup _ _ rfl (fun i hi=>?_)
 match i,hi with
 | 0,_=>exact h
 | 1,_=>exact .pure _ _ (.bool b)
theorem do_lookM(hty:TyOK P Ty){t m:Nat}{x y:Operand}{ok:Bool}{ki ei:TyI}{q:MK}{ks:List MK}{cs:List D}{v:D}(ho:o.op=.lookup t x y ok)(ht:mapT Ty t=some (ki,ei))(hx:ρ x=.rf m false)(hy:keyMK (ρ y)=some q)(hg0:g m=some (.mp ks cs))(hv:lookM ki ei q ks cs ok=some v) :
  Do P G o ρ g nm v []:=by
 obtain⟨k,e,dk,z,u1,u2,u3,u4,u5⟩:=mapT_ok hty ht
 unfold lookM at hv
 cases hc:(ks.all (okMK ki.k)&&okMK ki.k q) with
 | false=>rw[hc] at hv;cases hv
 | true =>
  rw[hc] at hv
  simp only[cond_true] at hv
  simp only[Bool.and_eq_true,List.all_eq_true] at hc
  refine Xg (fun c dom ι a w σ st hP hG hr hρ hg=>?_)
  subst hG
  have h1:=Zl hr x
  rw[hρ x (by rw[ho];simp[Op.operands]),hx] at h1
  have h2:=Zl hr y
  rw[hρ y (by rw[ho];simp[Op.operands])] at h2
  obtain⟨ib,es,ck,b1,b2,b3,b4,b5,b6,b8,ev,bB⟩:=rf_mp hr h1 (hg m _ hg0)
  have e2:=keyMK_val h2 hy
  have hq:=okMK_key u3 hc.2
  have hf:=findNow_mk hq ks es.toList 0 b6 (fun x hx=>okMK_key u3 (hc.1 x hx))
  rw[show execOp a.eval o=(do pure (.value (← Instr.lookup t (a.eval x) (a.eval y) ok))) by unfold execOp;rw[ho]]
  rw[ev,e2]
  cases hj:mkIdx q ks 0 with
  | none =>
   rw[hj] at hv hf
   cases hv
   refine⟨if ok then .tuple #[z,.bool false] else z,?_,?_⟩
   ·simp[Instr.lookup,run_underlying u1,Go.MapKept.run_getObj_map b4,Go.MapKept.run_checkKey u2 hq,Go.MapKept.run_findKey u2 hf,u4,Result.andThen]
   ·cases ok with
    | true=>exact tup2_rep (.pure _ _ (zB_rep u5))
    | false=>exact .pure _ _ (zB_rep u5)
  | some j =>
   rw[hj] at hv hf
   simp only at hv
   obtain⟨_,j2,_⟩:=mkIdx_lt hj
   cases hcs:cs[j]? with
   | none=>rw[hcs] at hv;cases hv
   | some d =>
    rw[hcs] at hv
    cases hv
    obtain⟨j3,rfl⟩:=List.getElem?_eq_some_iff.1 hcs
    have hrep:=b8 j j3
    have hes:(es.toList.getD (j - 0) default).val=(es.getD j default).val:=by simp
    simp only[Option.map_some,hes] at hf
    refine⟨if ok then .tuple #[(es.getD j default).val,.bool true] else (es.getD j default).val,?_,?_⟩
    ·simp only[Instr.lookup,Sem.run_bind,run_underlying u1,Go.MapKept.run_getObj_map b4,Go.MapKept.run_checkKey u2 hq,Go.MapKept.run_findKey u2 hf,Result.andThen_ok,Sem.run_pure]
    ·cases ok with
     | true=>exact tup2_rep hrep
     | false=>exact hrep
def insM(q:MK)(v:D)(ks:List MK)(cs:List D):List MK×List D :=
 match mkIdx q ks 0 with
 | some j=>(ks,cs.set j v)
 | none=>(ks++[q],cs++[v])
theorem mapUp{w:World}{t kt et r ck:Nat}{d:TypeDesc}{q:MK}{v:Value}{dv:D}{es:Array MapEntry}{ks:List MK}{cs:List D}(hm:P.underlying t=some (.map kt et))(hd:P.underlying kt=some d)(hb:w.heap[r]? = some (.map es ck))(hks:∀ x∈ks,IsKey d x.val)(hq:IsKey d q.val)(h5:es.size=cs.length)(h6:es.toList.map (·.key)=ks.map MK.val) :
  ∃ es' ck',(Instr.mapUpdate t (.map (some r)) q.val v).run P w=.ok () { w with heap:=w.heap.setIfInBounds r (.map es' ck') }∧es'.size=(insM q dv ks cs).2.length∧es'.toList.map (·.key)=(insM q dv ks cs).1.map MK.val∧(Births es ck→Births es' ck') ∧
   ∀ R:Value→D→Prop,(∀ i (hi:i<cs.length),R (es.getD i default).val cs[i])→R v dv→∀ i (hi:i<(insM q dv ks cs).2.length),R (es'.getD i default).val (insM q dv ks cs).2[i]:=by
 have hf:=findNow_mk hq ks es.toList 0 h6 hks
 unfold insM
 cases hj:mkIdx q ks 0 with
 | none =>
  rw[hj] at hf
  refine⟨es.push ⟨q.val,v,ck⟩,ck+1,by simp[Instr.mapUpdate,run_underlying hm,Go.MapKept.run_getObj_map hb,Go.MapKept.run_checkKey hd hq,Go.MapKept.run_findKey hd hf,Go.MapKept.run_setObj_map _ hb,Result.andThen],by simp[h5],by simp[h6],fun hB=>⟨?_,?_⟩,fun R h0 h1 i hi=>?_⟩
  ·simp[hB.1]
  ·simp only[Array.toList_push,List.map_append,List.map_cons,List.map_nil,Array.size_push,List.range_succ,hB.2]
   rw[hB.1]
  simp only[List.length_append,List.length_singleton] at hi
  by_cases hlt:i<cs.length
  ·have e1:(es.push ⟨q.val,v,ck⟩).getD i default=es.getD i default:=by simp[Array.getElem?_push,h5,Nat.ne_of_lt hlt]
   have e2:(cs++[dv])[i]'(by simpa using hi)=cs[i]:=by simp[hlt]
   rw[e1,e2];exact h0 i hlt
  ·have hi2:i=cs.length:=by omega
   subst hi2
   have e1:(es.push ⟨q.val,v,ck⟩).getD cs.length default=⟨q.val,v,ck⟩:=by rw[← h5];simp
   have e2:(cs++[dv])[cs.length]'(by simp)=dv:=by simp
   simp only[e1,e2];exact h1
 | some j =>
  rw[hj] at hf
  obtain⟨_,j2,j3⟩:=mkIdx_lt hj
  have hlen:ks.length=es.size:=by simpa using (congrArg List.length h6).symm
  have jlt:j<es.size:=by omega
  have hkj:es[j].key=q.val:=by
   have:=congrArg (fun l=>l[j]?) h6
   simp only[Nat.sub_zero] at j3
   simpa[jlt,j3] using this
  have hes:(es.toList.getD (j - 0) default).val=es[j].val:=by simp[jlt]
  simp only[Option.map_some,hes] at hf
  refine⟨es.modify j fun e=>{ e with key:=q.val,val:=v },ck,?_,by simp[h5],?_,fun hB=>?_,fun R h0 h1 i hi=>?_⟩
  ·simp[Instr.mapUpdate,run_underlying hm,Go.MapKept.run_getObj_map hb,Go.MapKept.run_checkKey hd hq,Go.MapKept.run_findKey hd hf,Go.MapKept.run_setObj_map _ hb,Result.andThen,jlt,hkj,run_keyThatStays hq]
  ·simp only
   rw[← h6]
   refine List.ext_getElem (by simp) (fun i i1 i2=>?_)
   simp only[List.getElem_map,Array.getElem_toList,Array.getElem_modify]
   by_cases e:j=i
   ·subst e;simp[hkj]
   ·simp[e]
  ·have hb:(es.modify j fun e=>{ e with key:=q.val,val:=v }).toList.map (·.born)=es.toList.map (·.born):=by
    refine List.ext_getElem (by simp) (fun i i1 i2=>?_)
    simp only[List.getElem_map,Array.getElem_toList,Array.getElem_modify]
    by_cases e:j=i
    ·subst e;simp
    ·simp[e]
   exact⟨by simpa using hB.1,by rw[hb];simpa using hB.2⟩
  ·simp only[List.length_set] at hi
   have hi':i<es.size:=by omega
   by_cases e:j=i
   ·subst e
    simpa[hi',hi,Array.getElem_modify] using h1
   ·have:=h0 i hi
    simpa[hi',e,Array.getElem_modify] using this
theorem do_insM(hty:TyOK P Ty){t m:Nat}{x y z:Operand}{ki ei:TyI}{q:MK}{ks:List MK}{cs:List D}(ho:o.op=.mapUpdate t x y z∨o.op=.insert t x y z)(ht:mapT Ty t=some (ki,ei))(hx:ρ x=.rf m false)(hy:keyMK (ρ y)=some q)(hg0:g m=some (.mp ks cs))(hc:(ks.all (okMK ki.k)&&okMK ki.k q)=true) :
  Do P G o ρ g nm .any [(m,some (.mp (insM q (ρ z) ks cs).1 (insM q (ρ z) ks cs).2))]:=by
 obtain⟨k,e,dk,zz,u1,u2,u3,u4,u5⟩:=mapT_ok hty ht
 simp only[Bool.and_eq_true,List.all_eq_true] at hc
 intro c dom ι a w σ st K Q hP hG hr hρ hg hnm hd hK
 subst hG
 have hops:x∈o.op.operands∧y∈o.op.operands∧z∈o.op.operands:=by rcases ho with ho|ho<;>(rw[ho];simp[Op.operands])
 have h1:=Zl hr x
 rw[hρ x hops.1,hx] at h1
 have h2:=Zl hr y
 rw[hρ y hops.2.1] at h2
 have h3:=Zl hr z
 rw[hρ z hops.2.2] at h3
 have hs:=hg m _ hg0
 obtain⟨ib,es,ck,b1,b2,b3,b4,b5,b6,b8,ev,bB⟩:=rf_mp hr h1 hs
 have e2:=keyMK_val h2 hy
 have hq:=okMK_key u3 hc.2
 obtain⟨es',ck',m1,m2,m3,mB,m4⟩:=mapUp (v:=a.eval z) (dv:=ρ z) u1 u2 b4 (fun x hx=>okMK_key u3 (hc.1 x hx)) hq b5 b6
 have hrun:(execOp a.eval o).run P w=.ok .skip { w with heap:=w.heap.setIfInBounds ib.blk (.map es' ck') }:=by
  rw[show execOp a.eval o=(do Instr.mapUpdate t (a.eval x) (a.eval y) (a.eval z);pure .skip) by unfold execOp;rcases ho with ho|ho<;>rw[ho]]
  rw[ev,e2]
  simp[m1]
 unfold Oper.wp
 rw[hrun]
 have hlt:=(hr.own ib.blk ⟨m,ib,by rw[hs];rfl,b1,b3,rfl⟩).1
 obtain⟨r1,r2⟩:=hr.one (w':={ w with heap:=w.heap.setIfInBounds ib.blk (.map es' ck') }) m ib (.mp (insM q (ρ z) ks cs).1 (insM q (ρ z) ks cs).2) rfl rfl rfl (by simp)
   (fun b hb'=>by
    by_cases e:b=ib.blk
    ·exact .inr ⟨ib,b1,by rw[hs];rfl,b3,e⟩
    ·exact .inl ((Go.MapKept.heap_set b4).2 b e))
   (fun _=>⟨by simpa using hlt,.inl ⟨ib,b1,by rw[hs];rfl,b3,rfl⟩⟩)
   (fun ib2 h2=>.inl (Option.some.inj (b1.symm.trans h2)))
   (fun f1 f2=>⟨ib,es',ck',by simp[updI],b2,b3,(Go.MapKept.heap_set b4).1,m2,m3,mB bB,m4 _ (fun i hi=>f1 _ _ (b8 i hi)) (f1 _ _ h3)⟩)
 exact hK _ _ _ ((r1.put undef .any (.pure _ _ (.any _)) o.dst hd).weaken (fun _=>Le.refl _) (fun m' hm=>.inl (hm.elim id (fun e=>e▸hr.dom m (by rw[b1];rfl)))))
theorem do_clear(hty:TyOK P Ty){t e:Nat}{j:TyI}{x:Operand}{n hl lo len:Nat}{rows:List (List D)}{z0:D}(ho:o.op=Ym .clear #[x] #[t])(he:ZN Ty t=some (e,j))(hx:ρ x=.os n hl lo len)(hgn:g n=some (.arr 1 rows))(hlen:rows.length=hl)(hj:j.size=1)(hz:Zf j.zero=[z0])(hst:Z5 j.zero=true)(h1:oneD z0=true)(hle:lo+len≤hl)(hpos:0<len) :
  Do P G o ρ g nm (.tup []) [(n,some (.arr 1 (rows.take lo++List.replicate len [z0]++rows.drop (lo+len))))]:=by
 intro c dom ι a w σ st K Q hP hG hr hρ hg hnm hd hK
 subst hG
 have hv:=Zl hr x
 rw[hρ x (by rw[ho];simp[Ym,Op.operands,Call.operands]),hx] at hv
 obtain⟨cs,hcs⟩:=YC (ev:=a.eval) ho
 obtain⟨u1,u2⟩:=ZL hty he
 obtain⟨z,z1,z1',⟨info,i1,i2,_,i4⟩,z2,z3⟩:=YM (w:=w) (F:=Fb c ι st) hty u2 (by rw[hz,hj];rfl) hst
 have hz3:RepP w (Fb c ι st) (z.cells.getD 0 undef) z0:=by
  have:=z3 0 (by rw[hz];exact Nat.one_pos)
  simp only[hz] at this
  exact this
 have hzone:(z.cells.getD 0 undef).oneCell'=true:=oneD_ok (.pure _ _ hz3:Rep w (Fb c ι st) ι _ _) h1
 have hzc:z.cells=#[z.cells.getD 0 undef]:=by
  apply Array.ext
  ·simp[z2,hj]
  ·intro i i1 i2
   have:i=0:=by simp at i2;omega
   subst this
   simp[z2,hj]
 generalize z.cells.getD 0 undef=zv at *
 generalize hex:a.eval x=vx at hv
 cases hv with
 | pure _ _ h=>cases h
 | os n hl lo len ib v hn hle' hone hp' =>
  obtain⟨ib',k1,k2,k3,k4,k5,k6,k7⟩:=hr.blk n _ (hg n _ hgn)
  obtain rfl:ib=ib':=Option.some.inj (hn.symm.trans k1)
  obtain⟨a',cap,rfl,p1,p2,p3,p4⟩:=hp' (k4.trans hlen)
  have hcap:0<ib.cap:=by omega
  obtain⟨vs,ty,q1,q2,q3⟩:=k7 hcap
  obtain⟨hbl,rfl⟩:=p3 (by omega)
  obtain⟨f,hf⟩:∃ f,f=lo - ib.base:=⟨_,rfl⟩
  rw[k3,← hf,Nat.mul_one] at hex
  have hfit:f+len≤vs.size:=by omega
  have hst':=run_storeCells_at P ib.blk f ty (List.replicate len zv) 0 vs w q1 (by simp;omega) (fun v hv=>by rw[List.eq_of_mem_replicate hv];exact hzone)
  simp only[Nat.add_zero] at hst'
  generalize hnew:(vs.toList.take f++List.replicate len zv++vs.toList.drop (f+(List.replicate len zv).length)).toArray=new at hst'
  have hnsz:new.size=vs.size:=by rw[← hnew];simp;omega
  have hget:∀ k,new.getD k undef=if k<f then vs.getD k undef else if k<f+len then zv else vs.getD k undef:=by
   intro k
   have:=getD_mid vs (List.replicate len zv).toArray f k (by simpa using hfit)
   simp only[List.size_toArray] at this
   rw[← hnew,this]
   simp only[List.length_replicate]
   by_cases c1:k<f
   ·rw[if_pos c1,if_pos c1]
   ·rw[if_neg c1,if_neg c1]
    by_cases c2:k<f+len
    ·rw[if_pos c2,if_pos c2]
     simp[show k - f<len by omega]
    ·rw[if_neg c2,if_neg c2]
  have hrun:(execOp a.eval o).run P w=.ok (.value (.tuple #[])) (w.setRow ib.blk new):=by
   rw[hcs]
   have hzl:(Builtin.zeroCells z.cells len).toList=List.replicate len zv:=by
    rw[hzc]
    simp only[Builtin.zeroCells]
    apply List.ext_getElem
    ·simp
    ·intro i h1 h2
     simp[Nat.mod_one]
   obtain⟨len',rfl⟩:∃ m,len=m+1:=⟨len - 1,by omega⟩
   simp[builtin,Builtin.clear_,hex,run_underlying u1,z1,hzl,hst']
  unfold Oper.wp
  rw[hrun]
  have hso:(st n).isSome=true:=by rw[hg n _ hgn];rfl
  have hrl:(rows.take lo++List.replicate len [z0]++rows.drop (lo+len)).length=rows.length:=by simp;omega
  have hone2:=hr.one (w':=w.setRow ib.blk new) n ib (.arr 1 (rows.take lo++List.replicate len [z0]++rows.drop (lo+len))) rfl rfl rfl (by simp)
   (fun b hb'=>by
    by_cases e:b=ib.blk
    ·exact .inr ⟨ib,hn,hso,hcap,e⟩
    ·exact .inl (setRow_other w _ _ _ e))
   (fun _=>⟨by simp;exact (hr.own ib.blk ⟨n,ib,hso,hn,hcap,rfl⟩).1,.inl ⟨ib,hn,hso,hcap,rfl⟩⟩)
   (fun ib2 h2=>.inl (Option.some.inj (hn.symm.trans h2)))
   (fun f1 f2=>⟨ib,by simp[updI],k2,k3,by rw[hrl];exact k4,by rw[hrl];exact k5,fun r hr'=>by
     simp only[List.mem_append,List.mem_replicate] at hr'
     rcases hr' with (h|h)|h
     ·exact k6 r (List.mem_of_mem_take h)
     ·rw[h.2];rfl
     ·exact k6 r (List.mem_of_mem_drop h),fun _=>⟨new,ty,setRow_heap w _ vs _ ty _ q1,by omega,fun k hk j' hj' hbk=>?_⟩⟩)
  ·obtain⟨r1,r2⟩:=hone2
   exact hK _ _ _ ((r1.put _ (.tup []) (.pure _ _ (.tup #[] [] rfl (fun i hi=>absurd hi (Nat.not_lt_zero _)))) o.dst hd).weaken (fun _=>Le.refl _) (fun m hm=>.inl (hm.elim id (fun e=>e▸hr.dom n (by rw[hn];rfl)))))
  ·have hk':k<rows.length:=by rw[hrl] at hk;exact hk
   refine f2 _ _ ?_
   rw[hget]
   by_cases c1:k<lo
   ·have ee:(rows.take lo++List.replicate len [z0]++rows.drop (lo+len))[k]=rows[k]:=by simp[show k<min lo rows.length by omega]
    have hj1:j'<rows[k].length:=by rw[ee] at hj';exact hj'
    have:=q3 k hk' j' hj1 hbk
    have h0:j'=0:=by have:=k6 _ (List.getElem_mem hk');omega
    subst h0
    rw[if_pos (by omega)]
    simp only[ee]
    exact this
   ·by_cases c2:k<lo+len
    ·have ee:(rows.take lo++List.replicate len [z0]++rows.drop (lo+len))[k]=[z0]:=by
      simp[List.getElem_append,show ¬ k<lo from c1,show min lo rows.length=lo by omega]
      intro h;omega
     have h0:j'=0:=by rw[ee] at hj';simp at hj';exact hj'
     subst h0
     rw[if_neg (by omega),if_pos (by omega)]
     simp only[ee]
     exact hz3
    ·have ee:(rows.take lo++List.replicate len [z0]++rows.drop (lo+len))[k]=rows[k]:=by
      simp[List.getElem_append,show ¬ k<lo from c1,show min lo rows.length=lo by omega,show ¬ k - lo<len by omega,show lo+len+(k - lo - len)=k by omega]
     have hj1:j'<rows[k].length:=by rw[ee] at hj';exact hj'
     have:=q3 k hk' j' hj1 hbk
     have h0:j'=0:=by have:=k6 _ (List.getElem_mem hk');omega
     subst h0
     rw[if_neg (by omega),if_neg (by omega)]
     simp only[ee]
     exact this
end
end
section
open Go Go.RowKit
section
variable {P:Program} {G:Nat→Option (List D)} {Ty:Nat→Option TyI} {o:Oper} {ρ:Operand→D} {g:Nat→Option Blk} {nm:Nat}
def sliceG(p q:List UInt8)(lo h:Nat):D :=
 if h≤p.length then .str ⟨((p.take h).drop lo).toArray⟩
 else if lo≤p.length then .strg ⟨(p.drop lo).toArray⟩ ⟨(q.take (h - p.length - 1)).toArray⟩
 else .str ⟨((q.take (h - p.length - 1)).drop (lo - p.length - 1)).toArray⟩
theorem do_sliceStrg(hty:TyOK P Ty){t:Nat}{x:Operand}{lo hi:Option Operand}{bl bh:Option Nat}{p q:ByteArray}{i:TyI}(ho:o.op=.slice t x lo hi none)(ht:Ty t=some i)(hk:i.k=.str)(hx:ρ x=.strg p q)(h1:bndD ρ lo=some bl)(h2:bndD ρ hi=some bh)
  (hh:bh.getD (p.data.toList.length+1+q.data.toList.length)≤p.data.toList.length+1+q.data.toList.length) (hl:bl.getD 0≤bh.getD (p.data.toList.length+1+q.data.toList.length)) :
  Do P G o ρ g nm (sliceG p.data.toList q.data.toList (bl.getD 0) (bh.getD (p.data.toList.length+1+q.data.toList.length))) []:=by
 refine ZY (fun w F ι ev hev=>?_)
 have hv:=hev x (by rw[ho];simp[Op.operands])
 rw[hx] at hv
 obtain⟨s,b,ev1,k1,k2,k3⟩:=hv.is_strg
 have hsz:s.size=p.data.toList.length+1+q.data.toList.length:=by rw[YY,k3];simp;omega
 obtain⟨info,de,z,e1,e2,_,_,e5,_⟩:=hty.get ht
 rw[hk] at e5
 cases de<;>simp only[kB,Bool.false_eq_true] at e5
 have b1:=bnd_ok (ρ:=ρ) (ev:=ev) (w:=w) (F:=F) (ι:=ι) (x:=lo) (fun y e=>hev y (by rw[ho,e];simp[Op.operands])) h1
 have b2:=bnd_ok (ρ:=ρ) (ev:=ev) (w:=w) (F:=F) (ι:=ι) (x:=hi) (fun y e=>hev y (by rw[ho,e];simp[Op.operands])) h2
 rw[← hsz] at hh hl ⊢
 have hb:=bounds_run (P:=P) (w:=w) b1 b2 false s.size s.size hh hl
 refine⟨.string (s.extract (bl.getD 0) (bh.getD s.size)),?_,?_⟩
 ·rw[show execOp ev o=(do pure (.value (← Instr.sliceAt t (ev x) (lo.map ev) (hi.map ev) none))) by unfold execOp;rw[ho];rfl]
  simp only[Sem.run_bind,Instr.sliceAt,run_underlying e2,Result.andThen_ok,Instr.slice,ev1,Option.isSome_none,Bool.false_eq_true,if_false,hb]
  rfl
 ·generalize bl.getD 0=l at *
  generalize bh.getD s.size=h at *
  have hex:(s.extract l h).data.toList=(s.data.toList.take h).drop l:=by
   rw[ByteArray.data_extract,Array.toList_extract,List.extract_eq_take_drop,List.drop_take]
  rw[k3] at hex
  have str:∀ L:List UInt8,(s.extract l h).data.toList=L→RepP w F (.string (s.extract l h)) (.str ⟨L.toArray⟩):=by
   intro L hL
   have:s.extract l h=⟨L.toArray⟩:=by
    generalize s.extract l h=u at hL
    obtain⟨u⟩:=u
    simp at hL
    rw[← hL]
   rw[this]
   exact .str _
  unfold sliceG
  split
  ·rename_i hc
   exact .pure _ _ (str _ (by rw[hex,List.take_append_of_le_length hc]))
  ·rename_i hc
   have ht:(p.data.toList++b::q.data.toList).take h=p.data.toList++b::q.data.toList.take (h - p.data.toList.length - 1):=by
    rw[List.take_append,List.take_of_length_le (by omega)]
    obtain⟨m,hm⟩:∃ m,h - p.data.toList.length=m+1:=⟨h - p.data.toList.length - 1,by omega⟩
    rw[hm]
    rfl
   rw[ht] at hex
   split
   ·rename_i hc2
    refine .pure _ _ (.strg _ _ _ b k1 k2 ?_)
    rw[hex,List.drop_append_of_le_length hc2]
   ·rename_i hc2
    refine .pure _ _ (str _ ?_)
    rw[hex,List.drop_append,List.drop_of_length_le (by omega)]
    obtain⟨m,hm⟩:∃ m,l - p.data.toList.length=m+1:=⟨l - p.data.toList.length - 1,by omega⟩
    rw[hm]
    simp
end
end
section
open Go Go.RowKit
inductive SM where
 | lf
 | nd (d:D) (l r:SM)
 deriving Inhabited
noncomputable section
def SM.get(m:SM):Nat→D:=SM.rec (motive:=fun _=>Nat→D) (fun _=>.any) (fun d _ _ gl gr n=>Bool.rec (motive:=fun _=>D) (Bool.rec (motive:=fun _=>D) (gr (Nat.div (Nat.sub n 1) 2)) (gl (Nat.div (Nat.sub n 1) 2)) (Nat.beq (Nat.mod (Nat.sub n 1) 2) 0)) d (Nat.beq n 0)) m
theorem SM.get_lf(n:Nat):SM.get .lf n=.any:=rfl
theorem SM.get_zero(d:D)(l r:SM):SM.get (.nd d l r) 0=d:=rfl
theorem SM.get_succ(d:D)(l r:SM)(n:Nat):SM.get (.nd d l r) (n+1)=cond (Nat.beq (Nat.mod n 2) 0) (l.get (Nat.div n 2)) (r.get (Nat.div n 2)):=by
 have h:SM.get (.nd d l r) (n+1)=Bool.rec (motive:=fun _=>D) (r.get (Nat.div n 2)) (l.get (Nat.div n 2)) (Nat.beq (Nat.mod n 2) 0):=rfl
 rw[h]
 cases Nat.beq (Nat.mod n 2) 0<;>rfl
def SM.onL(d:D)(r:SM)(x:SM):SM:=SM.rec (motive:=fun _=>SM) .lf (fun a b c _ _=>.nd d (.nd a b c) r) x
def SM.onR(d:D)(l:SM)(x:SM):SM:=SM.rec (motive:=fun _=>SM) .lf (fun a b c _ _=>.nd d l (.nd a b c)) x
def SM.set(v:D)(m:SM):Nat→SM:=SM.rec (motive:=fun _=>Nat→SM) (fun _=>.lf) (fun d l r gl gr n=>Bool.rec (motive:=fun _=>SM) (Bool.rec (motive:=fun _=>SM) (SM.onR d l (gr (Nat.div (Nat.sub n 1) 2))) (SM.onL d r (gl (Nat.div (Nat.sub n 1) 2))) (Nat.beq (Nat.mod (Nat.sub n 1) 2) 0)) (.nd v l r) (Nat.beq n 0)) m
theorem SM.set_lf(v:D)(n:Nat):SM.set v .lf n=.lf:=rfl
theorem SM.set_zero(v d:D)(l r:SM):SM.set v (.nd d l r) 0=.nd v l r:=rfl
theorem SM.set_succ(v d:D)(l r:SM)(n:Nat):SM.set v (.nd d l r) (n+1)=cond (Nat.beq (Nat.mod n 2) 0) (match l.set v (Nat.div n 2) with|.lf=>.lf|.nd a b c=>.nd d (.nd a b c) r) (match r.set v (Nat.div n 2) with|.lf=>.lf|.nd a b c=>.nd d l (.nd a b c)):=by
 have h:SM.set v (.nd d l r) (n+1)=Bool.rec (motive:=fun _=>SM) (SM.onR d l (r.set v (Nat.div n 2))) (SM.onL d r (l.set v (Nat.div n 2))) (Nat.beq (Nat.mod n 2) 0):=rfl
 rw[h]
 cases Nat.beq (Nat.mod n 2) 0
 ·simp only[cond_false];cases r.set v (Nat.div n 2)<;>rfl
 ·simp only[cond_true];cases l.set v (Nat.div n 2)<;>rfl
def SM.full:Nat→SM
 | 0=>.nd .any .lf .lf
 | k+1=>.nd .any (SM.full k) (SM.full k)
def Y5(n:Nat):Nat:=cond (Nat.blt n 15) 3 (cond (Nat.blt n 63) 5 (cond (Nat.blt n 255) 7 (cond (Nat.blt n 1023) 9 12)))
def SM.args:List D→Nat→SM→SM
 | [],_,m=>m
 | d::ds,i,m=>SM.args ds (i+1) (m.set d i)
def SM.setO(m:SM):Option Nat→D→SM
 | none,_=>m
 | some t,v=>m.set v t
def seen(g:Nat→Option Blk):Nat→List Nat→List Nat→List Nat
 | 0,_,acc=>acc
 | _+1,[],acc=>acc
 | f+1,n::l,acc=>if acc.contains n then seen g f l acc else seen g f (namesB g n++l) (n::acc)
def SM.map(f:D→D):SM→SM
 | .lf=>.lf
 | .nd d l r=>.nd (f d) (l.map f) (r.map f)
structure XOut where
 v:D
 upd:List (Nat×Option Blk)
 L:List Nat
abbrev St:=List (Nat×Blk)
section
variable (Ty:Nat→Option TyI)
def xv(v:D):Option XOut:=some ⟨v,[],[]⟩
def xo(v:Option D):Option XOut:=match v with|some v=>some ⟨v,[],[]⟩|none=>none
def xVal(op:Op)(ρ:Operand→D):Option XOut :=
 match op with
 | .move x|.assign x=>xv (ρ x)
 | .pick c a b=>xo (pickD (ρ c) (ρ a) (ρ b))
 | .binOp op t x y _=>xo (binD Ty op t (ρ x) (ρ y))
 | .unOp op _ x=>xo (unD op (ρ x))
 | .extract x ix=>match ρ x with|.tup ds=>xo ds[ix]?|_=>none
 | .makeInterface t x=>match Ty t with|some i=>(match i.k with|.ifc _=>none|_=>xv (.ifc t (ρ x)))|none=>none
 | .makeFunc f a b=>xv (.fn f (a.toList.map ρ) (b.toList.map ρ))
 | .nilCheck x=>if nilOKD (ρ x) then xv (ρ x) else none
 | .field s x f=>match fieldOf Ty s f,ρ x with|some (off,size,ag),.agg ds=>xo (partD ag off size ds)|_,_=>none
 | .index t x ix=>match ρ x with
  | .agg _=>xo (indexD Ty t (ρ x) (ρ ix))
  | .str _=>match Ty t with|some i=>(match i.k with|.str=>xo (indexD Ty t (ρ x) (ρ ix))|_=>none)|none=>none
  | _=>none
 | .build t parts=>match Ty t,placeOf Ty t with
  | some i,some pl=>(match i.zero with|.agg zs=>(match fillD pl zs (parts.toList.map (fun p=>(p.1,ρ p.2))) with|some out=>xv (.agg out)|none=>none)|_=>none)
  | _,_=>none
 | .convert s d x=>match Ty s,Ty d,ρ x with
  | some _,some j,.int _ n=>(match j.k with|.int k'=>xv (.int k' (k'.wrap n))|_=>none)
  | _,_,_=>none
 | _=>none
def xSlice(t:Nat)(x:D)(bl bh:Option (Option Nat))(g:Nat→Option Blk):Option XOut :=
 match x,ZN Ty t,bl,bh with
  | .nils,some _,some bl,some bh=>if bl.getD 0=0∧bh.getD 0=0 then some ⟨.nils,[],[]⟩ else none
  | .sle,some _,some bl,some bh=>if bl.getD 0=0∧bh.getD 0=0 then some ⟨.sle,[],[]⟩ else none
  | .sl rows,some (_,j),some bl,some bh=>if (∀ r∈rows,r.length=j.size)∧bh.getD rows.length≤rows.length∧bl.getD 0≤bh.getD rows.length then some ⟨.sl ((rows.drop (bl.getD 0)).take (bh.getD rows.length - bl.getD 0)),[],[]⟩ else none
  | .os n hl l0 len,some (_,j),some bl,some bh=>(match g n with
   | some (.arr es rows)=>if es=j.size∧rows.length=hl∧bh.getD len≤len∧bl.getD 0≤bh.getD len then some ⟨.os n hl (l0+bl.getD 0) (bh.getD len - bl.getD 0),[],[n]⟩ else none
   | _=>none)
  | _,_,_,_=>none
def nameA:D→List Nat
 | .bp _ _=>[]
 | d=>Z2 d
def xMem(op:Op)(ρ:Operand→D)(g:Nat→Option Blk)(nm:Nat):Option XOut :=
 match op with
 | .alloc t=>match Ty t with|some i=>if Z5 i.zero then some ⟨.bp nm 0,[(nm,some (.box (Zf i.zero)))],[]⟩ else none|none=>none
 | .box _ x=>if Z5 (ρ x) then some ⟨.bp nm 0,[(nm,some (.box (Zf (ρ x))))],[]⟩ else none
 | .load t x=>match YU g (ρ x) with|some (c::cs)=>(match loadD Ty t (c::cs) with|some d=>some ⟨d,[],Z2 (ρ x)⟩|none=>none)|_=>none
 | .store t x y=>match Ty t,ρ x with
  | some i,.bp n off=>match g n with
   | some (.box cs)=>if Z5 (ρ y)∧(Zf (ρ y)).length=i.size∧onesD (Zf (ρ y))=true∧off+(Zf (ρ y)).length≤cs.length then some ⟨.any,[(n,some (.box (putL cs off (Zf (ρ y)))))],[n]⟩ else none
   | _=>none
  | some i,.ap n hl ix off=>match g n with
   | some (.arr es rows)=>match rows[ix]? with
    | some row=>if (ρ y).lo 0=true then
      (if Z5 (ρ y)∧(Zf (ρ y)).length=i.size∧onesD (Zf (ρ y))=true∧rows.length=hl∧off+(Zf (ρ y)).length≤row.length then some ⟨.any,[(n,some (.arr es (rows.set ix (putL row off (Zf (ρ y))))))],[n]⟩ else none)
     else
      let L:=seen g 100 (ZA (ρ y)) []
      match ZZ (resN L g) 9 (ρ y) with
      | some dy=>if Z5 dy∧dy.lo 0=true∧L.contains n=false∧(Zf dy).length=i.size∧onesD (Zf dy)=true∧rows.length=hl∧off+(Zf dy).length≤row.length then some ⟨.any,L.map (fun n=>(n,none))++[(n,some (.arr es (rows.set ix (putL row off (Zf dy)))))],n::L⟩ else none
      | none=>none
    | none=>none
   | _=>none
  | _,_=>none
 | .fieldAddr s x f=>match fieldOf Ty s f with|some (off,size,_)=>if size≠0 then (match padd g off (ρ x) with|some d=>some ⟨d,[],nameA (ρ x)⟩|none=>none) else none|none=>none
 | .indexAddr t x ix=>match Yx Ty g t (ρ x) (ρ ix) with|some d=>some ⟨d,[],nameA (ρ x)⟩|none=>none
 | .buildSlice t len parts=>match ZN Ty t with
  | some (_,j)=>if len=0∧parts.toList.isEmpty=true then some ⟨.os nm 1 1 0,[(nm,some (.arr j.size [List.replicate j.size .any]))],[]⟩ else if (Zf j.zero).length=j.size∧Z5 j.zero=true∧len*j.size≤16777216 then
    if D.los 0 (parts.toList.map (fun p=>ρ p.2))=true then
     match fillD (fun k=>some (k*j.size,j.size)) (YL len (Zf j.zero)) (parts.toList.map (fun p=>(p.1,ρ p.2))) with
     | some out=>if D.los 0 out=true∧out.length=len*j.size then some ⟨.os nm len 0 len,[(nm,some (.arr j.size (Z9 len j.size out)))],[]⟩ else none
     | none=>none
    else
     let L:=seen g 100 (ZB (parts.toList.map (fun p=>ρ p.2))) []
     match mapO (fun p=>(ZZ (resN L g) 9 (ρ p.2)).map (fun d=>(p.1,d))) parts.toList with
     | some dps=>(match fillD (fun k=>some (k*j.size,j.size)) (YL len (Zf j.zero)) dps with
      | some out=>if D.los 0 out=true∧out.length=len*j.size then some ⟨.os nm len 0 len,L.map (fun n=>(n,none))++[(nm,some (.arr j.size (Z9 len j.size out)))],L⟩ else none
      | none=>none)
     | none=>none
   else none
  | none=>none
 | .makeSlice t x y=>match ZN Ty t,ρ x,ρ y with
  | some (_,j),.int _ l,.int _ c=>if l=0∧0≤c∧j.bytes*c.toNat≤281474976710656∧c.toNat≤9223372036854775807∧(Zf j.zero).length=j.size∧Z5 j.zero=true then some ⟨.os nm 1 1 0,[(nm,some (.arr j.size [List.replicate j.size .any]))],[]⟩ else if ((Zf j.zero).length=j.size∧Z5 j.zero=true)∧0≤l∧l≤c∧j.bytes*c.toNat≤281474976710656∧c.toNat≤9223372036854775807 then
    some ⟨.os nm l.toNat 0 l.toNat,[(nm,some (.arr j.size (List.replicate l.toNat (Zf j.zero))))],[]⟩ else none
  | _,_,_=>none
 | .slice t x lo hi none=>xSlice Ty t (ρ x) (bndD ρ lo) (bndD ρ hi) g
 | op=>xVal Ty op ρ
def xBuiltin(b:Builtin)(args:List Operand)(tys:List TypeId)(ρ:Operand→D)(g:Nat→Option Blk)(nm:Nat):Option XOut :=
 match b,args,tys with
 | .len,[x],[t]=>match Ty t with
  | some i=>match ρ x with
   | .os n hl _ len=>(match g n with|some (.arr _ rows)=>if isSlK i.k∧rows.length=hl then some ⟨.int .i64 len,[],[n]⟩ else none|_=>none)
   | d=>if lenK d i.k then (match lenD d with|some n=>xv (.int .i64 n)|none=>none) else none
  | none=>none
 | .append,[x,y],[t,tx]=>match ZN Ty t,ZN Ty tx with
  | some (_,j),some _=>if (Zf j.zero).length=j.size∧Z5 j.zero=true then
    match ρ x with
    | .nils=>(match Yq g (ρ y) with
     | some rows=>if (∀ r∈rows,r.length=j.size)∧(∀ r∈rows,onesD r=true)∧rows.length*j.bytes≤1000000000000∧rows.length≤1000000000000 then some ⟨.os nm rows.length 0 rows.length,[(nm,some (.arr j.size rows))],Z2 (ρ y)⟩ else none
     | none=>none)
    | .os n hl lo len=>(match g n,Yq g (ρ y) with
     | some (.arr es rows0),some rows=>if es=j.size∧lo+len=hl∧rows0.length=hl∧(∀ r∈rows,r.length=j.size)∧(∀ r∈rows,onesD r=true)∧(hl+rows.length)*j.bytes≤1000000000000∧hl+rows.length≤1000000000000 then some ⟨.os n (hl+rows.length) lo (len+rows.length),[(n,some (.arr es (rows0++rows)))],n::Z2 (ρ y)⟩ else none
     | _,_=>none)
    | _=>none
   else none
  | _,_=>none
 | _,_,_=>none
def xIns(ρ:Operand→D)(g:Nat→Option Blk)(t:Nat)(x y z:Operand):Option XOut:=match mapT Ty t,ρ x,keyMK (ρ y) with
 | some (ki,_),.rf m false,some q=>(match g m with
  | some (.mp ks cs)=>cond (ks.all (okMK ki.k)&&okMK ki.k q) (some ⟨.any,[(m,some (.mp (insM q (ρ z) ks cs).1 (insM q (ρ z) ks cs).2))],[m]⟩) none
  | _=>none)
 | _,_,_=>none
def xMore(eqT:Nat→Option (List AK))(op:Op)(ρ:Operand→D)(g:Nat→Option Blk)(nm:Nat):Option XOut :=
 match op with
 | .binOp op t x y _=>match addR op (ρ x) (ρ y) with
  | some d=>xv d
  | none=>match addS op (ρ x) (ρ y) with
  | some d=>xv d
  | none=>match ρ x,ρ y,Ty t with
  | .os n hl _ _,.nils,some i=>(match g n,op,i.k with
   | some (.arr _ rows),.eql,.sl _=>if rows.length=hl∧0<hl then some ⟨.bool false,[],[n]⟩ else none
   | some (.arr _ rows),.neq,.sl _=>if rows.length=hl∧0<hl then some ⟨.bool true,[],[n]⟩ else none
   | _,_,_=>none)
  | a,b,_=>xo (binX Ty eqT op t a b)
 | .slice t x lo hi none=>match ρ x,Ty t,bndD ρ lo,bndD ρ hi with
  | .str s,some i,some bl,some bh=>if isStrK i.k=true∧bh.getD s.size≤s.size∧bl.getD 0≤bh.getD s.size then xv (.str (s.extract (bl.getD 0) (bh.getD s.size))) else none
  | .strg p q,some i,some bl,some bh=>if isStrK i.k=true∧bh.getD (p.data.toList.length+1+q.data.toList.length)≤p.data.toList.length+1+q.data.toList.length∧bl.getD 0≤bh.getD (p.data.toList.length+1+q.data.toList.length) then xv (sliceG p.data.toList q.data.toList (bl.getD 0) (bh.getD (p.data.toList.length+1+q.data.toList.length))) else none
  | _,_,_,_=>xMem Ty (.slice t x lo hi none) ρ g nm
 | .convert s d x=>match Ty s,Ty d,ρ x with
  | some _,some j,.str b=>(match j.k with
   | .str=>xv (.str b)
   | _=>none)
  | some i,some j,_=>(match i.k,j.k with
   | .sl e,.str=>(match Ty e,Yq g (ρ x) with
    | some je,some rows=>(match je.k,bytesOf rows with
     | .int .u8,some l=>some ⟨.str ⟨l.toArray⟩,[],Z2 (ρ x)⟩
     | .int .u8,none=>(match rows with|[[.rng .u8 lo hi]]=>if 49≤lo∧hi≤57 then some ⟨.strg ⟨#[]⟩ ⟨#[]⟩,[],Z2 (ρ x)⟩ else none|_=>none)
     | _,_=>none)
    | _,_=>none)
   | _,_=>xMem Ty (.convert s d x) ρ g nm)
  | _,_,_=>none
 | .makeMap _ none=>some ⟨.rf nm false,[(nm,some (.mp [] []))],[]⟩
 | .lookup t x y ok=>match mapT Ty t,ρ x,keyMK (ρ y) with
  | some (ki,ei),.rf m false,some q=>(match g m with
   | some (.mp ks cs)=>(match lookM ki ei q ks cs ok with|some v=>some ⟨v,[],[m]⟩|none=>none)
   | _=>none)
  | _,_,_=>none
 | .mapUpdate t x y z=>xIns Ty ρ g t x y z
 | .insert t x y z=>xIns Ty ρ g t x y z
 | .typeAssert x _ a ok=>match ρ x,Ty a with
  | .ifc t d,some i=>(match i.k with
   | .ifc _=>none
   | _=>cond (Nat.beq t a) (xv (cond ok (.tup [d,.bool true]) d)) (cond ok (xv (.tup [i.zero,.bool false])) none))
  | _,_=>none
 | .makeChan t x=>match ρ x,Ty t with
  | .int _ (.ofNat n),some i=>(match i.k with
   | .chan e=>(match Ty e with
    | some j=>cond (Nat.ble n 1000000&&Nat.ble j.bytes 1000000) (some ⟨.rf nm true,[(nm,some (.obj (.chanI n [])))],[]⟩) none
    | none=>none)
   | _=>none)
  | _,_=>none
 | op=>xMem Ty op ρ g nm
def xBuiltin2(b:Builtin)(args:List Operand)(tys:List TypeId)(ρ:Operand→D)(g:Nat→Option Blk)(nm:Nat):Option XOut :=
 match b,args with
 | .len,[x]=>match tys,ρ x with
  | [t],.rf m true=>(match Ty t,g m with
   | some i,some (.obj (.chanI _ xs))=>(match i.k with|.chan _=>some ⟨.int .i64 xs.length,[],[m]⟩|_=>none)
   | _,_=>none)
  | _,_=>xBuiltin Ty .len [x] tys ρ g nm
 | .min,[x,y]=>match ρ x,ρ y with|.int k a,.int k' b=>if k=k' then xv (.int k (if b<a then b else a)) else none|_,_=>none
 | .max,[x,y]=>match ρ x,ρ y with|.int k a,.int k' b=>if k=k' then xv (.int k (if a<b then b else a)) else none|_,_=>none
 | .clear,[x]=>match tys,ρ x with
  | [t],.os n hl lo len=>match g n,ZN Ty t with
   | some (.arr es rows),some (_,j)=>(match Zf j.zero with
    | [z0]=>if es=1∧rows.length=hl∧j.size=1∧Z5 j.zero=true∧oneD z0=true∧lo+len≤hl∧0<len then some ⟨.tup [],[(n,some (.arr 1 (rows.take lo++List.replicate len [z0]++rows.drop (lo+len))))],[n]⟩ else none
    | _=>none)
   | _,_=>none
  | _,_=>none
 | b,args=>xBuiltin Ty b args tys ρ g nm
end
structure Fn1 where
 ntmps:Nat
 results:List ResultVar
 body:Code
structure Mo where
 fns:Nat→Option Fn1
 memo:Nat→Bool
 pure:Nat→Bool
 thaw:Nat→Bool
 eqT:Nat→Option (List AK)
 xt:Nat→Bool
 ext:Nat→List D→Option D
 nxt:Nat→Bool
structure ES where
 nx:Nat
 σ:SM
 st:St
 mm:List (Nat×List D×D)
inductive Res where
 | nrm (s:ES)|ret (s:ES)|ext (i:Nat) (s:ES)|bad
mutual
def D.eqb:D→D→Bool
 | .bool a,.bool b=>a==b
 | .int k a,.int k' b=>decide (k=k')&&decide (a=b)
 | .rng k a c,.rng k' b d=>decide (k=k')&&decide (a=b)&&decide (c=d)
 | .str a,.str b=>decide (a.data.toList=b.data.toList)
 | .strg a c,.strg b d=>decide (a.data.toList=b.data.toList)&&decide (c.data.toList=d.data.toList)
 | .np,.np|.nils,.nils|.nilf,.nilf|.nili,.nili|.sle,.sle=>true
 | .sl a,.sl b=>D.eqbss a b
 | .vp a,.vp b|.agg a,.agg b|.tup a,.tup b=>D.eqbs a b
 | _,_=>false
def D.eqbs:List D→List D→Bool
 | [],[]=>true
 | a::as,b::bs=>D.eqb a b&&D.eqbs as bs
 | _,_=>false
def D.eqbss:List (List D)→List (List D)→Bool
 | [],[]=>true
 | a::as,b::bs=>D.eqbs a b&&D.eqbss as bs
 | _,_=>false
end
def lookMemo(k:Nat)(A:List D):List (Nat×List D×D)→Option D
 | []=>none
 | (k',A',R)::l=>cond (Nat.beq k k'&&D.eqbs A A') (some R) (lookMemo k A l)
section
variable (Ty:Nat→Option TyI) (G:Nat→Option (List D)) (M:Mo) (ev:Nat→Code→ES→Res)
structure CO where
 v:D
 upd:List (Nat×Option Blk)
 L:List Nat
 nx:Nat
 mm:List (Nat×List D×D)
def evPure(k:Nat)(A:List D)(mm:List (Nat×List D×D)):Option (D×List (Nat×List D×D)) :=
 match cond (M.xt k) (M.ext k A) none with
 | some R=>some (R,mm)
 | none=>match M.fns k with
 | none=>none
 | some f =>
  let go (_:Unit):Option (D×List (Nat×List D×D)) :=
   let fin (s:ES):Option (D×List (Nat×List D×D)):=match resRF Ty f.results s.σ.get s.st with|some R0=>(match ZZ (gs s.st) 9 R0 with|some R=>some (R,s.mm)|none=>none)|none=>none
   if A.length≤f.ntmps then (match ev f.ntmps f.body ⟨0,SM.args A 0 (SM.full (Y5 f.ntmps)),[],mm⟩ with
   | .nrm s=>fin s
   | .ret s=>fin s
   | _=>none) else none
  cond (M.memo k) (match lookMemo k A mm with
   | some R=>some (R,mm)
   | none=>match go () with|some (R,mm')=>some (R,(k,A,R)::mm')|none=>none) (go ())
def pickN(L:List Nat)(g:Nat→Option Blk):St:=L.filterMap (fun n=>match g n with|some b=>some (n,b)|none=>none)
def isBox(g:Nat→Option Blk)(n:Nat):Bool:=match g n with|some (.arr _ _)=>false|_=>true
def evName(k:Nat)(A:List D)(gl:St)(lo:Nat)(mm:List (Nat×List D×D)):Option CO :=
 match M.fns k with
 | none=>none
 | some f =>
  if A.length≤f.ntmps∧D.inns (hasB gl) A=true∧(gl.all fun p=>p.2.inn (hasB gl)&&Nat.blt p.1 lo)=true then
   let fin (s:ES):Option CO:=match resRF Ty f.results s.σ.get s.st with
    | some R =>
     let new:=pickN (seen (gs s.st) 100 (ZA R++gl.map (·.1)) []) (gs s.st)
     let upd:=gl.map (fun p=>(p.1,gs s.st p.1))++(new.filter (fun p=>!hasB gl p.1)).map (fun p=>(p.1,some p.2))
     if lo≤s.nx∧R.inn (inR gl lo s.nx)=true∧(upd.all fun q=>inR gl lo s.nx q.1&&(match q.2 with|some b=>b.inn (inR gl lo s.nx)|none=>true))=true then some ⟨R,upd,gl.map (·.1),s.nx,s.mm⟩ else none
    | none=>none
   match ev f.ntmps f.body ⟨lo,SM.args A 0 (SM.full (Y5 f.ntmps)),gl,mm⟩ with
   | .nrm s=>fin s
   | .ret s=>fin s
   | _=>none
  else none
def rngD(lo hi:Int):D:=if lo=hi then .int .i64 lo else .rng .i64 lo hi
def evNext(A:List D)(st:St)(lo:Nat)(mm:List (Nat×List D×D)):Option CO :=
 match A with
 | [.bp n 0,.int .i64 a]=>match gs st n with
  | some (.deck ((a',l,h)::sc))=>if a=a'∧1≤a∧a≤1000 then some ⟨rngD l h,[(n,some (.deck sc))],[n],lo+1,mm⟩ else none
  | _=>none
 | _=>none
def evCall(k:Nat)(A:List D)(st:St)(lo:Nat)(mm:List (Nat×List D×D)):Option CO :=
 cond (M.nxt k) (evNext A st lo mm) (
 match cond (M.xt k) (match mapO (ZZ (fun _=>none) 9) A with|some A'=>M.ext k A'|none=>none) none with
 | some R=>some ⟨R,[],[],lo+1,mm⟩
 | none =>
 let ns:=ZB A
 let L:=seen (gs st) 100 ns []
 if M.pure k&&!L.any (isBox (gs st)) then
  match mapO (ZZ (resN L (gs st)) 9) A with
   | some A'=>(match evPure Ty M ev k A' mm with|some (R,mm')=>some ⟨R,(if YV R then [] else L).map (fun n=>(n,none)),L,lo+1,mm'⟩|none=>none)
   | none=>none
 else evName Ty M ev k A (pickN L (gs st)) lo mm)
def evOp(o:Oper)(s:ES):Option CO :=
 match o.op with
 | .call { callee:=.builtin b,args,argTypes }=>(match xBuiltin2 Ty b args.toList argTypes.toList (opD G s.σ.get) (gs s.st) s.nx with|some r=>some ⟨r.v,r.upd,r.L,s.nx+1,s.mm⟩|none=>none)
 | .call { callee:=.value f,args,.. }=>(match opD G s.σ.get f with|.fn (.func k) d1 d2=>evCall Ty M ev k (d1++args.toList.map (opD G s.σ.get)++d2) s.st s.nx s.mm|_=>none)
 | op=>(match xMore Ty M.eqT op (opD G s.σ.get) (gs s.st) s.nx with|some r=>some ⟨r.v,r.upd,r.L,s.nx+1,s.mm⟩|none=>none)
def wantS(ops:List Oper)(s:SM)(o:Oper):Option Bool :=
 match o.guard with
 | none=>some true
 | some (j,want)=>match (ops[j]?).bind (·.dst) with
  | some d=>match s.get d with|.bool b=>some (b==want)|.tup _=>some false|_=>none
  | none=>some false
def dstOK(N:Nat):Option Nat→Bool
 | none=>true
 | some t=>Nat.blt t N
def evOps(N:Nat)(ops:List Oper):List Oper→ES→List LogE→Option (ES×List LogE)
 | [],s,log=>some (s,log)
 | o::rest,s,log =>
  match wantS ops s.σ o with
  | none=>none
  | some false=>if dstOK N o.dst then evOps N ops rest { s with σ:=s.σ.setO o.dst (.tup []) } (⟨ZP ops o,[],o.dst,[]⟩::log) else none
  | some true=>match evOp Ty G M ev o s with
   | none=>none
   | some r=>if dstOK N o.dst then evOps N ops rest ⟨r.nx,s.σ.setO o.dst r.v,putS s.st r.upd,r.mm⟩ (⟨ZP ops o,r.L,o.dst,r.upd.map (·.1)⟩::log) else none
structure Soft where
 n:Nat
 off:Nat
 cs:List D
def Soft.ok(q:Soft):Option Blk→Bool
 | some (.box cs)=>D.eqbs ((cs.drop q.off).take q.cs.length) q.cs
 | _=>false
def softOf(o:Oper)(s:ES):Option Soft :=
 match o.op with
 | .load t x=>match Ty t,opD G s.σ.get x with
  | some i,.bp n off=>(match gs s.st n with|some (.box cs)=>cond (Nat.blt 0 i.size&&Nat.ble (off+i.size) cs.length) (some ⟨n,off,(cs.drop off).take i.size⟩) none|_=>none)
  | _,_=>none
 | _=>none
def evOpsS(N:Nat)(ops:List Oper):List Oper→ES→List LogE→List Soft→List (Nat×Option Blk)→Option (ES×List LogE×List Soft×List (Nat×Option Blk))
 | [],s,log,sf,us=>some (s,log,sf,us)
 | o::rest,s,log,sf,us =>
  match wantS ops s.σ o with
  | none=>none
  | some false=>if dstOK N o.dst then evOpsS N ops rest { s with σ:=s.σ.setO o.dst (.tup []) } (⟨ZP ops o,[],o.dst,[]⟩::log) sf us else none
  | some true=>match evOp Ty G M ev o s with
   | none=>none
   | some r=>if dstOK N o.dst then (match softOf Ty G o s with
    | some q=>evOpsS N ops rest ⟨r.nx,s.σ.setO o.dst r.v,putS s.st r.upd,r.mm⟩ (⟨ZP ops o,[],o.dst,r.upd.map (·.1)⟩::log) (q::sf) (r.upd++us)
    | none=>evOpsS N ops rest ⟨r.nx,s.σ.setO o.dst r.v,putS s.st r.upd,r.mm⟩ (⟨ZP ops o,r.L,o.dst,r.upd.map (·.1)⟩::log) sf (r.upd++us)) else none
def okSoft(g:Nat→Option Blk)(sf:List Soft)(us:List (Nat×Option Blk)):Bool :=
 sf.all fun q=>q.ok (g q.n)&&us.all fun p=>cond (Nat.beq p.1 q.n) (q.ok p.2) true
def isArr(g:Nat→Option Blk)(n:Nat):Bool:=match g n with|some (.arr _ _)=>true|_=>false
def thawN(L:List Nat)(s:ES):ES:=if L.isEmpty then s else ⟨s.nx,s.σ.map (thawD L (resN L (gs s.st))),thawS L (resN L (gs s.st)) s.st,s.mm⟩
def needs(o:Oper)(s:ES):List Nat :=
 match o.op with
 | .buildSlice _ _ parts=>(ZB (parts.toList.map (fun p=>opD G s.σ.get p.2))).filter (isArr (gs s.st))
 | .store _ x y=>(match opD G s.σ.get x with|.ap _ _ _ _=>(ZA (opD G s.σ.get y)).filter (isArr (gs s.st))|_=>[])
 | .call { callee:=.value f,args,.. }=>(match opD G s.σ.get f with|.fn (.func k) d1 d2=>if M.thaw k then (ZB (d1++args.toList.map (opD G s.σ.get)++d2)).filter (isArr (gs s.st)) else []|_=>[])
 | _=>[]
def evSeq(N:Nat)(ops:List Oper):List Oper→ES→Option ES
 | [],s=>some s
 | o::rest,s =>
  match wantS ops s.σ o with
  | none=>none
  | some false=>if dstOK N o.dst then evSeq N ops rest { s with σ:=s.σ.setO o.dst (.tup []) } else none
  | some true =>
   let s:=thawN (needs G M o s) s
   match evOp Ty G M ev o s with
   | none=>none
   | some r=>if dstOK N o.dst then evSeq N ops rest ⟨r.nx,s.σ.setO o.dst r.v,putS s.st r.upd,r.mm⟩ else none
def isComm(o:Oper):Bool:=match o.op with|.send _ _=>true|.recv _ _ _=>true|_=>false
def evComm(N:Nat):List Oper→ES→Option ES
 | [],s=>some s
 | o::rest,s =>
  match o.guard with
  | some _=>none
  | none=>cond (dstOK N o.dst) (match o.op with
   | .move x=>evComm N rest { s with σ:=s.σ.setO o.dst (opD G s.σ.get x) }
   | .assign x=>evComm N rest { s with σ:=s.σ.setO o.dst (opD G s.σ.get x) }
   | .send c x=>(match opD G s.σ.get c,opD G s.σ.get x with
    | .rf n true,.int .i64 m=>(match gs s.st n with
     | some (.obj (.chanI cap xs))=>cond (Nat.blt xs.length cap) (evComm N rest ⟨s.nx,s.σ.setO o.dst .any,putS s.st [(n,some (.obj (.chanI cap (xs++[m]))))],s.mm⟩) none
     | _=>none)
    | _,_=>none)
   | .recv t c false=>(match opD G s.σ.get c,Ty t with
    | .rf n true,some i=>(match i.k,gs s.st n with
     | .chan e,some (.obj (.chanI cap (m::xs)))=>(match Ty e with
      | some _=>evComm N rest ⟨s.nx,s.σ.setO o.dst (.int .i64 m),putS s.st [(n,some (.obj (.chanI cap xs)))],s.mm⟩
      | none=>none)
     | _,_=>none)
    | _,_=>none)
   | _=>none) none
end
def evS(Ty:Nat→Option TyI)(G:Nat→Option (List D))(M:Mo):Nat→Nat→Code→ES→Res
 | 0,_,_,_=>.bad
 | f+1,N,c,s=>match c with
  | .skip=>.nrm s
  | .label _=>.nrm s
  | .ret=>.ret s
  | .exit i=>.ext i s
  | .seq a b=>(match evS Ty G M f N a s with|.nrm s'=>evS Ty G M f N b s'|r=>r)
  | .cond c x y=>(match opD G s.σ.get c with|.bool b=>cond b (evS Ty G M f N x s) (evS Ty G M f N y s)|_=>.bad)
  | .block i x=>(match evS Ty G M f N x s with|.ext j s'=>cond (Nat.beq i j) (.nrm s') (.ext j s')|r=>r)
  | .loop b=>(match evS Ty G M f N b s with|.nrm s'=>evS Ty G M f N (.loop b) s'|r=>r)
  | .region _ ops draw=>cond draw (match evOps Ty G M (evS Ty G M f) N ops.toList ops.toList s [] with
   | some (s',log)=>cond (fwdB ops.toList&&okLog ops.toList log.reverse) (.nrm s') (match evOpsS Ty G M (evS Ty G M f) N ops.toList ops.toList s [] [] [] with
    | some (s',log,sf,us)=>cond (fwdB ops.toList&&okLog ops.toList log.reverse&&okSoft (gs s.st) sf us) (.nrm s') .bad
    | none=>.bad)
   | none=>.bad) (cond (ops.toList.any isComm) (match evComm Ty G N ops.toList s with
   | some s'=>.nrm s'
   | none=>.bad) (match evSeq Ty G M (evS Ty G M f) N ops.toList ops.toList s with
   | some s'=>.nrm s'
   | none=>.bad))
  | _=>.bad
end
end
section
open Go Go.RowKit
section
variable {P:Program} {G:Nat→Option (List D)} {Ty:Nat→Option TyI} {o:Oper} {ρ:Operand→D} {g:Nat→Option Blk} {nm:Nat} {r:XOut}
theorem xv_eq{v:D}(h:xv v=some r):r=⟨v,[],[]⟩:=by cases h;rfl
theorem xo_eq{x:Option D}(h:xo x=some r):∃ v,x=some v∧r=⟨v,[],[]⟩:=by
 cases x with
 | none=>cases h
 | some v=>exact⟨v,rfl,by cases h;rfl⟩
theorem xVal_ok(hty:TyOK P Ty)(h:xVal Ty o.op ρ=some r)(g):Do P G o ρ g nm r.v r.upd:=by
 generalize ho:o.op=op at h
 unfold xVal at h
 split at h
 ·obtain rfl:=xv_eq h;exact do_move (.inl ho)
 ·obtain rfl:=xv_eq h;exact do_move (.inr ho)
 ·obtain⟨v,hv,rfl⟩:=xo_eq h;exact do_pick ho hv
 ·obtain⟨v,hv,rfl⟩:=xo_eq h;exact do_binOp hty ho hv
 ·obtain⟨v,hv,rfl⟩:=xo_eq h;exact do_unOp ho hv
 ·split at h
  ·rename_i ds hx;obtain⟨v,hv,rfl⟩:=xo_eq h;exact do_extract ho hx hv
  ·cases h
 ·split at h
  ·rename_i i hi
   split at h
   ·cases h
   ·rename_i hk;obtain rfl:=xv_eq h;exact do_makeInterface hty ho hi (fun b e=>hk b e)
  ·cases h
 ·obtain rfl:=xv_eq h;exact do_makeFunc ho
 ·split at h
  ·rename_i hn;obtain rfl:=xv_eq h;exact do_nilCheck ho hn
  ·cases h
 ·split at h
  ·rename_i off size ag ds hf hx;obtain⟨v,hv,rfl⟩:=xo_eq h;exact do_field hty ho hf hx hv
  ·cases h
 ·split at h
  ·rename_i ds hx;obtain⟨v,hv,rfl⟩:=xo_eq h
   exact do_index hty ho (fun s e=>by rw[hx] at e;cases e) hv
  ·rename_i s hx
   split at h
   ·rename_i i hi
    split at h
    ·rename_i hk;obtain⟨v,hv,rfl⟩:=xo_eq h
     obtain⟨info,d,z,h1,h2,_,_,h5,_⟩:=hty.get hi
     refine do_index hty ho (fun s e=>?_) hv
     rw[hk] at h5
     cases d<;>simp only[kB,Bool.false_eq_true] at h5
     exact h2
    ·cases h
   ·cases h
  ·cases h
 ·split at h
  ·rename_i i pl hi hpl
   split at h
   ·rename_i zs hz
    split at h
    ·rename_i out hf;obtain rfl:=xv_eq h;exact do_build hty ho hi hz hpl hf
    ·cases h
   ·cases h
  ·cases h
 ·split at h
  ·rename_i i j k n hi hj hx
   split at h
   ·rename_i k' hk;obtain rfl:=xv_eq h
    obtain⟨_,ds,_,_,h2,_⟩:=hty.get hi
    obtain⟨_,dd,_,_,h2',_,_,h5,_⟩:=hty.get hj
    rw[hk] at h5
    cases dd<;>simp only[kB,Bool.false_eq_true,beq_iff_eq] at h5
    subst h5
    exact do_convert_int ho h2 h2' hx
   ·cases h
  ·cases h
 ·cases h
theorem do_slice_nil(hty:TyOK P Ty){t e:Nat}{j:TyI}{x:Operand}{lo hi:Option Operand}{bl bh:Option Nat}{b:Bool}(ho:o.op=.slice t x lo hi none)(he:ZN Ty t=some (e,j))(hx:ρ x=if b then .nils else .sle)(h1:bndD ρ lo=some bl)(h2:bndD ρ hi=some bh)(hl:bl.getD 0=0)(hh:bh.getD 0=0) :
  Do P G o ρ g nm (if b then .nils else .sle) []:=by
 refine ZY (fun w F ι ev hev=>?_)
 have hv:=hev x (by rw[ho];simp[Op.operands])
 rw[hx] at hv
 have b1:=bnd_ok (ev:=ev) (fun y hy=>hev y (by rw[ho];simp[Op.operands,hy])) h1
 have b2:=bnd_ok (ev:=ev) (fun y hy=>hev y (by rw[ho];simp[Op.operands,hy])) h2
 obtain⟨u1,u2⟩:=ZL hty he
 rw[show execOp ev o=(do pure (.value (← Instr.sliceAt t (ev x) (lo.map ev) (hi.map ev) none))) by unfold execOp;rw[ho];rfl]
 simp only[Sem.run_bind,sliceAt_slice u1]
 have hq:∃ a cap,ev x=.slice a 0 cap∧(b=true→a=none∧cap=0)∧(b=false→a.isSome=true):=by
  cases b with
  | true=>exact⟨none,0,hv.is_nils,fun _=>⟨rfl,rfl⟩,fun h=>by cases h⟩
  | false =>
   generalize ev x=v at hv
   cases hv with
   | pure _ _ h=>cases h with|sle a cap=>exact⟨some a,cap,rfl,(fun h=>by cases h),fun _=>rfl⟩
 obtain⟨a,cap,e',q1,q2⟩:=hq
 have hb:=bounds_run (P:=P) (w:=w) b1 b2 true 0 cap (by omega) (by omega)
 rw[hl,hh] at hb
 refine⟨.slice (if cap=0 then a else a.map (·.add (0*j.size))) (0 - 0) (cap - 0),?_,?_⟩
 ·simp only[e',Instr.slice,Sem.run_bind,run_underlying u1,Result.andThen_ok,hb,Yb hty u2]
  rfl
 ·cases b with
  | true =>
   obtain⟨rfl,rfl⟩:=q1 rfl
   exact .pure _ _ .nils
  | false =>
   have:=q2 rfl
   cases a with
   | none=>cases this
   | some a =>
    by_cases hc:cap=0
    ·rw[if_pos hc];exact .pure _ _ (.sle _ _)
    ·rw[if_neg hc];exact .pure _ _ (.sle _ _)
theorem xSlice_ok(hty:TyOK P Ty){t:Nat}{x:Operand}{lo hi:Option Operand}(ho:o.op=.slice t x lo hi none)(h:xSlice Ty t (ρ x) (bndD ρ lo) (bndD ρ hi) g=some r):Do P G o ρ (resN r.L g) nm r.v r.upd:=by
 unfold xSlice at h
 split at h
 ·rename_i e bl bh hx he h1 h2
  split at h
  ·rename_i hc
   cases h
   exact do_slice_nil (b:=true) hty ho he hx h1 h2 hc.1 hc.2
  ·cases h
 ·rename_i e bl bh hx he h1 h2
  split at h
  ·rename_i hc
   cases h
   exact do_slice_nil (b:=false) hty ho he hx h1 h2 hc.1 hc.2
  ·cases h
 ·rename_i rows e j bl bh hx he h1 h2
  split at h
  ·rename_i hc
   cases h
   exact do_slice_sl hty ho he hx hc.1 h1 h2 hc.2.1 hc.2.2
  ·cases h
 ·rename_i n hl l0 len e j bl bh hx he h1 h2
  split at h
  ·rename_i es rows hgn
   split at h
   ·rename_i hc
    cases h
    obtain⟨c1,c2,c3,c4⟩:=hc
    exact do_slice_os hty ho he hx (by simp[resN,hgn]) c2 c1 h1 h2 c3 c4
   ·cases h
  ·cases h
 ·cases h
theorem res1{n:Nat}{L:List Nat}(h:n∈L)(g:Nat→Option Blk):resN L g n=g n:=by simp[resN,h]
theorem cellsAt_res{x:D}(L:List Nat)(h:∀ n∈Z2 x,n∈L):YU (resN L g) x=YU g x:=by
 cases x<;>first|rfl|(simp only[YU,Z2,List.mem_singleton,forall_eq] at h ⊢;rw[res1 h])
theorem srcRows_res{x:D}(L:List Nat)(h:∀ n∈Z2 x,n∈L):Yq (resN L g) x=Yq g x:=by
 cases x<;>first|rfl|(simp only[Yq,Z2,List.mem_singleton,forall_eq] at h ⊢;rw[res1 h])
theorem padd_res{x:D}(k:Nat)(L:List Nat)(h:∀ n∈nameA x,n∈L):padd (resN L g) k x=padd g k x:=by
 cases x<;>first|rfl|(simp only[padd,nameA,Z2,List.mem_singleton,forall_eq] at h ⊢;rw[res1 h])
theorem indexAddr_res{t:Nat}{x ix:D}(L:List Nat)(h:∀ n∈nameA x,n∈L):Yx Ty (resN L g) t x ix=Yx Ty g t x ix:=by
 cases ix<;>try rfl
 cases x<;>first
  | rfl
  | (simp only[Yx,nameA,Z2,List.mem_singleton,forall_eq] at h ⊢;rw[res1 h])
  | (simp only[Yx,padd_res _ L h])
theorem xMem_ok(hty:TyOK P Ty)(h:xMem Ty o.op ρ g nm=some r):Do P G o ρ (resN r.L g) nm r.v r.upd:=by
 generalize ho:o.op=op at h
 unfold xMem at h
 split at h
 ·split at h
  ·rename_i i hi
   split at h
   ·rename_i hst;cases h;exact do_alloc hty ho hi hst
   ·cases h
  ·cases h
 ·split at h
  ·rename_i hst;cases h;exact do_box ho hst
  ·cases h
 ·split at h
  ·rename_i c cs hc
   split at h
   ·rename_i d hl
    cases h
    exact do_load hty ho (by rw[cellsAt_res _ (fun n h=>h)];exact hc) (by simp) hl
   ·cases h
  ·cases h
 ·rename_i t x y
  split at h
  ·rename_i i n off hi hx
   split at h
   ·rename_i cs hc
    split at h
    ·rename_i hcond
     obtain⟨c1,c2,c3,c4⟩:=hcond
     cases h
     exact do_store_box hty ho hi hx (by rw[res1 (by simp)];exact hc) c1 c2 c3 c4
    ·cases h
   ·cases h
  ·rename_i i n hl ix off hi hx
   split at h
   ·rename_i es rows hc
    split at h
    ·rename_i row hrow
     split at h
     ·rename_i hlo
      split at h
      ·rename_i hcond
       obtain⟨c1,c3,c4,c5,c6⟩:=hcond
       cases h
       exact do_store_arr hty ho hi hx (by rw[res1 (by simp)];exact hc) c5 hrow c1 hlo c3 c4 c6
      ·cases h
     ·simp only at h
      split at h
      ·rename_i dy hv
       split at h
       ·rename_i hcond
        obtain⟨c1,c2,c3,c4,c5,c6,c7⟩:=hcond
        cases h
        refine do_store_arrF hty ho hi hx (by rw[res1 (by simp)];exact hc) c6 hrow (gv:=resN (seen g 100 (ZA (ρ y)) []) g) (fun m b hm=>?_) (fun m hm=>?_) (by simpa using c3) hv c1 c2 c4 c5 c7
        ·unfold resN at hm ⊢
         split at hm
         ·rename_i hin
          have:(n::seen g 100 (ZA (ρ y)) []).contains m=true:=by simp at hin ⊢;exact .inr hin
          rw[if_pos this];exact hm
         ·cases hm
        ·unfold resN at hm
         split at hm
         ·rename_i hin;simpa using hin
         ·cases hm
       ·cases h
      ·cases h
    ·cases h
   ·cases h
  ·cases h
 ·rename_i s x f
  split at h
  ·rename_i off size ag hf
   split at h
   ·rename_i hne
    split at h
    ·rename_i d hp
     cases h
     exact do_fieldAddr hty ho hf hne (by rw[padd_res _ _ (fun n h=>h)];exact hp)
    ·cases h
   ·cases h
  ·cases h
 ·rename_i t x ix
  split at h
  ·rename_i d hp
   cases h
   exact do_indexAddr hty ho (by rw[indexAddr_res _ (fun n h=>h)];exact hp)
  ·cases h
 ·rename_i t len parts
  split at h
  ·rename_i e j he
   split at h
   ·rename_i h0
    obtain⟨rfl,h1⟩:=h0
    cases h
    exact do_buildSlice0 hty ho he (by simpa using h1)
   ·split at h
    ·rename_i hcond
     obtain⟨c1,c2,c3⟩:=hcond
     split at h
     ·split at h
      ·rename_i out hf
       split at h
       ·rename_i hc2;cases h;exact do_buildSlice hty ho he c1 c2 c3 hf hc2.1 hc2.2
       ·cases h
      ·cases h
     ·simp only at h
      split at h
      ·rename_i dps hv
       split at h
       ·rename_i out hf
        split at h
        ·rename_i hc2
         cases h
         refine do_buildSliceF hty ho he c1 c2 c3 (fun m b hm=>hm) (fun m hm=>?_) hv hf hc2.1 hc2.2
         unfold resN at hm
         split at hm
         ·rename_i hin;simpa using hin
         ·cases hm
        ·cases h
       ·cases h
      ·cases h
    ·cases h
  ·cases h
 ·rename_i t x y
  split at h
  ·rename_i e j k1 l k2 c he hx hy
   split at h
   ·rename_i hcond
    obtain⟨rfl,s2,s3,s4,s5,s6⟩:=hcond
    cases h
    have ec:c=(c.toNat:Int):=by omega
    exact do_makeSlice0 hty ho he hx (by rw[hy,← ec]) s3 s4 s5 s6
   ·split at h
    ·rename_i hcond
     obtain⟨⟨s0,s0'⟩,s1,s2,s3,s4⟩:=hcond
     cases h
     have el:l=(l.toNat:Int):=by omega
     have ec:c=(c.toNat:Int):=by omega
     exact do_makeSlice hty ho he (by rw[hx,← el]) (by rw[hy,← ec]) (by omega) s3 s4 s0 s0'
    ·cases h
  ·cases h
 ·exact xSlice_ok hty ho h
 ·exact xVal_ok hty (by rw[ho];exact h) _
theorem xBuiltin_ok(hty:TyOK P Ty){b:Builtin}{args:Array Operand}{tys:Array TypeId}(ho:o.op=Ym b args tys)(h:xBuiltin Ty b args.toList tys.toList ρ g nm=some r):Do P G o ρ (resN r.L g) nm r.v r.upd:=by
 unfold xBuiltin at h
 split at h
 ·rename_i x t ha ht
  obtain rfl:args=#[x]:=by cases args;simp at ha;rw[ha]
  obtain rfl:tys=#[t]:=by cases tys;simp at ht;rw[ht]
  split at h
  ·rename_i i hi
   split at h
   ·rename_i n hl lo len hx
    split at h
    ·rename_i es rows hc
     split at h
     ·rename_i hk;cases h;exact do_len_os hty ho hi hk.1 hx (by rw[res1 (by simp)];exact hc) hk.2
     ·cases h
    ·cases h
   ·split at h
    ·rename_i hk
     split at h
     ·rename_i n hd;obtain rfl:=xv_eq h;exact do_len hty ho hi hk hd
     ·cases h
    ·cases h
  ·cases h
 ·rename_i x y t tx ha ht
  obtain rfl:args=#[x,y]:=by cases args;simp at ha;rw[ha]
  obtain rfl:tys=#[t,tx]:=by cases tys;simp at ht;rw[ht]
  split at h
  ·rename_i e j pex he hex
   obtain⟨ex,jx⟩:=pex
   split at h
   ·rename_i hcond
    split at h
    ·rename_i hx
     split at h
     ·rename_i rows hy
      split at h
      ·rename_i hc
       obtain⟨s1,s2,s3,s4⟩:=hc
       cases h
       exact do_append_nil hty ho he hex hx (by rw[srcRows_res _ (fun n h=>h)];exact hy) hcond.1 hcond.2 s1 s2 s3 s4
      ·cases h
     ·cases h
    ·rename_i n hl lo len hx
     split at h
     ·rename_i es rows0 rows hc hy
      split at h
      ·rename_i hc2
       obtain⟨s5,s0,s1,s2,s3,s4,s6⟩:=hc2
       cases h
       exact do_append_os hty ho he hex hx s0 (by rw[res1 (by simp)];exact hc) s1 s5 (by rw[srcRows_res _ (fun n h=>List.mem_cons_of_mem _ h)];exact hy) hcond.1 hcond.2 s2 s3 s4 s6
      ·cases h
     ·cases h
    ·cases h
   ·cases h
  ·cases h
 ·cases h
theorem xBuiltin2_ok(hty:TyOK P Ty){b:Builtin}{args:Array Operand}{tys:Array TypeId}(ho:o.op=Ym b args tys)(h:xBuiltin2 Ty b args.toList tys.toList ρ g nm=some r):Do P G o ρ (resN r.L g) nm r.v r.upd:=by
 unfold xBuiltin2 at h
 split at h
 ·rename_i x ha
  obtain rfl:args=#[x]:=by cases args;simp at ha;rw[ha]
  split at h
  ·rename_i t m ht hx
   obtain rfl:tys=#[t]:=by cases tys;simp at ht;rw[ht]
   split at h
   ·rename_i i cap xs hi hm
    split at h
    ·rename_i e hk
     cases h
     exact do_len_chan hty ho hi hk hx (by rw[res1 (by simp)];exact hm)
    ·cases h
   ·cases h
  ·exact xBuiltin_ok hty ho (by simpa using h)
 ·rename_i x y ha
  obtain rfl:args=#[x,y]:=by cases args;simp at ha;rw[ha]
  split at h
  ·rename_i k a k' b hx hy
   split at h
   ·rename_i e;subst e;obtain rfl:=xv_eq h;exact do_minmax (b:=true) ho hx hy
   ·cases h
  ·cases h
 ·rename_i x y ha
  obtain rfl:args=#[x,y]:=by cases args;simp at ha;rw[ha]
  split at h
  ·rename_i k a k' b hx hy
   split at h
   ·rename_i e;subst e;obtain rfl:=xv_eq h;exact do_minmax (b:=false) ho hx hy
   ·cases h
  ·cases h
 ·rename_i x ha
  obtain rfl:args=#[x]:=by cases args;simp at ha;rw[ha]
  split at h
  ·rename_i t n hl lo len ht hx
   obtain rfl:tys=#[t]:=by cases tys;simp at ht;rw[ht]
   split at h
   ·rename_i es rows e j hgn he
    split at h
    ·rename_i z0 hz
     split at h
     ·rename_i hc
      obtain⟨rfl,c2,c3,c4,c5,c6,c7⟩:=hc
      cases h
      exact do_clear hty ho he hx (by rw[res1 (by simp)];exact hgn) c2 c3 hz c4 c5 c6 c7
     ·cases h
    ·cases h
   ·cases h
  ·cases h
 ·exact xBuiltin_ok hty ho h
theorem xIns_ok(hty:TyOK P Ty){t:Nat}{x y z:Operand}(ho:o.op=.mapUpdate t x y z∨o.op=.insert t x y z)(h:xIns Ty ρ g t x y z=some r):Do P G o ρ (resN r.L g) nm r.v r.upd:=by
 unfold xIns at h
 split at h
 ·rename_i ki ei m q ht hx hy
  split at h
  ·rename_i ks cs hg0
   cases hc:(ks.all (okMK ki.k)&&okMK ki.k q) with
   | false=>rw[hc] at h;cases h
   | true =>
    rw[hc] at h
    cases h
    exact do_insM hty ho ht hx hy (by rw[res1 (by simp)];exact hg0) hc
  ·cases h
 ·cases h
theorem xMore_ok(hty:TyOK P Ty){eqT:Nat→Option (List AK)}(heq:EqOK P eqT)(h:xMore Ty eqT o.op ρ g nm=some r):Do P G o ρ (resN r.L g) nm r.v r.upd:=by
 generalize ho:o.op=op at h
 unfold xMore at h
 split at h
 ·rename_i op t x y yt
  split at h
  ·rename_i d hd
   obtain rfl:=xv_eq h
   exact do_addR ho hd
  rename_i hnone
  clear hnone
  split at h
  ·rename_i d hd
   obtain rfl:=xv_eq h
   exact do_addS ho hd
  rename_i hnone
  clear hnone
  split at h
  ·rename_i n hl lo len i hx hy hi
   split at h
   ·rename_i es rows e hc hk
    split at h
    ·rename_i hcond;cases h
     exact do_nilOs hty ho hi hk hx hy (by rw[res1 (by simp)];exact hc) hcond.1 hcond.2 (.inl ⟨rfl,rfl⟩)
    ·cases h
   ·rename_i es rows e hc hk
    split at h
    ·rename_i hcond;cases h
     exact do_nilOs hty ho hi hk hx hy (by rw[res1 (by simp)];exact hc) hcond.1 hcond.2 (.inr ⟨rfl,rfl⟩)
    ·cases h
   ·cases h
  ·obtain⟨v,hv,rfl⟩:=xo_eq h
   exact do_binX hty heq ho hv
 ·rename_i t x lo hi
  split at h
  ·rename_i s i bl bh hx ht h1 h2
   split at h
   ·rename_i hc
    obtain⟨c0,c1,c2⟩:=hc
    obtain rfl:=xv_eq h
    refine do_sliceStr hty ho ht ?_ hx h1 h2 c1 c2
    unfold isStrK at c0
    split at c0
    ·rename_i e;exact e
    ·cases c0
   ·cases h
  ·rename_i p q i bl bh hx ht h1 h2
   split at h
   ·rename_i hc
    obtain⟨c0,c1,c2⟩:=hc
    obtain rfl:=xv_eq h
    refine do_sliceStrg hty ho ht ?_ hx h1 h2 c1 c2
    unfold isStrK at c0
    split at c0
    ·rename_i e;exact e
    ·cases c0
   ·cases h
  ·exact xMem_ok hty (by rw[ho];exact h)
 ·rename_i s d x
  split at h
  ·rename_i i j b hi hj hx
   split at h
   ·rename_i hk;obtain rfl:=xv_eq h;exact do_convStr hty ho hi hj hk hx
   ·cases h
  ·rename_i i j hi hj hno
   split at h
   ·rename_i e hki hkj
    split at h
    ·rename_i je rows he hx
     split at h
     ·rename_i l hke hb
      cases h
      exact do_convBytes hty ho hi hj hki hkj he hke (by rw[srcRows_res _ (fun n h=>h)];exact hx) hb
     ·rename_i hke hb
      split at h
      ·rename_i lo hi2
       split at h
       ·rename_i hc
        cases h
        exact do_convDig hty ho hi hj hki hkj he hke (by rw[srcRows_res _ (fun n h=>h)];exact hx) hc.1 hc.2
       ·cases h
      ·cases h
     ·cases h
    ·cases h
   ·exact xMem_ok hty (by rw[ho];exact h)
  ·cases h
 ·cases h;exact do_makeMapM ho
 ·split at h
  ·rename_i ki ei m q ht hx hy
   split at h
   ·rename_i ks cs hg0
    split at h
    ·rename_i v hv
     cases h
     exact do_lookM hty ho ht hx hy (by rw[res1 (by simp)];exact hg0) hv
    ·cases h
   ·cases h
  ·cases h
 ·exact xIns_ok hty (.inl ho) h
 ·exact xIns_ok hty (.inr ho) h
 ·rename_i x xt a ok
  split at h
  ·rename_i t d i hx ha
   split at h
   ·cases h
   ·rename_i hk
    cases e:Nat.beq t a with
    | true =>
     rw[e] at h
     have e':t=a:=Nat.eq_of_beq_eq_true e
     have:=do_typeAssert (G:=G) (g:=resN [] g) (nm:=nm) hty ho ha (fun b hb=>hk b hb) hx (.inl e')
     rw[if_pos e'] at this
     obtain rfl:=xv_eq h
     cases ok with
     | true=>exact this
     | false=>exact this
    | false =>
     rw[e] at h
     cases ok with
     | true =>
      have e':¬ t=a:=fun q=>by rw[q] at e;simp at e
      have:=do_typeAssert (G:=G) (g:=resN [] g) (nm:=nm) hty ho ha (fun b hb=>hk b hb) hx (.inr rfl)
      rw[if_neg e'] at this
      obtain rfl:=xv_eq h
      exact this
     | false=>cases h
  ·cases h
 ·rename_i t x
  split at h
  ·rename_i k n i hx hi
   split at h
   ·rename_i e hk
    split at h
    ·rename_i j hj
     cases hb:(Nat.ble n 1000000&&Nat.ble j.bytes 1000000) with
     | true =>
      rw[hb] at h
      simp only[Bool.and_eq_true] at hb
      cases h
      exact do_makeChan hty ho hi hk hj hx (Nat.le_of_ble_eq_true hb.1) (Nat.le_of_ble_eq_true hb.2)
     | false=>rw[hb] at h;cases h
    ·cases h
   ·cases h
  ·cases h
 ·exact xMem_ok hty (by rw[ho];exact h)
end
end
section
open Go Go.RowKit
def SM.has:SM→Nat→Bool
 | .lf,_=>false
 | .nd _ _ _,0=>true
 | .nd _ l r,n+1=>cond (Nat.beq (Nat.mod n 2) 0) (l.has (Nat.div n 2)) (r.has (Nat.div n 2))
def SM.isNd:SM→Bool|.lf=>false|.nd _ _ _=>true
theorem SM.set_nd{v:D}:∀ {m:SM} {n:Nat},m.has n=true→(m.set v n).isNd=true
 | .lf,n,h=>by simp[SM.has] at h
 | .nd d l r,0,h=>rfl
 | .nd d l r,n+1,h=>by
  simp only[SM.has,SM.set_lf,SM.set_zero,SM.set_succ] at h ⊢
  cases hb:Nat.beq (Nat.mod n 2) 0 with
  | true =>
   rw[hb] at h
   have:=SM.set_nd (v:=v) (m:=l) (n:=Nat.div n 2) h
   simp only[cond_true]
   cases hs:l.set v (Nat.div n 2) with
   | lf=>rw[hs] at this;cases this
   | nd a b c=>rfl
  | false =>
   rw[hb] at h
   have:=SM.set_nd (v:=v) (m:=r) (n:=Nat.div n 2) h
   simp only[cond_false]
   cases hs:r.set v (Nat.div n 2) with
   | lf=>rw[hs] at this;cases this
   | nd a b c=>rfl
theorem SM.set_eq{v d:D}{l r:SM}{n:Nat}(h:(SM.nd d l r).has (n+1)=true):(SM.nd d l r).set v (n+1)=cond (Nat.beq (Nat.mod n 2) 0) (.nd d (l.set v (Nat.div n 2)) r) (.nd d l (r.set v (Nat.div n 2))):=by
 simp only[SM.has,SM.set_lf,SM.set_zero,SM.set_succ] at h ⊢
 cases hb:Nat.beq (Nat.mod n 2) 0 with
 | true =>
  rw[hb] at h
  have:=SM.set_nd (v:=v) (m:=l) (n:=Nat.div n 2) h
  simp only[cond_true]
  cases hs:l.set v (Nat.div n 2) with
  | lf=>rw[hs] at this;cases this
  | nd a b c=>rfl
 | false =>
  rw[hb] at h
  have:=SM.set_nd (v:=v) (m:=r) (n:=Nat.div n 2) h
  simp only[cond_false]
  cases hs:r.set v (Nat.div n 2) with
  | lf=>rw[hs] at this;cases this
  | nd a b c=>rfl
theorem half_inj{n k:Nat}(h1:Nat.beq (Nat.mod n 2) 0=Nat.beq (Nat.mod k 2) 0)(h2:Nat.div n 2=Nat.div k 2):n=k:=by
 have e1:Nat.mod n 2=n % 2:=rfl
 have e2:Nat.mod k 2=k % 2:=rfl
 have e3:Nat.div n 2=n / 2:=rfl
 have e4:Nat.div k 2=k / 2:=rfl
 rw[e1,e2] at h1
 rw[e3,e4] at h2
 have:(n % 2=0)↔(k % 2=0):=by rw[← Nat.beq_eq,← Nat.beq_eq,h1]
 omega
theorem SM.get_set{v:D}:∀ {m:SM} {i:Nat},m.has i=true→∀ j,(m.set v i).get j=if j=i then v else m.get j
 | .lf,i,h,j=>by simp[SM.has] at h
 | .nd d l r,0,h,j=>by cases j<;>simp[SM.set_lf,SM.set_zero,SM.set_succ,SM.get_lf,SM.get_zero,SM.get_succ]
 | .nd d l r,i+1,h,j=>by
  rw[SM.set_eq h]
  simp only[SM.has] at h
  cases hb:Nat.beq (Nat.mod i 2) 0 with
  | true =>
   rw[hb] at h
   cases j with
   | zero=>simp[SM.get_lf,SM.get_zero,SM.get_succ]
   | succ j =>
    simp only[cond_true,SM.get_lf,SM.get_zero,SM.get_succ]
    cases hj:Nat.beq (Nat.mod j 2) 0 with
    | true =>
     simp only[cond_true]
     rw[SM.get_set (m:=l) h]
     by_cases e:Nat.div j 2=Nat.div i 2
     ·have:j=i:=half_inj (by rw[hb,hj]) e
      subst this;simp
     ·have:j≠i:=fun h=>e (by rw[h])
      simp[e,this]
    | false =>
     have:j≠i:=fun h=>by rw[h,hb] at hj;cases hj
     simp[this]
  | false =>
   rw[hb] at h
   cases j with
   | zero=>simp[SM.get_lf,SM.get_zero,SM.get_succ]
   | succ j =>
    simp only[cond_false,SM.get_lf,SM.get_zero,SM.get_succ]
    cases hj:Nat.beq (Nat.mod j 2) 0 with
    | false =>
     simp only[cond_false]
     rw[SM.get_set (m:=r) h]
     by_cases e:Nat.div j 2=Nat.div i 2
     ·have:j=i:=half_inj (by rw[hb,hj]) e
      subst this;simp
     ·have:j≠i:=fun h=>e (by rw[h])
      simp[e,this]
    | true =>
     have:j≠i:=fun h=>by rw[h,hb] at hj;cases hj
     simp[this]
theorem SM.has_set{v:D}:∀ {m:SM} {i:Nat},m.has i=true→∀ j,(m.set v i).has j=m.has j
 | .lf,i,h,j=>by simp[SM.has] at h
 | .nd d l r,0,h,j=>by cases j<;>simp[SM.set_lf,SM.set_zero,SM.set_succ,SM.has]
 | .nd d l r,i+1,h,j=>by
  rw[SM.set_eq h]
  simp only[SM.has] at h
  cases hb:Nat.beq (Nat.mod i 2) 0 with
  | true =>
   rw[hb] at h
   cases j with
   | zero=>simp[SM.has]
   | succ j=>simp only[cond_true,SM.has,SM.has_set (m:=l) h]
  | false =>
   rw[hb] at h
   cases j with
   | zero=>simp[SM.has]
   | succ j=>simp only[cond_false,SM.has,SM.has_set (m:=r) h]
theorem SM.full_has:∀ (k t:Nat),t+1<2 ^ (k+1)→(SM.full k).has t=true
  | 0, t, h => by have : t = 0 := by omega
                  subst this;rfl
  | k+1,0,h=>rfl
  | k+1,t+1,h=>by
    have e:Nat.div t 2=t / 2:=rfl
    have:=SM.full_has k (t / 2) (by rw[Nat.pow_succ] at h;omega)
    simp only[SM.full,SM.has,e,this]
    cases Nat.beq (Nat.mod t 2) 0<;>rfl
theorem SM.full_get:∀ (k t:Nat),(SM.full k).get t=.any
 | 0,0=>rfl
 | 0,t+1=>by simp only[SM.full,SM.get_lf,SM.get_zero,SM.get_succ];cases Nat.beq (Nat.mod t 2) 0<;>rfl
 | k+1,0=>rfl
 | k+1,t+1=>by
  simp only[SM.full,SM.get_lf,SM.get_zero,SM.get_succ,SM.full_get k]
  cases Nat.beq (Nat.mod t 2) 0<;>rfl
theorem SM.map_get{f:D→D}(hf:f .any=.any):∀ (m:SM) (t:Nat),(m.map f).get t=f (m.get t)
 | .lf,t=>by simp[SM.map,SM.get_lf,SM.get_zero,SM.get_succ,hf]
 | .nd d l r,0=>rfl
 | .nd d l r,t+1=>by
  simp only[SM.map,SM.get_lf,SM.get_zero,SM.get_succ,SM.map_get hf l,SM.map_get hf r]
  cases Nat.beq (Nat.mod t 2) 0<;>rfl
theorem SM.map_has{f:D→D}:∀ (m:SM) (t:Nat),(m.map f).has t=m.has t
 | .lf,t=>rfl
 | .nd d l r,0=>rfl
 | .nd d l r,t+1=>by simp only[SM.map,SM.has,SM.map_has l,SM.map_has r]
def HasN(N:Nat)(m:SM):Prop:=∀ t,t<N→m.has t=true
theorem HasN.setO{N:Nat}{m:SM}{dst:Option Nat}(h:HasN N m)(hd:dstOK N dst=true)(v:D):HasN N (m.setO dst v)∧(m.setO dst v).get=Go.Proofs.YtjdgofpcmcobnaaGreatDoor.AL.setO m.get dst v∧∀ t,dst=some t→t<N:=by
 cases dst with
 | none=>exact⟨h,rfl,fun t e=>by cases e⟩
 | some t =>
  have ht:t<N:=by simpa[dstOK,Nat.blt_eq] using hd
  refine⟨fun u hu=>?_,?_,fun u e=>by cases e;exact ht⟩
  ·show (m.set v t).has u=true
   rw[SM.has_set (h t ht)];exact h u hu
  ·funext u
   show (m.set v t).get u=if u=t then v else m.get u
   exact SM.get_set (h t ht) u
theorem depthOf_has(N:Nat)(hN:N≤8000):HasN N (SM.full (Y5 N)):=by
 intro t ht
 refine SM.full_has _ _ ?_
 have b:∀ a c,Nat.blt a c=decide (a<c):=fun a c=>by rw[Bool.eq_iff_iff,Nat.blt_eq,decide_eq_true_eq]
 unfold Y5
 simp only[b,Bool.cond_decide]
 split
 ·omega
 ·split
  ·omega
  ·split
   ·omega
   ·split<;>omega
theorem args_get:∀ (A:List D) (i:Nat) (m:SM) (N:Nat),HasN N m→i+A.length≤N→(∀ t,i≤t→m.get t=.any)→HasN N (SM.args A i m)∧∀ t,(SM.args A i m).get t=if t<i then m.get t else A.getD (t - i) .any
 | [],i,m,N,h,hl,hg=>⟨h,fun t=>by
  simp only[SM.args]
  by_cases ht:t<i
  ·simp[ht]
  ·simp[ht,hg t (by omega)]⟩
 | d::A,i,m,N,h,hl,hg=>by
  simp only[List.length_cons] at hl
  have hi:m.has i=true:=h i (by omega)
  obtain⟨k1,k2⟩:=args_get A (i+1) (m.set d i) N (fun t ht=>by rw[SM.has_set hi];exact h t ht) (by omega) (fun t ht=>by rw[SM.get_set hi,if_neg (by omega)];exact hg t (by omega))
  refine⟨k1,fun t=>?_⟩
  simp only[SM.args]
  rw[k2]
  by_cases ht:t<i
  ·rw[if_pos (by omega),if_pos ht,SM.get_set hi,if_neg (by omega)]
  ·rw[if_neg ht]
   by_cases he:t=i
   ·subst he
    rw[if_pos (by omega),SM.get_set hi,if_pos rfl]
    simp
   ·rw[if_neg (by omega),show t - i=(t - (i+1))+1 by omega]
    simp
end
section
open Go Go.RowKit
section
variable {P:Program} {G:Nat→Option (List D)} {N nx nx1 nx2:Nat} {σ σ1 σ2:Nat→D} {st st1 st2:List (Nat×Blk)} {e:Exit}
theorem evs_skip:Evs P G N .skip nx σ st .normal nx σ st:=fun _ _ _ _ _ ι _ _ hr=>wp_skip ⟨ι,rfl,hr⟩
theorem evs_label{l:Nat}:Evs P G N (.label l) nx σ st .normal nx σ st:=fun _ _ _ _ _ ι _ _ hr=>wp_label ⟨ι,rfl,hr⟩
theorem evs_ret:Evs P G N .ret nx σ st .ret nx σ st:=fun _ _ _ _ _ ι _ _ hr=>wp_ret ⟨ι,rfl,hr⟩
theorem evs_exit{i:Nat}:Evs P G N (.exit i) nx σ st (.exit i) nx σ st:=fun _ _ _ _ _ ι _ _ hr=>wp_exit ⟨ι,rfl,hr⟩
theorem evs_seq{x y:Code}(h:Evs P G N x nx σ st .normal nx1 σ1 st1)(k:Evs P G N y nx1 σ1 st1 e nx2 σ2 st2):Evs P G N (.seq x y) nx σ st e nx2 σ2 st2:=by
 intro B w0 O df ι0 ι a w hr
 refine wp_seq (wp_mono (h B w0 O df ι0 ι a w hr) ?_)
 rintro e1 a' w' ⟨ι',rfl,h1⟩
 exact k B w0 O df ι0 ι' a' w' h1
theorem evs_seq1{x y:Code}(h:Evs P G N x nx σ st e nx1 σ1 st1)(he:e≠.normal):Evs P G N (.seq x y) nx σ st e nx1 σ1 st1:=by
 intro B w0 O df ι0 ι a w hr
 refine wp_seq (wp_mono (h B w0 O df ι0 ι a w hr) ?_)
 rintro e1 a' w' ⟨ι',rfl,h1⟩
 cases e1 with
 | normal=>exact absurd rfl he
 | _=>exact⟨ι',rfl,h1⟩
theorem evs_cond{c:Operand}{x y:Code}{b:Bool}(hc:opD G σ c=.bool b)(h:Evs P G N (if b then x else y) nx σ st e nx1 σ1 st1):Evs P G N (.cond c x y) nx σ st e nx1 σ1 st1:=by
 intro B w0 O df ι0 ι a w hr
 have h0:=Zl hr c
 rw[show opD _ σ c=.bool b from hc] at h0
 refine wp_cond h0.is_bool ?_
 cases b with
 | true=>exact h B w0 O df ι0 ι a w hr
 | false=>exact h B w0 O df ι0 ι a w hr
theorem evs_block{id:Nat}{x:Code}(h:Evs P G N x nx σ st e nx1 σ1 st1)(he:∀ i,e≠.exit i):Evs P G N (.block id x) nx σ st e nx1 σ1 st1:=by
 intro B w0 O df ι0 ι a w hr
 refine wp_block (wp_mono (h B w0 O df ι0 ι a w hr) ?_)
 rintro e1 a' w' ⟨ι',rfl,h1⟩
 cases e1 with
 | exit i=>exact absurd rfl (he i)
 | _=>exact⟨ι',rfl,h1⟩
theorem evs_block1{id:Nat}{x:Code}(h:Evs P G N x nx σ st (.exit id) nx1 σ1 st1):Evs P G N (.block id x) nx σ st .normal nx1 σ1 st1:=by
 intro B w0 O df ι0 ι a w hr
 refine wp_block (wp_mono (h B w0 O df ι0 ι a w hr) ?_)
 rintro e1 a' w' ⟨ι',rfl,h1⟩
 simp only[Exit.inBlock,if_true]
 exact⟨ι',trivial,h1⟩
theorem evs_block2{id i:Nat}{x:Code}(hi:id≠i)(h:Evs P G N x nx σ st (.exit i) nx1 σ1 st1):Evs P G N (.block id x) nx σ st (.exit i) nx1 σ1 st1:=by
 intro B w0 O df ι0 ι a w hr
 refine wp_block (wp_mono (h B w0 O df ι0 ι a w hr) ?_)
 rintro e1 a' w' ⟨ι',rfl,h1⟩
 simp only[Exit.inBlock,if_neg (Ne.symm hi)]
 exact⟨ι',trivial,h1⟩
def EvL(P:Program)(G:Nat→Option (List D))(N:Nat)(body:Code)(nx:Nat)(σ:Nat→D)(st:List (Nat×Blk))(e:Exit)(nx':Nat)(σ':Nat→D)(st':List (Nat×Blk)):Prop :=
 ∀ B w0 O df ι0 ι a w,Rel ⟨P,G,N,B,w0,O,df,ι0⟩ (·<nx) ι a w σ (gs st)→∀ b k cs,∃ e1 a' w',(∃ ι',e1=e∧Rel ⟨P,G,N,B,w0,O,df,ι0⟩ (·<nx') ι' a' w' σ' (gs st'))∧Arrives P (lone (b.at a (.code body::.inLoop body::k)) cs w) b k cs e1 a' w'
theorem evl_next{body:Code}(h:Evs P G N body nx σ st .normal nx1 σ1 st1)(k:EvL P G N body nx1 σ1 st1 e nx2 σ2 st2):EvL P G N body nx σ st e nx2 σ2 st2:=by
 intro B w0 O df ι0 ι a w hr b q cs
 obtain⟨e1,a1,w1,⟨ι1,rfl,h1⟩,harr⟩:=h B w0 O df ι0 ι a w hr b (.inLoop body::q) cs
 obtain⟨e2,a2,w2,hq2,harr2⟩:=k B w0 O df ι0 ι1 a1 w1 h1 b q cs
 exact⟨e2,a2,w2,hq2,.of_steps (Steps.trans harr (.one step_inLoop)) harr2⟩
theorem evl_out{body:Code}(h:Evs P G N body nx σ st e nx1 σ1 st1)(he:e≠.normal):EvL P G N body nx σ st e nx1 σ1 st1:=by
 intro B w0 O df ι0 ι a w hr b q cs
 obtain⟨e1,a1,w1,⟨ι1,rfl,h1⟩,harr⟩:=h B w0 O df ι0 ι a w hr b (.inLoop body::q) cs
 exact⟨_,a1,w1,⟨ι1,rfl,h1⟩,.pass (x:=.inLoop body) rfl (fun _ _=>.inl he) harr⟩
theorem evs_loop{body:Code}(h:EvL P G N body nx σ st e nx1 σ1 st1):Evs P G N (.loop body) nx σ st e nx1 σ1 st1:=by
 intro B w0 O df ι0 ι a w hr b q cs
 obtain⟨e1,a1,w1,hq,harr⟩:=h B w0 O df ι0 ι a w hr b q cs
 exact⟨e1,a1,w1,hq,.of_steps (.one step_loop) harr⟩
end
mutual
theorem D.eqb_ok:∀ {a b:D},D.eqb a b=true→a=b
 | .bool a,b,h=>by cases b<;>simp[D.eqb] at h;rw[h]
 | .int k a,b,h=>by cases b<;>simp[D.eqb] at h;rw[h.1,h.2]
 | .rng k a c,b,h=>by cases b<;>simp[D.eqb] at h;rw[h.1.1,h.1.2,h.2]
 | .str a,b,h=>by
  cases b<;>simp[D.eqb] at h
  rename_i c
  obtain⟨a⟩:=a
  obtain⟨c⟩:=c
  simp at h
  rw[h]
 | .strg a c,b,h=>by
  cases b<;>simp[D.eqb] at h
  rename_i b d
  obtain⟨a⟩:=a
  obtain⟨b⟩:=b
  obtain⟨c⟩:=c
  obtain⟨d⟩:=d
  simp at h
  rw[h.1,h.2]
 | .np,b,h=>by cases b<;>simp[D.eqb] at h<;>rfl
 | .nils,b,h=>by cases b<;>simp[D.eqb] at h<;>rfl
 | .nilf,b,h=>by cases b<;>simp[D.eqb] at h<;>rfl
 | .nili,b,h=>by cases b<;>simp[D.eqb] at h<;>rfl
 | .sle,b,h=>by cases b<;>simp[D.eqb] at h<;>rfl
 | .sl a,b,h=>by cases b<;>simp[D.eqb] at h;rw[D.eqbss_ok h]
 | .vp a,b,h=>by cases b<;>simp[D.eqb] at h;rw[D.eqbs_ok h]
 | .agg a,b,h=>by cases b<;>simp[D.eqb] at h;rw[D.eqbs_ok h]
 | .tup a,b,h=>by cases b<;>simp[D.eqb] at h;rw[D.eqbs_ok h]
 | .any,b,h=>by cases b<;>simp[D.eqb] at h
 | .fn _ _ _,b,h=>by cases b<;>simp[D.eqb] at h
 | .ifc _ _,b,h=>by cases b<;>simp[D.eqb] at h
 | .bp _ _,b,h=>by cases b<;>simp[D.eqb] at h
 | .ap _ _ _ _,b,h=>by cases b<;>simp[D.eqb] at h
 | .os _ _ _ _,b,h=>by cases b<;>simp[D.eqb] at h
 | .rf _ _,b,h=>by cases b<;>simp[D.eqb] at h
theorem D.eqbs_ok:∀ {a b:List D},D.eqbs a b=true→a=b
 | [],[],_=>rfl
 | a::as,b::bs,h=>by
  simp only[D.eqbs,Bool.and_eq_true] at h
  rw[D.eqb_ok h.1,D.eqbs_ok h.2]
 | [],_::_,h=>by cases h
 | _::_,[],h=>by cases h
theorem D.eqbss_ok:∀ {a b:List (List D)},D.eqbss a b=true→a=b
 | [],[],_=>rfl
 | a::as,b::bs,h=>by
  simp only[D.eqbss,Bool.and_eq_true] at h
  rw[D.eqbs_ok h.1,D.eqbss_ok h.2]
 | [],_::_,h=>by cases h
 | _::_,[],h=>by cases h
end
def Xc(P:Program)(G:Nat→Option (List D))(mm:List (Nat×List D×D)):Prop:=∀ p∈mm,Pure P G p.1 p.2.1 p.2.2
theorem lookMemo_ok{P:Program}{G:Nat→Option (List D)}{k:Nat}{A:List D}{R:D}:∀ {mm:List (Nat×List D×D)},Xc P G mm→lookMemo k A mm=some R→Pure P G k A R
 | [],_,h=>by cases h
 | (k',A',R')::l,hm,h=>by
  simp only[lookMemo] at h
  cases hc:(Nat.beq k k'&&D.eqbs A A') with
  | true =>
   rw[hc] at h
   simp only[cond_true,Option.some.injEq] at h
   simp only[Bool.and_eq_true] at hc
   have e1:=Nat.eq_of_beq_eq_true hc.1
   have e2:=D.eqbs_ok hc.2
   subst e1;subst e2;subst h
   exact hm (k,A,R') (by simp)
  | false =>
   rw[hc] at h
   exact lookMemo_ok (fun p hp=>hm p (List.mem_cons_of_mem _ hp)) h
end
section
open Go Go.Conc Go.RowKit
section
variable {P:Program} {G:Nat→Option (List D)} {Ty:Nat→Option TyI}
theorem chan_turn{c:Ctx}{dom:Nat→Prop}{ι:Nat→Option IB}{a:Act}{w:World}{σ:Nat→D}{st:Nat→Option Blk}(hr:Rel c dom ι a w σ st){n cap:Nat}{xs ys:List Int}{ib:IB}(hs:st n=some (.obj (.chanI cap xs)))(b1:ι n=some ib)(b2:ib.box=true)(b3:0<ib.cap)
  {buf:Array Value} (hbuf:buf=(ys.map (.int .i64)).toArray) (s r:Nat) :
  ∃ ι',Rel c (fun m=>dom m∨m=n) ι' a (w.setChan ib.blk cap buf false s r false) σ (updS st n (some (.obj (.chanI cap ys)))):=by
 have hlt:=(hr.own ib.blk ⟨n,ib,by rw[hs];rfl,b1,b3,rfl⟩).1
 obtain⟨r1,_⟩:=hr.one (w':=w.setChan ib.blk cap buf false s r false) n ib (.obj (.chanI cap ys)) rfl rfl rfl (by rw[size_setChan];exact Nat.le_refl _)
   (fun b hb'=>by
    by_cases e:b=ib.blk
    ·exact .inr ⟨ib,b1,by rw[hs];rfl,b3,e⟩
    ·exact .inl (by simp only[World.setChan];rw[Array.getElem?_setIfInBounds_ne (Ne.symm e)]))
   (fun _=>⟨by rw[size_setChan];exact hlt,.inl ⟨ib,b1,by rw[hs];rfl,b3,rfl⟩⟩)
   (fun ib2 h2=>.inl (Option.some.inj (b1.symm.trans h2)))
   (fun f1 f2=>⟨ib,.chan cap buf false s r false,by simp[updI],b2,b3,heap_setChan _ _ _ _ _ _ _ _ hlt,s,r,by rw[hbuf]⟩)
 exact⟨_,r1⟩
theorem wanted_none{o:Oper}(hg:o.guard=none)(f:Nat→Option Bool):Region.wanted o f=true:=by
 unfold Region.wanted
 rw[hg]
theorem evComm_ok(hty:TyOK P Ty){N:Nat}{ops:Array Oper}:∀ (rest:List Oper) (i:Nat) (s s':ES),rest=ops.toList.drop i→i≤ops.size→HasN N s.σ→evComm Ty G N rest s=some s' →
  HasN N s'.σ∧s'.mm=s.mm∧∀ (c:Ctx) (Q:Exit→Act→World→Prop),c.P=P→c.G=G→c.N=N→(∀ ι a w,Rel c (·<s'.nx) ι a w s'.σ.get (gs s'.st)→Q .normal a w)→∀ ι a w,Rel c (·<s.nx) ι a w s.σ.get (gs s.st)→RegTo P ops Q ((List.range ops.size).drop i) a w
 | [],i,s,s',hrest,hi,hN,h=>by
  simp only[evComm,Option.some.injEq] at h
  subst h
  refine⟨hN,rfl,fun c Q hP hG hcN fin ι a w hr=>?_⟩
  have:i=ops.size:=by
   have:=congrArg List.length hrest
   simp at this;omega
  subst this
  have hd:(List.range ops.size).drop ops.size=[]:=by simp
  rw[hd]
  exact regTo_ops (fin ι a w hr)
 | o::rest,i,s,s',hrest,hi,hN,h=>by
  have hlt:i<ops.size:=by
   have:=congrArg List.length hrest
   simp at this;omega
  have hc:(List.range ops.size).drop i=i::(List.range ops.size).drop (i+1):=by
   rw[List.drop_eq_getElem_cons (by simpa using hlt)]
   simp
  have hcons:ops.toList.drop i=ops.toList[i]'(by simpa using hlt)::ops.toList.drop (i+1):=List.drop_eq_getElem_cons (by simpa using hlt)
  rw[hcons] at hrest
  injection hrest with ho hrest
  have ho':ops[i]? = some o:=by rw[ho];simp[hlt]
  rw[hc]
  simp only[evComm] at h
  split at h
  ·cases h
  ·rename_i hg
   cases hd:dstOK N o.dst with
   | false=>rw[hd] at h;cases h
   | true =>
    rw[hd] at h
    simp only[cond_true] at h
    have mv:∀ x,execOp=execOp→(∀ (a:Act),execOp a.eval o=pure (.value (a.eval x)))→evComm Ty G N rest { s with σ:=s.σ.setO o.dst (opD G s.σ.get x) }=some s' →
      HasN N s'.σ∧s'.mm=s.mm∧∀ (c:Ctx) (Q:Exit→Act→World→Prop),c.P=P→c.G=G→c.N=N→(∀ ι a w,Rel c (·<s'.nx) ι a w s'.σ.get (gs s'.st)→Q .normal a w)→∀ ι a w,Rel c (·<s.nx) ι a w s.σ.get (gs s.st)→RegTo P ops Q (i::(List.range ops.size).drop (i+1)) a w:=by
     intro x _ hx h
     obtain⟨k1,k2,k3⟩:=hN.setO hd (opD G s.σ.get x)
     obtain⟨r1,r2,r3⟩:=evComm_ok hty rest (i+1) { s with σ:=s.σ.setO o.dst (opD G s.σ.get x) } s' hrest (by omega) k1 h
     refine⟨r1,r2,fun c Q hP hG hcN fin ι a w hr=>?_⟩
     refine regTo_op ho' (wanted_none hg _) (by rw[hx];rfl) (r3 c Q hP hG hcN fin ι _ w ?_)
     show Rel c (·<s.nx) ι _ w (s.σ.setO o.dst (opD G s.σ.get x)).get (gs s.st)
     rw[k2]
     subst hG
     exact hr.put _ _ (Zl hr x) _ (by rw[hcN];exact k3)
    split at h
    ·rename_i x hop
     exact mv x rfl (fun a=>by unfold execOp;rw[hop]) h
    ·rename_i x hop
     exact mv x rfl (fun a=>by unfold execOp;rw[hop]) h
    ·rename_i ch x hop
     split at h
     ·rename_i n m hch hx
      split at h
      ·rename_i cap xs hst
       cases hb:Nat.blt xs.length cap with
       | false=>rw[hb] at h;cases h
       | true =>
        rw[hb] at h
        simp only[cond_true] at h
        obtain⟨k1,k2,k3⟩:=hN.setO hd .any
        obtain⟨r1,r2,r3⟩:=evComm_ok hty rest (i+1) ⟨s.nx,s.σ.setO o.dst .any,putS s.st [(n,some (.obj (.chanI cap (xs++[m]))))],s.mm⟩ s' hrest (by omega) k1 h
        refine⟨r1,r2,fun c Q hP hG hcN fin ι a w hr=>?_⟩
        subst hG
        have hv:=Zl hr ch
        rw[hch] at hv
        have hu:=Zl hr x
        rw[hx] at hu
        obtain⟨ib,ob,b1,b2,b3,b4,⟨s0,r0,b5⟩,ex⟩:=rf_map hr hv hst
        rw[b5] at b4
        refine regTo_send (c:=ib.blk) (v:=.int .i64 m) (z':=.tuple #[]) (tm:=false) ho' (wanted_none hg _) (w':=w) ?_ b4 (by rw[Nat.blt_eq] at hb;simpa using hb) ?_
        ·unfold execOp
         rw[hop]
         show Sem.run P (pure _) w=_
         rw[ex,hu.is_int]
         rfl
        ·obtain⟨ι',hr'⟩:=chan_turn hr hst b1 b2 b3 (buf:=((xs.map (.int .i64)).toArray).push (.int .i64 m)) (ys:=xs++[m]) (by simp) (s0+1) r0
         refine r3 c Q hP rfl hcN fin ι' _ _ ?_
         show Rel c (·<s.nx) ι' _ _ (s.σ.setO o.dst .any).get (gs (putS s.st [(n,some (.obj (.chanI cap (xs++[m]))))]))
         rw[k2,Xq]
         refine ((hr'.put undef .any (.pure _ _ (.any _)) _ (by rw[hcN];exact k3)).weaken (fun _=>Le.refl _) (fun q hq=>?_))
         rcases hq with hq|rfl
         ·exact hq
         ·exact hr.dom q (by rw[b1];rfl)
      ·cases h
     ·cases h
    ·rename_i t ch hop
     split at h
     ·rename_i n ti hch hti
      split at h
      ·rename_i e cap m xs hk hst
       split at h
       ·rename_i j hj
        obtain⟨k1,k2,k3⟩:=hN.setO hd (.int .i64 m)
        obtain⟨r1,r2,r3⟩:=evComm_ok hty rest (i+1) ⟨s.nx,s.σ.setO o.dst (.int .i64 m),putS s.st [(n,some (.obj (.chanI cap xs)))],s.mm⟩ s' hrest (by omega) k1 h
        refine⟨r1,r2,fun c Q hP hG hcN fin ι a w hr=>?_⟩
        subst hG
        have hv:=Zl hr ch
        rw[hch] at hv
        obtain⟨dir,h1,_⟩:=chan_of hty hti hk
        obtain⟨info,de,z,e1,e2,_,e4,_,e6,_⟩:=hty.get hj
        obtain⟨ib,ob,b1,b2,b3,b4,⟨s0,r0,b5⟩,ex⟩:=rf_map hr hv hst
        rw[b5] at b4
        refine regTo_recv (c:=ib.blk) (z:=z) (tm:=false) (closed:=false) false ho' (wanted_none hg _) (w':=w) ?_ b4 (by simp) ?_
        ·unfold execOp
         rw[hop]
         simp[run_underlying h1,zeroValue,typeInfo,e1,e6,ex,rcase]
        ·obtain⟨ι',hr'⟩:=chan_turn hr hst b1 b2 b3 (buf:=(((m::xs).map (Value.int .i64)).toArray).extract 1 (((m::xs).map (Value.int .i64)).toArray).size) (ys:=xs) (by apply Array.ext';simp;exact List.take_of_length_le (by simp)) s0 (r0+1)
         refine r3 c Q hP rfl hcN fin ι' _ _ ?_
         show Rel c (·<s.nx) ι' _ _ (s.σ.setO o.dst (.int .i64 m)).get (gs (putS s.st [(n,some (.obj (.chanI cap xs)))]))
         rw[k2,Xq]
         refine ((hr'.put _ (.int .i64 m) (.pure _ _ (.int _ _)) _ (by rw[hcN];exact k3)).weaken (fun _=>Le.refl _) (fun q hq=>?_))
         rcases hq with hq|rfl
         ·exact hq
         ·exact hr.dom q (by rw[b1];rfl)
       ·cases h
      ·cases h
     ·cases h
    ·cases h
end
end
section
open Go Go.RowKit
structure MoOK(P:Program)(G:Nat→Option (List D))(M:Mo):Prop where
 fns:∀ k f,M.fns k=some f→∃ fn,P.funcs[k]? = some fn∧fn.body=some f.body∧fn.ntmps=f.ntmps∧fn.results.toList=f.results∧(fn.name == "runtime.NumGoroutine")=false∧f.ntmps≤8000
 eq:EqOK P M.eqT
 ext:∀ k A R,M.xt k=true→M.ext k A=some R→Pure P G k A R
 nxt:∀ k,M.nxt k=true→∀ n a l h sc nm,1≤a→a≤1000→ImpR P G k [.bp n 0,.int .i64 a] [(n,.deck ((a,l,h)::sc))] nm (nm+1) (rngD l h) [(n,some (.deck sc))]
def SP(P:Program)(G:Nat→Option (List D))(N:Nat)(c:Code)(s:ES)(e:Exit)(s':ES):Prop :=
 HasN N s'.σ∧Xc P G s'.mm∧Evs P G N c s.nx s.σ.get s.st e s'.nx s'.σ.get s'.st∧∀ b,c=.loop b→EvL P G N b s.nx s.σ.get s.st e s'.nx s'.σ.get s'.st
def RP(P:Program)(G:Nat→Option (List D))(N:Nat)(c:Code)(s:ES):Res→Prop
 | .nrm s'=>SP P G N c s .normal s'
 | .ret s'=>SP P G N c s .ret s'
 | .ext i s'=>SP P G N c s (.exit i) s'
 | .bad=>True
def EvOK(P:Program)(G:Nat→Option (List D))(ev:Nat→Code→ES→Res):Prop:=∀ N c s,HasN N s.σ→Xc P G s.mm→RP P G N c s (ev N c s)
section
variable {P:Program} {Ty:Nat→Option TyI} {G:Nat→Option (List D)} {M:Mo} {ev:Nat→Code→ES→Res}
theorem start_ok{N:Nat}{A:List D}(hN:N≤8000)(hA:A.length≤N):HasN N (SM.args A 0 (SM.full (Y5 N)))∧∀ t,(SM.args A 0 (SM.full (Y5 N))).get t=.any∨(SM.args A 0 (SM.full (Y5 N))).get t=A.getD t .any:=by
 obtain⟨h1,h2⟩:=args_get A 0 (SM.full (Y5 N)) N (depthOf_has N hN) (by omega) (fun t _=>SM.full_get _ t)
 exact⟨h1,fun t=>.inr (by rw[h2];simp)⟩
theorem evPure_ok(hty:TyOK P Ty)(hM:MoOK P G M)(hev:EvOK P G ev){k:Nat}{A:List D}{mm mm':List (Nat×List D×D)}{R:D}(hmm:Xc P G mm)(h:evPure Ty M ev k A mm=some (R,mm')):Pure P G k A R∧Xc P G mm':=by
 unfold evPure at h
 split at h
 ·rename_i R0 hx
  cases h
  cases hk:M.xt k with
  | false=>rw[hk] at hx;cases hx
  | true=>rw[hk] at hx;exact⟨hM.ext k A R hk hx,hmm⟩
 split at h
 ·cases h
 ·rename_i f hf
  obtain⟨fn,f1,f2,f3,f4,f5,f6⟩:=hM.fns k f hf
  have go:∀ {R mm'},(if A.length≤f.ntmps then (match ev f.ntmps f.body ⟨0,SM.args A 0 (SM.full (Y5 f.ntmps)),[],mm⟩ with
   | .nrm s=>(match resRF Ty f.results s.σ.get s.st with|some R0=>(match ZZ (gs s.st) 9 R0 with|some R=>some (R,s.mm)|none=>none)|none=>none)
   | .ret s=>(match resRF Ty f.results s.σ.get s.st with|some R0=>(match ZZ (gs s.st) 9 R0 with|some R=>some (R,s.mm)|none=>none)|none=>none)
   | _=>none) else none)=some (R,mm')→Pure P G k A R∧Xc P G mm':=by
   intro R mm' h
   split at h
   ·rename_i hA
    obtain⟨h1,h2⟩:=start_ok f6 hA
    have hsp:=hev f.ntmps f.body ⟨0,SM.args A 0 (SM.full (Y5 f.ntmps)),[],mm⟩ h1 hmm
    have fin:∀ {s:ES} {e:Exit},SP P G f.ntmps f.body ⟨0,SM.args A 0 (SM.full (Y5 f.ntmps)),[],mm⟩ e s→(e=.normal∨e=.ret)→(match resRF Ty f.results s.σ.get s.st with|some R0=>(match ZZ (gs s.st) 9 R0 with|some R=>some (R,s.mm)|none=>none)|none=>none)=some (R,mm')→Pure P G k A R∧Xc P G mm':=by
     intro s e hs he h
     split at h
     ·rename_i R0 hR0
      split at h
      ·rename_i R1 hR1
       cases h
       exact⟨pureR_ofE hty f1 f2 f3 f5 hA h2 hs.2.2.1 he (by rw[f4];exact hR0) hR1,hs.2.1⟩
      ·cases h
     ·cases h
    split at h
    ·rename_i s he;rw[he] at hsp;exact fin hsp (.inl rfl) h
    ·rename_i s he;rw[he] at hsp;exact fin hsp (.inr rfl) h
    ·cases h
   ·cases h
  simp only at h
  cases hmemo:M.memo k with
  | false=>rw[hmemo] at h;exact go h
  | true =>
   rw[hmemo] at h
   simp only[cond_true] at h
   split at h
   ·rename_i R1 hl
    cases h
    exact⟨lookMemo_ok hmm hl,hmm⟩
   ·split at h
    ·rename_i R1 mm1 hg
     cases h
     obtain⟨g1,g2⟩:=go hg
     refine⟨g1,fun p hp=>?_⟩
     rcases List.mem_cons.1 hp with rfl|hp
     ·exact g1
     ·exact g2 p hp
    ·cases h
theorem gs_pickN{g:Nat→Option Blk}:∀ {L:List Nat} {p:Nat×Blk},p∈pickN L g→g p.1=some p.2:=by
 intro L p hp
 unfold pickN at hp
 obtain⟨n,_,hn⟩:=List.mem_filterMap.1 hp
 split at hn
 ·rename_i b hb;cases hn;exact hb
 ·cases hn
theorem gs_pickN'{g:Nat→Option Blk}{L:List Nat}{p:Nat×Blk}(hp:p∈pickN L g):gs (pickN L g) p.1=some p.2:=by
 have key:∀ (l:List (Nat×Blk)),(∀ q∈l,g q.1=some q.2)→p∈l→gs l p.1=some p.2:=by
  intro l
  induction l with
  | nil=>intro _ h;cases h
  | cons q l ih =>
   intro hq h
   obtain⟨u,b⟩:=q
   simp only[gs]
   by_cases e:p.1=u
   ·rw[if_pos e]
    have h1:=hq (u,b) (by simp)
    have h2:=gs_pickN hp
    rw[e] at h2
    rw[← h1,h2]
   ·rw[if_neg e]
    refine ih (fun q hq'=>hq q (List.mem_cons_of_mem _ hq')) ?_
    rcases List.mem_cons.1 h with h|h
    ·exact absurd (congrArg Prod.fst h) e
    ·exact h
 exact key _ (fun q hq=>gs_pickN hq) hp
theorem evName_ok(hty:TyOK P Ty)(hM:MoOK P G M)(hev:EvOK P G ev){k:Nat}{A:List D}{gl:St}{g:Nat→Option Blk}{L:List Nat}{lo:Nat}{mm:List (Nat×List D×D)}{co:CO}(hmm:Xc P G mm)(hgl:gl=pickN L g)(h:evName Ty M ev k A gl lo mm=some co):ImpR P G k A gl lo co.nx co.v co.upd∧co.L=gl.map (·.1)∧lo≤co.nx∧Xc P G co.mm:=by
 unfold evName at h
 split at h
 ·cases h
 ·rename_i f hf
  obtain⟨fn,f1,f2,f3,f4,f5,f6⟩:=hM.fns k f hf
  split at h
  ·rename_i hc
   obtain⟨hA,hin,hall⟩:=hc
   rw[List.all_eq_true] at hall
   obtain⟨h1,h2⟩:=start_ok f6 hA
   have hsp:=hev f.ntmps f.body ⟨lo,SM.args A 0 (SM.full (Y5 f.ntmps)),gl,mm⟩ h1 hmm
   have fin:∀ {s:ES} {e:Exit},SP P G f.ntmps f.body ⟨lo,SM.args A 0 (SM.full (Y5 f.ntmps)),gl,mm⟩ e s→(e=.normal∨e=.ret)→(match resRF Ty f.results s.σ.get s.st with
    | some R =>
     let new:=pickN (seen (gs s.st) 100 (ZA R++gl.map (·.1)) []) (gs s.st)
     let upd:=gl.map (fun p=>(p.1,gs s.st p.1))++(new.filter (fun p=>!hasB gl p.1)).map (fun p=>(p.1,some p.2))
     if lo≤s.nx∧R.inn (inR gl lo s.nx)=true∧(upd.all fun q=>inR gl lo s.nx q.1&&(match q.2 with|some b=>b.inn (inR gl lo s.nx)|none=>true))=true then some (CO.mk R upd (gl.map (·.1)) s.nx s.mm) else none
    | none=>none)=some co→ImpR P G k A gl lo co.nx co.v co.upd∧co.L=gl.map (·.1)∧lo≤co.nx∧Xc P G co.mm:=by
    intro s e hs he h
    split at h
    ·rename_i R hR
     simp only at h
     split at h
     ·rename_i hc2
      obtain⟨c1,c2,c3⟩:=hc2
      cases h
      rw[List.all_eq_true] at c3
      refine⟨impR_of hty f1 f2 f3 f5 hA h2 (fun p hp=>?_) hin (fun p hp=>?_) (fun p hp=>?_) (fun p hp=>?_) hs.2.2.1 he (Nat.le_refl _) (by rw[f4];exact hR) c2 (fun q hq=>?_),rfl,c1,hs.2.1⟩
      ·have:=hall p hp
       simp only[Bool.and_eq_true,Nat.blt_eq] at this
       exact this.2
      ·have:=hall p hp
       simp only[Bool.and_eq_true] at this
       exact this.1
      ·subst hgl;exact gs_pickN' hp
      ·simp only[List.map_append,List.map_map,List.mem_append,List.mem_map]
       exact .inl ⟨p,hp,rfl⟩
      ·have h3:=c3 q hq
       simp only[Bool.and_eq_true] at h3
       refine⟨?_,fun b hb=>?_⟩
       ·have:=h3.1
        unfold inR at this
        simpa[Nat.ble_eq,Nat.blt_eq] using this
       ·refine⟨?_,by have:=h3.2;rw[hb] at this;exact this⟩
        rcases List.mem_append.1 hq with hq|hq
        ·obtain⟨p,hp,rfl⟩:=List.mem_map.1 hq
         exact hb
        ·obtain⟨p,hp,rfl⟩:=List.mem_map.1 hq
         simp only[Option.some.injEq] at hb
         subst hb
         exact gs_pickN (List.mem_filter.1 hp).1
     ·cases h
    ·cases h
   simp only at h
   split at h
   ·rename_i s he;rw[he] at hsp;exact fin hsp (.inl rfl) h
   ·rename_i s he;rw[he] at hsp;exact fin hsp (.inr rfl) h
   ·cases h
  ·cases h
theorem evCall_ok(hty:TyOK P Ty)(hM:MoOK P G M)(hev:EvOK P G ev){o:Oper}{f:Operand}{args:Array Operand}{tys:Array TypeId}{ρ:Operand→D}{k:Nat}{d1 d2:List D}{st:St}{lo:Nat}{mm:List (Nat×List D×D)}{co:CO}(ho:o.op=.call { callee:=.value f,args:=args,argTypes:=tys })(hf:ρ f=.fn (.func k) d1 d2)(hmm:Xc P G mm)
  (h:evCall Ty M ev k (d1++args.toList.map ρ++d2) st lo mm=some co):DoR P G o ρ (resN co.L (gs st)) lo co.nx co.v co.upd∧lo≤co.nx∧Xc P G co.mm:=by
 unfold evCall at h
 cases hn:M.nxt k with
 | true =>
  rw[hn] at h
  simp only[cond_true] at h
  unfold evNext at h
  split at h
  ·rename_i n a hA
   split at h
   ·rename_i a' l h' sc hgn
    split at h
    ·rename_i hc
     obtain⟨rfl,c1,c2⟩:=hc
     cases h
     refine⟨do_callR ho hf (by rw[hA];exact hM.nxt k hn n a l h' sc lo c1 c2) (fun p hp=>?_),Nat.le_succ _,hmm⟩
     simp only[List.mem_singleton] at hp
     subst hp
     rw[res1 (by simp)]
     exact hgn
    ·cases h
   ·cases h
  ·cases h
 | false =>
 rw[hn] at h
 simp only[cond_false] at h
 split at h
 ·rename_i R0 hx
  cases h
  cases hk:M.xt k with
  | false=>rw[hk] at hx;cases hx
  | true =>
   rw[hk] at hx
   simp only[cond_true] at hx
   split at hx
   ·rename_i A' hA
    have e:resN [] (gs st)=fun _=>none:=by funext n;simp[resN]
    refine⟨?_,Nat.le_succ _,hmm⟩
    show DoR P G o ρ (resN [] (gs st)) lo (lo+1) _ _
    rw[e]
    exact (do_callE (nm:=lo) (L:=[]) ho hf hA (Les.refl _) (hM.ext k A' _ hk hx) (.inr (fun n hn=>by cases hn))).toR (Nat.lt_succ_self _)
   ·cases hx
 split at h
 ·split at h
  ·rename_i A' hA
   split at h
   ·rename_i R mm' hp
    cases h
    obtain⟨p1,p2⟩:=evPure_ok hty hM hev hmm hp
    refine⟨?_,Nat.le_succ _,p2⟩
    generalize hL:seen (gs st) 100 (ZB (d1++args.toList.map ρ++d2)) []=L at *
    have hin:∀ n,(resN L (gs st) n).isSome=true→n∈L:=fun n hn=>by
     unfold resN at hn
     split at hn
     ·rename_i hc;simpa using hc
     ·cases hn
    by_cases hs:YV R=true
    ·simp only[hs,if_true]
     exact (do_callE (nm:=lo) (L:=[]) ho hf hA (Les.refl _) p1 (.inl ⟨hs,rfl⟩)).toR (Nat.lt_succ_self _)
    ·simp only[hs]
     exact (do_callE (nm:=lo) ho hf hA (Les.refl _) p1 (.inr hin)).toR (Nat.lt_succ_self _)
   ·cases h
  ·cases h
 ·obtain⟨i1,i2,i3,i4⟩:=evName_ok hty hM hev hmm rfl h
  refine⟨do_callR ho hf i1 (fun p hp=>?_),i3,i4⟩
  have:co.L.contains p.1=true:=by rw[i2,List.contains_iff_mem];exact List.mem_map.2 ⟨p,hp,rfl⟩
  unfold resN
  rw[if_pos this]
  exact gs_pickN hp
theorem evOp_ok(hty:TyOK P Ty)(hM:MoOK P G M)(hev:EvOK P G ev){o:Oper}{s:ES}{co:CO}(hmm:Xc P G s.mm)(h:evOp Ty G M ev o s=some co):DoR P G o (opD G s.σ.get) (resN co.L (gs s.st)) s.nx co.nx co.v co.upd∧s.nx≤co.nx∧Xc P G co.mm:=by
 unfold evOp at h
 split at h
 ·rename_i b args tys ho
  split at h
  ·rename_i r hr
   cases h
   exact⟨(xBuiltin2_ok hty ho hr).toR (Nat.lt_succ_self _),Nat.le_succ _,hmm⟩
  ·cases h
 ·rename_i f args tys ho
  split at h
  ·rename_i k d1 d2 hf
   exact evCall_ok hty hM hev ho hf hmm h
  ·cases h
 ·split at h
  ·rename_i r hr
   cases h
   exact⟨(xMore_ok hty hM.eq hr).toR (Nat.lt_succ_self _),Nat.le_succ _,hmm⟩
  ·cases h
theorem wantS_eq(ops:List Oper)(s:SM)(o:Oper):wantS ops s o=Z0 ops s.get o:=by
 unfold wantS Z0
 cases o.guard with
 | none=>rfl
 | some p=>rfl
theorem evOps_ok(hty:TyOK P Ty)(hM:MoOK P G M)(hev:EvOK P G ev){N:Nat}{ops:List Oper}:∀ (rest:List Oper) (s:ES) (log:List LogE) (s':ES) (log':List LogE),HasN N s.σ→Xc P G s.mm→evOps Ty G M ev N ops rest s log=some (s',log') →
  HasN N s'.σ∧Xc P G s'.mm∧∃ l,log'=l.reverse++log∧RWr P G N ops (fun _ _=>True) rest s.nx s.σ.get (gs s.st) l s'.nx s'.σ.get (gs s'.st)
 | [],s,log,s',log',hN,hm,h=>by
  simp only[evOps,Option.some.injEq,Prod.mk.injEq] at h
  obtain⟨rfl,rfl⟩:=h
  exact⟨hN,hm,[],rfl,.nil _ _ _⟩
 | o::rest,s,log,s',log',hN,hm,h=>by
  simp only[evOps] at h
  split at h
  ·cases h
  ·rename_i hw
   split at h
   ·rename_i hd
    obtain⟨k1,k2,k3⟩:=hN.setO hd (.tup [])
    obtain⟨r1,r2,l,r3,r4⟩:=evOps_ok hty hM hev rest { s with σ:=s.σ.setO o.dst (.tup []) } _ _ _ k1 hm h
    refine⟨r1,r2,_::l,by rw[r3];simp,.skip _ _ _ _ _ _ _ _ _ (by rw[← wantS_eq];exact hw) k3 ?_⟩
    rw[← k2];exact r4
   ·cases h
  ·rename_i hw
   split at h
   ·cases h
   ·rename_i r hr
    split at h
    ·rename_i hd
     obtain⟨q1,q2,q3⟩:=evOp_ok hty hM hev hm hr
     obtain⟨k1,k2,k3⟩:=hN.setO hd r.v
     obtain⟨r1,r2,l,r3,r4⟩:=evOps_ok hty hM hev rest _ _ _ _ k1 q3 h
     refine⟨r1,r2,_::l,by rw[r3];simp,.step _ _ _ _ _ _ _ _ _ _ r.L r.v r.upd (by rw[← wantS_eq];exact hw) k3 q2 (q1.toV (fun st h=>h.1)) (fun _ _=>trivial) ?_⟩
     rw[← k2,← Xq];exact r4
    ·cases h
theorem loadD_take{t:Nat}{i:TyI}{A B:List D}(hi:Ty t=some i)(h0:0<i.size)(h:A.take i.size=B.take i.size):loadD Ty t A=loadD Ty t B:=by
 unfold loadD
 rw[hi]
 simp only
 have hlen:i.size≤A.length↔i.size≤B.length:=by
  have:=congrArg List.length h
  simp only[List.length_take] at this
  omega
 split
 ·by_cases hA:i.size≤A.length
  ·rw[if_pos hA,if_pos (hlen.1 hA),h]
  ·rw[if_neg hA,if_neg (fun hB=>hA (hlen.2 hB))]
 ·have:=congrArg (fun l=>l[0]?) h
  simpa[List.getElem?_take,h0] using this
theorem soft_ok(hty:TyOK P Ty){o:Oper}{s:ES}{r:CO}{q:Soft}(hq:softOf Ty G o s=some q)(h:evOp Ty G M ev o s=some r) :
  (∀ R:(Nat→Option Blk)→Prop,(∀ st,R st→q.ok (st q.n)=true)→DoV P G o (opD G s.σ.get) R s.nx r.nx r.v r.upd)∧s.nx≤r.nx∧r.mm=s.mm:=by
 unfold softOf at hq
 split at hq
 ·rename_i t x ho
  split at hq
  ·rename_i i n off hi hx
   split at hq
   ·rename_i cs hcs
    cases hsz:(Nat.blt 0 i.size&&Nat.ble (off+i.size) cs.length) with
    | false=>rw[hsz] at hq;cases hq
    | true =>
     rw[hsz] at hq
     cases hq
     simp only[Bool.and_eq_true,Nat.blt_eq,Nat.ble_eq] at hsz
     obtain⟨h0,hfit⟩:=hsz
     unfold evOp at h
     rw[ho] at h
     simp only[xMore,xMem,hx,YU,hcs] at h
     split at h
     ·rename_i r0 hr0
      cases h
      split at hr0
      ·rename_i c cs' hc
       split at hr0
       ·rename_i d hl
        cases hr0
        refine⟨fun R hR=>?_,Nat.le_succ _,rfl⟩
        intro c0 dom ι a w σ st K Q hP hG hr hρ hRs hnm hd hK
        have hok:=hR st hRs
        cases hst:st n with
        | none=>simp only[hst,Soft.ok] at hok;cases hok
        | some b =>
         cases b with
         | box cs1 =>
          simp only[hst,Soft.ok] at hok
          have he:=D.eqbs_ok hok
          have hc':cs.drop off=c::cs':=by simpa using hc
          have hlen:((cs.drop off).take i.size).length=i.size:=by simp only[List.length_take,List.length_drop];omega
          have ht:(cs1.drop off).take i.size=(cs.drop off).take i.size:=by rw[hlen] at he;exact he
          cases hd1:cs1.drop off with
          | nil=>rw[hd1,List.take_nil] at ht;rw[← ht] at hlen;simp at hlen;omega
          | cons c1 cs1' =>
           have hl1:loadD Ty t (c1::cs1')=some d:=by rw[← hd1,loadD_take hi h0 ht,hc'];exact hl
           have hdo:Do P G o (opD G s.σ.get) (fun m=>if m=n then some (.box cs1) else none) s.nx d []:=do_load (cs:=c1::cs1') hty ho (by rw[hx];simp[YU,hd1]) (by simp) hl1
           exact hdo.toR (Nat.lt_succ_self _) c0 dom ι a w σ st K Q hP hG hr hρ (fun m b hm=>by
            by_cases e:m=n
            ·subst e;simp only[if_true] at hm;rw[hst];exact hm
            ·simp only[if_neg e] at hm;cases hm) hnm hd hK
         | _=>simp only[hst,Soft.ok] at hok;cases hok
       ·cases hr0
      ·cases hr0
     ·cases h
   ·cases hq
  ·cases hq
 ·cases hq
theorem evOpsS_ok(hty:TyOK P Ty)(hM:MoOK P G M)(hev:EvOK P G ev){N:Nat}{ops:List Oper}:∀ (rest:List Oper) (s:ES) (log:List LogE) (sf:List Soft) (us:List (Nat×Option Blk)) (s':ES) (log':List LogE) (sf':List Soft) (us':List (Nat×Option Blk)),HasN N s.σ→Xc P G s.mm→evOpsS Ty G M ev N ops rest s log sf us=some (s',log',sf',us') →
  HasN N s'.σ∧Xc P G s'.mm∧(∀ q∈sf,q∈sf')∧(∀ p∈us,p∈us')∧∃ l,log'=l.reverse++log∧∀ V:Nat→Option Blk→Prop,(∀ q∈sf',∀ b,V q.n b→q.ok b=true)→(∀ p∈us',V p.1 p.2)→RWr P G N ops V rest s.nx s.σ.get (gs s.st) l s'.nx s'.σ.get (gs s'.st)
 | [],s,log,sf,us,s',log',sf',us',hN,hm,h=>by
  simp only[evOpsS,Option.some.injEq,Prod.mk.injEq] at h
  obtain⟨rfl,rfl,rfl,rfl⟩:=h
  exact⟨hN,hm,fun _ h=>h,fun _ h=>h,[],rfl,fun V _ _=>.nil _ _ _⟩
 | o::rest,s,log,sf,us,s',log',sf',us',hN,hm,h=>by
  simp only[evOpsS] at h
  split at h
  ·cases h
  ·rename_i hw
   split at h
   ·rename_i hd
    obtain⟨k1,k2,k3⟩:=hN.setO hd (.tup [])
    obtain⟨r1,r2,i1,i2,l,r3,r4⟩:=evOpsS_ok hty hM hev rest { s with σ:=s.σ.setO o.dst (.tup []) } _ _ _ _ _ _ _ k1 hm h
    refine⟨r1,r2,i1,i2,_::l,by rw[r3];simp,fun V hV hU=>.skip _ _ _ _ _ _ _ _ _ (by rw[← wantS_eq];exact hw) k3 ?_⟩
    rw[← k2];exact r4 V hV hU
   ·cases h
  ·rename_i hw
   split at h
   ·cases h
   ·rename_i r hr
    split at h
    ·rename_i hd
     obtain⟨q1,q2,q3⟩:=evOp_ok hty hM hev hm hr
     obtain⟨k1,k2,k3⟩:=hN.setO hd r.v
     split at h
     ·rename_i q hq
      obtain⟨u1,u2,u3⟩:=soft_ok (P:=P) (M:=M) (ev:=ev) hty hq hr
      obtain⟨r1,r2,i1,i2,l,r3,r4⟩:=evOpsS_ok hty hM hev rest _ _ _ _ _ _ _ _ k1 q3 h
      refine⟨r1,r2,fun q' hq'=>i1 q' (List.mem_cons_of_mem _ hq'),fun p hp=>i2 p (List.mem_append_right _ hp),_::l,by rw[r3];simp,fun V hV hU=>.step _ _ _ _ _ _ _ _ _ _ [] r.v r.upd (by rw[← wantS_eq];exact hw) k3 q2 (u1 _ (fun st h=>hV q (i1 q (by simp)) _ (h.2 q.n))) (fun p hp=>hU p (i2 p (List.mem_append_left _ hp))) ?_⟩
      rw[← k2,← Xq];exact r4 V hV hU
     ·obtain⟨r1,r2,i1,i2,l,r3,r4⟩:=evOpsS_ok hty hM hev rest _ _ _ _ _ _ _ _ k1 q3 h
      refine⟨r1,r2,i1,fun p hp=>i2 p (List.mem_append_right _ hp),_::l,by rw[r3];simp,fun V hV hU=>.step _ _ _ _ _ _ _ _ _ _ r.L r.v r.upd (by rw[← wantS_eq];exact hw) k3 q2 (q1.toV (fun st h=>h.1)) (fun p hp=>hU p (i2 p (List.mem_append_left _ hp))) ?_⟩
      rw[← k2,← Xq];exact r4 V hV hU
    ·cases h
theorem thawN_ok{N:Nat}{L:List Nat}{s:ES}(hN:HasN N s.σ):HasN N (thawN L s).σ∧(thawN L s).nx=s.nx∧(thawN L s).mm=s.mm∧∀ {c dom ι a w},Rel c dom ι a w s.σ.get (gs s.st)→Rel c dom ι a w (thawN L s).σ.get (gs (thawN L s).st):=by
 unfold thawN
 split
 ·exact⟨hN,rfl,rfl,fun h=>h⟩
 ·refine⟨fun t ht=>by show (SM.map _ s.σ).has t=true;rw[SM.map_has];exact hN t ht,rfl,rfl,fun h=>?_⟩
  have:=h.thaw L
  have e:(s.σ.map (thawD L (resN L (gs s.st)))).get=fun t=>thawD L (resN L (gs s.st)) (s.σ.get t):=by
   funext t
   rw[SM.map_get]
   simp[thawD,D.inn]
  show Rel _ _ _ _ _ (s.σ.map (thawD L (resN L (gs s.st)))).get _
  rw[e];exact this
theorem evSeq_ok(hty:TyOK P Ty)(hM:MoOK P G M)(hev:EvOK P G ev){N:Nat}{ops:Array Oper}:∀ (rest:List Oper) (i:Nat) (s s':ES),rest=ops.toList.drop i→i≤ops.size→HasN N s.σ→Xc P G s.mm→evSeq Ty G M ev N ops.toList rest s=some s' →
  HasN N s'.σ∧Xc P G s'.mm∧∀ (c:Ctx) (Q:Exit→Act→World→Prop),c.P=P→c.G=G→c.N=N→(∀ ι a w,Rel c (·<s'.nx) ι a w s'.σ.get (gs s'.st)→Q .normal a w)→∀ ι a w,Rel c (·<s.nx) ι a w s.σ.get (gs s.st)→wpOps P ops Q ((List.range ops.size).drop i) a w
 | [],i,s,s',hrest,hi,hN,hm,h=>by
  simp only[evSeq,Option.some.injEq] at h
  subst h
  refine⟨hN,hm,fun c Q hP hG hcN fin ι a w hr=>?_⟩
  have:i=ops.size:=by
   have:=congrArg List.length hrest
   simp at this;omega
  subst this
  have hd:(List.range ops.size).drop ops.size=[]:=by simp
  rw[hd]
  exact fin ι a w hr
 | o::rest,i,s,s',hrest,hi,hN,hm,h=>by
  have hlt:i<ops.size:=by
   have:=congrArg List.length hrest
   simp at this;omega
  have hc:(List.range ops.size).drop i=i::(List.range ops.size).drop (i+1):=by
   rw[List.drop_eq_getElem_cons (by simpa using hlt)]
   simp
  have hcons:ops.toList.drop i=ops.toList[i]'(by simpa using hlt)::ops.toList.drop (i+1):=List.drop_eq_getElem_cons (by simpa using hlt)
  rw[hcons] at hrest
  injection hrest with ho hrest
  have ho':ops[i]? = some o:=by rw[ho];simp[hlt]
  simp only[evSeq] at h
  split at h
  ·cases h
  ·rename_i hw
   split at h
   ·rename_i hd
    obtain⟨k1,k2,k3⟩:=hN.setO hd (.tup [])
    obtain⟨r1,r2,r3⟩:=evSeq_ok hty hM hev rest (i+1) { s with σ:=s.σ.setO o.dst (.tup []) } s' hrest (by omega) k1 hm h
    refine⟨r1,r2,fun c Q hP hG hcN fin ι a w hr=>?_⟩
    rw[hc,wpOps_cons]
    unfold wpOp
    rw[ho']
    have hwant:=YS hr (ops:=ops) (o:=o) (b:=false) (by rw[← wantS_eq];exact hw)
    simp only[hwant,Bool.false_eq_true,if_false]
    refine r3 c Q hP hG hcN fin ι _ w ?_
    show Rel c (·<s.nx) ι _ w (s.σ.setO o.dst (.tup [])).get (gs s.st)
    rw[k2]
    exact hr.put undef (.tup []) (.pure _ _ (.tup #[] [] rfl (fun i hi=>absurd hi (Nat.not_lt_zero _)))) _ (by rw[hcN];exact k3)
   ·cases h
  ·rename_i hw
   obtain⟨t1,t2,t3,t4⟩:=thawN_ok (L:=needs G M o s) hN
   generalize hs2:thawN (needs G M o s) s=s2 at *
   split at h
   ·cases h
   ·rename_i r hr0
    split at h
    ·rename_i hd
     obtain⟨q1,q2,q3⟩:=evOp_ok hty hM hev (by rw[t3];exact hm) hr0
     obtain⟨k1,k2,k3⟩:=t1.setO hd r.v
     obtain⟨r1,r2,r3⟩:=evSeq_ok hty hM hev rest (i+1) ⟨r.nx,s2.σ.setO o.dst r.v,putS s2.st r.upd,r.mm⟩ s' hrest (by omega) k1 q3 h
     refine⟨r1,r2,fun c Q hP hG hcN fin ι a w hr=>?_⟩
     rw[hc,wpOps_cons]
     unfold wpOp
     rw[ho']
     have hwant:=YS hr (ops:=ops) (o:=o) (b:=true) (by rw[← wantS_eq];exact hw)
     simp only[hwant,if_true]
     left
     refine q1 c _ ι a w s2.σ.get (gs s2.st) _ _ hP hG (t4 hr) (fun x hx=>rfl) (fun n b hn=>?_) (fun n h1 _ h2=>?_) (by rw[hcN];exact k3) (fun a' w' ι' hr'=>?_)
     ·unfold resN at hn
      split at hn
      ·exact hn
      ·cases hn
     ·rw[t2] at h1
      exact Nat.not_lt.2 h1 h2
     ·refine r3 c Q hP hG hcN fin ι' a' w' ?_
      show Rel c (·<r.nx) ι' a' w' (s2.σ.setO o.dst r.v).get (gs (putS s2.st r.upd))
      rw[k2,Xq]
      refine hr'.weaken (fun _=>Le.refl _) (fun n hn=>?_)
      rcases hn with hn|hn
      ·have:n<s.nx:=hn
       have:s.nx≤r.nx:=by rw[← t2];exact q2
       show n<r.nx;omega
      ·exact hn.2
    ·cases h
end
theorem evS_ok{P:Program}{Ty:Nat→Option TyI}{G:Nat→Option (List D)}{M:Mo}(hty:TyOK P Ty)(hM:MoOK P G M)(hmx:P.follows .mixedOrders=true):∀ f,EvOK P G (evS Ty G M f)
 | 0=>fun N c s _ _=>by simp[evS,RP]
 | f+1=>by
  have ih:=evS_ok (G:=G) hty hM hmx f
  intro N c s hN hm
  cases c with
  | skip=>exact⟨hN,hm,evs_skip,fun b e=>by cases e⟩
  | label l=>exact⟨hN,hm,evs_label,fun b e=>by cases e⟩
  | ret=>exact⟨hN,hm,evs_ret,fun b e=>by cases e⟩
  | exit i=>exact⟨hN,hm,evs_exit,fun b e=>by cases e⟩
  | seq a b =>
   have h1:=ih N a s hN hm
   simp only[evS]
   cases hr:evS Ty G M f N a s with
   | nrm s' =>
    rw[hr] at h1
    have h2:=ih N b s' h1.1 h1.2.1
    simp only
    cases hr2:evS Ty G M f N b s' with
    | nrm s2=>rw[hr2] at h2;exact⟨h2.1,h2.2.1,evs_seq h1.2.2.1 h2.2.2.1,fun b e=>by cases e⟩
    | ret s2=>rw[hr2] at h2;exact⟨h2.1,h2.2.1,evs_seq h1.2.2.1 h2.2.2.1,fun b e=>by cases e⟩
    | ext i s2=>rw[hr2] at h2;exact⟨h2.1,h2.2.1,evs_seq h1.2.2.1 h2.2.2.1,fun b e=>by cases e⟩
    | bad=>trivial
   | ret s'=>rw[hr] at h1;exact⟨h1.1,h1.2.1,evs_seq1 h1.2.2.1 (by simp),fun b e=>by cases e⟩
   | ext i s'=>rw[hr] at h1;exact⟨h1.1,h1.2.1,evs_seq1 h1.2.2.1 (by simp),fun b e=>by cases e⟩
   | bad=>trivial
  | cond c x y =>
   simp only[evS]
   split
   ·rename_i b hc
    cases b with
    | true =>
     have h1:=ih N x s hN hm
     simp only[cond_true]
     cases hr:evS Ty G M f N x s with
     | nrm s'=>rw[hr] at h1;exact⟨h1.1,h1.2.1,evs_cond hc (by simpa using h1.2.2.1),fun b e=>by cases e⟩
     | ret s'=>rw[hr] at h1;exact⟨h1.1,h1.2.1,evs_cond hc (by simpa using h1.2.2.1),fun b e=>by cases e⟩
     | ext i s'=>rw[hr] at h1;exact⟨h1.1,h1.2.1,evs_cond hc (by simpa using h1.2.2.1),fun b e=>by cases e⟩
     | bad=>trivial
    | false =>
     have h1:=ih N y s hN hm
     simp only[cond_false]
     cases hr:evS Ty G M f N y s with
     | nrm s'=>rw[hr] at h1;exact⟨h1.1,h1.2.1,evs_cond hc (by simpa using h1.2.2.1),fun b e=>by cases e⟩
     | ret s'=>rw[hr] at h1;exact⟨h1.1,h1.2.1,evs_cond hc (by simpa using h1.2.2.1),fun b e=>by cases e⟩
     | ext i s'=>rw[hr] at h1;exact⟨h1.1,h1.2.1,evs_cond hc (by simpa using h1.2.2.1),fun b e=>by cases e⟩
     | bad=>trivial
   ·trivial
  | block i x =>
   have h1:=ih N x s hN hm
   simp only[evS]
   cases hr:evS Ty G M f N x s with
   | nrm s'=>rw[hr] at h1;exact⟨h1.1,h1.2.1,evs_block h1.2.2.1 (fun i=>by simp),fun b e=>by cases e⟩
   | ret s'=>rw[hr] at h1;exact⟨h1.1,h1.2.1,evs_block h1.2.2.1 (fun i=>by simp),fun b e=>by cases e⟩
   | ext j s' =>
    rw[hr] at h1
    simp only
    cases hb:Nat.beq i j with
    | true =>
     have e:=Nat.eq_of_beq_eq_true hb
     subst e
     exact⟨h1.1,h1.2.1,evs_block1 h1.2.2.1,fun b e=>by cases e⟩
    | false =>
     have e:=Nat.ne_of_beq_eq_false hb
     exact⟨h1.1,h1.2.1,evs_block2 e h1.2.2.1,fun b e=>by cases e⟩
   | bad=>trivial
  | loop x =>
   have h1:=ih N x s hN hm
   simp only[evS]
   cases hr:evS Ty G M f N x s with
   | nrm s' =>
    rw[hr] at h1
    have h2:=ih N (.loop x) s' h1.1 h1.2.1
    simp only
    have go:∀ {e s2},SP P G N (.loop x) s' e s2→SP P G N (.loop x) s e s2:=fun h=>by
     have hl:=evl_next h1.2.2.1 (h.2.2.2 x rfl)
     exact⟨h.1,h.2.1,evs_loop hl,fun b e=>by cases e;exact hl⟩
    cases hr2:evS Ty G M f N (.loop x) s' with
    | nrm s2=>rw[hr2] at h2;exact go h2
    | ret s2=>rw[hr2] at h2;exact go h2
    | ext i s2=>rw[hr2] at h2;exact go h2
    | bad=>trivial
   | ret s' =>
    rw[hr] at h1
    have hl:=evl_out h1.2.2.1 (by simp)
    exact⟨h1.1,h1.2.1,evs_loop hl,fun b e=>by cases e;exact hl⟩
   | ext i s' =>
    rw[hr] at h1
    have hl:=evl_out h1.2.2.1 (by simp)
    exact⟨h1.1,h1.2.1,evs_loop hl,fun b e=>by cases e;exact hl⟩
   | bad=>trivial
  | region id ops draw =>
   simp only[evS]
   cases draw with
   | true =>
    simp only[cond_true]
    split
    ·rename_i s' log hlog
     obtain⟨k1,k2,l,k3,k4⟩:=evOps_ok hty hM ih _ _ _ _ _ hN hm hlog
     cases hok:(fwdB ops.toList&&okLog ops.toList log.reverse) with
     | false =>
      simp only[cond_false]
      split
      ·rename_i s2 log2 sf us hS
       obtain⟨k1,k2,_,_,l,k3,k4⟩:=evOpsS_ok hty hM ih _ _ _ _ _ _ _ _ _ hN hm hS
       cases hok2:(fwdB ops.toList&&okLog ops.toList log2.reverse&&okSoft (gs s.st) sf us) with
       | false=>trivial
       | true =>
        simp only[Bool.and_eq_true] at hok2
        obtain⟨⟨o1,o2⟩,o3⟩:=hok2
        simp only[okSoft,List.all_eq_true,Bool.and_eq_true] at o3
        refine⟨k1,k2,fun B w0 O df ι0 ι a w hr=>?_,fun b e=>by cases e⟩
        refine Rr.region (c:=⟨P,G,N,B,w0,O,df,ι0⟩) rfl rfl rfl hmx (k4 (fun n b=>∀ q∈sf,q.n=n→q.ok b=true) (fun q hq b h=>h q hq rfl) (fun p hp q hq e=>?_)) ?_ (fun n q hq e=>by rw[← e];exact (o3 q hq).1) hr (fun ι a w hr=>⟨ι,rfl,hr⟩)
        ·have:=(o3 q hq).2 p hp
         rw[show Nat.beq p.1 q.n=true by rw[Nat.beq_eq];exact e.symm] at this
         exact this
        ·have:log2.reverse=l:=by rw[k3];simp
         rw[this] at o2
         simp[Ye,o1,o2]
      ·trivial
     | true =>
      refine⟨k1,k2,fun B w0 O df ι0 ι a w hr=>?_,fun b e=>by cases e⟩
      refine Rr.region (c:=⟨P,G,N,B,w0,O,df,ι0⟩) rfl rfl rfl hmx k4 ?_ (fun _=>trivial) hr (fun ι a w hr=>⟨ι,rfl,hr⟩)
      have:log.reverse=l:=by rw[k3];simp
      rw[this] at hok
      simpa[Ye] using hok
    ·trivial
   | false =>
    simp only[cond_false]
    cases ops.toList.any isComm with
    | true =>
     simp only[cond_true]
     split
     ·rename_i s' hs
      obtain⟨k1,k2,k3⟩:=evComm_ok (P:=P) (ops:=ops) hty _ 0 _ _ rfl (Nat.zero_le _) hN hs
      refine⟨k1,by rw[k2];exact hm,fun B w0 O df ι0 ι a w hr=>?_,fun b e=>by cases e⟩
      exact wp_region_to (k3 ⟨P,G,N,B,w0,O,df,ι0⟩ _ rfl rfl rfl (fun ι a w hr=>⟨ι,rfl,hr⟩) ι a w hr)
     ·trivial
    | false =>
     simp only[cond_false]
     split
     ·rename_i s' hs
      obtain⟨k1,k2,k3⟩:=evSeq_ok hty hM ih _ 0 _ _ rfl (Nat.zero_le _) hN hm hs
      refine⟨k1,k2,fun B w0 O df ι0 ι a w hr=>?_,fun b e=>by cases e⟩
      exact wp_region (k3 ⟨P,G,N,B,w0,O,df,ι0⟩ _ rfl rfl rfl (fun ι a w hr=>⟨ι,rfl,hr⟩) ι a w hr)
     ·trivial
  | _=>simp only[evS];trivial
theorem run_pure{P:Program}{Ty:Nat→Option TyI}{G:Nat→Option (List D)}{M:Mo}(hty:TyOK P Ty)(hM:MoOK P G M)(hmx:P.follows .mixedOrders=true){f k:Nat}{A:List D}{mm:List (Nat×List D×D)}{R:D}(hmm:Xc P G mm)(h:(evPure Ty M (evS Ty G M f) k A mm).map (·.1)=some R):Pure P G k A R:=by
 cases hr:evPure Ty M (evS Ty G M f) k A mm with
 | none=>rw[hr] at h;cases h
 | some p =>
  rw[hr] at h
  obtain⟨R',mm'⟩:=p
  simp only[Option.map_some,Option.some.injEq] at h
  subst h
  exact (evPure_ok hty hM (evS_ok hty hM hmx f) hmm hr).1
end
section
open Go Go.RowKit
def digB(l p q:List UInt8):Bool:=match l.drop p.length with
 | b::r=>decide (l.take p.length=p)&&(decide (r=q)&&(Nat.ble 49 b.toNat&&Nat.ble b.toNat 57))
 | []=>false
theorem digB_ok{l p q:List UInt8}(h:digB l p q=true):∃ b:UInt8,l=p++b::q∧49≤b.toNat∧b.toNat≤57:=by
 unfold digB at h
 split at h
 ·rename_i b r e
  simp only[Bool.and_eq_true,decide_eq_true_eq,Nat.ble_eq] at h
  obtain⟨h1,rfl,h3,h4⟩:=h
  exact⟨b,by rw[← e];conv=>lhs;rw[← List.take_append_drop p.length l,h1],h3,h4⟩
 ·cases h
mutual
def leD:D→D→Bool
 | _,.any=>true
 | .bool a,.bool b=>a==b
 | .int k a,.int k' b=>decide (k=k')&&decide (a=b)
 | .int k a,.rng k' lo hi=>decide (k=k')&&(decide (lo≤a)&&decide (a≤hi))
 | .rng k a c,.rng k' lo hi=>decide (k=k')&&(decide (lo≤a)&&decide (c≤hi))
 | .str a,.str b=>decide (a.data.toList=b.data.toList)
 | .str a,.strg p q=>digB a.data.toList p.data.toList q.data.toList
 | .strg a c,.strg b d=>decide (a.data.toList=b.data.toList)&&decide (c.data.toList=d.data.toList)
 | .np,.np|.nils,.nils|.nilf,.nilf|.nili,.nili|.sle,.sle=>true
 | .sl a,.sl b=>leDss a b
 | .vp a,.vp b|.agg a,.agg b|.tup a,.tup b=>leDs a b
 | .bp n o,.bp n' o'=>Nat.beq n n'&&Nat.beq o o'
 | .ap n h i o,.ap n' h' i' o'=>Nat.beq n n'&&Nat.beq h h'&&Nat.beq i i'&&Nat.beq o o'
 | .os n h i o,.os n' h' i' o'=>Nat.beq n n'&&Nat.beq h h'&&Nat.beq i i'&&Nat.beq o o'
 | .rf n a,.rf n' b=>Nat.beq n n'&&a==b
 | _,_=>false
def leDs:List D→List D→Bool
 | [],[]=>true
 | a::as,b::bs=>leD a b&&leDs as bs
 | _,_=>false
def leDss:List (List D)→List (List D)→Bool
 | [],[]=>true
 | a::as,b::bs=>leDs a b&&leDss as bs
 | _,_=>false
end
structure LeV(a b:D):Prop where
 p:∀ w F v,RepP w F v a→RepP w F v b
 r:Le a b
theorem LeV.any(a:D):LeV a .any:=⟨fun _ _ v _=>.any v,Le.any a⟩
theorem LeV.refl(a:D):LeV a a:=⟨fun _ _ _ h=>h,Le.refl a⟩
theorem LeV.flat{a b:D}(h:∀ w F v,RepP w F v a→RepP w F v b)(hc:∀ w F ι v,Rep w F ι v a→RepP w F v a):LeV a b:=⟨h,fun w F ι v hr=>.pure _ _ (h w F v (hc w F ι v hr))⟩
mutual
theorem leD_ok:∀ {a b:D},leD a b=true→LeV a b
 | a,.any,_=>LeV.any a
 | .bool a,b,h=>by cases b<;>simp[leD] at h<;>first|(subst h;exact LeV.refl _)|exact LeV.any _
 | .int k a,b,h=>by
  cases b<;>simp[leD] at h
  ·exact LeV.any _
  ·obtain⟨rfl,rfl⟩:=h;exact LeV.refl _
  ·obtain⟨rfl,h1,h2⟩:=h
   exact LeV.flat (fun w F v hr=>by cases hr;exact .rng _ _ _ _ h1 h2) (fun w F ι v hr=>by cases hr with|pure _ _ h=>exact h)
 | .rng k a c,b,h=>by
  cases b<;>simp[leD] at h
  ·exact LeV.any _
  ·obtain⟨rfl,h1,h2⟩:=h
   exact LeV.flat (fun w F v hr=>by cases hr;exact .rng _ _ _ _ (by omega) (by omega)) (fun w F ι v hr=>by cases hr with|pure _ _ h=>exact h)
 | .str a,b,h=>by
  cases b<;>simp[leD] at h
  ·exact LeV.any _
  ·rename_i c
   obtain⟨a⟩:=a
   obtain⟨c⟩:=c
   simp at h
   rw[h];exact LeV.refl _
  ·obtain⟨b,e,h1,h2⟩:=digB_ok h
   exact LeV.flat (fun w F v hr=>by cases hr;exact .strg _ _ _ b h1 h2 e) (fun w F ι v hr=>by cases hr with|pure _ _ h=>exact h)
 | .strg a c,b,h=>by
  cases b<;>simp[leD] at h
  ·exact LeV.any _
  ·rename_i b d
   obtain⟨a⟩:=a
   obtain⟨b⟩:=b
   obtain⟨c⟩:=c
   obtain⟨d⟩:=d
   simp at h
   rw[h.1,h.2];exact LeV.refl _
 | .np,b,h=>by cases b<;>simp[leD] at h<;>first|exact LeV.refl _|exact LeV.any _
 | .nils,b,h=>by cases b<;>simp[leD] at h<;>first|exact LeV.refl _|exact LeV.any _
 | .nilf,b,h=>by cases b<;>simp[leD] at h<;>first|exact LeV.refl _|exact LeV.any _
 | .nili,b,h=>by cases b<;>simp[leD] at h<;>first|exact LeV.refl _|exact LeV.any _
 | .sle,b,h=>by cases b<;>simp[leD] at h<;>first|exact LeV.refl _|exact LeV.any _
 | .sl a,b,h=>by
  cases b<;>simp[leD] at h
  ·exact LeV.any _
  ·rename_i c
   obtain⟨h1,h2⟩:=leDss_ok h
   refine LeV.flat (fun w F v hr=>?_) (fun w F ι v hr=>hr.is_sl)
   generalize hd:D.sl a=d at hr
   cases hr<;>first|(cases hd;done)|skip
   ·cases hd
    have:c=[]:=List.length_eq_zero_iff.1 (by rw[← h1];rfl)
    subst this
    exact .sl0 _ _ (by assumption)
   ·rename_i b off es cap rows vs hc hF hes hm hz hr
    cases hd
    rw[h1]
    refine .sl b off es cap c vs (by omega) hF (fun r hr'=>?_) (fun i j hi hj=>hm i j (by omega) hj) hz (fun i hi j hj=>?_)
    ·obtain⟨i,hi,rfl⟩:=List.getElem_of_mem hr'
     rw[← (h2 i (by omega) hi).1]
     exact hes _ (List.getElem_mem _)
    ·obtain⟨k1,k2⟩:=h2 i (by omega) hi
     exact (k2 j (by omega) hj).p _ _ _ (hr i (by omega) j (by omega))
 | .vp a,b,h=>by
  cases b<;>simp[leD] at h
  ·exact LeV.any _
  ·rename_i c
   obtain⟨h1,h2⟩:=leDs_ok h
   refine LeV.flat (fun w F v hr=>?_) (fun w F ι v hr=>hr.is_vp)
   cases hr with
   | vp b off row vs hF hm hz hr=>exact .vp b off c vs hF (fun j hj=>hm j (by omega)) hz (fun j hj=>(h2 j (by omega) hj).p _ _ _ (hr j (by omega)))
 | .agg a,b,h=>by
  cases b<;>simp[leD] at h
  ·exact LeV.any _
  ·rename_i c
   obtain⟨h1,h2⟩:=leDs_ok h
   have hp:∀ w F v,RepP w F v (.agg a)→RepP w F v (.agg c):=fun w F v hr=>by
    cases hr with
    | agg cs ds hl h=>exact .agg cs c (by omega) (fun i hi=>(h2 i (by omega) hi).p _ _ _ (h i (by omega)))
   refine⟨hp,fun w F ι v hr=>?_⟩
   cases hr with
   | pure _ _ h=>exact .pure _ _ (hp _ _ _ h)
   | agg cs ds hl h=>exact .agg cs c (by omega) (fun i hi=>(h2 i (by omega) hi).r _ _ _ _ (h i (by omega)))
 | .tup a,b,h=>by
  cases b<;>simp[leD] at h
  ·exact LeV.any _
  ·rename_i c
   obtain⟨h1,h2⟩:=leDs_ok h
   have hp:∀ w F v,RepP w F v (.tup a)→RepP w F v (.tup c):=fun w F v hr=>by
    cases hr with
    | tup cs ds hl h=>exact .tup cs c (by omega) (fun i hi=>(h2 i (by omega) hi).p _ _ _ (h i (by omega)))
   refine⟨hp,fun w F ι v hr=>?_⟩
   cases hr with
   | pure _ _ h=>exact .pure _ _ (hp _ _ _ h)
   | tup cs ds hl h=>exact .tup cs c (by omega) (fun i hi=>(h2 i (by omega) hi).r _ _ _ _ (h i (by omega)))
 | .bp n o,b,h=>by
  cases b<;>simp[leD] at h
  ·exact LeV.any _
  ·rw[h.1,h.2];exact LeV.refl _
 | .ap n a i o,b,h=>by
  cases b<;>simp[leD] at h
  ·exact LeV.any _
  ·rw[h.1.1.1,h.1.1.2,h.1.2,h.2];exact LeV.refl _
 | .os n a i o,b,h=>by
  cases b<;>simp[leD] at h
  ·exact LeV.any _
  ·rw[h.1.1.1,h.1.1.2,h.1.2,h.2];exact LeV.refl _
 | .rf n a,b,h=>by
  cases b<;>simp[leD] at h
  ·exact LeV.any _
  ·rw[h.1,h.2];exact LeV.refl _
 | .fn _ _ _,b,h=>by cases b<;>simp[leD] at h;exact LeV.any _
 | .ifc _ _,b,h=>by cases b<;>simp[leD] at h;exact LeV.any _
 | .any,b,h=>by cases b<;>simp[leD] at h;exact LeV.any _
theorem leDs_ok:∀ {a b:List D},leDs a b=true→a.length=b.length∧∀ i (h1:i<a.length) (h2:i<b.length),LeV a[i] b[i]
 | [],[],_=>⟨rfl,fun i h=>absurd h (Nat.not_lt_zero _)⟩
 | a::as,b::bs,h=>by
  simp only[leDs,Bool.and_eq_true] at h
  obtain⟨h1,h2⟩:=leDs_ok h.2
  refine⟨by simp[h1],fun i i1 i2=>?_⟩
  cases i with
  | zero=>exact leD_ok h.1
  | succ i=>exact h2 i (by simpa using i1) (by simpa using i2)
 | [],_::_,h=>by cases h
 | _::_,[],h=>by cases h
theorem leDss_ok:∀ {a b:List (List D)},leDss a b=true→a.length=b.length∧∀ i (h1:i<a.length) (h2:i<b.length),a[i].length=b[i].length∧∀ j (k1:j<a[i].length) (k2:j<b[i].length),LeV a[i][j] b[i][j]
 | [],[],_=>⟨rfl,fun i h=>absurd h (Nat.not_lt_zero _)⟩
 | a::as,b::bs,h=>by
  simp only[leDss,Bool.and_eq_true] at h
  obtain⟨h1,h2⟩:=leDss_ok h.2
  refine⟨by simp[h1],fun i i1 i2=>?_⟩
  cases i with
  | zero=>exact leDs_ok h.1
  | succ i=>exact h2 i (by simpa using i1) (by simpa using i2)
 | [],_::_,h=>by cases h
 | _::_,[],h=>by cases h
end
end
section
open Go Go.RowKit
def Cases(a:D)(as:List D):Prop:=∀ w F v,RepP w F v a→∃ a'∈as,RepP w F v a'
theorem cases_nil:Cases (.sl []) [.nils,.sle]:=by
 intro w F v h
 generalize hd:D.sl []=d at h
 cases h<;>first|(cases hd;done)|skip
 ·rename_i a cap h0
  cases a with
  | none=>exact⟨.nils,by simp,by rw[h0 rfl];exact .nils⟩
  | some a=>exact⟨.sle,by simp,.sle _ _⟩
 ·injection hd with hd
  subst hd
  exact⟨.sle,by simp,.sle _ _⟩
theorem nils_le{w:World}{F:Nat→Prop}{v:Value}(h:RepP w F v .nils):RepP w F v (.sl []):=by cases h;exact .sl0 _ _ (fun _=>rfl)
theorem sle_le{w:World}{F:Nat→Prop}{v:Value}(h:RepP w F v .sle):RepP w F v (.sl []):=by cases h;exact .sl0 _ _ (fun h=>by cases h)
theorem pure_nil{P:Program}{G:Nat→Option (List D)}{k:Nat}(hb:HasBody P k)(h1:Pure P G k [.nils] .nils)(h2:Pure P G k [.sle] .sle):Pure P G k [.sl []] (.sl []):=by
  refine⟨hb,fun w F vs hs hr hG hF=>?_⟩
  have h0:=hr 0 (by simp)
  obtain⟨a',m,ha'⟩:=cases_nil w F _ h0
  simp only[List.mem_cons,List.not_mem_nil,or_false] at m
  rcases m with rfl|rfl
  · refine (h1.calls w F vs hs (fun i hi => by have : i = 0 := by simpa using hi
                                               subst this;exact ha') hG hF).mono ?_
    rintro e w' ⟨v,rfl,hbl,hv⟩
    exact⟨v,rfl,hbl,nils_le hv⟩
  · refine (h2.calls w F vs hs (fun i hi => by have : i = 0 := by simpa using hi
                                               subst this;exact ha') hG hF).mono ?_
    rintro e w' ⟨v,rfl,hbl,hv⟩
    exact⟨v,rfl,hbl,sle_le hv⟩
end
end Go.Proofs.YtjdgofpcmcobnaaGreatDoor.AL

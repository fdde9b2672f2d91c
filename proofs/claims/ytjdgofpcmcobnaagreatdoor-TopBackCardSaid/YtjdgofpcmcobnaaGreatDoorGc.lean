/-
  Code on data; further operations.
-/
import Derived.Test.YtjdgofpcmcobnaaGreatDoorGb
import Derived.Laws.BytesString
set_option maxRecDepth 100000
set_option maxHeartbeats 2000000
set_option linter.unusedVariables false
set_option linter.unusedSimpArgs false
namespace Go.Proofs.YtjdgofpcmcobnaaGreatDoor.AL
section
open Go Go.RowKit
def DoR(P:Program)(G:Nat→Option (List D))(o:Oper)(ρ:Operand→D)(g:Nat→Option Blk)(lo hi:Nat)(v:D)(upd:List (Nat×Option Blk)):Prop :=
 ∀ c dom ι a w σ st (K:Act→World→Prop) Q,c.P=P→c.G=G→Rel c dom ι a w σ st→(∀ x,x∈o.op.operands→opD G σ x=ρ x)→(∀ n b,g n=some b→st n=some b)→(∀ n,lo≤n→n<hi→¬ dom n)→(∀ t,o.dst=some t→t<c.N) →
  (∀ a' w' ι',Rel c (fun n=>dom n∨(lo≤n∧n<hi)) ι' a' w' (setO σ o.dst v) (updL st upd)→K a' w')→o.wp P a w K Q
theorem Do.toR{P:Program}{G:Nat→Option (List D)}{o:Oper}{ρ:Operand→D}{g:Nat→Option Blk}{lo hi:Nat}{v:D}{upd:List (Nat×Option Blk)}(h:Do P G o ρ g lo v upd)(hlt:lo<hi):DoR P G o ρ g lo hi v upd:=by
 intro c dom ι a w σ st K Q hP hG hr hρ hg hnm hd hK
 exact h c dom ι a w σ st K Q hP hG hr hρ hg (hnm lo (Nat.le_refl _) hlt) hd (fun a' w' ι' hr'=>hK a' w' ι' (hr'.weaken (fun _=>Le.refl _) (fun n hn=>hn.elim .inl (fun e=>.inr ⟨by omega,by omega⟩))))
def DoV(P:Program)(G:Nat→Option (List D))(o:Oper)(ρ:Operand→D)(R:(Nat→Option Blk)→Prop)(lo hi:Nat)(v:D)(upd:List (Nat×Option Blk)):Prop :=
 ∀ c dom ι a w σ st (K:Act→World→Prop) Q,c.P=P→c.G=G→Rel c dom ι a w σ st→(∀ x,x∈o.op.operands→opD G σ x=ρ x)→R st→(∀ n,lo≤n→n<hi→¬ dom n)→(∀ t,o.dst=some t→t<c.N) →
  (∀ a' w' ι',Rel c (fun n=>dom n∨(lo≤n∧n<hi)) ι' a' w' (setO σ o.dst v) (updL st upd)→K a' w')→o.wp P a w K Q
theorem DoR.toV{P:Program}{G:Nat→Option (List D)}{o:Oper}{ρ:Operand→D}{g:Nat→Option Blk}{lo hi:Nat}{v:D}{upd:List (Nat×Option Blk)}(h:DoR P G o ρ g lo hi v upd){R:(Nat→Option Blk)→Prop}(hR:∀ st,R st→∀ n b,g n=some b→st n=some b):DoV P G o ρ R lo hi v upd :=
 fun c dom ι a w σ st K Q h1 h2 h3 h4 h5=>h c dom ι a w σ st K Q h1 h2 h3 h4 (hR st h5)
def SeesV(V:Nat→Option Blk→Prop)(g st:Nat→Option Blk):Prop:=(∀ n b,g n=some b→st n=some b)∧∀ n,V n (st n)
section
variable (P:Program) (G:Nat→Option (List D)) (N:Nat) (ops:List Oper) (V:Nat→Option Blk→Prop)
inductive RWr:List Oper→Nat→(Nat→D)→(Nat→Option Blk)→List LogE→Nat→(Nat→D)→(Nat→Option Blk)→Prop
 | nil (lo s m):RWr [] lo s m [] lo s m
 | skip (o rest lo s m log lo' s' m') (hw:Z0 ops s o=some false) (hd:∀ t,o.dst=some t→t<N) (h:RWr rest lo (setO s o.dst (.tup [])) m log lo' s' m'):RWr (o::rest) lo s m (⟨ZP ops o,[],o.dst,[]⟩::log) lo' s' m'
 | step (o rest lo s m log lo1 lo' s' m') (L:List Nat) (v:D) (upd:List (Nat×Option Blk)) (hw:Z0 ops s o=some true) (hd:∀ t,o.dst=some t→t<N) (hlo:lo≤lo1) (hdo:DoV P G o (opD G s) (SeesV V (resN L m)) lo lo1 v upd) (hV:∀ p∈upd,V p.1 p.2)
   (h:RWr rest lo1 (setO s o.dst v) (updL m upd) log lo' s' m'):RWr (o::rest) lo s m (⟨ZP ops o,L,o.dst,upd.map (·.1)⟩::log) lo' s' m'
end
namespace Rr
section
variable {P:Program} {G:Nat→Option (List D)} {N:Nat} {ops:List Oper} {V:Nat→Option Blk→Prop}
def TrStep(P:Program)(G:Nat→Option (List D))(N:Nat)(ops:List Oper)(V:Nat→Option Blk→Prop)(lo hi:Nat)(o:Oper)(s s':Nat→D)(m m':Nat→Option Blk)(E:LogE):Prop :=
  (∀ t,o.dst=some t→t<N)∧lo≤hi ∧
  ((Z0 ops s o=some false∧s'=setO s o.dst (.tup [])∧m'=m∧E=⟨ZP ops o,[],o.dst,[]⟩) ∨
   (Z0 ops s o=some true∧∃ L v upd,DoV P G o (opD G s) (SeesV V (resN L m)) lo hi v upd∧(∀ p∈upd,V p.1 p.2)∧s'=setO s o.dst v∧m'=updL m upd∧E=⟨ZP ops o,L,o.dst,upd.map (·.1)⟩))
theorem trace{rops:List Oper}{lo lo':Nat}{s0 s1:Nat→D}{m0 m1:Nat→Option Blk}{log:List LogE}(h:RWr P G N ops V rops lo s0 m0 log lo' s1 m1) :
  ∃ (s:Nat→Nat→D) (m:Nat→Nat→Option Blk) (L:Nat→Nat),s 0=s0∧m 0=m0∧L 0=lo∧s rops.length=s1∧m rops.length=m1∧L rops.length=lo'∧log.length=rops.length∧∀ k o,rops[k]? = some o→∃ E,log[k]? = some E∧TrStep P G N ops V (L k) (L (k+1)) o (s k) (s (k+1)) (m k) (m (k+1)) E:=by
 induction h with
 | nil lo s m=>exact⟨fun _=>s,fun _=>m,fun _=>lo,rfl,rfl,rfl,rfl,rfl,rfl,rfl,fun k o h=>by simp at h⟩
 | skip o rest lo s0 m0 log lo' s' m' hw hd h ih =>
  obtain⟨s,m,L,h1,h2,h3,h4,h5,h6,h7,h8⟩:=ih
  refine⟨fun k=>match k with|0=>s0|k+1=>s k,fun k=>match k with|0=>m0|k+1=>m k,fun k=>match k with|0=>lo|k+1=>L k,rfl,rfl,rfl,h4,h5,h6,by simp[h7],fun k o' hk=>?_⟩
  cases k with
  | zero =>
   simp only[List.getElem?_cons_zero,Option.some.injEq] at hk
   subst hk
   exact⟨_,rfl,hd,by show lo≤L 0;omega,.inl ⟨hw,h1,h2,rfl⟩⟩
  | succ k =>
   obtain⟨E,e1,e2⟩:=h8 k o' (by simpa using hk)
   exact⟨E,by simpa using e1,e2⟩
 | step o rest lo s0 m0 log lo1 lo' s' m' L' v upd hw hd hlo hdo hV h ih =>
  obtain⟨s,m,L,h1,h2,h3,h4,h5,h6,h7,h8⟩:=ih
  refine⟨fun k=>match k with|0=>s0|k+1=>s k,fun k=>match k with|0=>m0|k+1=>m k,fun k=>match k with|0=>lo|k+1=>L k,rfl,rfl,rfl,h4,h5,h6,by simp[h7],fun k o' hk=>?_⟩
  cases k with
  | zero =>
   simp only[List.getElem?_cons_zero,Option.some.injEq] at hk
   subst hk
   exact⟨_,rfl,hd,by show lo≤L 0;omega,.inr ⟨hw,L',v,upd,by show DoV P G _ _ _ lo (L 0) v upd;rw[h3];exact hdo,hV,h1,h2,rfl⟩⟩
  | succ k =>
   obtain⟨E,e1,e2⟩:=h8 k o' (by simpa using hk)
   exact⟨E,by simpa using e1,e2⟩
end
section
variable {P:Program} {G:Nat→Option (List D)} {N:Nat} {ops:List Oper} {V:Nat→Option Blk→Prop} {L:Nat→Nat} {s:Nat→Nat→D} {m:Nat→Nat→Option Blk} {E:Nat→LogE}
structure Run(P:Program)(G:Nat→Option (List D))(N:Nat)(ops:List Oper)(V:Nat→Option Blk→Prop)(L:Nat→Nat)(s:Nat→Nat→D)(m:Nat→Nat→Option Blk)(E:Nat→LogE):Prop where
 v0:∀ n,V n (m 0 n)
 st:∀ k o,ops[k]? = some o→TrStep P G N ops V (L k) (L (k+1)) o (s k) (s (k+1)) (m k) (m (k+1)) (E k)
theorem Run.mono(h:Run P G N ops V L s m E){i j:Nat}(hij:i≤j)(hj:j≤ops.length):L i≤L j:=by
  induction j with
  | zero => have : i = 0 := by omega
            subst this;exact Nat.le_refl _
  | succ j ih =>
    by_cases e:i=j+1
    · subst e;exact Nat.le_refl _
    · have h1:=ih (by omega) (by omega)
      have ho:ops[j]? = some ops[j]:=by simp[show j<ops.length by omega]
      exact Nat.le_trans h1 (h.st j _ ho).2.1
theorem Run.vAll(h:Run P G N ops V L s m E):∀ k,k≤ops.length→∀ n,V n (m k n)
 | 0,_,n=>h.v0 n
 | k+1,hk,n=>by
  have ih:=Run.vAll h k (by omega)
  have ho:ops[k]? = some ops[k]:=by simp[show k<ops.length by omega]
  rcases (h.st k _ ho).2.2 with⟨_,_,e,_⟩|⟨_,L,v,upd,_,hV,_,e,_⟩
  ·rw[e];exact ih n
  ·rw[e]
   by_cases hn:n∈upd.map (·.1)
   ·obtain⟨ob,h1,h2⟩:=updL_mem (st:=m k) hn
    rw[h2];exact hV _ h1
   ·rw[Yo hn];exact ih n
theorem Run.vD(h:Run P G N ops V L s m E)(dn:Nat→Bool)(n:Nat):V n (mD ops m E dn n):=by
 unfold mD
 refine h.vAll _ ?_ n
 have key:∀ (p:Nat→Bool) k,ZU p k≤k:=by
  intro p k
  induction k with
  | zero=>exact Nat.le_refl _
  | succ k ih=>unfold ZU;split<;>omega
 exact key _ _
theorem Run.ws(h:Run P G N ops V L s m E){k:Nat}{o:Oper}(hk:ops[k]? = some o):(E k).ws=o.dst:=by
 rcases (h.st k o hk).2.2 with⟨_,_,_,e⟩|⟨_,L,v,upd,_,_,_,_,e⟩<;>rw[e]
theorem Run.s_step(h:Run P G N ops V L s m E){k:Nat}(hk:k<ops.length){t:Nat}(hw:wsB E t k=false):s (k+1) t=s k t:=by
 have ho:ops[k]? = some ops[k]:=by simp[hk]
 have hws:=h.ws ho
 unfold wsB at hw
 rw[hws] at hw
 have key:∀ v,setO (s k) ops[k].dst v t=s k t:=by
  intro v
  cases hd:ops[k].dst with
  | none=>rfl
  | some d =>
   rw[hd] at hw
   have:t≠d:=fun e=>by subst e;simp at hw
   simp[setO,this]
 rcases (h.st k _ ho).2.2 with⟨_,e,_,_⟩|⟨_,L,v,upd,_,_,e,_,_⟩<;>rw[e]<;>exact key _
theorem Run.m_step(h:Run P G N ops V L s m E){k:Nat}(hk:k<ops.length){n:Nat}(hw:wnB E n k=false):m (k+1) n=m k n:=by
 have ho:ops[k]? = some ops[k]:=by simp[hk]
 rcases (h.st k _ ho).2.2 with⟨_,_,e,e2⟩|⟨_,L,v,upd,_,_,_,e,e2⟩
 ·rw[e]
 ·rw[e]
  unfold wnB at hw
  rw[e2] at hw
  exact Yo (by simpa using hw)
theorem Run.s_last(h:Run P G N ops V L s m E)(t:Nat):∀ k,k≤ops.length→s k t=s (ZU (wsB E t) k) t
 | 0,_=>rfl
 | k+1,hk=>by
  by_cases hw:wsB E t k=true
  ·simp[ZU,hw]
  ·have hw':wsB E t k=false:=by simpa using hw
   rw[h.s_step (by omega) hw',h.s_last t k (by omega)]
   simp[ZU,hw']
theorem Run.m_last(h:Run P G N ops V L s m E)(n:Nat):∀ k,k≤ops.length→m k n=m (ZU (wnB E n) k) n
 | 0,_=>rfl
 | k+1,hk=>by
  by_cases hw:wnB E n k=true
  ·simp[ZU,hw]
  ·have hw':wnB E n k=false:=by simpa using hw
   rw[h.m_step (by omega) hw',h.m_last n k (by omega)]
   simp[ZU,hw']
section
variable {P:Program} {G:Nat→Option (List D)} {N:Nat} {ops:List Oper} {V:Nat→Option Blk→Prop} {L:Nat→Nat} {s:Nat→Nat→D} {m:Nat→Nat→Option Blk} {E:Nat→LogE}
theorem sD_ready(h:Run P G N ops V L s m E)(hO:Y4 ops E){dn:Nat→Bool}(hc:Closed ops dn){i:Nat}{o:Oper}(ho:ops[i]? = some o)(hi:dn i=false)(hr:∀ e∈ZE o,dn e=true){t:Nat}(ht:t∈(E i).rs∨(E i).ws=some t):sD ops s E dn t=s i t:=by
 have hil:=(List.getElem?_eq_some_iff.1 ho).1
 obtain⟨r1,r2⟩:=Ys hO hc ho hi hr
 have e1:ZU (fun j=>dn j&&wsB E t j) ops.length=ZU (wsB E t) i:=by
  rw[lastF_skip (i:=i) (by omega) (fun j h1 h2=>?_)]
  ·refine ZW (fun j hj=>?_)
   cases hw:wsB E t j with
   | false=>simp
   | true =>
    have hm:Yr (E j) (E i)=true:=by
     have hw':(E j).ws=some t:=by simpa[wsB] using hw
     unfold Yr
     rw[hw']
     rcases ht with ht|ht
     ·simp[ht]
     ·simp[ht]
    simp[r1 j hj hm]
  ·by_cases e:j=i
   ·subst e;simp[hi]
   ·cases hw:wsB E t j with
    | false=>simp
    | true =>
     have hm:Yr (E i) (E j)=true:=by
      have hw':(E j).ws=some t:=by simpa[wsB] using hw
      unfold Yr
      rcases ht with ht|ht
      ·rw[hw'];simp[ht]
      ·rw[hw',ht];simp
     simp[r2 j (by omega) h2 hm]
 unfold sD
 rw[e1,← h.s_last t i (by omega)]
theorem mD_ready(h:Run P G N ops V L s m E)(hO:Y4 ops E){dn:Nat→Bool}(hc:Closed ops dn){i:Nat}{o:Oper}(ho:ops[i]? = some o)(hi:dn i=false)(hr:∀ e∈ZE o,dn e=true){n:Nat}(ht:n∈(E i).L∨n∈(E i).wn):mD ops m E dn n=m i n:=by
 have hil:=(List.getElem?_eq_some_iff.1 ho).1
 obtain⟨r1,r2⟩:=Ys hO hc ho hi hr
 have e1:ZU (fun j=>dn j&&wnB E n j) ops.length=ZU (wnB E n) i:=by
  rw[lastF_skip (i:=i) (by omega) (fun j h1 h2=>?_)]
  ·refine ZW (fun j hj=>?_)
   cases hw:wnB E n j with
   | false=>simp
   | true =>
    have hm:Yr (E j) (E i)=true:=by
     have hw':n∈(E j).wn:=by simpa[wnB] using hw
     unfold Yr
     simp only[Bool.or_eq_true,List.any_eq_true]
     refine .inl (.inr ⟨n,hw',?_⟩)
     rcases ht with ht|ht<;>simp[ht]
    simp[r1 j hj hm]
  ·by_cases e:j=i
   ·subst e;simp[hi]
   ·cases hw:wnB E n j with
    | false=>simp
    | true =>
     have hm:Yr (E i) (E j)=true:=by
      have hw':n∈(E j).wn:=by simpa[wnB] using hw
      unfold Yr
      simp only[Bool.or_eq_true,List.any_eq_true]
      rcases ht with ht|ht
      ·exact .inr ⟨n,hw',by simpa using ht⟩
      ·exact .inl (.inr ⟨n,ht,by simp[hw']⟩)
     simp[r2 j (by omega) h2 hm]
 unfold mD
 rw[e1,← h.m_last n i (by omega)]
theorem sD_next(h:Run P G N ops V L s m E)(hO:Y4 ops E){dn:Nat→Bool}(hc:Closed ops dn){i:Nat}{o:Oper}(ho:ops[i]? = some o)(hi:dn i=false)(hr:∀ e∈ZE o,dn e=true)(v:D)(hv:s (i+1)=setO (s i) o.dst v) :
  setO (sD ops s E dn) o.dst v=sD ops s E (Ya dn i):=by
 have hil:=(List.getElem?_eq_some_iff.1 ho).1
 obtain⟨r1,r2⟩:=Ys hO hc ho hi hr
 have hws:=h.ws ho
 have other:∀ t,o.dst≠some t→sD ops s E (Ya dn i) t=sD ops s E dn t:=by
  intro t ht
  unfold sD
  rw[ZW (fun j hj=>?_)]
  unfold Ya
  by_cases e:j=i
  ·subst e
   have:wsB E t j=false:=by unfold wsB;rw[hws];simpa using ht
   simp[this]
  ·simp[e]
 cases hd:o.dst with
 | none =>
  funext t
  rw[other t (by rw[hd];simp)]
  rfl
 | some d =>
  funext t
  by_cases ht:t=d
  ·subst ht
   have hw:wsB E t i=true:=by unfold wsB;rw[hws,hd];simp
   have:ZU (fun j=>Ya dn i j&&wsB E t j) ops.length=i+1:=by
    refine lastF_at hil (by simp[Ya,hw]) (fun j h1 h2=>?_)
    cases hw2:wsB E t j with
    | false=>simp
    | true =>
     have hm:Yr (E i) (E j)=true:=by
      have hw':(E j).ws=some t:=by simpa[wsB] using hw2
      unfold Yr
      rw[hws,hd,hw']
      simp
     simp[Ya,r2 j h1 h2 hm,show j≠i by omega]
   unfold sD
   rw[this,hv,hd]
   simp[setO]
  ·rw[other t (by rw[hd];simpa using fun e=>ht e.symm)]
   simp[setO,ht]
theorem mD_next(_h:Run P G N ops V L s m E)(hO:Y4 ops E){dn:Nat→Bool}(hc:Closed ops dn){i:Nat}{o:Oper}(ho:ops[i]? = some o)(hi:dn i=false)(hr:∀ e∈ZE o,dn e=true)(upd:List (Nat×Option Blk))(hE:(E i).wn=upd.map (·.1))(hv:m (i+1)=updL (m i) upd) :
  updL (mD ops m E dn) upd=mD ops m E (Ya dn i):=by
 have hil:=(List.getElem?_eq_some_iff.1 ho).1
 obtain⟨r1,r2⟩:=Ys hO hc ho hi hr
 funext n
 by_cases hn:n∈upd.map (·.1)
 ·rw[updL_in (g':=m i) hn]
  have hw:wnB E n i=true:=by unfold wnB;rw[hE];simpa using hn
  have:ZU (fun j=>Ya dn i j&&wnB E n j) ops.length=i+1:=by
   refine lastF_at hil (by simp[Ya,hw]) (fun j h1 h2=>?_)
   cases hw2:wnB E n j with
   | false=>simp
   | true =>
    have hm:Yr (E i) (E j)=true:=by
     have hw':n∈(E j).wn:=by simpa[wnB] using hw2
     unfold Yr
     simp only[Bool.or_eq_true,List.any_eq_true]
     exact .inl (.inr ⟨n,by rw[hE];exact hn,by simp[hw']⟩)
    simp[Ya,r2 j h1 h2 hm,show j≠i by omega]
  unfold mD
  rw[this,hv]
 ·rw[Yo hn]
  unfold mD
  rw[ZW (fun j hj=>?_)]
  unfold Ya
  by_cases e:j=i
  ·subst e
   have:wnB E n j=false:=by unfold wnB;rw[hE];simpa using hn
   simp[this]
  ·simp[e]
end
end
section
variable {P:Program} {G:Nat→Option (List D)} {N:Nat} {ops:Array Oper} {V:Nat→Option Blk→Prop} {L:Nat→Nat} {s:Nat→Nat→D} {m:Nat→Nat→Option Blk} {E:Nat→LogE}
theorem al_any{c:Ctx}(hP:c.P=P)(hG:c.G=G)(hN:c.N=N)(h:Run P G N ops.toList V L s m E)(hO:Y4 ops.toList E)(hfwd:∀ i o,ops[i]? = some o→∀ e∈ZE o,e<i){Q:Exit→Act→World→Prop}
  (fin:∀ ι a w,Rel c (·<L ops.size) ι a w (s ops.size) (m ops.size)→Q .normal a w) :
  ∀ (fuel:Nat) (listed:Array Bool) (ι:Nat→Option IB) (a:Act) (w:World),listed.size=ops.size→unl' listed=fuel→Closed ops.toList (fun j=>listed.getD j false) →
   Rel c (fun n=>n<L 0∨∃ j,listed.getD j false=true∧L j≤n∧n<L (j+1)) ι a w (sD ops.toList s E (fun j=>listed.getD j false)) (mD ops.toList m E (fun j=>listed.getD j false))→wpAny P .any ops Q fuel listed a w:=by
 have hlen:ops.toList.length=ops.size:=by simp
 have finish:∀ (listed:Array Bool) ι a w,listed.size=ops.size→unl' listed=0→Rel c (fun n=>n<L 0∨∃ j,listed.getD j false=true∧L j≤n∧n<L (j+1)) ι a w (sD ops.toList s E (fun j=>listed.getD j false)) (mD ops.toList m E (fun j=>listed.getD j false))→Q .normal a w:=by
  intro listed ι a w hl h0 hr
  have hall:∀ j,j<ops.size→listed.getD j false=true:=by
   intro j hj
   have hj':j<listed.size:=by omega
   unfold unl' at h0
   have:=List.countP_eq_zero.1 h0 (listed[j]) (by simp)
   simpa[hj'] using this
  have e1:sD ops.toList s E (fun j=>listed.getD j false)=s ops.size:=by
   funext t
   unfold sD
   rw[hlen,ZW (q:=wsB E t) (fun j hj=>by show (listed.getD j false&&_)=_;rw[hall j hj,Bool.true_and])]
   rw[h.s_last t ops.size (by omega)]
  have e2:mD ops.toList m E (fun j=>listed.getD j false)=m ops.size:=by
   funext n
   unfold mD
   rw[hlen,ZW (q:=wnB E n) (fun j hj=>by show (listed.getD j false&&_)=_;rw[hall j hj,Bool.true_and])]
   rw[h.m_last n ops.size (by omega)]
  rw[e1,e2] at hr
  refine fin ι a w (hr.weaken (fun _=>Le.refl _) (fun n hn=>?_))
  rcases hn with hn|⟨j,hj,hj1,hj2⟩
  ·show n<L ops.size;exact Nat.lt_of_lt_of_le hn (h.mono (Nat.zero_le _) (by simp))
  ·have:j<listed.size:=by
    rcases Nat.lt_or_ge j listed.size with h|h
    ·exact h
    ·simp[Array.getElem?_eq_none h] at hj
   show n<L ops.size;exact Nat.lt_of_lt_of_le hj2 (h.mono (by omega) (by simp))
 intro fuel
 induction fuel with
 | zero =>
  intro listed ι a w hl hu hc hr
  refine⟨List.eq_nil_iff_forall_not_mem.2 (fun j hj=>?_),finish listed ι a w hl hu hr⟩
  obtain⟨h1,o,h2,h3⟩:=mem_ready'.1 hj
  have hjl:j<listed.size:=by rw[hl];exact (Array.getElem?_eq_some_iff.1 h2).1
  unfold unl' at hu
  have:=List.countP_eq_zero.1 hu (listed[j]) (by simp)
  simp[hjl] at h1 this
  rw[h1] at this;cases this
 | succ fuel ih =>
  intro listed ι a w hl hu hc hr
  have hready:Region.ready .any ops listed≠[]:=by
   intro h0
   have key:∀ k,k<ops.size→listed.getD k true=false→False:=by
    intro k
    induction k using Nat.strongRecOn with
    | _ k ihk =>
     intro hk hun
     have ho:ops[k]? = some ops[k]:=by simp[hk]
     by_cases ha:∀ e∈ZE ops[k],listed.getD e false=true
     ·have:k∈Region.ready .any ops listed:=mem_ready'.2 ⟨hun,_,ho,ha⟩
      rw[h0] at this;cases this
     ·have:∃ e∈ZE ops[k],listed.getD e false≠true:=Classical.byContradiction fun hc=>ha fun e he=>Classical.byContradiction fun hn=>hc ⟨e,he,hn⟩
      obtain⟨e,he,hne⟩:=this
      have hlt:=hfwd k _ ho e he
      refine ihk e hlt (by omega) ?_
      have hin:e<listed.size:=by omega
      simp[hin] at hne ⊢
      exact hne
   have hz:unl' listed=0:=by
    unfold unl'
    rw[List.countP_eq_zero]
    intro b hb
    obtain⟨j,hj,rfl⟩:=List.getElem_of_mem hb
    have hjl:j<listed.size:=by simpa using hj
    have:¬ listed.getD j true=false:=fun h=>key j (by omega) h
    simp[hjl] at this ⊢
    exact this
   omega
  refine⟨fun h0=>absurd h0 hready,fun i hi=>?_⟩
  obtain⟨hun,o,ho,hal⟩:=mem_ready'.1 hi
  have hil:i<ops.size:=(Array.getElem?_eq_some_iff.1 ho).1
  have hill:i<listed.size:=by omega
  have ho':ops.toList[i]? = some o:=by simpa using ho
  have hi0:listed.getD i false=false:=by simp[hill] at hun ⊢;exact hun
  have hdn:∀ j,(listed.setIfInBounds i true).getD j false=Ya (fun j=>listed.getD j false) i j:=by
   intro j
   unfold Ya
   by_cases e:j=i
   ·subst e;simp[hill]
   ·simp[Ne.symm e,e]
  have hdnf:(fun j=>(listed.setIfInBounds i true).getD j false)=Ya (fun j=>listed.getD j false) i:=funext hdn
  have hc':Closed ops.toList (fun j=>(listed.setIfInBounds i true).getD j false):=by
   intro j oj hj hd e he
   have hd:(listed.setIfInBounds i true).getD j false=true:=hd
   show (listed.setIfInBounds i true).getD e false=true
   rw[hdn] at hd ⊢
   unfold Ya at hd ⊢
   by_cases hji:j=i
   ·subst hji
    obtain rfl:oj=o:=Option.some.inj (hj.symm.trans ho')
    simp[hal e he]
   ·have:listed.getD j false=true:=by simpa[hji] using hd
    simp[hc j oj hj this e he]
  have hu':unl' (listed.setIfInBounds i true)=fuel:=by have:=unl'_set hun;omega
  obtain⟨hN',hLi,hstep⟩:=h.st i o ho'
  have hsame:∀ t,t∈(E i).rs→sD ops.toList s E (fun j=>listed.getD j false) t=s i t:=fun t ht=>sD_ready h hO hc ho' hi0 hal (.inl ht)
  have next:∀ (ι':Nat→Option IB) (a':Act) (w':World) (v:D) (upd:List (Nat×Option Blk)),(E i).wn=upd.map (·.1)→s (i+1)=setO (s i) o.dst v→m (i+1)=updL (m i) upd →
    Rel c (fun n=>(n<L 0∨∃ j,listed.getD j false=true∧L j≤n∧n<L (j+1))∨(L i≤n∧n<L (i+1))) ι' a' w' (setO (sD ops.toList s E (fun j=>listed.getD j false)) o.dst v) (updL (mD ops.toList m E (fun j=>listed.getD j false)) upd) →
    wpAny P .any ops Q fuel (listed.setIfInBounds i true) a' w':=by
   intro ι' a' w' v upd hE hs hm hr'
   refine ih _ ι' a' w' (by simpa using hl) hu' hc' ?_
   rw[hdnf,← sD_next h hO hc ho' hi0 hal v hs,← mD_next h hO hc ho' hi0 hal upd hE hm]
   refine hr'.weaken (fun _=>Le.refl _) (fun n hn=>?_)
   rcases hn with (hn|⟨j,hj,hj2⟩)|hn
   ·exact .inl hn
   ·exact .inr ⟨j,(hdn j).trans (by unfold Ya;simp only[hj,Bool.true_or]),hj2⟩
   ·exact .inr ⟨i,(hdn i).trans (by simp[Ya]),hn⟩
  unfold wpOp
  rw[ho]
  rcases hstep with⟨hw,hs,hm,hE⟩|⟨hw,L1,v,upd,hdo,hV,hs,hm,hE⟩
  ·have hw':Z0 ops.toList (sD ops.toList s E (fun j=>listed.getD j false)) o=some false:=by
    rw[← hw]
    unfold Z0
    cases hg:o.guard with
    | none=>rfl
    | some p =>
     obtain⟨j,want⟩:=p
     simp only
     cases hd:(ops.toList[j]?).bind (·.dst) with
     | none=>rfl
     | some d =>
      simp only
      rw[hsame d (by rw[hE];unfold ZP;simp only[hg,hd];simp)]
   have hwant:=YS hr hw'
   simp only[hwant,Bool.false_eq_true,if_false]
   refine next ι _ w (.tup []) [] (by rw[hE];rfl) hs (by rw[hm];rfl) ?_
   refine (hr.put undef (.tup []) (.pure _ _ (.tup #[] [] rfl (fun i hi=>absurd hi (Nat.not_lt_zero _)))) o.dst (by rw[hN];exact hN')).weaken (fun _=>Le.refl _) (fun n hn=>.inl hn)
  ·have hw':Z0 ops.toList (sD ops.toList s E (fun j=>listed.getD j false)) o=some true:=by
    rw[← hw]
    unfold Z0
    cases hg:o.guard with
    | none=>rfl
    | some p =>
     obtain⟨j,want⟩:=p
     simp only
     cases hd:(ops.toList[j]?).bind (·.dst) with
     | none=>rfl
     | some d =>
      simp only
      rw[hsame d (by rw[hE];unfold ZP;simp only[hg,hd];simp)]
   have hwant:=YS hr hw'
   simp only[hwant,if_true]
   left
   refine hdo c _ ι a w _ _ _ _ hP hG hr (fun x hx=>opD_congr (fun t ht=>hsame t (by rw[hE];exact slot_mem hx ht))) ⟨fun n b hn=>?_,fun n=>h.vD _ n⟩ ?_ (by rw[hN];exact hN') (fun a' w' ι' hr'=>next ι' a' w' v upd (by rw[hE]) hs hm hr')
   ·unfold resN at hn
    by_cases hL:L1.contains n=true
    ·rw[if_pos hL] at hn
     rw[mD_ready h hO hc ho' hi0 hal (.inl (by rw[hE];simpa using hL))]
     exact hn
    ·rw[if_neg hL] at hn;cases hn
   ·rintro n hn1 hn2 (h1|⟨j,hj,h1,h2⟩)
    ·have:=h.mono (Nat.zero_le i) (by simp;omega);omega
    ·have hjl:j<ops.size:=by
      rcases Nat.lt_or_ge j ops.size with h'|h'
      ·exact h'
      ·simp[Array.getElem?_eq_none (show listed.size≤j by omega)] at hj
     rcases Nat.lt_trichotomy j i with e|e|e
     ·have:=h.mono (show j+1≤i by omega) (by simp;omega);omega
     ·subst e;rw[hi0] at hj;cases hj
     ·have:=h.mono (show i+1≤j by omega) (by simp;omega);omega
theorem lex_ok{c:Ctx}(hP:c.P=P)(hG:c.G=G)(hN:c.N=N){ops:Array Oper}{s:Nat→Nat→D}{m:Nat→Nat→Option Blk}{E:Nat→LogE}(h:Run P G N ops.toList V L s m E){Q:Exit→Act→World→Prop}
  (fin:∀ ι a w,Rel c (·<L ops.size) ι a w (s ops.size) (m ops.size)→Q .normal a w) :
  ∀ (l:List Nat) (i:Nat),l=(List.range ops.size).drop i→i≤ops.size→∀ ι a w,Rel c (·<L i) ι a w (s i) (m i)→wpOps P ops Q l a w
 | [],i,hl,hi,ι,a,w,hr=>by
  have:i=ops.size:=by
   have:=congrArg List.length hl
   simp at this;omega
  subst this
  exact fin ι a w hr
 | j::l,i,hl,hi,ι,a,w,hr=>by
  have hlt:i<ops.size:=by
   have:=congrArg List.length hl
   simp at this;omega
  have hc:(List.range ops.size).drop i=i::(List.range ops.size).drop (i+1):=by
   rw[List.drop_eq_getElem_cons (by simpa using hlt)]
   simp
  rw[hc] at hl
  injection hl with h1 h2
  rw[h1]
  clear h1
  have ho:ops[i]? = some ops[i]:=by simp[hlt]
  rw[wpOps_cons]
  unfold wpOp
  rw[ho]
  have ho':ops.toList[i]? = some ops[i]:=by simp
  obtain⟨hN',hLi,hstep⟩:=h.st i _ ho'
  rcases hstep with⟨hw,hs,hm,hE⟩|⟨hw,L1,v,upd,hdo,hV,hs,hm,hE⟩
  ·have hwant:=YS hr hw
   simp only[hwant,Bool.false_eq_true,if_false]
   refine lex_ok hP hG hN h fin l (i+1) h2 (by omega) ι _ w ?_
   rw[hs,hm]
   exact (hr.put undef (.tup []) (.pure _ _ (.tup #[] [] rfl (fun i hi=>absurd hi (Nat.not_lt_zero _)))) _ (by rw[hN];exact hN')).weaken (fun _=>Le.refl _) (fun n hn=>Nat.lt_of_lt_of_le hn hLi)
  ·have hwant:=YS hr hw
   simp only[hwant,if_true]
   left
   refine hdo c _ ι a w _ _ _ _ hP hG hr (fun x hx=>rfl) ⟨fun n b hn=>?_,fun n=>h.vAll i (by simp;omega) n⟩ (fun n h1 _ h2=>Nat.not_lt.2 h1 h2) (by rw[hN];exact hN') (fun a' w' ι' hr'=>?_)
   ·unfold resN at hn
    by_cases hL:L1.contains n=true
    ·rw[if_pos hL] at hn;exact hn
    ·rw[if_neg hL] at hn;cases hn
   ·refine lex_ok hP hG hN h fin l (i+1) h2 (by omega) ι' a' w' ?_
    rw[hs,hm]
    exact hr'.weaken (fun _=>Le.refl _) (fun n hn=>by
     show n<L (i+1)
     rcases hn with hn|hn
     ·exact Nat.lt_of_lt_of_le hn hLi
     ·exact hn.2)
theorem region{c:Ctx}(hP:c.P=P)(hG:c.G=G)(hN:c.N=N)(hm:P.follows .mixedOrders=true){id:Nat}{draw:Bool}{log:List LogE}{lo lo':Nat}{s0 s1:Nat→D}{m0 m1:Nat→Option Blk}(h:RWr P G N ops.toList V ops.toList lo s0 m0 log lo' s1 m1)(hok:Ye draw ops.toList log=true)(hv0:∀ n,V n (m0 n)){ι:Nat→Option IB}{a:Act}{w:World}(hr:Rel c (·<lo) ι a w s0 m0){Q:Exit→Act→World→Prop}(hQ:∀ ι a w,Rel c (·<lo') ι a w s1 m1→Q .normal a w):(Code.region id ops draw).wp P Q a w:=by
 obtain⟨s,m,L,h1,h2,h3,h4,h5,h6,h7,h8⟩:=trace h
 have hlen:ops.toList.length=ops.size:=by simp
 rw[hlen] at h4 h5 h6
 have hrun:Run P G N ops.toList V L s m (fun k=>log.getD k ⟨[],[],none,[]⟩):=⟨fun n=>by rw[h2];exact hv0 n,fun k o hk=>by
  obtain⟨E,e1,e2⟩:=h8 k o hk
  have:log.getD k ⟨[],[],none,[]⟩=E:=by simp[e1]
  rw[this];exact e2⟩
 have fin:∀ ι a w,Rel c (·<L ops.size) ι a w (s ops.size) (m ops.size)→Q .normal a w:=fun ι a w hr=>by
  rw[h4,h5,h6] at hr;exact hQ ι a w hr
 cases draw with
 | false =>
  refine wp_region ?_
  refine lex_ok hP hG hN hrun fin _ 0 rfl (Nat.zero_le _) ι a w ?_
  rw[h1,h2,h3];exact hr
 | true =>
  simp only[Ye,Bool.not_true,Bool.false_or,Bool.and_eq_true] at hok
  obtain⟨hf,hok⟩:=hok
  have hfwd:∀ i o,ops[i]? = some o→∀ e∈ZE o,e<i:=by
   intro i o ho e he
   unfold fwdB at hf
   rw[List.all_eq_true] at hf
   have hmem:(o,i)∈ops.toList.zipIdx:=by
    rw[List.mem_iff_getElem?]
    exact⟨i,by rw[List.getElem?_zipIdx];simp[ho]⟩
   have:=hf _ hmem
   rw[List.all_eq_true] at this
   simpa using this e he
  have hO:Y4 ops.toList (fun k=>log.getD k ⟨[],[],none,[]⟩):=by
   intro i j hij hj hmeet
   unfold okLog at hok
   simp only[List.all_eq_true,List.mem_range] at hok
   have hh:=hok j hj i hij
   have li:log[i]? = some (log.getD i ⟨[],[],none,[]⟩):=by simp[show i<log.length by omega]
   have lj:log[j]? = some (log.getD j ⟨[],[],none,[]⟩):=by simp[show j<log.length by omega]
   rw[li,lj] at hh
   simp only[hmeet,Bool.not_true,Bool.false_or] at hh
   simpa using hh
  refine wp_region_any hm ?_
  refine al_any hP hG hN hrun hO hfwd fin _ _ ι a _ (by simp) (by unfold unl';simp[List.countP_replicate]) ?_ ?_
  ·intro j o hj hd
   have:(Array.replicate ops.size false).getD j false=true:=hd
   rcases Nat.lt_or_ge j ops.size with h|h<;>simp[h] at this
  ·have hz:∀ j,(Array.replicate ops.size false).getD j false=false:=by
    intro j
    rcases Nat.lt_or_ge j ops.size with h|h<;>simp[h]
   have lz:∀ (q:Nat→Bool) n,ZU (fun i=>(Array.replicate ops.size false).getD i false&&q i) n=0:=by
    intro q n
    induction n with
    | zero=>rfl
    | succ n ih =>
     show (if ((Array.replicate ops.size false).getD n false&&q n)=true then n+1 else ZU _ n)=0
     rw[hz n,Bool.false_and,if_neg (by simp)]
     exact ih
   have e1:sD ops.toList s (fun k=>log.getD k ⟨[],[],none,[]⟩) (fun j=>(Array.replicate ops.size false).getD j false)=s0:=by
    funext t;unfold sD;rw[lz];rw[h1]
   have e2:mD ops.toList m (fun k=>log.getD k ⟨[],[],none,[]⟩) (fun j=>(Array.replicate ops.size false).getD j false)=m0:=by
    funext t;unfold mD;rw[lz];rw[h2]
   rw[e1,e2]
   exact hr.drew.weaken (fun _=>Le.refl _) (fun n hn=>.inl (by rw[h3];exact hn))
end
end Rr
end
section
open Go Go.RowKit
def Evs(P:Program)(G:Nat→Option (List D))(N:Nat)(code:Code)(nx:Nat)(σ:Nat→D)(st:List (Nat×Blk))(e:Exit)(nx':Nat)(σ':Nat→D)(st':List (Nat×Blk)):Prop :=
 ∀ B w0 O df ι0 ι a w,Rel ⟨P,G,N,B,w0,O,df,ι0⟩ (·<nx) ι a w σ (gs st)→code.wp P (fun e1 a' w'=>∃ ι',e1=e∧Rel ⟨P,G,N,B,w0,O,df,ι0⟩ (·<nx') ι' a' w' σ' (gs st')) a w
def resOneF(Ty:Nat→Option TyI)(σ:Nat→D)(st:List (Nat×Blk)):ResultVar→Option D
 | .tmp t=>some (σ t)
 | .cell p t=>match YU (gs st) (σ p) with|some cs=>if cs.isEmpty then none else loadD Ty t cs|none=>none
def resRF(Ty:Nat→Option TyI)(rs:List ResultVar)(σ:Nat→D)(st:List (Nat×Blk)):Option D :=
 match mapO (resOneF Ty σ st) rs with
 | some [d]=>some d
 | some ds=>some (.tup ds)
 | none=>none
section
variable {P:Program} {G:Nat→Option (List D)} {Ty:Nat→Option TyI} {N:Nat}
theorem results_runF(hty:TyOK P Ty){c:Ctx}{dom:Nat→Prop}{ι:Nat→Option IB}{a:Act}{w:World}{σ:Nat→D}{st:List (Nat×Blk)}(hr:Rel c dom ι a w σ (gs st)):∀ (rs:List ResultVar) (ds:List D),
  mapO (resOneF Ty σ st) rs=some ds→∃ vs:List Value,(rs.mapM (resV a.tmps)).run P w=.ok vs w∧vs.length=ds.length∧∀ i (h1:i<vs.length) (h2:i<ds.length),Rep w (Fb c ι (gs st)) ι vs[i] ds[i]
 | [],ds,h=>by cases h;exact⟨[],rfl,rfl,fun i h1=>absurd h1 (Nat.not_lt_zero _)⟩
 | r::rs,ds,h=>by
  simp only[mapO] at h
  split at h
  ·rename_i y ys e1 e2
   cases h
   obtain⟨vs,v1,v2,v3⟩:=results_runF hty hr rs ys e2
   obtain⟨v,k1,k2⟩:∃ v,(resV a.tmps r).run P w=.ok v w∧Rep w (Fb c ι (gs st)) ι v y:=by
    cases r with
    | tmp t=>cases e1;exact⟨_,rfl,hr.env t⟩
    | cell p t =>
     simp only[resOneF] at e1
     split at e1
     ·rename_i cs hc
      split at e1
      ·cases e1
      ·rename_i hne
       obtain⟨b,off,f,e,hcs⟩:=cellsAt_ok hr (fun n b h=>h) (hr.env p) hc (by intro h;subst h;simp at hne)
       obtain⟨v,q1,q2⟩:=loadD_ok hty e1 hcs
       exact⟨v,by simp only[resV,e,asAddr,Sem.run_bind,Sem.run_pure,Result.andThen_ok,q1],q2⟩
     ·cases e1
   refine⟨v::vs,?_,by simp[v2],fun i h1 h2=>?_⟩
   ·simp only[List.mapM_cons,Sem.run_bind,k1,Result.andThen_ok,v1]
    rfl
   ·cases i with
    | zero=>exact k2
    | succ i=>exact v3 i (by simpa using h1) (by simpa using h2)
  ·cases h
end
section
variable {P:Program} {G:Nat→Option (List D)} {Ty:Nat→Option TyI}
theorem results_allF(hty:TyOK P Ty){c:Ctx}{dom:Nat→Prop}{ι:Nat→Option IB}{a:Act}{w:World}{σ:Nat→D}{st:List (Nat×Blk)}(hr:Rel c dom ι a w σ (gs st)){fn:Func}{R:D}(h:resRF Ty fn.results.toList σ st=some R) :
  ∃ v,(results fn a.tmps).run P w=.ok v w∧Rep w (Fb c ι (gs st)) ι v R:=by
 unfold resRF at h
 cases hm:mapO (resOneF Ty σ st) fn.results.toList with
 | none=>rw[hm] at h;cases h
 | some ds =>
  rw[hm] at h
  obtain⟨vs,v1,v2,v3⟩:=results_runF hty hr _ ds hm
  have hrun:∀ v,(if h:vs.toArray.size=1 then vs.toArray[0] else .tuple vs.toArray)=v→(results fn a.tmps).run P w=.ok v w:=by
   intro v hv
   rw[results_eq,Array.mapM_eq_mapM_toList]
   simp only[Sem.run_bind,Sem.run_map,v1,Result.andThen_ok]
   rw[← hv];rfl
  match ds,vs,v2,v3,hrun,h with
  | [d],[v],_,v3,hrun,h=>cases h;exact⟨v,hrun v rfl,v3 0 (by simp) (by simp)⟩
  | [],[],_,v3,hrun,h=>cases h;exact⟨.tuple #[],hrun _ rfl,.tup #[] [] rfl (fun i hi=>absurd hi (Nat.not_lt_zero _))⟩
  | d1::d2::ds,v1::v2'::vs',v2,v3,hrun,h =>
   cases h
   refine⟨.tuple (v1::v2'::vs').toArray,hrun _ (by simp),.tup _ _ (by simpa using v2) (fun i hi=>?_)⟩
   have hi2:i<(v1::v2'::vs').length:=by omega
   have e:(v1::v2'::vs').toArray.getD i undef=(v1::v2'::vs')[i]:=by
    rw[Array.getD_eq_getD_getElem?,List.getElem?_toArray,List.getElem?_eq_getElem hi2];rfl
   rw[e];exact v3 i hi2 hi
end
structure ImpR(P:Program)(G:Nat→Option (List D))(k:Nat)(args:List D)(gl:List (Nat×Blk))(lo hi:Nat)(R:D)(upd:List (Nat×Option Blk)):Prop where
 body:HasBody P k
 calls:∀ (c:Ctx) (dom:Nat→Prop) (ι:Nat→Option IB) (w:World) (st:Nat→Option Blk) (vs:Array Value),c.P=P→c.G=G→Rel c.bare dom ι act0 w any0 st→(∀ p∈gl,st p.1=some p.2)→(∀ n,lo≤n→n<hi→¬ dom n)→vs.size=args.length→(∀ i (hi:i<args.length),Rep w (Fb c ι st) ι (vs.getD i undef) args[i]) →
  Calls P k vs w (fun e w'=>∃ v ι',e=.returned v∧Rel c.bare (fun n=>dom n∨(lo≤n∧n<hi)) ι' act0 w' any0 (updL st upd)∧Rep w' (Fb c ι' (updL st upd)) ι' v R∧∀ v d,Rep w (Fb c ι st) ι v d→Rep w' (Fb c ι' (updL st upd)) ι' v d)
section
variable {P:Program} {G:Nat→Option (List D)} {o:Oper} {ρ:Operand→D} {g:Nat→Option Blk} {lo hi:Nat}
theorem do_callR{k:Nat}{f:Operand}{args:Array Operand}{tys:Array TypeId}{d1 d2:List D}{R:D}{gl:List (Nat×Blk)}{upd:List (Nat×Option Blk)}(ho:o.op=.call { callee:=.value f,args:=args,argTypes:=tys })(hf:ρ f=.fn (.func k) d1 d2)
  (hp:ImpR P G k (d1++args.toList.map ρ++d2) gl lo hi R upd) (hgl:∀ p∈gl,g p.1=some p.2):DoR P G o ρ g lo hi R upd:=by
 intro c dom ι a w σ st K Q hP hG hr hρ hg hnm hd hK
 have hG':=hG
 subst hG
 have hop:∀ x∈args,x∈o.op.operands:=fun x hx=>by rw[ho];simp[Op.operands,Call.operands,hx]
 have hvf:=Zl hr f
 rw[hρ f (by rw[ho];simp[Op.operands,Call.operands]),hf] at hvf
 obtain⟨c1,c2,ef,h1,h2,r1,r2⟩:=hvf.is_fn
 obtain⟨a1,a2⟩:=args_rep (ρ:=ρ) (ev:=a.eval) h1 h2 r1 r2 (fun x hx=>by rw[← hρ x (hop x hx)];exact Zl hr x)
 unfold Oper.wp
 rw[call_run ho ef hp.body]
 refine (hp.calls c dom ι w st _ hP hG' hr.bare (fun p hp'=>hg _ _ (hgl p hp')) hnm a1 a2).mono ?_
 rintro e w' ⟨v,ι',rfl,hr',hv,hm⟩
 exact hK _ _ ι' ((hr.dress hr' hm).put v R hv o.dst hd)
end
section
variable {P:Program} {G:Nat→Option (List D)} {Ty:Nat→Option TyI}
def inR(gl:List (Nat×Blk))(lo hi:Nat)(n:Nat):Bool:=hasB gl n||(Nat.ble lo n&&Nat.blt n hi)
theorem impR_of(hty:TyOK P Ty){k:Nat}{fn:Func}{code:Code}{args:List D}{gl:List (Nat×Blk)}{lo hi hi' N:Nat}{R:D}{upd:List (Nat×Option Blk)}{σ0 σ':Nat→D}{st':List (Nat×Blk)}{e:Exit}(hf:P.funcs[k]? = some fn)(hb:fn.body=some code)(hNt:fn.ntmps=N)(hn:(fn.name == "runtime.NumGoroutine")=false)(hN:args.length≤N)
  (hσ0:∀ t,σ0 t=.any∨σ0 t=args.getD t .any)
  (hlt:∀ p∈gl,p.1<lo) (hargs:D.inns (hasB gl) args=true) (hgin:∀ p∈gl,p.2.inn (hasB gl)=true) (hgs:∀ p∈gl,gs gl p.1=some p.2) (hcov:∀ p∈gl,p.1∈upd.map (·.1))
  (h:Evs P G N code lo σ0 gl e hi' σ' st') (he:e=.normal∨e=.ret) (_hhi:hi'≤hi) (hres:resRF Ty fn.results.toList σ' st'=some R) (hR:R.inn (inR gl lo hi)=true)
  (hupd:∀ q∈upd,(hasB gl q.1=true∨(lo≤q.1∧q.1<hi))∧∀ b,q.2=some b→gs st' q.1=some b∧b.inn (inR gl lo hi)=true):ImpR P G k args gl lo hi R upd:=by
 subst hNt
 refine⟨⟨fn,hf,by rw[hb];rfl,hn⟩,fun c dom ι w st vs hP hG hr hst hnm hsz hrep=>?_⟩
 subst hP;subst hG
 refine calls_of_wp hf hb ?_
 have hsome:∀ n,hasB gl n=true→∃ b,gs gl n=some b∧st n=some b:=fun n hn'=>by
  obtain⟨b,hb'⟩:=hasB_iff.1 hn'
  exact⟨b,hgs _ hb',hst _ hb'⟩
 have hgssome:∀ n b,gs gl n=some b→hasB gl n=true∧st n=some b:=fun n b hn'=>by
  have hm:=gs_mem hn'
  exact⟨hasB_iff.2 ⟨b,hm⟩,hst _ hm⟩
 obtain⟨ι1,hι1⟩:∃ ι1:Nat→Option IB,ι1=fun n=>if hasB gl n then ι n else none:=⟨_,rfl⟩
 have i1:∀ n,hasB gl n=true→ι1 n=ι n:=fun n hn'=>by rw[hι1];simp[hn']
 have i0:∀ n,hasB gl n=false→ι1 n=none:=fun n hn'=>by rw[hι1];simp[hn']
 obtain⟨B1,hB1⟩:∃ B1:Nat→Prop,B1=fun b=>c.B b∨∃ n ib,(st n).isSome=true∧hasB gl n=false∧ι n=some ib∧0<ib.cap∧b=ib.blk:=⟨_,rfl⟩
 obtain⟨O1,hO1⟩:∃ O1:Nat→Prop,O1=fun b=>∃ n ib,hasB gl n=true∧ι n=some ib∧0<ib.cap∧b=ib.blk:=⟨_,rfl⟩
 let c1:Ctx:=⟨c.P,c.G,fn.ntmps,B1,w,O1,[],ι1⟩
 have ownO:∀ b,Own ι1 (gs gl) b↔O1 b:=by
  intro b
  rw[hO1]
  constructor
  ·rintro⟨n,ib,h1,h2,h3,h4⟩
   cases hg:gs gl n with
   | none=>rw[hg] at h1;cases h1
   | some bb =>
    have:=(hgssome n bb hg).1
    exact⟨n,ib,this,by rw[← i1 n this];exact h2,h3,h4⟩
  ·rintro⟨n,ib,h1,h2,h3,h4⟩
   obtain⟨b,e1,e2⟩:=hsome n h1
   exact⟨n,ib,by rw[e1];rfl,by rw[i1 n h1];exact h2,h3,h4⟩
 have oOwn:∀ b,O1 b→Own ι st b:=by
  intro b hb'
  rw[hO1] at hb'
  obtain⟨n,ib,h1,h2,h3,h4⟩:=hb'
  obtain⟨bb,e1,e2⟩:=hsome n h1
  exact⟨n,ib,by rw[e2];rfl,h2,h3,h4⟩
 have FF:∀ b,Fb c1 ι1 (gs gl) b↔Fb c ι st b:=by
  intro b
  show B1 b∨Own ι1 (gs gl) b↔c.B b∨Own ι st b
  rw[ownO,hB1]
  constructor
  ·rintro ((h1|⟨n,ib,h1,_,h2,h3,h4⟩)|h1)
   ·exact .inl h1
   ·exact .inr ⟨n,ib,h1,h2,h3,h4⟩
   ·exact .inr (oOwn b h1)
  ·rintro (h1|⟨n,ib,h1,h2,h3,h4⟩)
   ·exact .inl (.inl h1)
   ·cases hh:hasB gl n with
    | true=>right;rw[hO1];exact⟨n,ib,hh,h2,h3,h4⟩
    | false=>exact .inl (.inr ⟨n,ib,h1,hh,h2,h3,h4⟩)
 have FFe:Fb c1 ι1 (gs gl)=Fb c ι st:=funext fun b=>propext (FF b)
 have disj:∀ b,B1 b→¬ O1 b:=by
  intro b hb1 hb2
  have ho:=oOwn b hb2
  rw[hB1] at hb1
  rw[hO1] at hb2
  rcases hb1 with hb1|⟨n,ib,h1,h2,h3,h4,h5⟩
  ·exact (hr.own b ho).2.1 hb1
  ·obtain⟨m,ib',k1,k2,k3,k4⟩:=hb2
   obtain⟨bb,e1,e2⟩:=hsome m k1
   have hne:n≠m:=fun e=>by rw[e,k1] at h2;cases h2
   exact hr.inj n m h1 (by rw[e2];rfl) hne ib ib' h3 k2 h4 k3 (by rw[← h5,k4])
 have lowF:∀ b,Fb c ι st b→b<w.heap.size:=fun b hb'=>by
  rcases hb' with hb'|hb'
  ·have:=(hr.low b hb').1;have:=hr.hsize;show b<w.heap.size;exact Nat.lt_of_lt_of_le (hr.low b hb').1 hr.hsize
  ·exact (hr.own b hb').1
 have hr1:Rel c1 (·<lo) ι1 { tmps:=vs++Array.replicate (fn.ntmps - vs.size) undef,defers:=[] } w σ0 (gs gl):=by
  refine⟨by simp[c1];omega,rfl,fun t=>?_,fun n b hnb=>?_,fun n m h1 h2 hne ib ib' k1 k2=>?_,fun n hn'=>?_,rfl,rfl,rfl,Nat.le_refl _,fun b _ _=>rfl,fun b hb'=>?_,fun b hb'=>?_,fun g row hg=>?_,Grows.refl _⟩
  ·rw[FFe]
   rcases hσ0 t with hs0|hs0
   ·rw[hs0];exact .pure _ _ (.any _)
   rw[hs0]
   by_cases ht:t<args.length
   ·have e1:(vs++Array.replicate (fn.ntmps - vs.size) undef).getD t undef=vs.getD t undef:=by
     simp[Array.getElem?_append,hsz,ht]
    have e2:args.getD t .any=args[t]:=by simp[ht]
    rw[e1,e2]
    exact (hrep t ht).res (D.inns_at hargs t ht) (fun n ib hp hi=>by rw[i1 n hp];exact hi)
   ·have e2:args.getD t .any=.any:=by simp[show args.length≤t by omega]
    rw[e2];exact .pure _ _ (.any _)
  ·obtain⟨e1,e2⟩:=hgssome n b hnb
   rw[FFe]
   exact (hr.blk n b e2).res (hgin _ (gs_mem hnb)) e1 (fun n ib hp hi=>by rw[i1 n hp];exact hi)
  ·cases hg1:gs gl n with
   | none=>rw[hg1] at h1;cases h1
   | some b1 =>
    cases hg2:gs gl m with
    | none=>rw[hg2] at h2;cases h2
    | some b2 =>
     obtain⟨e1,e2⟩:=hgssome n b1 hg1
     obtain⟨e3,e4⟩:=hgssome m b2 hg2
     exact hr.inj n m (by rw[e2];rfl) (by rw[e4];rfl) hne ib ib' (by rw[← i1 n e1];exact k1) (by rw[← i1 m e3];exact k2)
  ·cases hh:hasB gl n with
   | false=>rw[i0 n hh] at hn';cases hn'
   | true =>
    obtain⟨b,hb'⟩:=hasB_iff.1 hh
    exact hlt _ hb'
  ·refine⟨?_,disj b hb'⟩
   have:Fb c1 ι1 (gs gl) b:=.inl hb'
   exact lowF b ((FF b).1 this)
  ·have ho:=(ownO b).1 hb'
   exact⟨lowF b (.inr (oOwn b ho)),fun hb1=>disj b hb1 ho,.inl ho⟩
  ·rw[FFe];exact hr.glob g row hg
 have hlo:∀ n,lo≤n→n<hi→hasB gl n=false:=fun n h1 h2=>by
  cases hh:hasB gl n with
  | false=>rfl
  | true=>obtain⟨b,hb'⟩:=hasB_iff.1 hh;have:=hlt _ hb';simp at this;omega
 have hnone:∀ n,lo≤n→n<hi→ι n=none∧st n=none:=fun n h1 h2=>hr.none_of (hnm n h1 h2)
 refine wp_mono (h B1 w O1 [] ι1 _ _ _ hr1) ?_
 rintro e1 a' w' ⟨ι2,rfl,hr2⟩
 obtain⟨v,v1,v2⟩:=results_allF hty hr2 hres
 have inRt:∀ n,inR gl lo hi n=true↔hasB gl n=true∨(lo≤n∧n<hi):=fun n=>by
  unfold inR;simp[Nat.ble_eq,Nat.blt_eq]
 obtain⟨ι',hι'⟩:∃ ι':Nat→Option IB,ι'=fun n=>if inR gl lo hi n then ι2 n else ι n:=⟨_,rfl⟩
 have j1:∀ n,inR gl lo hi n=true→ι' n=ι2 n:=fun n hn'=>by rw[hι'];simp[hn']
 have j2:∀ n,inR gl lo hi n=false→ι' n=ι n:=fun n h2=>by rw[hι'];simp[h2]
 have notin:∀ n,n∉upd.map (·.1)→updL st upd n=st n∧hasB gl n=false:=fun n hn'=>by
  refine⟨Yo hn',?_⟩
  cases hh:hasB gl n with
  | false=>rfl
  | true=>obtain⟨b,hb'⟩:=hasB_iff.1 hh;exact absurd (hcov _ hb') hn'
 have notin2:∀ n b,n∉upd.map (·.1)→updL st upd n=some b→inR gl lo hi n=false:=fun n b hn' hb'=>by
  obtain⟨e1,e2⟩:=notin n hn'
  rw[e1] at hb'
  cases hh:inR gl lo hi n with
  | false=>rfl
  | true =>
   rcases (inRt n).1 hh with h|h
   ·rw[h] at e2;cases e2
   ·rw[(hnone n h.1 h.2).2] at hb';cases hb'
 have isin:∀ n b,n∈upd.map (·.1)→updL st upd n=some b→inR gl lo hi n=true∧gs st' n=some b∧b.inn (inR gl lo hi)=true:=fun n b hn' hb'=>by
  obtain⟨ob,m1,m2⟩:=updL_mem (st:=st) hn'
  rw[m2] at hb'
  obtain⟨k1,k2⟩:=hupd _ m1
  obtain⟨k3,k4⟩:=k2 b hb'
  exact⟨(inRt n).2 k1,k3,k4⟩
 have own2:∀ b,Own ι' (updL st upd) b→(∃ n ib,(st n).isSome=true∧hasB gl n=false∧ι n=some ib∧0<ib.cap∧b=ib.blk)∨(∃ n0 ib,inR gl lo hi n0=true∧(gs st' n0).isSome=true∧ι2 n0=some ib∧0<ib.cap∧b=ib.blk):=by
  rintro b ⟨n,ib,h1,h2,h3,h4⟩
  by_cases hk:n∈upd.map (·.1)
  ·cases hu:updL st upd n with
   | none=>rw[hu] at h1;cases h1
   | some bb =>
    obtain⟨k1,k2,k3⟩:=isin n bb hk hu
    exact .inr ⟨n,ib,k1,by rw[k2];rfl,by rw[← j1 n k1];exact h2,h3,h4⟩
  ·cases hu:updL st upd n with
   | none=>rw[hu] at h1;cases h1
   | some bb =>
    have k0:=notin2 n bb hk hu
    obtain⟨e1,e2⟩:=notin n hk
    rw[e1] at hu
    exact .inl ⟨n,ib,by rw[hu];rfl,e2,by rw[← j2 n k0];exact h2,h3,h4⟩
 have own2':∀ b,(∃ n0 ib,inR gl lo hi n0=true∧(gs st' n0).isSome=true∧ι2 n0=some ib∧0<ib.cap∧b=ib.blk)→b<w'.heap.size∧¬ B1 b∧(O1 b∨w.heap.size≤b):=by
  rintro b ⟨n0,ib,_,h2,h3,h4,h5⟩
  exact hr2.own b ⟨n0,ib,h2,h3,h4,h5⟩
 have sub1:∀ b,Fb c ι' (updL st upd) b→Fb c1 ι2 (gs st') b:=by
  intro b hb'
  rcases hb' with hb'|hb'
  ·exact .inl (show B1 b by rw[hB1];exact .inl hb')
  ·rcases own2 b hb' with hh|hh
   ·exact .inl (show B1 b by rw[hB1];exact .inr hh)
   ·obtain⟨n0,ib0,k1,k2,k3,k4,k5⟩:=hh
    exact .inr ⟨n0,ib0,k2,k3,k4,k5⟩
 have keep2:∀ b,b<w.heap.size→¬ O1 b→w'.heap[b]? = w.heap[b]? := fun b h1 h2=>hr2.keep b h1 h2
 have hgrow:Grows ι ι':=by
  intro n ib hi'
  cases hh:hasB gl n with
  | true =>
   obtain⟨ib',g1,g2⟩:=hr2.grow n ib (by show ι1 n=some ib;rw[i1 n hh];exact hi')
   exact⟨ib',by rw[j1 n ((inRt n).2 (.inl hh))];exact g1,g2⟩
  | false =>
   have:inR gl lo hi n=false:=by
    cases hq:inR gl lo hi n with
    | false=>rfl
    | true =>
     rcases (inRt n).1 hq with h|h
     ·rw[h] at hh;cases hh
     ·rw[(hnone n h.1 h.2).1] at hi';cases hi'
   exact⟨ib,by rw[j2 n this];exact hi',.inl rfl⟩
 have hmb:∀ b,¬ Fb c ι st b→(w.heap[b]?).isSome=true→w'.heap[b]? = w.heap[b]? ∧ ¬ Fb c ι' (updL st upd) b:=by
  intro b hF hz
  have hlt:=isSome_lt hz
  refine⟨keep2 b hlt (fun ho=>hF (.inr (oOwn b ho))),fun hF'=>?_⟩
  rcases hF' with hF'|hF'
  ·exact hF (.inl hF')
  ·rcases own2 b hF' with⟨n,ib,k1,_,k3,k4,k5⟩|hh
   ·exact hF (.inr ⟨n,ib,k1,k3,k4,k5⟩)
   ·obtain⟨_,_,o⟩:=own2' b hh
    rcases o with o|o
    ·exact hF (.inr (oOwn b o))
    ·omega
 have key:a'.defers=[]∧∃ v,(results fn a'.tmps).run c.P w'=.ok v w'∧(∃ v' ι',Ending.returned v=.returned v'∧Rel c.bare (fun n=>dom n∨(lo≤n∧n<hi)) ι' act0 w' any0 (updL st upd)∧Rep w' (Fb c ι' (updL st upd)) ι' v' R∧∀ v d,Rep w (Fb c ι st) ι v d→Rep w' (Fb c ι' (updL st upd)) ι' v d):=by
  refine⟨hr2.defers,v,v1,v,ι',rfl,?_,?_,fun v d hv=>hv.mono hmb hgrow⟩
  ·refine⟨rfl,rfl,fun t=>.pure _ _ (.any _),fun n b hnb=>?_,fun n m h1 h2 hne ib ib' k1 k2 k3 k4=>?_,fun n hn'=>?_,hr2.os.trans hr.os,hr2.tape.trans hr.tape,hr2.output.trans hr.output,Nat.le_trans hr.hsize hr2.hsize,fun b h1 h2=>?_,hr.low,fun b hb'=>?_,fun g row hg=>(hr.glob g row hg).mono hmb,hr.grow.trans hgrow⟩
   ·by_cases hk:n∈upd.map (·.1)
    ·obtain⟨k1,k2,k3⟩:=isin n b hk hnb
     exact ((hr2.blk n b k2).forb (F':=Fb c ι' (updL st upd)) sub1).res k3 k1 (fun n ib hp hi=>by rw[j1 n hp];exact hi)
    ·have k0:=notin2 n b hk hnb
     obtain⟨e1,e2⟩:=notin n hk
     rw[e1] at hnb
     refine (hr.blk n b hnb).mono hmb hgrow (j2 n k0) (fun ib hi hc=>?_)
     have ho:Own ι st ib.blk:=⟨n,ib,by rw[hnb];rfl,hi,hc,rfl⟩
     exact keep2 _ (hr.own _ ho).1 (disj _ (by rw[hB1];exact .inr ⟨n,ib,by rw[hnb];rfl,e2,hi,hc,rfl⟩))
   ·have cls:∀ n ib,(updL st upd n).isSome=true→ι' n=some ib→0<ib.cap→((st n).isSome=true∧hasB gl n=false∧ι n=some ib)∨(inR gl lo hi n=true∧(gs st' n).isSome=true∧ι2 n=some ib):=by
     intro n ib h1 h2 h3
     by_cases hk:n∈upd.map (·.1)
     ·cases hu:updL st upd n with
      | none=>rw[hu] at h1;cases h1
      | some bb =>
       obtain⟨k1,k2,k3⟩:=isin n bb hk hu
       exact .inr ⟨k1,by rw[k2];rfl,by rw[← j1 n k1];exact h2⟩
     ·cases hu:updL st upd n with
      | none=>rw[hu] at h1;cases h1
      | some bb =>
       have k0:=notin2 n bb hk hu
       obtain⟨e1,e2⟩:=notin n hk
       rw[e1] at h1
       exact .inl ⟨h1,e2,by rw[← j2 n k0];exact h2⟩
    rcases cls n ib h1 k1 k3 with⟨a1,a2,a3⟩|⟨a1,a3,a4⟩<;>rcases cls m ib' h2 k2 k4 with⟨b1,b2,b3⟩|⟨b1,b3,b4⟩
    ·exact hr.inj n m a1 b1 hne ib ib' a3 b3 k3 k4
    ·intro e
     have h3:B1 ib.blk:=by rw[hB1];exact .inr ⟨n,ib,a1,a2,a3,k3,rfl⟩
     exact (own2' ib'.blk ⟨m,ib',b1,b3,b4,k4,rfl⟩).2.1 (e▸h3)
    ·intro e
     have h3:B1 ib'.blk:=by rw[hB1];exact .inr ⟨m,ib',b1,b2,b3,k4,rfl⟩
     exact (own2' ib.blk ⟨n,ib,a1,a3,a4,k3,rfl⟩).2.1 (e▸h3)
    ·exact hr2.inj n m a3 b3 hne ib ib' a4 b4 k3 k4
   ·by_cases e:lo≤n∧n<hi
    ·exact .inr e
    ·left
     cases hh:hasB gl n with
     | false =>
      have:inR gl lo hi n=false:=by
       cases hq:inR gl lo hi n with
       | false=>rfl
       | true =>
        rcases (inRt n).1 hq with h|h
        ·rw[h] at hh;cases hh
        ·exact absurd h e
      exact hr.dom n (by rw[← j2 n this];exact hn')
     | true =>
      obtain⟨b,e1,e2⟩:=hsome n hh
      have hbr:=hr.blk n b e2
      cases b with
      | box cs=>obtain⟨ib,_,_,k1,_⟩:=hbr;exact hr.dom n (by rw[k1];rfl)
      | arr es rows=>obtain⟨ib,k1,_⟩:=hbr;exact hr.dom n (by rw[k1];rfl)
      | obj q=>obtain⟨ib,o,k1,_⟩:=hbr;exact hr.dom n (by rw[k1];rfl)
      | mp ks cs=>obtain⟨ib,es,ck,k1,_⟩:=hbr;exact hr.dom n (by rw[k1];rfl)
      | deck sc=>obtain⟨ib,v0,ty,xs,i,s,k1,_⟩:=hbr;exact hr.dom n (by rw[k1];rfl)
   ·have hsz0:c.w0.heap.size≤w.heap.size:=hr.hsize
    have h1':b<c.w0.heap.size:=h1
    rw[keep2 b (by omega) (fun ho=>by
     have:=(hr.own b (oOwn b ho)).2.2
     rcases this with h|h
     ·exact h2 h
     ·exact absurd h1' (Nat.not_lt.2 h))]
    exact hr.keep b h1 h2
   ·rcases own2 b hb' with⟨n,ib,k1,_,k3,k4,k5⟩|hh
    ·obtain⟨o1,o2⟩:=hr.own b ⟨n,ib,k1,k3,k4,k5⟩
     exact⟨Nat.lt_of_lt_of_le o1 hr2.hsize,o2⟩
    ·obtain⟨o1,o2,o3⟩:=own2' b hh
     refine⟨o1,fun hcB=>o2 (by rw[hB1];exact .inl hcB),?_⟩
     rcases o3 with o|o
     ·exact (hr.own b (oOwn b o)).2.2
     ·exact .inr (Nat.le_trans hr.hsize o)
  ·exact (v2.mono (fun b h1 _=>⟨rfl,fun h2=>h1 (sub1 b h2)⟩) (Grows.refl _)).res hR (fun n ib hp hi=>by rw[j1 n hp];exact hi)
 rcases he with rfl|rfl
 ·exact key
 ·exact key
end
end
section
open Go Go.RowKit
def ZZ(g:Nat→Option Blk):Nat→D→Option D
 | 0,_=>none
 | k+1,.agg cs=>(mapO (ZZ g k) cs).map .agg
 | k+1,.tup cs=>(mapO (ZZ g k) cs).map .tup
 | k+1,.fn f a b=>match mapO (ZZ g k) a,mapO (ZZ g k) b with|some a',some b'=>some (.fn f a' b')|_,_=>none
 | k+1,.ifc t d=>(ZZ g k d).map (.ifc t)
 | k+1,.bp n off=>match g n with|some (.box cs)=>(mapO (ZZ g k) (cs.drop off)).map .vp|_=>none
 | _+1,.ap n hl i off=>match g n with|some (.arr _ rows)=>if rows.length=hl then (rows[i]?).map (fun row=>.vp (row.drop off)) else none|_=>none
 | _+1,.os n hl lo len=>match g n with|some (.arr _ rows)=>if rows.length=hl∧lo+len≤hl then some (if len=0∧0<hl then .sle else .sl ((rows.drop lo).take len)) else none|_=>none
 | _+1,.rf _ _=>none
 | _+1,d=>some d
theorem view_okE{c:Ctx}{dom:Nat→Prop}{ι:Nat→Option IB}{a:Act}{w:World}{σ:Nat→D}{st g:Nat→Option Blk}(hr:Rel c dom ι a w σ st)(hg:∀ n b,g n=some b→st n=some b)(F':Nat→Prop)
  (hF:∀ b,F' b→Fb c ι st b∧∀ n ib,(g n).isSome=true→ι n=some ib→0<ib.cap→b≠ib.blk):∀ (k:Nat) (v:Value) (d d':D),Rep w (Fb c ι st) ι v d→ZZ g k d=some d'→RepP w F' v d':=by
 have mono:∀ {v d},RepP w (Fb c ι st) v d→RepP w F' v d:=fun h=>h.mono (fun b h1 _=>⟨rfl,fun h2=>h1 (hF b h2).1⟩)
 intro k
 induction k with
 | zero=>intro v d d' _ h;cases h
 | succ k ih =>
  have lst:∀ (cs:Array Value) (ds r:List D),cs.size=ds.length→(∀ i (hi:i<ds.length),Rep w (Fb c ι st) ι (cs.getD i undef) ds[i])→mapO (ZZ g k) ds=some r→cs.size=r.length∧∀ i (hi:i<r.length),RepP w F' (cs.getD i undef) r[i]:=by
   intro cs ds r hl hrep hm
   obtain⟨m1,m2⟩:=Xr hm
   exact⟨by omega,fun i hi=>ih _ _ _ (hrep i (by omega)) (m2 i (by omega) hi)⟩
  intro v d d' hv h
  cases d with
  | agg cs =>
   simp only[ZZ] at h
   cases hm:mapO (ZZ g k) cs with
   | none=>rw[hm] at h;cases h
   | some r =>
    rw[hm] at h;cases h
    obtain⟨vs,rfl,hl,hrep⟩:=hv.is_agg
    obtain⟨l1,l2⟩:=lst vs cs r hl hrep hm
    exact .agg _ _ l1 l2
  | tup cs =>
   simp only[ZZ] at h
   cases hm:mapO (ZZ g k) cs with
   | none=>rw[hm] at h;cases h
   | some r =>
    rw[hm] at h;cases h
    obtain⟨vs,rfl,hl,hrep⟩:=hv.is_tup
    obtain⟨l1,l2⟩:=lst vs cs r hl hrep hm
    exact .tup _ _ l1 l2
  | fn f d1 d2 =>
   simp only[ZZ] at h
   split at h
   ·rename_i a' b' e1 e2
    cases h
    obtain⟨c1,c2,rfl,h1,h2,r1,r2⟩:=hv.is_fn
    obtain⟨l1,l2⟩:=lst c1 d1 a' h1 r1 e1
    obtain⟨l3,l4⟩:=lst c2 d2 b' h2 r2 e2
    exact .fn _ _ _ _ _ l1 l3 l2 l4
   ·cases h
  | ifc t d =>
   simp only[ZZ] at h
   cases hm:ZZ g k d with
   | none=>rw[hm] at h;cases h
   | some r =>
    rw[hm] at h;cases h
    obtain⟨u,rfl,hu⟩:=hv.is_ifc
    exact .ifc _ _ _ (ih _ _ _ hu hm)
  | bp n off =>
   simp only[ZZ] at h
   split at h
   ·rename_i cs hgn
    cases hm:mapO (ZZ g k) (cs.drop off) with
    | none=>rw[hm] at h;cases h
    | some r =>
     rw[hm] at h;cases h
     cases hv with
     | pure _ _ h=>cases h
     | bp n off ib hn hb =>
      obtain⟨ib',vs,ty,h1,h2,h3,h4,h5,h6⟩:=hr.blk n _ (hg n _ hgn)
      obtain rfl:ib=ib':=Option.some.inj (hn.symm.trans h1)
      obtain⟨m1,m2⟩:=Xr hm
      refine .vp ib.blk off r (fun j=>vs.getD (off+j) undef) (fun hF'=>(hF _ hF').2 n ib (by rw[hgn];rfl) hn h3 rfl) (fun j hj=>?_) (by rw[h4];rfl) (fun j hj=>?_)
      ·have:off+j<vs.size:=by rw[m1] at hj;simp at hj;omega
       rw[cell_of_row w ib.blk _ _ _ _ h4];simp[this]
      ·have hjc:j<(cs.drop off).length:=by omega
       have hjc':off+j<cs.length:=by simpa[Nat.lt_sub_iff_add_lt'] using hjc
       refine ih _ _ _ ?_ (m2 j hjc hj)
       rw[List.getElem_drop]
       exact h6 (off+j) hjc'
   ·cases h
  | ap n hl i off =>
   simp only[ZZ] at h
   split at h
   ·rename_i es rows hgn
    split at h
    ·rename_i hlen
     cases hri:rows[i]? with
     | none=>rw[hri] at h;cases h
     | some row =>
      rw[hri] at h;cases h
      obtain⟨hi,hrow⟩:=List.getElem?_eq_some_iff.1 hri
      cases hv with
      | pure _ _ h=>cases h
      | ap n hl i off ib v hn hle h1 hp =>
       obtain⟨ib',k1,k2,k3,k4,k5,k6,k7⟩:=hr.blk n _ (hg n _ hgn)
       obtain rfl:ib=ib':=Option.some.inj (hn.symm.trans k1)
       obtain⟨hbi,hv⟩:=hp (k4.trans hlen)
       have hcap:0<ib.cap:=by omega
       obtain⟨vs,ty,q1,q2,q3⟩:=k7 hcap
       subst hv
       have hrl:row.length=es:=by rw[← hrow];exact k6 _ (List.getElem_mem hi)
       refine .vp ib.blk _ _ (fun j=>vs.getD ((i - ib.base)*es+(off+j)) undef) (fun hF'=>(hF _ hF').2 n ib (by rw[hgn];rfl) hn hcap rfl) (fun j hj=>?_) (by rw[q1];rfl) (fun j hj=>?_)
       ·have hlt:off+j<es:=by rw[← hrl];simpa[Nat.lt_sub_iff_add_lt'] using hj
        have:=Yc (show i - ib.base<ib.cap - ib.base by omega) hlt
        rw[cell_of_row w ib.blk _ _ _ _ q1,k3,Nat.add_assoc]
        simp[show (i - ib.base)*es+(off+j)<vs.size by omega]
       ·have hlt:off+j<row.length:=by simpa[Nat.lt_sub_iff_add_lt'] using hj
        rw[List.getElem_drop]
        have:=q3 i hi (off+j) (by rw[hrow];exact hlt) hbi
        exact mono (by simpa only[hrow] using this)
    ·cases h
   ·cases h
  | os n hl lo len =>
   simp only[ZZ] at h
   split at h
   ·rename_i es rows hgn
    split at h
    ·rename_i hcond
     obtain⟨c1,c2⟩:=hcond
     cases h
     obtain⟨ib,a',cap,hn,e,q1,q2,q3,k2,k3,k4,k5,k6,k7⟩:=YX hr hg hv hgn c1
     subst e
     have hlen:((rows.drop lo).take len).length=len:=by simp;omega
     rcases Nat.eq_zero_or_pos len with h0|h0
     ·subst h0
      by_cases hp:0<hl
      ·rw[if_pos ⟨rfl,hp⟩]
       obtain⟨ib2,a2,cap2,z1,z2,z3⟩:=os_some hr hg hv hgn c1
       obtain rfl:ib=ib2:=Option.some.inj (hn.symm.trans z1)
       injection z2 with z2
       have z5:=z3 (by omega)
       rw[← z2] at z5
       cases a' with
       | none=>cases z5
       | some a'=>exact .sle a' cap
      ·rw[if_neg (fun h=>hp h.2)]
       exact .sl0 a' cap (fun h=>by
        rcases Nat.eq_zero_or_pos cap with h1|h1
        ·exact h1
        ·rw[(q3 h1).2] at h;cases h)
     ·have hcap:0<ib.cap:=by omega
      obtain⟨vs,ty,p1,p2,p3⟩:=k7 hcap
      obtain⟨hbl,ea⟩:=q3 (by omega)
      subst ea
      have key:RepP w F' (.slice (some ⟨ib.blk,(lo - ib.base)*ib.es,none⟩) ((rows.drop lo).take len).length cap) (.sl ((rows.drop lo).take len)):=by
       refine .sl ib.blk _ es cap _ (fun i j=>vs.getD ((lo+i - ib.base)*es+j) undef) (by omega) (fun hF'=>(hF _ hF').2 n ib (by rw[hgn];rfl) hn hcap rfl) (fun r hr'=>k6 r (List.mem_of_mem_drop (List.mem_of_mem_take hr'))) (fun i j hi hj=>?_) (by rw[p1];rfl) (fun i hi j hj=>?_)
       ·have:=Yc (show lo+i - ib.base<ib.cap - ib.base by omega) hj
        have e2:(lo - ib.base)*ib.es+i*es+j=(lo+i - ib.base)*es+j:=by rw[k3,show lo+i - ib.base=(lo - ib.base)+i by omega,Nat.add_mul]
        rw[cell_of_row w ib.blk _ _ _ _ p1,e2]
        simp[show (lo+i - ib.base)*es+j<vs.size by omega]
       ·have hi':lo+i<rows.length:=by omega
        have er:((rows.drop lo).take len)[i]=rows[lo+i]:=by simp
        have:=p3 (lo+i) hi' j (by rw[← er];exact hj) (by omega)
        exact mono (by simpa only[er] using this)
      rw[hlen] at key
      rw[if_neg (fun h=>absurd h.1 (by omega))]
      exact key
    ·cases h
   ·cases h
  | rf n ch=>cases h
  | _ =>
   cases h
   cases hv with
   | pure _ _ h=>exact mono h
mutual
def YV:D→Bool
 | .any|.bool _|.int _ _|.rng _ _ _|.strg _ _|.str _|.np|.nils|.nilf|.nili=>true
 | .agg cs|.tup cs=>scalarEs cs
 | _=>false
def scalarEs:List D→Bool
 | []=>true
 | d::ds=>YV d&&scalarEs ds
end
theorem scalarEs_at:∀ {ds:List D},scalarEs ds=true→∀ i (hi:i<ds.length),YV ds[i]=true
 | [],_,i,hi=>absurd hi (Nat.not_lt_zero _)
 | d::ds,h,i,hi=>by
  simp only[scalarEs,Bool.and_eq_true] at h
  cases i with
  | zero=>exact h.1
  | succ i=>exact scalarEs_at h.2 i (by simpa using hi)
theorem scalar_okE{w:World}{F F':Nat→Prop}{v:Value}{d:D}(h:RepP w F v d)(hs:YV d=true):RepP w F' v d:=by
 induction h with
 | agg cs ds hl h ih=>exact .agg cs ds hl (fun i hi=>ih i hi (scalarEs_at (by simpa only[YV] using hs) i hi))
 | tup cs ds hl h ih=>exact .tup cs ds hl (fun i hi=>ih i hi (scalarEs_at (by simpa only[YV] using hs) i hi))
 | any v=>exact .any v
 | bool b=>exact .bool b
 | int k n=>exact .int k n
 | rng k lo hi n h1 h2=>exact .rng k lo hi n h1 h2
 | str s=>exact .str s
 | strg p q s b h1 h2 h=>exact .strg p q s b h1 h2 h
 | np=>exact .np
 | nils=>exact .nils
 | nilf=>exact .nilf
 | nili=>exact .nili
 | sle=>simp[YV] at hs
 | sl0=>simp[YV] at hs
 | sl=>simp[YV] at hs
 | vp=>simp[YV] at hs
 | fn=>simp[YV] at hs
 | ifc=>simp[YV] at hs
section
variable {P:Program} {G:Nat→Option (List D)} {Ty:Nat→Option TyI} {o:Oper} {ρ:Operand→D} {g:Nat→Option Blk} {nm:Nat}
theorem do_callE{k:Nat}{f:Operand}{args:Array Operand}{tys:Array TypeId}{d1 d2 A A':List D}{R:D}{L:List Nat}(ho:o.op=.call { callee:=.value f,args:=args,argTypes:=tys })(hf:ρ f=.fn (.func k) d1 d2)(hv:mapO (ZZ g 9) (d1++args.toList.map ρ++d2)=some A)(hle:Les A A')(hp:Pure P G k A' R)
  (hs:(YV R=true∧L=[])∨∀ n,(g n).isSome=true→n∈L):Do P G o ρ g nm R (L.map (fun n=>(n,none))):=by
 intro c dom ι a w σ st K Q hP hG hr hρ hg hnm hd hK
 subst hG
 have hop:∀ x∈args,x∈o.op.operands:=fun x hx=>by rw[ho];simp[Op.operands,Call.operands,hx]
 have hvf:=Zl hr f
 rw[hρ f (by rw[ho];simp[Op.operands,Call.operands]),hf] at hvf
 obtain⟨c1,c2,ef,h1,h2,r1,r2⟩:=hvf.is_fn
 obtain⟨a1,a2⟩:=args_rep (ρ:=ρ) (ev:=a.eval) h1 h2 r1 r2 (fun x hx=>by rw[← hρ x (hop x hx)];exact Zl hr x)
 obtain⟨m1,m2⟩:=Xr hv
 obtain⟨l1,l2⟩:=hle.at
 have hlow:∀ b,Fb c ι st b→b<w.heap.size:=fun b hb=>by
  rcases hb with hb|hb
  ·have:=(hr.low b hb).1;have:=hr.hsize;omega
  ·exact (hr.own b hb).1
 unfold Oper.wp
 rw[call_run ho ef hp.body]
 rcases hs with⟨hs,rfl⟩|hs
 ·-- the result leads to no memory
  let F':Nat→Prop:=fun b=>Fb c ι st b∧∀ n ib,(g n).isSome=true→ι n=some ib→0<ib.cap→b≠ib.blk
  refine (hp.calls w F' (c1++args.map a.eval++c2) (by omega) (fun i hi=>?_) (fun gg row hgr=>?_) (fun b hb=>hlow b hb.1)).mono ?_
  ·exact (l2 i (by omega) hi).toP (view_okE hr hg F' (fun b hb=>hb) 9 _ _ _ (a2 i (by omega)) (m2 i (by omega) (by omega)))
  ·exact (hr.glob gg row hgr).mono (fun b hb _=>⟨rfl,fun h=>hb h.1⟩)
  ·rintro e w' ⟨v,rfl,hbel,hrep⟩
   refine hK _ _ ι ?_
   exact ((hr.below hbel).put v R (.pure _ _ (scalar_okE hrep hs)) o.dst hd).weaken (fun _=>Le.refl _) (fun n hn=>.inl hn)
 ·let F':Nat→Prop:=fun b=>Fb c ι st b∧∀ n ib,(g n).isSome=true→ι n=some ib→0<ib.cap→b≠ib.blk
  refine (hp.calls w F' (c1++args.map a.eval++c2) (by omega) (fun i hi=>?_) (fun gg row hgr=>?_) (fun b hb=>hlow b hb.1)).mono ?_
  ·exact (l2 i (by omega) hi).toP (view_okE hr hg F' (fun b hb=>hb) 9 _ _ _ (a2 i (by omega)) (m2 i (by omega) (by omega)))
  ·exact (hr.glob gg row hgr).mono (fun b hb _=>⟨rfl,fun h=>hb h.1⟩)
  ·rintro e w' ⟨v,rfl,hbel,hrep⟩
   refine hK _ _ ι ?_
   have hst:∀ n b,updL st (L.map (fun n=>(n,none))) n=some b→st n=some b:=by
    intro n b hn
    rw[YD] at hn
    by_cases h:n∈L
    ·rw[if_pos h] at hn;cases hn
    ·rw[if_neg h] at hn;exact hn
   have hr2:=(hr.below hbel).drop hst
   refine (hr2.put v R (.pure _ _ (hrep.mono (fun b hb hz=>⟨rfl,fun hF=>hb ?_⟩))) o.dst hd).weaken (fun _=>Le.refl _) (fun n hn=>.inl hn)
   rcases hF with hF|⟨n,ib,q1,q2,q3,q4⟩
   ·refine⟨.inl hF,fun n ib p1 p2 p3 e=>?_⟩
    subst e
    exact (hr.own ib.blk ⟨n,ib,by
     cases hgn:g n with
     | none=>rw[hgn] at p1;cases p1
     | some bb=>rw[hg n bb hgn];rfl,p2,p3,rfl⟩).2.1 hF
   ·have hn:n∉L∧(st n).isSome=true:=by
     rw[YD] at q1
     by_cases h:n∈L
     ·rw[if_pos h] at q1;cases q1
     ·rw[if_neg h] at q1;exact⟨h,q1⟩
    refine⟨.inr ⟨n,ib,hn.2,q2,q3,q4⟩,fun n2 ib2 p1 p2 p3 e=>?_⟩
    have hne:n≠n2:=fun e2=>hn.1 (e2▸hs n2 p1)
    have hs2:(st n2).isSome=true:=by
     cases hgn:g n2 with
     | none=>rw[hgn] at p1;cases p1
     | some bb=>rw[hg n2 bb hgn];rfl
    exact hr.inj n n2 hn.2 hs2 hne ib ib2 q2 p2 q3 p3 (by rw[← q4,e])
end
section
variable {P:Program} {G:Nat→Option (List D)} {Ty:Nat→Option TyI}
theorem pureR_ofE(hty:TyOK P Ty){k:Nat}{fn:Func}{code:Code}{args:List D}{R R0:D}{σ0 σ':Nat→D}{st':List (Nat×Blk)}{e:Exit}{nx:Nat}(hf:P.funcs[k]? = some fn)(hb:fn.body=some code){N:Nat}(hNt:fn.ntmps=N)(hn:(fn.name == "runtime.NumGoroutine")=false)(hN:args.length≤N)
  (hσ0:∀ t,σ0 t=.any∨σ0 t=args.getD t .any) (h:Evs P G N code 0 σ0 [] e nx σ' st') (he:e=.normal∨e=.ret) (hres:resRF Ty fn.results.toList σ' st'=some R0) (hview:ZZ (gs st') 9 R0=some R):Pure P G k args R:=by
 subst hNt
 refine⟨⟨fn,hf,by rw[hb];rfl,hn⟩,fun w F vs hsz hrep hglob hlow=>?_⟩
 refine calls_of_wp hf hb ?_
 have hO:∀ b,Own (fun _=>none) (gs []) b→False:=fun b ⟨n,ib,h1,_⟩=>by simp[gs] at h1
 have hr:Rel ⟨P,G,fn.ntmps,F,w,fun _=>False,[],fun _=>none⟩ (·<0) (fun _=>none) { tmps:=vs++Array.replicate (fn.ntmps - vs.size) undef,defers:=[] } w σ0 (gs []):=by
  refine⟨by simp;omega,rfl,fun t=>?_,fun n b h=>by simp[gs] at h,fun n m h=>by simp[gs] at h,fun n h=>by simp at h,rfl,rfl,rfl,Nat.le_refl _,fun b _ _=>rfl,fun b hb=>⟨hlow b hb,id⟩,fun b hb=>(hO b hb).elim,fun g row hg=>?_,fun n ib h=>by cases h⟩
  ·rcases hσ0 t with hs0|hs0
   ·rw[hs0];exact .pure _ _ (.any _)
   rw[hs0]
   by_cases ht:t<args.length
   ·have e1:(vs++Array.replicate (fn.ntmps - vs.size) undef).getD t undef=vs.getD t undef:=by
     simp[Array.getElem?_append,hsz,ht]
    have e2:args.getD t .any=args[t]:=by simp[ht]
    rw[e1,e2]
    exact .pure _ _ ((hrep t ht).mono (fun b hb _=>⟨rfl,fun hF=>hF.elim hb (fun h=>hO b h)⟩))
   ·have e2:args.getD t .any=.any:=by simp[show args.length≤t by omega]
    rw[e2];exact .pure _ _ (.any _)
  ·exact (hglob g row hg).mono (fun b hb _=>⟨rfl,fun hF=>hF.elim hb (fun h=>hO b h)⟩)
 refine wp_mono (h F w (fun _=>False) [] (fun _=>none) _ _ _ hr) ?_
 rintro e1 a' w' ⟨ι',rfl,hr'⟩
 obtain⟨v,v1,v2⟩:=results_allF hty hr' hres
 have hbel:Below w.heap.size w w':=⟨hr'.os,hr'.tape,hr'.output,hr'.hsize,fun b hb=>hr'.keep b hb id⟩
 have key:a'.defers=[]∧∃ v,(results fn a'.tmps).run P w'=.ok v w'∧(∃ v',Ending.returned v=.returned v'∧Below w.heap.size w w'∧RepP w' F v' R):=by
  refine⟨hr'.defers,v,v1,v,rfl,hbel,?_⟩
  refine view_okE hr' (fun n b h=>h) F (fun b hb=>⟨.inl hb,fun n ib p1 p2 p3 e=>?_⟩) 9 v R0 R v2 hview
  subst e
  exact (hr'.own ib.blk ⟨n,ib,p1,p2,p3,rfl⟩).2.1 hb
 rcases he with rfl|rfl
 ·exact key
 ·exact key
end
end
section
open Go Go.RowKit
def EqOK(P:Program)(eqT:Nat→Option (List AK)):Prop:=∀ t ks,eqT t=some ks→flatT P 100 t=some ks∧isStr P t=true∧P.eqGuardType P.depth t=false
def strLe(a b:ByteArray):Bool:=Op.bytesLess a.toList b.toList||a.toList==b.toList
def rngC(op:BinOp)(lo hi b:Int):Option Bool :=
 match op with
 | .lss=>if hi<b then some true else if b≤lo then some false else none
 | .leq=>if hi≤b then some true else if b<lo then some false else none
 | .gtr=>if b<lo then some true else if hi≤b then some false else none
 | .geq=>if b≤lo then some true else if hi<b then some false else none
 | .eql=>if b<lo∨hi<b then some false else none
 | .neq=>if b<lo∨hi<b then some true else none
 | _=>none
def rngF(op:BinOp)(a lo hi:Int):Option Bool :=
 match op with
 | .lss=>rngC .gtr lo hi a
 | .leq=>rngC .geq lo hi a
 | .gtr=>rngC .lss lo hi a
 | .geq=>rngC .leq lo hi a
 | .eql=>rngC .eql lo hi a
 | .neq=>rngC .neq lo hi a
 | _=>none
def binX(Ty:Nat→Option TyI)(eqT:Nat→Option (List AK))(op:BinOp)(t:Nat)(x y:D):Option D :=
 match op,x,y with
 | .andNot,.int k a,.int k' b=>if k=k' then some (.int k (k.wrap (BitVec.ofInt k.bits a &&& ~~~ BitVec.ofInt k.bits b).toNat)) else none
 | .leq,.str a,.str b=>some (.bool (strLe a b))
 | .gtr,.str a,.str b=>some (.bool (!strLe a b))
 | .geq,.str a,.str b=>some (.bool (!Op.bytesLess a.toList b.toList))
 | .eql,.agg as,.agg bs=>match eqT t with|some ks=>(match Z1 ks as bs with|some r=>some (.bool r)|none=>none)|none=>none
 | .neq,.agg as,.agg bs=>match eqT t with|some ks=>(match Z1 ks as bs with|some r=>some (.bool (!r))|none=>none)|none=>none
 | op,.rng k lo hi,.int k' b=>if k=k' then (rngC op lo hi b).map .bool else none
 | op,.int k a,.rng k' lo hi=>if k=k' then (rngF op a lo hi).map .bool else none
 | op,x,y=>binD Ty op t x y
section
variable {P:Program} {G:Nat→Option (List D)} {Ty:Nat→Option TyI} {o:Oper} {ρ:Operand→D} {g:Nat→Option Blk} {nm:Nat}
theorem Rep.is_rng{w:World}{F:Nat→Prop}{ι:Nat→Option IB}{v:Value}{k:IntKind}{lo hi:Int}(h:Rep w F ι v (.rng k lo hi)):∃ n,v=.int k n∧lo≤n∧n≤hi:=by
 cases h with|pure _ _ h=>cases h with|rng k lo hi n h1 h2=>exact⟨n,rfl,h1,h2⟩
theorem rngC_ok{op:BinOp}{lo hi b n:Int}{r:Bool}(h:rngC op lo hi b=some r)(h1:lo≤n)(h2:n≤hi)(k:IntKind):binI op k n b=some (.bool r)∧op≠.shl∧op≠.shr:=by
 cases op<;>simp only[rngC,reduceCtorEq] at h<;>refine⟨?_,by simp,by simp⟩<;>simp only[binI,Option.some.injEq,D.bool.injEq]
 all_goals
  repeat' split at h
  all_goals first
   | (cases h;done)
   | (cases h;rw[decide_eq_true_eq];omega)
   | (cases h;rw[decide_eq_false_iff_not];omega)
   | (cases h;rw[beq_eq_false_iff_ne];omega)
   | (cases h;rw[bne_iff_ne];omega)
theorem rngF_ok{op:BinOp}{lo hi a n:Int}{r:Bool}(h:rngF op a lo hi=some r)(h1:lo≤n)(h2:n≤hi)(k:IntKind):binI op k a n=some (.bool r)∧op≠.shl∧op≠.shr:=by
 cases op<;>simp only[rngF,rngC,reduceCtorEq] at h<;>refine⟨?_,by simp,by simp⟩<;>simp only[binI,Option.some.injEq,D.bool.injEq]
 all_goals
  repeat' split at h
  all_goals first
   | (cases h;done)
   | (cases h;rw[decide_eq_true_eq];omega)
   | (cases h;rw[decide_eq_false_iff_not];omega)
   | (cases h;rw[beq_eq_false_iff_ne];omega)
   | (cases h;rw[bne_iff_ne];omega)
theorem do_binX(hty:TyOK P Ty){eqT:Nat→Option (List AK)}(heq:EqOK P eqT){op:BinOp}{t yt:Nat}{x y:Operand}{d:D}(ho:o.op=.binOp op t x y yt)(h:binX Ty eqT op t (ρ x) (ρ y)=some d):Do P G o ρ g nm d []:=by
 unfold binX at h
 split at h
 ·rename_i k a k' b ex ey
  split at h
  ·rename_i hk;subst hk;cases h
   refine do_bin0 ho rfl (fun w F ι vx vy hx hy=>?_)
   rw[ex] at hx;rw[ey] at hy
   cases hx.is_int;cases hy.is_int
   exact⟨by simp only[binOp,Op.intBits,ne_eq,not_true_eq_false,if_false];rfl,ZT rfl⟩
  ·cases h
 ·rename_i a b ex ey
  cases h
  refine do_bin0 ho rfl (fun w F ι vx vy hx hy=>?_)
  rw[ex] at hx;rw[ey] at hy
  cases hx.is_str;cases hy.is_str
  exact⟨by simp only[binOp,Op.stringOp];rfl,ZT rfl⟩
 ·rename_i a b ex ey
  cases h
  refine do_bin0 ho rfl (fun w F ι vx vy hx hy=>?_)
  rw[ex] at hx;rw[ey] at hy
  cases hx.is_str;cases hy.is_str
  exact⟨by simp only[binOp,Op.stringOp];rfl,ZT rfl⟩
 ·rename_i a b ex ey
  cases h
  refine do_bin0 ho rfl (fun w F ι vx vy hx hy=>?_)
  rw[ex] at hx;rw[ey] at hy
  cases hx.is_str;cases hy.is_str
  exact⟨by simp only[binOp,Op.stringOp];rfl,ZT rfl⟩
 ·rename_i as bs ex ey
  split at h
  ·rename_i ks hks
   split at h
   ·rename_i r hr
    cases h
    obtain⟨e1,e2,e3⟩:=heq t ks hks
    obtain⟨k1,_⟩:=flatT_ok 100 t ks e1 10000 (by omega)
    refine do_bin0 ho rfl (fun w F ι vx vy hx hy=>?_)
    rw[ex] at hx;rw[ey] at hy
    obtain⟨cs1,rfl,l1,r1⟩:=hx.is_agg
    obtain⟨cs2,rfl,l2,r2⟩:=hy.is_agg
    have:=k1 e2 w F ι cs1 cs2 as bs r l1 l2 r1 r2 hr
    exact⟨by rw[run_eql_struct,this];rfl,run_eqGuard_agg w _ _ _ _ _ _ e3⟩
   ·cases h
  ·cases h
 ·rename_i as bs ex ey
  split at h
  ·rename_i ks hks
   split at h
   ·rename_i r hr
    cases h
    obtain⟨e1,e2,e3⟩:=heq t ks hks
    obtain⟨k1,_⟩:=flatT_ok 100 t ks e1 10000 (by omega)
    refine do_bin0 ho rfl (fun w F ι vx vy hx hy=>?_)
    rw[ex] at hx;rw[ey] at hy
    obtain⟨cs1,rfl,l1,r1⟩:=hx.is_agg
    obtain⟨cs2,rfl,l2,r2⟩:=hy.is_agg
    have:=k1 e2 w F ι cs1 cs2 as bs r l1 l2 r1 r2 hr
    exact⟨by rw[run_neq_struct,this];rfl,run_eqGuard_agg w _ _ _ _ _ _ e3⟩
   ·cases h
  ·cases h
 ·rename_i op _ _ _ k lo hi k' b ex ey
  split at h
  ·rename_i hk;subst hk
   cases hr:rngC op lo hi b with
   | none=>rw[hr] at h;cases h
   | some r =>
    rw[hr] at h;cases h
    refine do_bin0 ho rfl (fun w F ι vx vy hx hy=>?_)
    rw[ex] at hx;rw[ey] at hy
    obtain⟨n,rfl,h1,h2⟩:=hx.is_rng
    cases hy.is_int
    obtain⟨q1,q2⟩:=rngC_ok hr h1 h2 k
    exact⟨(binI_run q1 t q2).1,ZT rfl⟩
  ·cases h
 ·rename_i op _ _ _ k a k' lo hi ex ey
  split at h
  ·rename_i hk;subst hk
   cases hr:rngF op a lo hi with
   | none=>rw[hr] at h;cases h
   | some r =>
    rw[hr] at h;cases h
    refine do_bin0 ho rfl (fun w F ι vx vy hx hy=>?_)
    rw[ex] at hx;rw[ey] at hy
    cases hx.is_int
    obtain⟨n,rfl,h1,h2⟩:=hy.is_rng
    obtain⟨q1,q2⟩:=rngF_ok hr h1 h2 k
    exact⟨(binI_run q1 t q2).1,ZT rfl⟩
  ·cases h
 ·exact do_binOp hty ho h
def addS(op:BinOp)(x y:D):Option D :=
 match op,x,y with
 | .add,.str a,.strg p q=>if a.size+p.size+q.size≤100000 then some (.strg (a++p) q) else none
 | .add,.strg p q,.str b=>if b.size+p.size+q.size≤100000 then some (.strg p (q++b)) else none
 | _,_,_=>none
theorem Rep.is_strg{w:World}{F:Nat→Prop}{ι:Nat→Option IB}{v:Value}{p q:ByteArray}(h:Rep w F ι v (.strg p q)):∃ s b,v=.string s∧49≤b.toNat∧b.toNat≤57∧s.data.toList=p.data.toList++b::q.data.toList:=by
 cases h with|pure _ _ h=>cases h with|strg p q s b h1 h2 h=>exact⟨s,b,rfl,h1,h2,h⟩
theorem YY(s:ByteArray):s.size=s.data.toList.length:=(Array.length_toList (xs:=s.data)).symm
theorem app_toList(a b:ByteArray):(a++b).data.toList=a.data.toList++b.data.toList:=by rw[ByteArray.data_append,Array.toList_append]
theorem do_addS{op:BinOp}{t yt:Nat}{x y:Operand}{d:D}(ho:o.op=.binOp op t x y yt)(h:addS op (ρ x) (ρ y)=some d):Do P G o ρ g nm d []:=by
 refine ZY (fun w F ι ev hev=>?_)
 have hx:=hev x (by rw[ho];simp[Op.operands])
 have hy:=hev y (by rw[ho];simp[Op.operands])
 have run:∀ a b:ByteArray,a.size+b.size≤200000→(binOp op t (.string a) (.string b)).run P w=.ok (.string (a++b)) w∨op≠.add:=by
  intro a b hl
  by_cases hop:op=.add
  ·subst hop
   left
   simp only[binOp,Op.stringOp]
   rw[if_neg (by rw[i64max];omega)]
   rfl
  ·exact .inr hop
 unfold execOp
 rw[ho]
 unfold addS at h
 split at h
 ·rename_i a p q e1 e2
  rw[e1] at hx;rw[e2] at hy
  split at h
  ·rename_i hc
   cases h
   obtain⟨s,b,e4,k1,k2,k3⟩:=hy.is_strg
   have e3:=hx.is_str
   have hs:s.size=p.size+1+q.size:=by rw[YY,k3,YY p,YY q];simp;omega
   have q1:=(run a s (by omega)).resolve_right (fun h=>h rfl)
   refine⟨.string (a++s),?_,.pure _ _ (.strg _ _ _ b k1 k2 (by rw[app_toList,app_toList,k3];simp))⟩
   simp only[e3,e4,Sem.run_bind,ZT (P:=P) (w:=w) (op:=.add) (t:=t) (x:=x) (y:=y) (a:=.string a) (b:=.string s) rfl,q1,Result.andThen_ok]
   rfl
  ·cases h
 ·rename_i p q a e1 e2
  rw[e1] at hx;rw[e2] at hy
  split at h
  ·rename_i hc
   cases h
   obtain⟨s,b,e4,k1,k2,k3⟩:=hx.is_strg
   have e3:=hy.is_str
   have hs:s.size=p.size+1+q.size:=by rw[YY,k3,YY p,YY q];simp;omega
   have q1:=(run s a (by omega)).resolve_right (fun h=>h rfl)
   refine⟨.string (s++a),?_,.pure _ _ (.strg _ _ _ b k1 k2 (by rw[app_toList,app_toList,k3];simp))⟩
   simp only[e3,e4,Sem.run_bind,ZT (P:=P) (w:=w) (op:=.add) (t:=t) (x:=x) (y:=y) (a:=.string s) (b:=.string a) rfl,q1,Result.andThen_ok]
   rfl
  ·cases h
 ·cases h
def addR(op:BinOp)(x y:D):Option D :=
 match op,x,y with
 | .add,.int .i64 a,.rng .i64 l h=>if -9223372036854775808≤a+l∧a+h≤9223372036854775807 then some (.rng .i64 (a+l) (a+h)) else none
 | .add,.rng .i64 l h,.int .i64 a=>if -9223372036854775808≤l+a∧h+a≤9223372036854775807 then some (.rng .i64 (l+a) (h+a)) else none
 | .add,.int .u8 a,.rng .u8 l h=>if 0≤a+l∧a+h≤255 then some (.rng .u8 (a+l) (a+h)) else none
 | .rem,.rng .u8 l _,.int .u8 a=>if 0≤l∧1≤a then some (.rng .u8 0 (a - 1)) else none
 | _,_,_=>none
theorem do_addR{op:BinOp}{t yt:Nat}{x y:Operand}{d:D}(ho:o.op=.binOp op t x y yt)(h:addR op (ρ x) (ρ y)=some d):Do P G o ρ g nm d []:=by
 refine ZY (fun w F ι ev hev=>?_)
 have hx:=hev x (by rw[ho];simp[Op.operands])
 have hy:=hev y (by rw[ho];simp[Op.operands])
 have wr:∀ n:Int,-9223372036854775808≤n→n≤9223372036854775807→IntKind.i64.wrap n=n:=fun n h1 h2=>by simp only[IntKind.wrap,IntKind.bits,IntKind.signed];simp;omega
 unfold execOp
 rw[ho]
 unfold addR at h
 split at h
 ·rename_i a l u e1 e2
  rw[e1] at hx;rw[e2] at hy
  split at h
  ·rename_i hc
   cases h
   obtain⟨n,e4,k1,k2⟩:=hy.is_rng
   have e3:=hx.is_int
   obtain⟨q1,_⟩:=binI_run (P:=P) (w:=w) (op:=.add) (k:=.i64) (a:=a) (b:=n) rfl t ⟨by simp,by simp⟩
   rw[wr _ (by omega) (by omega)] at q1
   refine⟨.int .i64 (a+n),?_,.pure _ _ (.rng _ _ _ _ (by omega) (by omega))⟩
   simp only[e3,e4,Sem.run_bind,ZT (P:=P) (w:=w) (op:=.add) (t:=t) (x:=x) (y:=y) (a:=.int .i64 a) (b:=.int .i64 n) rfl,q1,Result.andThen_ok]
   rfl
  ·cases h
 ·rename_i l u a e1 e2
  rw[e1] at hx;rw[e2] at hy
  split at h
  ·rename_i hc
   cases h
   obtain⟨n,e4,k1,k2⟩:=hx.is_rng
   have e3:=hy.is_int
   obtain⟨q1,_⟩:=binI_run (P:=P) (w:=w) (op:=.add) (k:=.i64) (a:=n) (b:=a) rfl t ⟨by simp,by simp⟩
   rw[wr _ (by omega) (by omega)] at q1
   refine⟨.int .i64 (n+a),?_,.pure _ _ (.rng _ _ _ _ (by omega) (by omega))⟩
   simp only[e3,e4,Sem.run_bind,ZT (P:=P) (w:=w) (op:=.add) (t:=t) (x:=x) (y:=y) (a:=.int .i64 n) (b:=.int .i64 a) rfl,q1,Result.andThen_ok]
   rfl
  ·cases h
 ·rename_i a l u e1 e2
  rw[e1] at hx;rw[e2] at hy
  split at h
  ·rename_i hc
   cases h
   obtain⟨n,e4,k1,k2⟩:=hy.is_rng
   have e3:=hx.is_int
   obtain⟨q1,_⟩:=binI_run (P:=P) (w:=w) (op:=.add) (k:=.u8) (a:=a) (b:=n) rfl t ⟨by simp,by simp⟩
   have wr8:IntKind.u8.wrap (a+n)=a+n:=by simp only[IntKind.wrap,IntKind.bits,IntKind.signed];simp;omega
   rw[wr8] at q1
   refine⟨.int .u8 (a+n),?_,.pure _ _ (.rng _ _ _ _ (by omega) (by omega))⟩
   simp only[e3,e4,Sem.run_bind,ZT (P:=P) (w:=w) (op:=.add) (t:=t) (x:=x) (y:=y) (a:=.int .u8 a) (b:=.int .u8 n) rfl,q1,Result.andThen_ok]
   rfl
  ·cases h
 ·rename_i l u a e1 e2
  rw[e1] at hx;rw[e2] at hy
  split at h
  ·rename_i hc
   cases h
   obtain⟨n,e4,k1,k2⟩:=hx.is_rng
   have e3:=hy.is_int
   obtain⟨q1,_⟩:=binI_run (P:=P) (w:=w) (op:=.rem) (k:=.u8) (a:=n) (b:=a) (by simp only[binI];rw[if_neg (by omega)]) t ⟨by simp,by simp⟩
   have hm:n.tmod a=n % a:=Int.tmod_eq_emod_of_nonneg (by omega)
   have h0:=Int.emod_nonneg n (show a≠0 by omega)
   have h1:=Int.emod_lt_of_pos n (show 0<a by omega)
   refine⟨.int .u8 (n.tmod a),?_,.pure _ _ (.rng _ _ _ _ (by omega) (by omega))⟩
   simp only[e3,e4,Sem.run_bind,ZT (P:=P) (w:=w) (op:=.rem) (t:=t) (x:=x) (y:=y) (a:=.int .u8 n) (b:=.int .u8 a) rfl,q1,Result.andThen_ok]
   rfl
  ·cases h
 ·cases h
theorem do_nilOs(hty:TyOK P Ty){op:BinOp}{t yt n hl lo len es e:Nat}{x y:Operand}{rows:List (List D)}{i:TyI}{b:Bool}(ho:o.op=.binOp op t x y yt)(ht:Ty t=some i)(hk:i.k=.sl e)(hx:ρ x=.os n hl lo len)(hy:ρ y=.nils)(hgn:g n=some (.arr es rows))(hlen:rows.length=hl)(hpos:0<hl)(hop:op=.eql∧b=false∨op=.neq∧b=true):Do P G o ρ g nm (.bool b) []:=by
 refine Xg (fun c dom ι a w σ st hP hG hr hρ hg=>⟨.bool b,?_,.pure _ _ (.bool b)⟩)
 subst hG
 have h1:=Zl hr x
 rw[hρ x (by rw[ho];simp[Op.operands]),hx] at h1
 have h2:=Zl hr y
 rw[hρ y (by rw[ho];simp[Op.operands]),hy] at h2
 obtain⟨ib,a',cap,hn,e',q1⟩:=os_some hr hg h1 hgn hlen
 obtain⟨ib',k1,k2,k3,k4,k5,k6,k7⟩:=hr.blk n _ (hg n _ hgn)
 obtain rfl:ib=ib':=Option.some.inj (hn.symm.trans k1)
 have ha:=q1 (by omega)
 obtain⟨info,de,z,e1,e2,_,_,e5,_⟩:=hty.get ht
 rw[hk] at e5
 cases de<;>simp only[kB,Bool.false_eq_true] at e5
 rename_i el
 cases a' with
 | none=>cases ha
 | some a' =>
  have heq:(Op.equal t (.slice (some a') len cap) (.slice none 0 0)).run P w=.ok false w:=YB e2 rfl
  have hq:∀ op,(eqGuard op t x y (.slice (some a') len cap) (.slice none 0 0)).run P w=.ok () w:=fun op=>ZT rfl
  unfold execOp
  rw[ho]
  rcases hop with⟨rfl,rfl⟩|⟨rfl,rfl⟩
  ·simp only[e',h2.is_nils,Sem.run_bind,hq,Result.andThen_ok,binOp,heq]
   rfl
  ·simp only[e',h2.is_nils,Sem.run_bind,hq,Result.andThen_ok,binOp,heq]
   rfl
end
end
section
open Go Go.RowKit
section
variable {P:Program} {G:Nat→Option (List D)} {Ty:Nat→Option TyI} {o:Oper} {ρ:Operand→D} {g:Nat→Option Blk} {nm:Nat}
theorem Rel.newEmp{c:Ctx}{dom:Nat→Prop}{ι:Nat→Option IB}{a:Act}{w:World}{σ:Nat→D}{st:Nat→Option Blk}(h:Rel c dom ι a w σ st){nm:Nat}(hnm:¬ dom nm)(vs:Array Value)(ty es cap:Nat)(hsz:vs.size=cap*es) :
  Rel c (fun m=>dom m∨m=nm) (updI ι nm ⟨false,w.heap.size,es,1,cap+1,1⟩) a (w.alloc (.cells vs ty)) σ (updS st nm (some (.arr es [List.replicate es .any]))):=by
 obtain⟨h1,h2⟩:=h.none_of hnm
 refine (h.one (w':=w.alloc (.cells vs ty)) nm ⟨false,w.heap.size,es,1,cap+1,1⟩ (.arr es [List.replicate es .any]) rfl rfl rfl (by simp) (fun b hb=>.inl (Below.heap_alloc w _ b hb)) (fun _=>⟨by simp,.inr (Nat.le_refl _)⟩) (fun ib hib=>by rw[h1] at hib;cases hib) (fun f1 f2=>?_)).1
 refine⟨⟨false,w.heap.size,es,1,cap+1,1⟩,by simp[updI],rfl,rfl,rfl,by simp,(fun r hr=>by simp at hr;simp[hr]),fun _=>⟨vs,ty,Xp _ _,by simp[hsz],fun i hi j hj hb=>?_⟩⟩
 simp at hi
 have hb':1≤i:=hb
 omega
theorem Rep.emp{w:World}{F:Nat→Prop}{ι:Nat→Option IB}{nm blk es cap:Nat}(hι:ι nm=some ⟨false,blk,es,1,cap+1,1⟩):Rep w F ι (.slice (some ⟨blk,0,none⟩) 0 cap) (.os nm 1 1 0) :=
 .os nm 1 1 0 _ _ hι (Nat.le_refl _) rfl (fun _=>⟨_,cap,rfl,Nat.zero_le _,rfl,fun _=>⟨Nat.le_refl _,by simp⟩,fun _=>rfl⟩)
theorem do_buildSlice0(hty:TyOK P Ty){t e:Nat}{j:TyI}{parts:Array (Nat×Operand)}(ho:o.op=.buildSlice t 0 parts)(he:ZN Ty t=some (e,j))(hp:parts.toList=[]) :
  Do P G o ρ g nm (.os nm 1 1 0) [(nm,some (.arr j.size [List.replicate j.size .any]))]:=by
 intro c dom ι a w σ st K Q hP hG hr hρ hg hnm hd hK
 subst hG
 obtain⟨u1,u2⟩:=ZL hty he
 have hp':parts=#[]:=by cases parts;simp at hp;rw[hp]
 subst hp'
 have hrun:(execOp a.eval o).run P w=.ok (.value (.slice (some ⟨w.heap.size,0,none⟩) 0 0)) (w.alloc (.cells #[] e)):=by
  rw[show execOp a.eval o=(do pure (.value (← Instr.buildSlice t 0 (#[].map fun (i,x)=>(i,a.eval x))))) by unfold execOp;rw[ho]]
  have hs:(sizeOf e).run P w=.ok j.size w:=Yb hty u2 w
  simp only[Instr.buildSlice,Sem.run_bind,run_underlying u1,Result.andThen_ok,hs,if_neg (show ¬ 0*j.size > 2 ^ 24 by omega),Sem.run_pure]
  rw[if_pos (by omega)]
  simp only[Sem.run_bind,Sem.run_pure,Result.andThen_ok]
  have hz:Array.range (0*j.size)=#[]:=by rw[Nat.zero_mul];rfl
  simp only[hz,List.map_toArray,List.map_nil,Instr.fill,Sem.run_bind,Sem.run_pure]
  rfl
 unfold Oper.wp
 rw[hrun]
 have k1:=hr.newEmp hnm #[] e j.size 0 (by simp)
 exact hK _ _ _ (k1.put _ (.os nm 1 1 0) (Rep.emp (es:=j.size) (by simp[updI])) o.dst hd)
theorem do_makeSlice0(hty:TyOK P Ty){t e:Nat}{j:TyI}{x y:Operand}{k1 k2:IntKind}{c:Nat}(ho:o.op=.makeSlice t x y)(he:ZN Ty t=some (e,j))(hx:ρ x=.int k1 0)(hy:ρ y=.int k2 c)(hb:j.bytes*c≤281474976710656)(h63:c≤9223372036854775807)
  (hsz:(Zf j.zero).length=j.size) (hst:Z5 j.zero=true):Do P G o ρ g nm (.os nm 1 1 0) [(nm,some (.arr j.size [List.replicate j.size .any]))]:=by
 intro cx dom ι a w σ st K Q hP hG hr hρ hg hnm hd hK
 subst hG
 have hvx:=Zl hr x
 rw[hρ x (by rw[ho];simp[Op.operands]),hx] at hvx
 have hvy:=Zl hr y
 rw[hρ y (by rw[ho];simp[Op.operands]),hy] at hvy
 obtain⟨u1,u2⟩:=ZL hty he
 obtain⟨z,z1,z1',⟨info,i1,i2,i3,i4⟩,z2,z3⟩:=YM (w:=w) (F:=Fb cx ι st) hty u2 hsz hst
 have hrun:(execOp a.eval o).run P w=.ok (.value (.slice (some ⟨w.heap.size,0,none⟩) 0 c)) (w.alloc (.cells (madeCells z.cells (c*j.size)) e)):=by
  rw[show execOp a.eval o=(do pure (.value (← Instr.makeSlice t (a.eval x) (a.eval y)))) by unfold execOp;rw[ho]]
  have hm:=run_make (P:=P) w t e info z u1 i1 i4 k1 k2 ((0:Nat):Int) c (by omega) (by omega) (by rw[i3,← Int.natCast_mul];omega) (by omega)
  simp only[Int.toNat_natCast,i2] at hm
  simp only[hvx.is_int,hvy.is_int,Sem.run_bind]
  rw[show ((0:Int))=((0:Nat):Int) from rfl,hm]
  rfl
 unfold Oper.wp
 rw[hrun]
 have k1:=hr.newEmp hnm _ e j.size c (size_madeCells z.cells (c*j.size))
 exact hK _ _ _ (k1.put _ (.os nm 1 1 0) (Rep.emp (es:=j.size) (by simp[updI])) o.dst hd)
theorem do_sliceStr(hty:TyOK P Ty){t:Nat}{x:Operand}{lo hi:Option Operand}{bl bh:Option Nat}{s:ByteArray}{i:TyI}(ho:o.op=.slice t x lo hi none)(ht:Ty t=some i)(hk:i.k=.str)(hx:ρ x=.str s)(h1:bndD ρ lo=some bl)(h2:bndD ρ hi=some bh)(hh:bh.getD s.size≤s.size)(hl:bl.getD 0≤bh.getD s.size) :
  Do P G o ρ g nm (.str (s.extract (bl.getD 0) (bh.getD s.size))) []:=by
 refine ZY (fun w F ι ev hev=>?_)
 have hv:=hev x (by rw[ho];simp[Op.operands])
 rw[hx] at hv
 obtain⟨info,de,z,e1,e2,_,_,e5,_⟩:=hty.get ht
 rw[hk] at e5
 cases de<;>simp only[kB,Bool.false_eq_true] at e5
 have b1:=bnd_ok (ρ:=ρ) (ev:=ev) (w:=w) (F:=F) (ι:=ι) (x:=lo) (fun y e=>hev y (by rw[ho,e];simp[Op.operands])) h1
 have b2:=bnd_ok (ρ:=ρ) (ev:=ev) (w:=w) (F:=F) (ι:=ι) (x:=hi) (fun y e=>hev y (by rw[ho,e];simp[Op.operands])) h2
 have hb:=bounds_run (P:=P) (w:=w) b1 b2 false s.size s.size hh hl
 refine⟨.string (s.extract (bl.getD 0) (bh.getD s.size)),?_,.pure _ _ (.str _)⟩
 rw[show execOp ev o=(do pure (.value (← Instr.sliceAt t (ev x) (lo.map ev) (hi.map ev) none))) by unfold execOp;rw[ho];rfl]
 simp only[Sem.run_bind,Instr.sliceAt,run_underlying e2,Result.andThen_ok,Instr.slice,hv.is_str,Option.isSome_none,Bool.false_eq_true,if_false,hb]
 rfl
theorem do_convStr(hty:TyOK P Ty){s d:Nat}{x:Operand}{i j:TyI}{b:ByteArray}(ho:o.op=.convert s d x)(hi:Ty s=some i)(hj:Ty d=some j)(hk:j.k=.str)(hx:ρ x=.str b):Do P G o ρ g nm (.str b) []:=by
 refine ZY (fun w F ι ev hev=>?_)
 have hv:=hev x (by rw[ho];simp[Op.operands])
 rw[hx] at hv
 obtain⟨_,ds,_,_,h2,_⟩:=hty.get hi
 obtain⟨_,dd,_,_,h2',_,_,h5,_⟩:=hty.get hj
 rw[hk] at h5
 cases dd<;>simp only[kB,Bool.false_eq_true] at h5
 refine⟨.string b,?_,.pure _ _ (.str _)⟩
 rw[show execOp ev o=(do pure (.value (← convert s d (ev x)))) by unfold execOp;rw[ho]]
 simp only[Sem.run_bind,convert,run_underlying h2,run_underlying h2',Result.andThen_ok,hv.is_str]
 rfl
theorem do_minmax{b:Bool}{x y:Operand}{tys:Array TypeId}{k:IntKind}{p q:Int}(ho:o.op=Ym (if b then .min else .max) #[x,y] tys)(hx:ρ x=.int k p)(hy:ρ y=.int k q):Do P G o ρ g nm (.int k (if b then (if q<p then q else p) else (if p<q then q else p))) []:=by
 refine ZY (fun w F ι ev hev=>?_)
 have h1:=hev x (by rw[ho];simp[Ym,Op.operands,Call.operands])
 have h2:=hev y (by rw[ho];simp[Ym,Op.operands,Call.operands])
 rw[hx] at h1;rw[hy] at h2
 obtain⟨cs,hcs⟩:=YC (ev:=ev) ho
 rw[hcs]
 refine⟨_,?_,.pure _ _ (.int _ _)⟩
 cases b
 ·simp[builtin,Builtin.max_,Builtin.max2,h1.is_int,h2.is_int]
 ·simp[builtin,Builtin.min_,Builtin.min2,h1.is_int,h2.is_int]
end
def bytesOf:List (List D)→Option (List UInt8)
 | []=>some []
 | [.int .u8 n]::l=>match bytesOf l with|some r=>some (UInt8.ofNat n.toNat::r)|none=>none
 | _::_=>none
theorem bytesOf_ok:∀ {rows:List (List D)} {l:List UInt8},bytesOf rows=some l→∃ ns:List Int,rows=ns.map (fun n=>[.int .u8 n])∧l=ns.map (fun n=>UInt8.ofNat n.toNat)
 | [],l,h=>by cases h;exact⟨[],rfl,rfl⟩
 | r::rows,l,h=>by
  unfold bytesOf at h
  split at h
  ·rename_i h1;cases h1
  ·rename_i n l' h1
   injection h1 with h1 h2
   subst h1;subst h2
   split at h
   ·rename_i r' hr
    cases h
    obtain⟨ns,e1,e2⟩:=bytesOf_ok hr
    exact⟨n::ns,by simp[e1],by simp[e2]⟩
   ·cases h
  ·cases h
theorem fold_push:∀ (ns:List Int) (s:ByteArray),(ns.foldl (fun r n=>r.push (UInt8.ofNat n.toNat)) s).data.toList=s.data.toList++ns.map (fun n=>UInt8.ofNat n.toNat)
 | [],s=>by simp
 | n::ns,s=>by
  rw[List.foldl_cons,fold_push ns]
  simp[ByteArray.push]
section
variable {P:Program} {G:Nat→Option (List D)} {Ty:Nat→Option TyI} {o:Oper} {ρ:Operand→D} {g:Nat→Option Blk} {nm:Nat}
theorem do_convBytes(hty:TyOK P Ty){s d e:Nat}{x:Operand}{i j je:TyI}{rows:List (List D)}{l:List UInt8}(ho:o.op=.convert s d x)(hi:Ty s=some i)(hj:Ty d=some j)(hki:i.k=.sl e)(hkj:j.k=.str)(he:Ty e=some je)(hke:je.k=.int .u8)(hx:Yq g (ρ x)=some rows)(hb:bytesOf rows=some l) :
  Do P G o ρ g nm (.str ⟨l.toArray⟩) []:=by
 refine Xg (fun c dom ι a w σ st hP hG hr hρ hg=>⟨.string ⟨l.toArray⟩,?_,.pure _ _ (.str _)⟩)
 subst hG
 have hv:=Zl hr x
 rw[hρ x (by rw[ho];simp[Op.operands])] at hv
 obtain⟨_,ds,_,_,h2,_,_,h5,_⟩:=hty.get hi
 rw[hki] at h5
 cases ds<;>simp only[kB,Bool.false_eq_true,Bool.and_eq_true,beq_iff_eq] at h5
 obtain⟨rfl,_⟩:=h5
 obtain⟨_,dd,_,_,h2',_,_,h5',_⟩:=hty.get hj
 rw[hkj] at h5'
 cases dd<;>simp only[kB,Bool.false_eq_true] at h5'
 obtain⟨_,de,_,_,h2e,_,_,h5e,_⟩:=hty.get he
 rw[hke] at h5e
 cases de<;>simp only[kB,Bool.false_eq_true,beq_iff_eq] at h5e
 subst h5e
 obtain⟨ns,e1,e2⟩:=bytesOf_ok hb
 subst e1
 obtain⟨ad,cap,ev,hm⟩:=src_mem hr hg hv hx (es:=1) (fun r hr=>by obtain⟨n,_,rfl⟩:=List.mem_map.1 hr;rfl)
 have fin:∀ str:ByteArray,str.data.toList=l→(.string str:Value)=.string ⟨l.toArray⟩:=by
  intro str h
  obtain⟨⟨t⟩⟩:=str
  simp at h
  subst h;rfl
 rw[show execOp a.eval o=(do pure (.value (← convert s d (a.eval x)))) by unfold execOp;rw[ho]]
 simp only[Sem.run_bind,ev,run_convert_bytes_string w s d _ ad _ cap h2 h2e h2']
 cases ad with
 | none =>
  have hn:ns=[]:=by
   cases ns with
   | nil=>rfl
   | cons n ns =>
    obtain⟨b,off,e,_⟩:=hm (by simp)
    cases e
  subst hn
  subst e2
  simp only[Conv.bytesToString,Sem.run_pure,Result.andThen_ok]
  rfl
 | some ad =>
  have hload:(loadCells ad (ns.map (fun n=>[D.int IntKind.u8 n])).length).run P w=.ok (ns.map (Value.int .u8)).toArray w:=by
   by_cases h0:ns=[]
   ·subst h0
    have:=run_loadCells (P:=P) w ad 0 (fun _=>undef) (fun j hj=>absurd hj (Nat.not_lt_zero _))
    simpa using this
   ·obtain⟨b,off,e,cs,hc1,hc2⟩:=hm (by simpa using h0)
    cases e
    have hcs:∀ k (hk:k<ns.length),cs k=.int .u8 ns[k]:=by
     intro k hk
     have:=hc2 k (by simpa using hk) 0 (by simp)
     simp only[Nat.mul_one,Nat.add_zero,List.getElem_map,List.getElem_cons_zero] at this
     generalize cs k=q at this ⊢
     cases this;rfl
    have:=run_loadCells (P:=P) w ⟨b,off,none⟩ ns.length cs (fun j hj=>by rw[YO];exact hc1 j (by simpa using hj))
    rw[List.length_map,this]
    congr 2
    refine List.ext_getElem (by simp) (fun k k1 k2=>?_)
    simp only[List.getElem_map,List.getElem_range]
    exact hcs k (by simpa using k1)
  rw[run_bytesToString w ad _ cap ns hload]
  simp only[Result.andThen_ok,Sem.run_pure]
  rw[fin _ (by rw[fold_push,e2];rfl)]
theorem do_convDig(hty:TyOK P Ty){s d e:Nat}{x:Operand}{i j je:TyI}{lo hi:Int}(ho:o.op=.convert s d x)(hi':Ty s=some i)(hj:Ty d=some j)(hki:i.k=.sl e)(hkj:j.k=.str)(he:Ty e=some je)(hke:je.k=.int .u8)(hx:Yq g (ρ x)=some [[.rng .u8 lo hi]])(hlo:49≤lo)(hhi:hi≤57) :
  Do P G o ρ g nm (.strg ⟨#[]⟩ ⟨#[]⟩) []:=by
 refine Xg (fun c dom ι a w σ st hP hG hr hρ hg=>?_)
 subst hG
 have hv:=Zl hr x
 rw[hρ x (by rw[ho];simp[Op.operands])] at hv
 obtain⟨_,ds,_,_,h2,_,_,h5,_⟩:=hty.get hi'
 rw[hki] at h5
 cases ds<;>simp only[kB,Bool.false_eq_true,Bool.and_eq_true,beq_iff_eq] at h5
 obtain⟨rfl,_⟩:=h5
 obtain⟨_,dd,_,_,h2',_,_,h5',_⟩:=hty.get hj
 rw[hkj] at h5'
 cases dd<;>simp only[kB,Bool.false_eq_true] at h5'
 obtain⟨_,de,_,_,h2e,_,_,h5e,_⟩:=hty.get he
 rw[hke] at h5e
 cases de<;>simp only[kB,Bool.false_eq_true,beq_iff_eq] at h5e
 subst h5e
 obtain⟨ad,cap,ev,hm⟩:=src_mem hr hg hv hx (es:=1) (fun r hr=>by simp only[List.mem_singleton] at hr;subst hr;rfl)
 obtain⟨b,off,e1,cs,hc1,hc2⟩:=hm (by simp)
 subst e1
 obtain⟨n,hn,n1,n2⟩:∃ n,cs 0=.int .u8 n∧lo≤n∧n≤hi:=by
  have:=hc2 0 (by simp) 0 (by simp)
  simp only[Nat.mul_one,Nat.add_zero,List.getElem_cons_zero] at this
  generalize cs 0=q at this ⊢
  cases this with|rng k l h n h1 h2=>exact⟨n,rfl,h1,h2⟩
 have hload:(loadCells ⟨b,off,none⟩ 1).run P w=.ok ([n].map (Value.int .u8)).toArray w:=by
  have:=run_loadCells (P:=P) w ⟨b,off,none⟩ 1 cs (fun j hj=>by rw[YO];exact hc1 j (by simpa using hj))
  rw[this]
  congr 2
  simp[hn]
 rw[show execOp a.eval o=(do pure (.value (← convert s d (a.eval x)))) by unfold execOp;rw[ho]]
 simp only[Sem.run_bind,ev,run_convert_bytes_string w s d _ (some ⟨b,off,none⟩) _ cap h2 h2e h2']
 refine⟨.string ⟨#[UInt8.ofNat n.toNat]⟩,?_,.pure _ _ (.strg _ _ _ (UInt8.ofNat n.toNat) ?_ ?_ (by simp))⟩
 ·rw[show ([[D.rng IntKind.u8 lo hi]]:List (List D)).length=1 from rfl]
  rw[run_bytesToString w ⟨b,off,none⟩ 1 cap [n] hload]
  simp only[Result.andThen_ok,Sem.run_pure]
  rfl
 ·have:(UInt8.ofNat n.toNat).toNat=n.toNat:=by simp[UInt8.toNat_ofNat'];omega
  omega
 ·have:(UInt8.ofNat n.toNat).toNat=n.toNat:=by simp[UInt8.toNat_ofNat'];omega
  omega
end
end
section
open Go Go.RowKit
theorem updL_app:∀ (l l':List (Nat×Option Blk)) (st:Nat→Option Blk),updL st (l++l')=updL (updL st l) l'
 | [],_,_=>rfl
 | (n,b)::l,l',st=>by rw[List.cons_append,updL,updL,updL_app l l']
theorem Rel.freeze{c:Ctx}{dom:Nat→Prop}{ι:Nat→Option IB}{a:Act}{w:World}{σ:Nat→D}{st gv:Nat→Option Blk}{L:List Nat}(hr:Rel c dom ι a w σ st)(hgv:∀ m b,gv m=some b→st m=some b)(hL:∀ m,(gv m).isSome=true→m∈L) :
  Rel c dom ι a w σ (updL st (L.map (fun n=>(n,none))))∧∀ v d d',Rep w (Fb c ι st) ι v d→ZZ gv 9 d=some d'→RepP w (Fb c ι (updL st (L.map (fun n=>(n,none))))) v d':=by
 have hst:∀ n b,updL st (L.map (fun n=>(n,none))) n=some b→st n=some b:=by
  intro n b hn
  rw[YD] at hn
  by_cases h:n∈L
  ·rw[if_pos h] at hn;cases hn
  ·rw[if_neg h] at hn;exact hn
 refine⟨hr.drop hst,fun v d d' hv hd=>?_⟩
 refine view_okE hr hgv _ (fun b hF=>?_) 9 v d d' hv hd
 rcases hF with hF|⟨n,ib,q1,q2,q3,q4⟩
 ·refine⟨.inl hF,fun n ib p1 p2 p3 e=>?_⟩
  subst e
  exact (hr.own ib.blk ⟨n,ib,by
   cases hgn:gv n with
   | none=>rw[hgn] at p1;cases p1
   | some bb=>rw[hgv n bb hgn];rfl,p2,p3,rfl⟩).2.1 hF
 ·have hn:n∉L∧(st n).isSome=true:=by
   rw[YD] at q1
   by_cases h:n∈L
   ·rw[if_pos h] at q1;cases q1
   ·rw[if_neg h] at q1;exact⟨h,q1⟩
  refine⟨.inr ⟨n,ib,hn.2,q2,q3,q4⟩,fun n2 ib2 p1 p2 p3 e=>?_⟩
  have hne:n≠n2:=fun e2=>hn.1 (e2▸hL n2 p1)
  have hs2:(st n2).isSome=true:=by
   cases hgn:gv n2 with
   | none=>rw[hgn] at p1;cases p1
   | some bb=>rw[hgv n2 bb hgn];rfl
  exact hr.inj n n2 hn.2 hs2 hne ib ib2 q2 p2 q3 p3 (by rw[← q4,e])
section
variable {P:Program} {G:Nat→Option (List D)} {Ty:Nat→Option TyI} {o:Oper} {ρ:Operand→D} {g:Nat→Option Blk} {nm:Nat}
theorem do_store_arrF(hty:TyOK P Ty){t:Nat}{i:TyI}{x y:Operand}{n hl ix off es:Nat}{rows:List (List D)}{row:List D}(ho:o.op=.store t x y)(ht:Ty t=some i)(hx:ρ x=.ap n hl ix off)(hgn:g n=some (.arr es rows))(hlen:rows.length=hl)(hrow:rows[ix]? = some row)
  {L:List Nat} {gv:Nat→Option Blk} {dy:D} (hgv:∀ m b,gv m=some b→g m=some b) (hL:∀ m,(gv m).isSome=true→m∈L) (hnL:n∉L) (hview:ZZ gv 9 (ρ y)=some dy) (hs:Z5 dy=true) (hp:dy.lo 0=true) (hsz:(Zf dy).length=i.size) (h1:onesD (Zf dy)=true) (hle:off+(Zf dy).length≤row.length) :
  Do P G o ρ g nm .any (L.map (fun n=>(n,none))++[(n,some (.arr es (rows.set ix (putL row off (Zf dy)))))]):=by
 intro c dom ι a w σ st K Q hP hG hr hρ hg hnm hd hK
 subst hG
 obtain⟨hr2,hf⟩:=hr.freeze (L:=L) (fun m b h=>hg m b (hgv m b h)) hL
 have hy0:=Zl hr y
 rw[hρ y (by rw[ho];simp[Op.operands])] at hy0
 have hy1:=hf _ _ _ hy0 hview
 have hgn2:updL st (L.map (fun n=>(n,none))) n=some (.arr es rows):=by rw[YD,if_neg hnL];exact hg n _ hgn
 have hK:∀ a' w' ι',Rel c (fun m=>dom m∨m=nm) ι' a' w' (setO σ o.dst .any) (updL (updL st (L.map (fun n=>(n,none)))) [(n,some (.arr es (rows.set ix (putL row off (Zf dy)))))])→K a' w':=fun a' w' ι' h=>hK a' w' ι' (by rw[updL_app];exact h)
 generalize updL st (L.map (fun n=>(n,none)))=st2 at hr2 hy1 hgn2 hK
 clear hy0 hf hg hr
 rename Rel _ _ _ _ _ _ _=>hr
 have hg:∀ m b,(if m=n then some (Blk.arr es rows) else none)=some b→st2 m=some b:=fun m b h=>by
  by_cases e:m=n
  ·subst e;rw[if_pos rfl] at h;cases h;exact hgn2
  ·rw[if_neg e] at h;cases h
 replace hgn:(if n=n then some (Blk.arr es rows) else none)=some (.arr es rows):=by rw[if_pos rfl]
 have hv:=Zl hr x
 rw[hρ x (by rw[ho];simp[Op.operands]),hx] at hv
 have hy:Rep w (Fb c ι st2) ι (a.eval y) dy:=.pure _ _ hy1
 obtain⟨y1,y2⟩:=cellsD_ok hy hs
 obtain⟨info,de,z,e1,e2,e3,_⟩:=hty.get ht
 obtain⟨hix,hrow'⟩:=List.getElem?_eq_some_iff.1 hrow
 generalize hex:a.eval x=vx at hv
 cases hv with
 | pure _ _ h=>cases h
 | ap n hl ix off ib v hn hle' hone hp' =>
  obtain⟨ib',k1,k2,k3,k4,k5,k6,k7⟩:=hr.blk n _ hgn2
  obtain rfl:ib=ib':=Option.some.inj (hn.symm.trans k1)
  obtain⟨hbi,hv⟩:=hp' (k4.trans hlen)
  have hcap:0<ib.cap:=by omega
  obtain⟨vs,ty,q1,q2,q3⟩:=k7 hcap
  obtain⟨iy,hiy⟩:∃ iy,iy=ix - ib.base:=⟨_,rfl⟩
  rw[← hiy] at hv
  have hrl:row.length=es:=by rw[← hrow'];exact k6 _ (List.getElem_mem hix)
  have hfit:iy*es+off+(a.eval y).cells.size≤vs.size:=by
   have:(iy+1)*es≤(ib.cap - ib.base)*es:=Nat.mul_le_mul_right _ (by omega)
   rw[Nat.add_mul,Nat.one_mul] at this
   omega
  have hst:=run_storeCells_at P ib.blk (iy*es+off) ty (a.eval y).cells.toList 0 vs w q1 (by simp;omega) (cells_one y1 y2 h1)
  simp only[Nat.add_zero] at hst
  generalize hnew:(vs.toList.take (iy*es+off)++(a.eval y).cells.toList++vs.toList.drop (iy*es+off+(a.eval y).cells.toList.length)).toArray=new at hst
  have hnsz:new.size=vs.size:=by rw[← hnew];simp;omega
  have hget:∀ k,new.getD k undef=if k<iy*es+off then vs.getD k undef else if k<iy*es+off+(a.eval y).cells.size then (a.eval y).cells.getD (k - (iy*es+off)) undef else vs.getD k undef:=by
   intro k;rw[← hnew];exact getD_mid vs _ _ k hfit
  have hrun:(execOp a.eval o).run P w=.ok .skip (w.setRow ib.blk new):=by
   rw[show execOp a.eval o=(do Instr.storeAt t (a.eval x) (a.eval y);pure .skip) by unfold execOp;rw[ho]]
   have hc:(a.eval y).cells.size=info.size:=by omega
   simp only[hex,hv,k3,Instr.storeAt,Instr.sureAddr,storeVar,Sem.run_bind,Sem.run_pure,Result.andThen_ok,sizeOf,typeInfo,run_program,e1,hc,ne_eq,not_true_eq_false,if_false,hst]
  unfold Oper.wp
  rw[hrun]
  have hso:(st2 n).isSome=true:=by rw[hgn2];rfl
  have hone:=hr.one (w':=w.setRow ib.blk new) n ib (.arr es (rows.set ix (putL row off (Zf dy)))) rfl rfl rfl (by simp)
   (fun b hb'=>by
    by_cases e:b=ib.blk
    ·exact .inr ⟨ib,hn,hso,hcap,e⟩
    ·exact .inl (setRow_other w _ _ _ e))
   (fun _=>⟨by simp;exact (hr.own ib.blk ⟨n,ib,hso,hn,hcap,rfl⟩).1,.inl ⟨ib,hn,hso,hcap,rfl⟩⟩)
   (fun ib2 h2=>.inl (Option.some.inj (hn.symm.trans h2)))
   (fun f1 f2=>⟨ib,by simp[updI],k2,k3,by simp;exact k4,by simp;exact k5,fun r hr'=>by
     rcases List.mem_or_eq_of_mem_set hr' with h|h
     ·exact k6 r h
     ·subst h;unfold putL;simp;omega,fun _=>⟨new,ty,setRow_heap w _ vs _ ty _ q1,by omega,fun k hk j hj hbk=>?_⟩⟩)
  ·obtain⟨r1,r2⟩:=hone
   exact hK _ _ _ ((r1.put undef .any (.pure _ _ (.any _)) o.dst hd).weaken (fun _=>Le.refl _) (fun m hm=>.inl (hm.elim id (fun e=>e▸hr.dom n (by rw[hn];rfl)))))
  ·have hk':k<rows.length:=by simpa using hk
   refine f2 _ _ ?_
   rw[hget]
   by_cases hki:ix=k
   ·subst hki
    have hjr:j<(putL row off (Zf dy)).length:=by simpa using hj
    have hpl:(putL row off (Zf dy)).length=row.length:=by unfold putL;simp;omega
    have ee:(rows.set ix (putL row off (Zf dy)))[ix][j]=(putL row off (Zf dy))[j]:=by simp
    rw[ee,← hiy]
    by_cases c1:j<off
    ·rw[if_pos (by omega)]
     have e:(putL row off (Zf dy))[j]=row[j]:=by unfold putL;simp[show j<min off row.length by omega]
     rw[e]
     have:=q3 ix hix j (by rw[hrow'];omega) hbi
     rw[← hiy] at this
     simpa only[hrow'] using this
    ·rw[if_neg (by omega)]
     by_cases c2:j<off+(Zf dy).length
     ·rw[if_pos (by omega)]
      have c3:j - off<(Zf dy).length:=by omega
      have e:(putL row off (Zf dy))[j]=(Zf dy)[j - off]:=by
       unfold putL;simp[List.getElem_append,c1,c3,show off≤row.length by omega]
      rw[e,show iy*es+j - (iy*es+off)=j - off by omega]
      refine (y2 _ c3).toP ?_
      exact D.los_at (cellsD_lo hp) _ c3
     ·rw[if_neg (by omega)]
      have c3:¬ j - off<(Zf dy).length:=by omega
      have e:(putL row off (Zf dy))[j]=row[j]:=by
       unfold putL;simp[List.getElem_append,c1,c3,show off≤row.length by omega,show off+(Zf dy).length+(j - off - (Zf dy).length)=j by omega]
      rw[e]
      have:=q3 ix hix j (by rw[hrow'];omega) hbi
      rw[← hiy] at this
      simpa only[hrow'] using this
   ·have hj':j<(rows[k]).length:=by simpa[List.getElem_set,hki] using hj
    have hje:j<es:=by rw[← k6 _ (List.getElem_mem hk')];exact hj'
    have e:(rows.set ix (putL row off (Zf dy)))[k][j]=rows[k][j]:=by simp[hki]
    rw[e]
    have hne:∀ l,l<es→iy*es+l≠(k - ib.base)*es+j:=fun l hl e=>hki (by have:=(row_apart hl hje e).1;omega)
    have:(if (k - ib.base)*es+j<iy*es+off then vs.getD ((k - ib.base)*es+j) undef else if (k - ib.base)*es+j<iy*es+off+(a.eval y).cells.size then (a.eval y).cells.getD ((k - ib.base)*es+j - (iy*es+off)) undef else vs.getD ((k - ib.base)*es+j) undef)=vs.getD ((k - ib.base)*es+j) undef:=by
     by_cases c1:(k - ib.base)*es+j<iy*es+off
     ·rw[if_pos c1]
     ·rw[if_neg c1]
      by_cases c2:(k - ib.base)*es+j<iy*es+off+(a.eval y).cells.size
      ·exact absurd (show iy*es+((k - ib.base)*es+j - iy*es)=(k - ib.base)*es+j by omega) (hne _ (by omega))
      ·rw[if_neg c2]
    rw[this]
    exact q3 k hk' j hj' hbk
theorem do_buildSliceF(hty:TyOK P Ty){t len e:Nat}{j:TyI}{parts:Array (Nat×Operand)}{out:List D}(ho:o.op=.buildSlice t len parts)(he:ZN Ty t=some (e,j))(hsz:(Zf j.zero).length=j.size)(hst:Z5 j.zero=true)(hlim:len*j.size≤16777216)
  {L:List Nat} {gv:Nat→Option Blk} {dps:List (Nat×D)} (hgv:∀ m b,gv m=some b→g m=some b) (hL:∀ m,(gv m).isSome=true→m∈L) (hview:mapO (fun p=>(ZZ gv 9 (ρ p.2)).map (fun d=>(p.1,d))) parts.toList=some dps) (h:fillD (fun k=>some (k*j.size,j.size)) (YL len (Zf j.zero)) dps=some out) (hp:D.los 0 out=true) (hol:out.length=len*j.size) :
  Do P G o ρ g nm (.os nm len 0 len) (L.map (fun n=>(n,none))++[(nm,some (.arr j.size (Z9 len j.size out)))]):=by
 intro c dom ι a w σ st K Q hP hG hr hρ hg hnm hd hK
 subst hG
 obtain⟨hr2,hf⟩:=hr.freeze (L:=L) (fun m b h=>hg m b (hgv m b h)) hL
 obtain⟨mv1,mv2⟩:=Xr hview
 have hparts:∀ k (k1:k<parts.toList.length) (k2:k<dps.length),(parts.toList[k]).1=dps[k].1∧RepP w (Fb c ι (updL st (L.map (fun n=>(n,none))))) (a.eval (parts.toList[k]).2) dps[k].2:=fun k k1 k2=>by
  have hm:(parts.toList[k]).2∈o.op.operands:=by
   rw[ho]
   simp only[Op.operands,List.mem_toArray,List.mem_map]
   exact⟨_,List.getElem_mem k1,rfl⟩
  have h0:=mv2 k k1 k2
  have hrep:=Zl hr (parts.toList[k]).2
  rw[hρ _ hm] at hrep
  cases hq:ZZ gv 9 (ρ (parts.toList[k]).2) with
  | none=>rw[show (ZZ gv 9 (ρ (parts.toList[k]).2))=none from hq] at h0;cases h0
  | some d =>
   rw[show (ZZ gv 9 (ρ (parts.toList[k]).2))=some d from hq] at h0;simp only[Option.map_some,Option.some.injEq] at h0
   rw[← h0]
   exact⟨rfl,hf _ _ _ hrep hq⟩
 have hK:∀ a' w' ι',Rel c (fun m=>dom m∨m=nm) ι' a' w' (setO σ o.dst (.os nm len 0 len)) (updL (updL st (L.map (fun n=>(n,none)))) [(nm,some (.arr j.size (Z9 len j.size out)))])→K a' w':=fun a' w' ι' h=>hK a' w' ι' (by rw[updL_app];exact h)
 generalize updL st (L.map (fun n=>(n,none)))=st2 at hr2 hparts hK
 clear hf hg hr
 rename Rel _ _ _ _ _ _ _=>hr
 obtain⟨u1,u2⟩:=ZL hty he
 obtain⟨z,z1,z1',⟨info,i1,i2,_,i4⟩,z2,z3⟩:=YM (w:=w) (F:=Fb c ι st2) hty u2 hsz hst
 have hinit:∀ (zz:Array Value),(len*j.size≠0→zz=z.cells)→∀ k (hk:k<(YL len (Zf j.zero)).length),Rep w (Fb c ι st2) ι (((Array.range (len*j.size)).map (zz[· % zz.size]!)).getD k undef) (YL len (Zf j.zero))[k]:=by
  intro zz hzz k hk
  have hk':k<len*j.size:=by rw[← hsz,← YR];exact hk
  obtain⟨hz,ez⟩:=zerosD_at hk
  rw[ez,hzz (by omega)]
  have hm:k % z.cells.size<z.cells.size:=by rw[z2,← hsz];exact hz
  have e:((Array.range (len*j.size)).map (z.cells[· % z.cells.size]!)).getD k undef=z.cells.getD (k % (Zf j.zero).length) undef:=by
   have h1:(Array.range (len*j.size))[k]? = some k:=by simp[hk']
   rw[Array.getD_eq_getD_getElem?,Array.getElem?_map,h1]
   simp[hm,hsz,← z2]
  rw[e]
  exact .pure _ _ (z3 _ hz)
 obtain⟨zz,hz0,hzz⟩:∃ zz:Array Value,(len*j.size=0→zz=#[])∧(len*j.size≠0→zz=z.cells):=by
  by_cases h0:len*j.size=0
  ·exact⟨#[],fun _=>rfl,fun h=>absurd h0 h⟩
  ·exact⟨z.cells,fun h=>absurd h h0,fun _=>rfl⟩
 obtain⟨r,r1,r2,r3⟩:=fillD_ok (w:=w) (F:=Fb c ι st2) (ι:=ι) (fun k=>some (k*j.size,j.size)) (parts.toList.map (fun p=>(p.1,a.eval p.2))) _ ((Array.range (len*j.size)).map (zz[· % zz.size]!)) _ out h (by simp[mv1]) (fun k k1 k2=>by
  have k1':k<parts.toList.length:=by simpa using k1
  obtain⟨p1,p2⟩:=hparts k k1' k2
  simp only[List.getElem_map]
  exact⟨p1,.pure _ _ p2⟩) (by simp[YR,hsz]) (hinit zz hzz)
 have hrun:(execOp a.eval o).run P w=.ok (.value (.slice (some ⟨w.heap.size,0,none⟩) len len)) (w.alloc (.cells r e)):=by
  rw[show execOp a.eval o=(do pure (.value (← Instr.buildSlice t len (parts.map fun (i,x)=>(i,a.eval x))))) by unfold execOp;rw[ho]]
  have hs:(sizeOf e).run P w=.ok j.size w:=Yb hty u2 w
  have ep:(parts.map fun (x:Nat×Operand)=>(x.1,a.eval x.2)).toList=parts.toList.map (fun p=>(p.1,a.eval p.2)):=by simp
  simp only[Instr.buildSlice,Sem.run_bind,run_underlying u1,Result.andThen_ok,hs,if_neg (show ¬ len*j.size > 2 ^ 24 by omega),Sem.run_pure]
  by_cases h0:len*j.size=0
  ·rw[hz0 h0] at r1
   rw[if_pos h0]
   simp only[Sem.run_bind,Sem.run_pure,Result.andThen_ok,ep,r1]
   rfl
  ·rw[hzz h0] at r1
   rw[if_neg h0]
   simp only[Sem.run_bind,z1,Sem.run_pure,Result.andThen_ok,ep,r1]
   rfl
 have hpure:∀ i (hi:i<out.length),RepP w (Fb c ι st2) (r.getD i undef) out[i]:=fun i hi=>(r3 i hi).toP (D.los_at hp i hi)
 obtain⟨k1,k2⟩:=hr.newArr hnm r e j.size len (Z9 len j.size out) (by rw[rowsOf_length];exact Nat.le_refl _) (by omega) (rowsOf_row hol) (rowsOf_at hol hpure)
 unfold Oper.wp
 rw[hrun]
 refine hK _ _ _ (k1.put _ (.os nm len 0 len) ?_ o.dst hd)
 have:=Rep.newOs (w:=w.alloc (.cells r e)) (F:=Fb c (updI ι nm ⟨false,w.heap.size,j.size,(Z9 len j.size out).length,len,0⟩) (updS st2 nm (some (.arr j.size (Z9 len j.size out))))) (ι:=updI ι nm ⟨false,w.heap.size,j.size,(Z9 len j.size out).length,len,0⟩) (nm:=nm) (blk:=w.heap.size) (es:=j.size) (n:=len) (cap:=len) (by simp[updI,rowsOf_length]) (Nat.le_refl _)
 exact this
end
end
section
open Go Go.RowKit
def Z7(p:Nat→Bool)(g:Nat→Option Blk):Nat→D→Option D
 | 0,_=>none
 | k+1,.agg cs=>(mapO (Z7 p g k) cs).map .agg
 | k+1,.tup cs=>(mapO (Z7 p g k) cs).map .tup
 | k+1,.fn f a b=>match mapO (Z7 p g k) a,mapO (Z7 p g k) b with|some a',some b'=>some (.fn f a' b')|_,_=>none
 | k+1,.ifc t d=>(Z7 p g k d).map (.ifc t)
 | k+1,.bp n off=>if p n then some (.bp n off) else ZZ g (k+1) (.bp n off)
 | k+1,.ap n hl i off=>if p n then some (.ap n hl i off) else ZZ g (k+1) (.ap n hl i off)
 | k+1,.os n hl lo len=>if p n then some (.os n hl lo len) else ZZ g (k+1) (.os n hl lo len)
 | _+1,.rf n ch=>if p n then some (.rf n ch) else none
 | _+1,d=>some d
theorem viewKE_ok{c:Ctx}{dom:Nat→Prop}{ι:Nat→Option IB}{a:Act}{w:World}{σ:Nat→D}{st g:Nat→Option Blk}(hr:Rel c dom ι a w σ st)(hg:∀ n b,g n=some b→st n=some b)(p:Nat→Bool)(_hgp:∀ n,p n=true→g n=none)(F':Nat→Prop)
  (hF:∀ b,F' b→Fb c ι st b∧∀ n ib,(g n).isSome=true→ι n=some ib→0<ib.cap→b≠ib.blk):∀ (k:Nat) (v:Value) (d d':D),Rep w (Fb c ι st) ι v d→Z7 p g k d=some d'→Rep w F' ι v d':=by
 intro k
 induction k with
 | zero=>intro v d d' _ h;cases h
 | succ k ih =>
  have lst:∀ (cs:Array Value) (ds r:List D),cs.size=ds.length→(∀ i (hi:i<ds.length),Rep w (Fb c ι st) ι (cs.getD i undef) ds[i])→mapO (Z7 p g k) ds=some r→cs.size=r.length∧∀ i (hi:i<r.length),Rep w F' ι (cs.getD i undef) r[i]:=by
   intro cs ds r hl hrep hm
   obtain⟨m1,m2⟩:=Xr hm
   exact⟨by omega,fun i hi=>ih _ _ _ (hrep i (by omega)) (m2 i (by omega) hi)⟩
  intro v d d' hv h
  have seen:∀ {d d':D},Rep w (Fb c ι st) ι v d→ZZ g (k+1) d=some d'→Rep w F' ι v d':=fun hv h=>.pure _ _ (view_okE hr hg F' hF (k+1) _ _ _ hv h)
  cases d with
  | agg cs =>
   simp only[Z7] at h
   cases hm:mapO (Z7 p g k) cs with
   | none=>rw[hm] at h;cases h
   | some r =>
    rw[hm] at h;cases h
    obtain⟨vs,rfl,hl,hrep⟩:=hv.is_agg
    obtain⟨l1,l2⟩:=lst vs cs r hl hrep hm
    exact .agg _ _ l1 l2
  | tup cs =>
   simp only[Z7] at h
   cases hm:mapO (Z7 p g k) cs with
   | none=>rw[hm] at h;cases h
   | some r =>
    rw[hm] at h;cases h
    obtain⟨vs,rfl,hl,hrep⟩:=hv.is_tup
    obtain⟨l1,l2⟩:=lst vs cs r hl hrep hm
    exact .tup _ _ l1 l2
  | fn f d1 d2 =>
   simp only[Z7] at h
   split at h
   ·rename_i a' b' e1 e2
    cases h
    obtain⟨c1,c2,rfl,h1,h2,r1,r2⟩:=hv.is_fn
    obtain⟨l1,l2⟩:=lst c1 d1 a' h1 r1 e1
    obtain⟨l3,l4⟩:=lst c2 d2 b' h2 r2 e2
    exact .fn _ _ _ _ _ l1 l3 l2 l4
   ·cases h
  | ifc t d =>
   simp only[Z7] at h
   cases hm:Z7 p g k d with
   | none=>rw[hm] at h;cases h
   | some r =>
    rw[hm] at h;cases h
    obtain⟨u,rfl,hu⟩:=hv.is_ifc
    exact .ifc _ _ _ (ih _ _ _ hu hm)
  | bp n off =>
   simp only[Z7] at h
   split at h
   ·cases h
    cases hv with
    | pure _ _ h=>cases h
    | bp n off ib hn hb=>exact .bp n off ib hn hb
   ·exact seen hv h
  | ap n hl i off =>
   simp only[Z7] at h
   split at h
   ·cases h
    cases hv with
    | pure _ _ h=>cases h
    | ap n hl i off ib v hn hle h1 h=>exact .ap n hl i off ib v hn hle h1 h
   ·exact seen hv h
  | os n hl lo len =>
   simp only[Z7] at h
   split at h
   ·cases h
    cases hv with
    | pure _ _ h=>cases h
    | os n hl lo len ib v hn hle h1 h=>exact .os n hl lo len ib v hn hle h1 h
   ·exact seen hv h
  | rf n ch =>
   simp only[Z7] at h
   split at h
   ·cases h
    cases hv with
    | pure _ _ h=>cases h
    | rf n ch ib v hn hb hv=>exact .rf n ch ib v hn hb hv
   ·cases h
  | _ =>
   cases h
   cases hv with
   | pure _ _ h=>exact .pure _ _ (h.mono (fun b h1 _=>⟨rfl,fun h2=>h1 (hF b h2).1⟩))
def thawD(L:List Nat)(g:Nat→Option Blk)(d:D):D:=if D.inn (fun n=>!L.contains n) d then d else (Z7 (fun n=>!L.contains n) g 9 d).getD d
def thawS(L:List Nat)(g:Nat→Option Blk)(st:List (Nat×Blk)):List (Nat×Blk):=(st.filter (fun p=>!L.contains p.1)).map (fun p=>(p.1,match p.2 with|.box cs=>.box (cs.map (thawD L g))|b=>b))
theorem gs_thaw(L:List Nat)(g:Nat→Option Blk):∀ (st:List (Nat×Blk)) (n:Nat),gs (thawS L g st) n=if L.contains n then none else (gs st n).map (fun b=>match b with|.box cs=>.box (cs.map (thawD L g))|b=>b)
 | [],n=>by simp[thawS,gs]
 | (m,b)::st,n=>by
  have ih:=gs_thaw L g st n
  unfold thawS at ih ⊢
  cases hm:L.contains m with
  | true =>
   simp only[List.filter_cons,hm,Bool.not_true,Bool.false_eq_true,if_false,ih,gs]
   by_cases e:n=m
   ·subst e;simp only[hm,if_true]
   ·simp only[e,if_false]
  | false =>
   simp only[List.filter_cons,hm,Bool.not_false,if_true,List.map_cons,gs,ih]
   by_cases e:n=m
   ·subst e;simp only[hm,if_true,Bool.false_eq_true,if_false,Option.map_some]
   ·simp only[e,if_false]
theorem Rel.thaw{c:Ctx}{dom:Nat→Prop}{ι:Nat→Option IB}{a:Act}{w:World}{σ:Nat→D}{st:List (Nat×Blk)}(L:List Nat)(hr:Rel c dom ι a w σ (gs st)):Rel c dom ι a w (fun t=>thawD L (resN L (gs st)) (σ t)) (gs (thawS L (resN L (gs st)) st)):=by
 have hgv:∀ m b,resN L (gs st) m=some b→gs st m=some b:=fun m b h=>by
  unfold resN at h
  split at h
  ·exact h
  ·cases h
 have hL:∀ m,(resN L (gs st) m).isSome=true→m∈L:=fun m h=>by
  unfold resN at h
  split at h
  ·rename_i h';simpa using h'
  ·cases h
 obtain⟨hr2,_⟩:=hr.freeze (L:=L) hgv hL
 have hst:∀ n,gs (thawS L (resN L (gs st)) st) n=(updL (gs st) (L.map (fun n=>(n,none))) n).map (fun b=>match b with|.box cs=>.box (cs.map (thawD L (resN L (gs st))))|b=>b):=fun n=>by
  rw[gs_thaw,YD]
  by_cases h:n∈L
  ·have:L.contains n=true:=by simpa using h
   simp[h]
  ·have:L.contains n=false:=by simpa using h
   simp[h]
 have hsome:∀ n,(gs (thawS L (resN L (gs st)) st) n).isSome=(updL (gs st) (L.map (fun n=>(n,none))) n).isSome:=fun n=>by rw[hst];simp
 have hown:Own ι (gs (thawS L (resN L (gs st)) st))=Own ι (updL (gs st) (L.map (fun n=>(n,none)))):=by
  funext b
  unfold Own
  simp only[hsome]
 have hF:Fb c ι (gs (thawS L (resN L (gs st)) st))=Fb c ι (updL (gs st) (L.map (fun n=>(n,none)))):=by
  funext b
  unfold Fb
  rw[hown]
 have hsub:∀ b,Fb c ι (updL (gs st) (L.map (fun n=>(n,none)))) b→Fb c ι (gs st) b∧∀ n ib,(resN L (gs st) n).isSome=true→ι n=some ib→0<ib.cap→b≠ib.blk:=fun b hb=>by
  rcases hb with hb|⟨n,ib,q1,q2,q3,q4⟩
  ·refine⟨.inl hb,fun n ib p1 p2 p3 e=>?_⟩
   subst e
   exact (hr.own ib.blk ⟨n,ib,by
    cases hgn:resN L (gs st) n with
    | none=>rw[hgn] at p1;cases p1
    | some bb=>rw[hgv n bb hgn];rfl,p2,p3,rfl⟩).2.1 hb
  ·have hn:n∉L∧(gs st n).isSome=true:=by
    rw[YD] at q1
    by_cases h:n∈L
    ·rw[if_pos h] at q1;cases q1
    ·rw[if_neg h] at q1;exact⟨h,q1⟩
   refine⟨.inr ⟨n,ib,hn.2,q2,q3,q4⟩,fun n2 ib2 p1 p2 p3 e=>?_⟩
   have hne:n≠n2:=fun e2=>hn.1 (e2▸hL n2 p1)
   have hs2:(gs st n2).isSome=true:=by
    cases hgn:resN L (gs st) n2 with
    | none=>rw[hgn] at p1;cases p1
    | some bb=>rw[hgv n2 bb hgn];rfl
   exact hr.inj n n2 hn.2 hs2 hne ib ib2 q2 p2 q3 p3 (by rw[← q4,e])
 have hone:∀ v d,Rep w (Fb c ι (gs st)) ι v d→Rep w (Fb c ι (updL (gs st) (L.map (fun n=>(n,none))))) ι v (thawD L (resN L (gs st)) d):=fun v d h=>by
  have h0:Rep w (Fb c ι (updL (gs st) (L.map (fun n=>(n,none))))) ι v d:=h.mono (fun b h1 _=>⟨rfl,fun h2=>h1 (hsub b h2).1⟩) (Grows.refl _)
  unfold thawD
  split
  ·exact h0
  ·cases hv:Z7 (fun n=>!L.contains n) (resN L (gs st)) 9 d with
   | none=>exact h0
   | some d' =>
    refine viewKE_ok hr hgv _ (fun n hp=>?_) _ hsub 9 v d d' h hv
    unfold resN
    have:L.contains n=false:=by simpa using hp
    simp only[this,Bool.false_eq_true,if_false]
 refine⟨hr.size,hr.defers,fun t=>by rw[hF];exact hone _ _ (hr.env t),fun n b hb=>?_,fun n m h1 h2=>hr2.inj n m (by rw[← hsome];exact h1) (by rw[← hsome];exact h2),hr.dom,hr.os,hr.tape,hr.output,hr.hsize,hr.keep,hr.low,fun b hb=>hr2.own b (by rw[← hown];exact hb),fun g row hg=>by rw[hF];exact hr2.glob g row hg,hr.grow⟩
 rw[hst] at hb
 rw[hF]
 cases hq:updL (gs st) (L.map (fun n=>(n,none))) n with
 | none=>rw[hq] at hb;cases hb
 | some b0 =>
  rw[hq] at hb
  simp only[Option.map_some,Option.some.injEq] at hb
  subst hb
  have h0:=hr2.blk n b0 hq
  have hq1:gs st n=some b0:=by
   rw[YD] at hq
   by_cases h:n∈L
   ·rw[if_pos h] at hq;cases hq
   ·rw[if_neg h] at hq;exact hq
  cases b0 with
  | box cs =>
   obtain⟨ib,vs,ty,h1,h2,h3,h4,h5,h6⟩:=hr.blk n _ hq1
   refine⟨ib,vs,ty,h1,h2,h3,h4,by simpa using h5,fun i hi=>?_⟩
   have hi':i<cs.length:=by simpa using hi
   rw[List.getElem_map]
   exact hone _ _ (h6 i hi')
  | arr es rows=>exact h0
  | obj p=>exact h0
  | mp ks cs=>exact h0
  | deck sc=>exact h0
end
end Go.Proofs.YtjdgofpcmcobnaaGreatDoor.AL

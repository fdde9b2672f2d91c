/-
  The plain law: isolations of the made bays, and what they do.
-/
import Derived.Test.YtjdgofpcmcobnaaGreatDoorGo
import Derived.Test.YtjdgofpcmcobnaaGreatDoorGl
set_option maxRecDepth 100000
set_option maxHeartbeats 2000000
set_option linter.unusedVariables false
set_option linter.unusedSimpArgs false
namespace Go.Proofs.YtjdgofpcmcobnaaGreatDoor.AL
section
open Go Go.RowKit
def gst(gl:List Int)(n:Nat):List Int:=(List.range n).map (fun i:Nat=>if gl.any (fun x=>(i:Int)==x) then 1 else 2)
def inG(gl:List Int)(i:Nat):Bool:=gl.any (fun x=>(i:Int)==x)
theorem gst_at(gl:List Int)(n i:Nat)(h:i<n):(gst gl n)[i]? = some (if inG gl i then 1 else 2):=by simp[gst,inG,h]
theorem gst_two(gl:List Int)(n i:Nat):(gst gl n)[i]? = some 2↔i<n∧inG gl i=false:=by
 by_cases h:i<n
 ·rw[gst_at gl n i h]
  cases inG gl i<;>simp[h]
 ·constructor
  ·intro h1;rw[List.getElem?_eq_none (by simp[gst];omega)] at h1;cases h1
  ·rintro⟨h1,_⟩;exact absurd h1 h
theorem useOf_gst(gl:List Int)(n:Nat):YF (gst gl n)=usB gl n:=by
 unfold YF gst usB
 rw[List.map_map]
 apply List.map_congr_left
 intro i _
 simp only[Function.comp]
 cases gl.any (fun x=>(i:Int)==x)<;>rfl
theorem region_iff{n:Nat}{ds:List Dev}(h:DevsIn n ds)(zs:List Nat)(hz:∀ g∈zs,g<n)(gl:List Int)(v:Nat):(Zv n ds zs gl).getD v false=true↔∃ g∈zs,Rch ds (gst gl ds.length) g v:=by
 by_cases hn:1≤n
 ·have e:nbT (fun _=>false) (ds.zip (usB gl ds.length))=nbS ds (gst gl ds.length):=by
   funext u
   unfold nbT nbS
   rw[useOf_gst];simp
  have D:PO.Dist n (nbS ds (gst gl ds.length)) zs (Xi n (ds.zip (usB gl ds.length)) (fun _=>false) zs):=by
   unfold Xi
   rw[e]
   exact (PO.inv_bfs (fun u w hw=>nbZ_lt h hn _ u w hw) _ _ _ (PO.inv_start (fun g hm=>hz g hm)) (Nat.le_refl _)).dist
  have key:(Zv n ds zs gl).getD v false=true↔0≤PO.at_ (Xi n (ds.zip (usB gl ds.length)) (fun _=>false) zs) v:=by
   unfold Zv Yj
   by_cases hv:v<(Xi n (ds.zip (usB gl ds.length)) (fun _=>false) zs).length
   ·simp[List.getD_eq_getElem?_getD,hv,PO.at_]
   ·have:PO.at_ (Xi n (ds.zip (usB gl ds.length)) (fun _=>false) zs) v = -1:=by simp[PO.at_,List.getElem?_eq_none (Nat.le_of_not_lt hv)]
    rw[this]
    simp[List.getD_eq_getElem?_getD,hv]
  rw[key]
  constructor
  ·intro h0
   obtain⟨g,hg,hs⟩:=D.path (PO.at_ (Xi n (ds.zip (usB gl ds.length)) (fun _=>false) zs) v).toNat v (by omega)
   exact⟨g,hg,_,hs⟩
  ·rintro⟨g,hg,k,hk⟩
   exact (D.le (u:=g) (by rw[(D.zero g).2 hg];omega) hk).1
 ·have hzn:zs=[]:=by
   cases zs with
   | nil=>rfl
   | cons g gs=>have:=hz g (by simp);omega
  obtain rfl:n=0:=by omega
  subst hzn
  constructor
  ·intro h1
   have hl:=Xm 0 ds [] gl
   rw[List.eq_nil_of_length_eq_zero hl] at h1
   simp at h1
  ·rintro⟨g,hg,_⟩;cases hg
theorem enoughG_iff(r:List Bool)(gl:List Int):∀ (ds:List Dev) (i:Nat),Xf r gl ds i=true↔∀ j d,ds[j]? = some d→badB r gl (i+j) d=false
 | [],i=>by simp[Xf]
 | d::ds,i=>by
  unfold Xf
  constructor
  ·intro h j x hx
   split at h
   ·cases h
   ·rename_i hb
    cases j with
    | zero=>simp at hx;subst hx;simpa using hb
    | succ j=>have:=(enoughG_iff r gl ds (i+1)).1 h j x (by simpa using hx);rw[← this];congr 1;omega
  ·intro h
   rw[if_neg (by have:=h 0 d rfl;rw[Nat.add_zero] at this;rw[this];decide)]
   exact (enoughG_iff r gl ds (i+1)).2 (fun j x hx=>by have:=h (j+1) x (by simpa using hx);rw[← this];congr 1;omega)
theorem live_kind{n:Nat}{ds:List Dev}(hD:DevsIn n ds)(st:List Int){v:Nat}(hv:v<n):liveO ((colF n ds st).getD v 0)=true↔KindAt isSrc ds st v:=by
 obtain⟨l,e,h1,h2,_⟩:=col_bits hD st hv
 have hl:v<(colF n ds st).length:=by rw[Y1];exact hv
 have:(colF n ds st).getD v 0=PO.at_ (colL ds st (partsL n ds st)) v:=by
  show (colF n ds st).getD v 0=PO.at_ (colF n ds st) v
  simp[PO.at_,hl]
 rw[this,h1,← h2]
 cases l<;>cases e<;>decide
theorem region_eq{n:Nat}{ds:List Dev}(hD:DevsIn n ds)(zs:List Nat)(hz:∀ g∈zs,g<n)(gl gl':List Int)(h:∀ v,(∃ g∈zs,Rch ds (gst gl ds.length) g v)↔∃ g∈zs,Rch ds (gst gl' ds.length) g v):Zv n ds zs gl=Zv n ds zs gl':=by
 apply List.ext_getElem (by rw[Xm,Xm])
 intro i h1 h2
 have e1:(Zv n ds zs gl).getD i false=(Zv n ds zs gl)[i]:=by simp[List.getD_eq_getElem?_getD,h1]
 have e2:(Zv n ds zs gl').getD i false=(Zv n ds zs gl')[i]:=by simp[List.getD_eq_getElem?_getD,h2]
 rw[← e1,← e2,Bool.eq_iff_iff,region_iff hD zs hz gl,region_iff hD zs hz gl']
 exact h i
end
section
open Go Go.RowKit
theorem mem_supN(p:Nat→Bool):∀ (k:Nat) (x:Int),x∈supN p k↔∃ i:Nat,i<k∧p i=true∧x=i
 | 0,x=>by simp[supN]
 | k+1,x=>by
  unfold supN
  rw[List.mem_append,mem_supN p k x]
  constructor
  ·rintro (⟨i,h1,h2,h3⟩|h)
   ·exact⟨i,by omega,h2,h3⟩
   ·split at h
    ·rename_i hp
     exact⟨k,by omega,hp,by simpa using h⟩
    ·cases h
  ·rintro⟨i,h1,h2,h3⟩
   by_cases e:i=k
   ·subst e;right;rw[if_pos h2];simp[h3]
   ·left;exact⟨i,by omega,h2,h3⟩
theorem inG_iff(gl:List Int)(i:Nat):inG gl i=true↔(i:Int)∈gl:=by
 unfold inG
 rw[List.any_eq_true]
 constructor
 ·rintro⟨x,h1,h2⟩;rw[beq_iff_eq] at h2;rw[h2];exact h1
 ·intro h;exact⟨_,h,by simp⟩
theorem locked_some:∀ (l:List Lk) (d:Int),(Zx d l).2=true→∃ x∈l,x.dev=d∧x.pos=(Zx d l).1
 | [],d,h=>by simp[Zx] at h
 | x::l,d,h=>by
  unfold Zx at h ⊢
  split
  ·rename_i e;exact⟨x,by simp,e,rfl⟩
  ·rename_i e
   rw[if_neg e] at h
   obtain⟨y,h1,h2,h3⟩:=locked_some l d h
   exact⟨y,by simp[h1],h2,h3⟩
theorem locked_of:∀ (l:List Lk),l.Pairwise (fun a b=>a.dev≠b.dev)→∀ x∈l,Zx x.dev l=(x.pos,true)
 | [],_,x,h=>by cases h
 | y::l,hp,x,h=>by
  unfold Zx
  rcases List.mem_cons.1 h with rfl|h
  ·rw[if_pos rfl]
  ·have h1:=(List.pairwise_cons.1 hp).1 x h
   rw[if_neg h1]
   exact locked_of l (List.pairwise_cons.1 hp).2 x h
theorem gaps_in(ds:List Dev)(l:List Lk)(i:Nat):inG (ZR ds l) i=true↔i<ds.length∧(Zx i l).2=true∧(Zx i l).1=1∧gapB ((ds.map (·.kind)).getD i 0)=true:=by
 rw[inG_iff,ZR,mem_supN]
 constructor
 ·rintro⟨j,h1,h2,h3⟩
  obtain rfl:i=j:=by omega
  simp only[YG,Bool.and_eq_true,beq_iff_eq] at h2
  exact⟨h1,h2.1.1,h2.1.2,h2.2⟩
 ·rintro⟨h1,h2,h3,h4⟩
  exact⟨i,h1,by simp only[YG,Bool.and_eq_true,beq_iff_eq];exact⟨⟨h2,h3⟩,h4⟩,rfl⟩
theorem earths_in(ds:List Dev)(l:List Lk)(x:Int):x∈Yu ds l↔∃ i:Nat,x=i∧i<ds.length∧(Zx i l).2=true∧(Zx i l).1=2∧(ds.map (·.kind)).getD i 0=4:=by
 rw[Yu,mem_supN]
 constructor
 ·rintro⟨j,h1,h2,h3⟩
  simp only[YG,Bool.and_eq_true,beq_iff_eq] at h2
  exact⟨j,h3,h1,h2.1.1,h2.1.2,h2.2⟩
 ·rintro⟨i,h0,h1,h2,h3,h4⟩
  exact⟨i,h1,by simp only[YG,Bool.and_eq_true,beq_iff_eq];exact⟨⟨h2,h3⟩,h4⟩,h0⟩
end
section
open Go Go.RowKit
def insS(p:List Lk)(x:Lk):List Lk:=p.filter (fun y=>decide (y.dev<x.dev))++x::p.filter (fun y=>decide (x.dev<y.dev))
theorem ord_lt{a b:Lk}(h:a.dev<b.dev):ordL a b<0:=by
 unfold ordL orI cmpI
 simp[h]
theorem ord_gt{a b:Lk}(h:b.dev<a.dev):¬ ordL a b<0:=by
 have h1:¬ a.dev<b.dev:=by omega
 unfold ordL orI cmpI
 simp[h,h1]
theorem insL_ins(x:Lk):∀ (q:List Lk) (rest:List Lk),q.reverse.Pairwise (fun a b=>a.dev<b.dev)→(∀ y∈q,y.dev≠x.dev)→insL q.length (q.reverse++x::rest)=insS q.reverse x++rest
 | [],rest,_,_=>by simp[insL,insS]
 | y::q,rest,hp,hx=>by
  have hp2:=List.pairwise_append.1 (by rw[← List.reverse_cons];exact hp)
  have hyx:=hx y (by simp)
  have ha:((y::q).reverse++x::rest)[q.length+1]? = some x:=by
   rw[List.getElem?_append_right (by simp)];simp
  have hb:((y::q).reverse++x::rest)[q.length]? = some y:=by
   rw[List.getElem?_append_left (by simp)];simp
  show insL (q.length+1) _=_
  rcases Int.lt_or_gt_of_ne hyx with hlt|hgt
  ·rw[insL_stop ha hb (decide_eq_false (ord_gt hlt))]
   have hall:∀ z∈(y::q).reverse,z.dev<x.dev:=by
    intro z hz
    rw[List.reverse_cons,List.mem_append] at hz
    rcases hz with hz|hz
    ·have:=hp2.2.2 z hz y (by simp);omega
    ·obtain rfl:z=y:=by simpa using hz
     exact hlt
   have e1:(y::q).reverse.filter (fun z=>decide (z.dev<x.dev))=(y::q).reverse:=List.filter_eq_self.2 (fun z hz=>decide_eq_true (hall z hz))
   have e2:(y::q).reverse.filter (fun z=>decide (x.dev<z.dev))=[]:=List.filter_eq_nil_iff.2 (fun z hz=>by have:=hall z hz;simp;omega)
   unfold insS
   rw[e1,e2];simp
  ·rw[insL_swap ha hb (decide_eq_true (ord_lt hgt))]
   have e:(((y::q).reverse++x::rest).set (q.length+1) y).set q.length x=q.reverse++x::(y::rest):=by
    rw[List.reverse_cons,List.append_assoc]
    rw[List.set_append_right _ _ (by simp)]
    simp only[List.length_reverse,Nat.add_sub_cancel_left]
    rw[List.set_append_right _ _ (by simp)]
    simp
   rw[e,insL_ins x q (y::rest) hp2.1 (fun z hz=>hx z (by simp[hz]))]
   unfold insS
   rw[List.reverse_cons,List.filter_append,List.filter_append]
   have h1:¬ y.dev<x.dev:=by omega
   simp[h1,hgt]
theorem srt_snoc(l:List Lk)(x:Lk)(hp:l.Pairwise (fun a b=>a.dev<b.dev))(hx:∀ y∈l,y.dev≠x.dev)(h0:l≠[]):srtL l.length 1 (l++[x])=insS l x:=by
 have key:∀ f i,1≤i→i+f=l.length→srtL (f+1) i (l++[x])=insL l.length (l++[x]):=by
  intro f
  induction f with
  | zero=>intro i h1 h2;rw[srtL,srtL];congr 1
  | succ f ih =>
   intro i h1 h2
   obtain⟨j,rfl⟩:∃ j,i=j+1:=⟨i - 1,by omega⟩
   rw[srtL]
   have ha:(l++[x])[j+1]? = some (l[j+1]'(by omega)):=by rw[List.getElem?_append_left (by omega)];simp
   have hb:(l++[x])[j]? = some (l[j]'(by omega)):=by rw[List.getElem?_append_left (by omega)];simp
   have hlt:=(List.pairwise_iff_getElem.1 hp) j (j+1) (by omega) (by omega) (by omega)
   rw[insL_stop ha hb (decide_eq_false (ord_gt hlt))]
   exact ih (j+1+1) (by omega) (by omega)
 obtain⟨n,hn⟩:∃ n,l.length=n+1:=⟨l.length - 1,by have:=List.length_pos_iff.2 h0;omega⟩
 have h1:=key n 1 (Nat.le_refl _) (by omega)
 rw[hn]
 rw[h1]
 have h2:=insL_ins x l.reverse [] (by rw[List.reverse_reverse];exact hp) (fun y hy=>hx y (by simpa using hy))
 rw[List.reverse_reverse,List.length_reverse,List.append_nil] at h2
 exact h2
theorem mem_insS{p:List Lk}{x y:Lk}(hx:∀ z∈p,z.dev≠x.dev):y∈insS p x↔y=x∨y∈p:=by
 unfold insS
 simp only[List.mem_append,List.mem_cons,List.mem_filter,decide_eq_true_eq]
 constructor
 ·rintro (⟨h,_⟩|rfl|⟨h,_⟩)
  ·exact .inr h
  ·exact .inl rfl
  ·exact .inr h
 ·rintro (rfl|h)
  ·exact .inr (.inl rfl)
  ·rcases Int.lt_or_gt_of_ne (hx y h) with h1|h1
   ·exact .inl ⟨h,h1⟩
   ·exact .inr (.inr ⟨h,h1⟩)
theorem insS_sorted{p:List Lk}{x:Lk}(hp:p.Pairwise (fun a b=>a.dev<b.dev)):(insS p x).Pairwise (fun a b=>a.dev<b.dev):=by
 unfold insS
 refine List.pairwise_append.2 ⟨hp.filter _,List.pairwise_cons.2 ⟨fun z hz=>by simpa using (List.mem_filter.1 hz).2,hp.filter _⟩,fun a ha b hb=>?_⟩
 have h1:a.dev<x.dev:=by simpa using (List.mem_filter.1 ha).2
 rcases List.mem_cons.1 hb with rfl|hb
 ·exact h1
 ·have h2:x.dev<b.dev:=by simpa using (List.mem_filter.1 hb).2
  omega
end
section
open Go Go.RowKit
def RunL(ns:List Node)(ds:List Dev)(c:Int)(sk:List Int):Nat→RunSt→List Stp→RunSt→Prop
 | _,a,[],b=>a=b
 | k,a,s::ss,b=>∃ m,(StepA ns ds c sk k s a m∨StepB ns ds c s a m)∧m.fd.length≤a.fd.length+4∧RunL ns ds c sk (k+1) m ss b
theorem RunL.append{ns:List Node}{ds:List Dev}{c:Int}{sk:List Int}:∀ {ss tt:List Stp} {k:Nat} {a m b:RunSt},RunL ns ds c sk k a ss m→RunL ns ds c sk (k+ss.length) m tt b→RunL ns ds c sk k a (ss++tt) b
 | [],tt,k,a,m,b,h1,h2=>by
  have e:a=m:=h1
  subst e
  exact h2
 | s::ss,tt,k,a,m,b,h1,h2=>by
  obtain⟨x,h3,h4,h5⟩:=h1
  refine⟨x,h3,h4,RunL.append h5 ?_⟩
  rw[show k+1+ss.length=k+(s::ss).length by simp;omega]
  exact h2
theorem RunL.fam{ns:List Node}{ds:List Dev}{c:Int}{sk:List Int}:∀ {ss:List Stp} {k:Nat} {a b:RunSt},RunL ns ds c sk k a ss b→∃ T:Nat→RunSt,T 0=a∧T ss.length=b ∧
  (∀ j (h:j<ss.length),StepA ns ds c sk (k+j) ss[j] (T j) (T (j+1))∨StepB ns ds c ss[j] (T j) (T (j+1)))∧∀ j,j≤ss.length→(T j).fd.length≤a.fd.length+4*j
 | [],k,a,b,h=>⟨fun _=>a,rfl,h,fun j h=>absurd h (Nat.not_lt_zero _),fun j h=>by show a.fd.length≤_;omega⟩
 | s::ss,k,a,b,h=>by
  obtain⟨m,h1,h2,h3⟩:=h
  obtain⟨T,t0,t1,t2,t3⟩:=RunL.fam h3
  refine⟨fun j=>match j with|0=>a|j+1=>T j,rfl,t1,fun j hj=>?_,fun j hj=>?_⟩
  ·cases j with
   | zero=>show StepA ns ds c sk (k+0) s a (T 0)∨StepB ns ds c s a (T 0);rw[t0];exact h1
   | succ j =>
    have:=t2 j (by simpa using hj)
    rw[show k+1+j=k+(j+1) by omega] at this
    exact this
  ·cases j with
   | zero=>show a.fd.length≤_;omega
   | succ j=>have:=t3 j (by simpa using hj);show (T j).fd.length≤_;omega
theorem RunL.ok{ns:List Node}{ds:List Dev}{c:Int}{sk:List Int}{ss:List Stp}{a b:RunSt}(h:RunL ns ds c sk 0 a ss b)(h0:a.fd=[])(hl:ss.length≤64):∃ T:Nat→RunSt,T 0=a∧T ss.length=b∧RunOK ns ds c sk ss T:=by
 obtain⟨T,t0,t1,t2,t3⟩:=h.fam
 refine⟨T,t0,t1,⟨fun j hj=>by have:=t2 j hj;rw[Nat.zero_add] at this;exact this,fun j hj=>?_⟩⟩
 have:=t3 j hj
 rw[h0] at this
 simp at this
 omega
structure LInv(ds:List Dev)(F:List Int)(key:Int)(L:List Lk):Prop where
 srt:L.Pairwise (fun a b=>a.dev<b.dev)
 e0:∀ x∈L,lkE ds x=0
 kl:∀ x∈L,x.key<key
 kn:∀ x∈L,∀ y∈L,x.dev≠y.dev→x.key≠y.key
theorem LInv.ok{ns:List Node}{ds:List Dev}{F:List Int}{key:Int}{L:List Lk}(h:LInv ds F key L)(hc:Zk ns ds=0)(hl:L.length≤128):ZF ns ds L=0 :=
 locks_ok hc hl h.e0 h.srt (h.srt.imp_of_mem (fun ha hb hlt=>h.kn _ ha _ hb (by omega)))
theorem LInv.add{ds:List Dev}{F:List Int}{key:Int}{L:List Lk}(h:LInv ds F key L){u:Lk}(hu:lkE ds ⟨u.dev,u.pos,key⟩=0)(hd:∀ y∈L,y.dev≠u.dev):LInv ds F (key+1) (insS L ⟨u.dev,u.pos,key⟩):=by
 have hm:∀ y,y∈insS L ⟨u.dev,u.pos,key⟩↔y=⟨u.dev,u.pos,key⟩∨y∈L:=fun y=>mem_insS (x:=⟨u.dev,u.pos,key⟩) hd
 refine⟨insS_sorted h.srt,fun x hx=>?_,fun x hx=>?_,fun x hx y hy hne=>?_⟩
 ·rcases (hm x).1 hx with rfl|hx
  ·exact hu
  ·exact h.e0 x hx
 ·rcases (hm x).1 hx with rfl|hx
  ·show key<key+1;omega
  ·have:=h.kl x hx;omega
 ·rcases (hm x).1 hx with rfl|hx<;>rcases (hm y).1 hy with rfl|hy
  ·exact absurd rfl hne
  ·have:=h.kl y hy;show key≠y.key;omega
  ·have:=h.kl x hx;show x.key≠key;omega
  ·exact h.kn x hx y hy hne
theorem locked_none{L:List Lk}{d:Int}(h:∀ y∈L,y.dev≠d):(Zx d L).2=false:=by
 apply Bool.eq_false_iff.2
 intro h1
 obtain⟨x,h2,h3,_⟩:=locked_some L d h1
 exact h x h2 h3
structure WOK(ds:List Dev)(F:List Int)(u:Lk):Prop where
 at_:∃ i:Nat,u.dev=i∧i<ds.length∧F[i]? = some u.pos∧(ds.map (·.kind)).getD i 0≠5
 pos:u.pos=1∨u.pos=2
theorem WOK.e0{ds:List Dev}{F:List Int}{u:Lk}(h:WOK ds F u){key:Int}(hk:0≤key∧key≤65536):lkE ds ⟨u.dev,u.pos,key⟩=0:=by
 obtain⟨i,h1,h2,h3,h4⟩:=h.at_
 have hp:=h.pos
 unfold lkE
 simp only
 rw[h1,Int.toNat_natCast]
 rw[if_neg (by omega),if_neg h4,if_neg (by omega),if_neg (by omega)]
theorem lock_run{ns:List Node}{ds:List Dev}(hc:Zk ns ds=0)(hn:1≤ns.length)(c:Int)(sk:List Int){F:List Int}(hF:StOK ds F)(pr:List Int)(fd:List Fnd):∀ (W:List Lk) (k:Nat) (key:Int) (L:List Lk),
  0≤key→key+W.length≤65537→L.length+W.length≤11→(∀ u∈W,WOK ds F u)→W.Pairwise (fun a b=>a.dev≠b.dev)→(∀ y∈L,∀ u∈W,y.dev≠u.dev)→LInv ds F key L →
  ∃ L',RunL ns ds c sk k ⟨F,L,pr,fd⟩ (lockS key W) ⟨F,L',pr,fd⟩∧(∃ key',LInv ds F key' L')∧L'.length=L.length+W.length∧(∀ x∈L',x∈L∨∃ u∈W,u.dev=x.dev∧u.pos=x.pos)∧(∀ x∈L,x∈L')∧∀ u∈W,∃ x∈L',x.dev=u.dev∧x.pos=u.pos
 | [],k,key,L,_,_,_,_,_,_,hI=>⟨L,rfl,⟨key,hI⟩,rfl,fun x hx=>.inl hx,fun x hx=>hx,fun u hu=>by cases hu⟩
 | u::W,k,key,L,h1,h2,h3,h4,h5,h6,hI=>by
  simp only[List.length_cons] at h2 h3
  have hu:=h4 u (by simp)
  obtain⟨i,e1,e2,e3,e4⟩:=hu.at_
  have hd:∀ y∈L,y.dev≠u.dev:=fun y hy=>h6 y hy u (by simp)
  have hE:=hu.e0 (key:=key) ⟨h1,by omega⟩
  have hI2:=hI.add hE hd
  have hlen:(insS L ⟨u.dev,u.pos,key⟩).length=L.length+1:=by
   by_cases hL:L=[]
   ·subst hL;rfl
   ·rw[← srt_snoc L ⟨u.dev,u.pos,key⟩ hI.srt hd hL,srtL_len];simp
  obtain⟨L',r1,r2,r3,r4,r5,r6⟩:=lock_run hc hn c sk hF pr fd W (k+1) (key+1) (insS L ⟨u.dev,u.pos,key⟩) (by omega) (by omega) (by rw[hlen];omega) (fun x hx=>h4 x (by simp[hx])) (List.pairwise_cons.1 h5).2
   (fun y hy x hx=>by
    rcases (mem_insS (x:=⟨u.dev,u.pos,key⟩) hd).1 hy with rfl|hy
    ·exact (List.pairwise_cons.1 h5).1 x hx
    ·exact h6 y hy x (by simp[hx])) hI2
  have hm:∀ y,y∈insS L ⟨u.dev,u.pos,key⟩↔y=⟨u.dev,u.pos,key⟩∨y∈L:=fun y=>mem_insS (x:=⟨u.dev,u.pos,key⟩) hd
  refine⟨L',⟨⟨F,insS L ⟨u.dev,u.pos,key⟩,pr,fd⟩,.inr ⟨by show ((3:Int)==1)=false;rfl,by show ((3:Int)==2)=false;rfl,rfl,rfl,fun m nm hmn=>?_⟩,by show fd.length≤fd.length+4;omega,r1⟩,r2,by rw[r3,hlen];simp;omega,fun x hx=>?_,fun x hx=>r5 x ((hm x).2 (.inr hx)),fun x hx=>?_⟩
  ·by_cases hL:L=[]
   ·subst hL
    have:=step3N_imp ns ds hc hn F hF c pr (by simp[ZF,hc,lkG]) i u.pos key e3 (by rw[← e1];exact hE) m nm hmn
    rw[← e1] at this
    exact this
   ·have:=step3_imp ns ds hc hn F hF c L pr (hI.ok hc (by omega)) i u.pos key e3 (by rw[← e1];exact hE)
     (by rw[List.any_eq_false];intro x hx;have:=hI.kl x hx;simp;omega)
     (by rw[List.any_eq_false];intro x hx;have:=hd x hx;rw[e1] at this;simp[this])
     (locked_none (fun y hy=>by rw[← e1];exact hd y hy)) (by omega) hL m nm hmn
    rw[← e1] at this
    rw[srt_snoc L ⟨u.dev,u.pos,key⟩ hI.srt hd hL] at this
    exact this
  ·rcases r4 x hx with h|⟨v,hv,hv2⟩
   ·rcases (hm x).1 h with rfl|h
    ·exact .inr ⟨u,by simp,rfl,rfl⟩
    ·exact .inl h
   ·exact .inr ⟨v,by simp[hv],hv2⟩
  ·rcases List.mem_cons.1 hx with rfl|hx
   ·exact⟨_,r5 _ ((hm _).2 (.inl rfl)),rfl,rfl⟩
   ·exact r6 x hx
end
section
open Go Go.RowKit
theorem Xn(s:List Int){i j:Nat}(h:i≠j)(x:Int):PO.at_ (s.set i x) j=PO.at_ s j:=by simp[PO.at_,List.getElem?_set,h]
theorem set_at_self(s:List Int)(i:Nat):s.set i (PO.at_ s i)=s:=by
 apply List.ext_getElem (by simp)
 intro j h1 h2
 rw[List.getElem_set]
 split
 ·rename_i e;subst e;simp[PO.at_,h2]
 ·rfl
theorem at_set_self(s:List Int){i:Nat}(h:i<s.length)(x:Int):PO.at_ (s.set i x) i=x:=by simp[PO.at_,h]
theorem flip_xor(st:List Int)(ms:List Nat)(hn:ms.Nodup)(v i m:Nat)(hi:ms[i]? = some m)(hm:m<st.length):∀ k,ZI st ms (v ^^^ 2 ^ i) k=if i<k then (ZI st ms v k).set m (3 - PO.at_ (ZI st ms v k) m) else ZI st ms v k
 | 0=>by simp[ZI]
 | k+1=>by
  have ih:=flip_xor st ms hn v i m hi hm k
  have hlen:∀ b k,(ZI st ms b k).length=st.length:=by
   intro b k
   induction k with
   | zero=>rfl
   | succ k ih2 =>
    unfold ZI
    split
    ·split
     ·simp[ih2]
     ·exact ih2
    ·exact ih2
  have hbit:((v ^^^ 2 ^ i) / 2 ^ k % 2=1)↔((v / 2 ^ k % 2=1)↔¬ i=k):=by
   have h1:∀ x:Nat,(x / 2 ^ k % 2=1)↔x.testBit k=true:=fun x=>by rw[Nat.testBit_eq_decide_div_mod_eq];simp
   rw[h1,h1,Nat.testBit_xor,Nat.testBit_two_pow]
   cases v.testBit k<;>by_cases e:i=k<;>simp[e]
  unfold ZI
  cases hk:ms[k]? with
  | none =>
   simp only
   rw[ih]
   by_cases h1:i<k
   ·rw[if_pos h1,if_pos (by omega)]
   ·rw[if_neg h1,if_neg (fun h2=>?_)]
    have:i=k:=by omega
    subst this;rw[hi] at hk;cases hk
  | some d =>
   simp only
   rcases Nat.lt_trichotomy i k with h1|h1|h1
   ·have hne:m≠d:=by
     intro e
     subst e
     obtain⟨a1,a2⟩:=List.getElem?_eq_some_iff.1 hi
     obtain⟨b1,b2⟩:=List.getElem?_eq_some_iff.1 hk
     exact (List.pairwise_iff_getElem.1 hn) i k a1 b1 h1 (a2.trans b2.symm)
    rw[ih,if_pos h1,if_pos (show i<k+1 by omega)]
    have hb2:((v ^^^ 2 ^ i) / 2 ^ k % 2=1)↔(v / 2 ^ k % 2=1):=by
     rw[hbit]
     constructor
     ·intro h;exact h.2 (by omega)
     ·intro h;exact⟨fun _=>by omega,fun _=>h⟩
    by_cases hv:v / 2 ^ k % 2=1
    ·rw[if_pos (hb2.2 hv),if_pos hv,Xn _ hne,Xn _ (Ne.symm hne),List.set_comm _ _ hne]
    ·rw[if_neg (fun h=>hv (hb2.1 h)),if_neg hv]
   ·subst h1
    rw[hi] at hk
    obtain rfl:m=d:=Option.some.inj hk
    rw[ih,if_neg (Nat.lt_irrefl _),if_pos (show i<i+1 by omega)]
    by_cases hv:v / 2 ^ i % 2=1
    ·rw[if_pos hv,if_neg (fun h=>(hbit.1 h).1 hv rfl)]
     rw[at_set_self _ (by rw[hlen];exact hm),List.set_set,show (3:Int) - (3 - PO.at_ (ZI st ms v i) m)=PO.at_ (ZI st ms v i) m by omega,set_at_self]
    ·rw[if_neg hv,if_pos (hbit.2 ⟨fun h=>absurd h hv,fun h=>absurd rfl h⟩)]
   ·rw[ih,if_neg (show ¬ i<k by omega),if_neg (show ¬ i<k+1 by omega)]
    have hb2:((v ^^^ 2 ^ i) / 2 ^ k % 2=1)↔(v / 2 ^ k % 2=1):=by
     rw[hbit]
     constructor
     ·intro h;exact h.2 (by omega)
     ·intro h;exact⟨fun _=>by omega,fun _=>h⟩
    by_cases hv:v / 2 ^ k % 2=1
    ·rw[if_pos (hb2.2 hv),if_pos hv]
    ·rw[if_neg (fun h=>hv (hb2.1 h)),if_neg hv]
theorem state_xor(st:List Int)(ms:List Nat)(hn:ms.Nodup)(v i m:Nat)(hi:ms[i]? = some m)(hm:m<st.length):Zi st ms (v ^^^ 2 ^ i)=(Zi st ms v).set m (3 - PO.at_ (Zi st ms v) m):=by
 have:=flip_xor st ms hn v i m hi hm ms.length
 rw[if_pos (List.getElem?_eq_some_iff.1 hi).1] at this
 exact this
theorem nextI_perm{perm:List Int→Opr→Bool}{ms:List Nat}{s:List Int}:∀ {k i:Nat},i∈YK perm ms s k↔i<k∧permAt perm ms s i=true
 | 0,i=>by simp[YK]
 | k+1,i=>by
  unfold YK
  rw[List.mem_append,nextI_perm (k:=k)]
  constructor
  ·rintro (⟨h1,h2⟩|h)
   ·exact⟨by omega,h2⟩
   ·split at h
    ·rename_i hp
     obtain rfl:i=k:=by simpa using h
     exact⟨by omega,hp⟩
    ·cases h
  ·rintro⟨h1,h2⟩
   by_cases e:i=k
   ·subst e;right;rw[if_pos h2];simp
   ·left;exact⟨by omega,h2⟩
theorem ins35(h:Int):ins [3,5] h=((h==3)||((h==5)||false)):=rfl
theorem perm_parts{ns:List Node}{ds:List Dev}{pr s:List Int}{o:Opr}{d:Dev}(hd:ds[o.dev.toNat]? = some d):ZS ns ds pr [3,5] s o=true↔((o.pos==2)&&(dutyL ns ds s o.dev.toNat==4))=false∧badV d.kind o.pos (dutyL ns ds s o.dev.toNat)=false:=by
 unfold ZS hazL
 rw[hd]
 simp only
 unfold hz4 selH
 generalize ((o.pos==2)&&(dutyL ns ds s o.dev.toNat==4))=b1
 generalize badV d.kind o.pos (dutyL ns ds s o.dev.toNat)=b2
 generalize (!(lostL (supL ns ds s) (supL ns ds (s.set o.dev.toNat o.pos))).isEmpty)=b3
 generalize ((((o.pos==2)&&(d.kind==4))&&!(ins pr d.a)))=b4
 cases b1<;>cases b2<;>cases b3<;>cases b4<;>simp[ins35]
theorem kind_up{ds:List Dev}{s t:List Int}(h:Up s t){K:Dev→Bool}{v:Nat}(hk:KindAt K ds s v):KindAt K ds t v:=by
 obtain⟨j,d,h1,h2,h3,h4⟩:=hk
 exact⟨j,d,h1,h.2 j h2,h3,h.rch h4⟩
theorem prove_dead{n:Nat}{ds:List Dev}(hD:DevsIn n ds){s:List Int}(hs:s.length=ds.length){i:Nat}{d:Dev}(hd:ds[i]? = some d)(h4:d.kind=4)(ha:d.a.toNat<n)(hf:faultV d (colF n ds (s.set i 2))=false):liveO ((colF n ds s).getD d.a.toNat 0)=false:=by
 obtain⟨hi,_⟩:=List.getElem?_eq_some_iff.1 hd
 apply Bool.eq_false_iff.2
 intro hl
 have hk:=kind_up (up_set s i) ((live_kind hD s ha).1 hl)
 obtain⟨l,e,h1,h2,h3⟩:=col_bits hD (s.set i 2) ha
 have he:e=true:=h3.2 ⟨i,d,hd,by simp[show i<s.length by omega],by simp[isEarK,h4],Rch.refl _ _ _⟩
 have hll:l=true:=h2.2 hk
 subst he hll
 have hlen:d.a.toNat<(colF n ds (s.set i 2)).length:=by rw[Y1];exact ha
 have:(colF n ds (s.set i 2)).getD d.a.toNat 0=3:=by
  have h9:PO.at_ (colF n ds (s.set i 2)) d.a.toNat=3:=h1
  rw[← h9];simp[PO.at_,hlen]
 unfold faultV at hf
 rw[this] at hf
 simp at hf
end
section
open Go Go.RowKit
def prI(pr:List Int):Prop:=pr=[]∨pr=[2]∨pr=[3]∨pr=[2,3]
def Prov32:Prop:=Pure Tryz.prog G0 72 [gD 0 [] [3],.int .i64 2] (gD 0 [] [2,3])
theorem prov_ok(H:Prov32){pr:List Int}(hp:prI pr){v:Nat}(hv:v=2∨v=3):∃ pr2,prI pr2∧Pure Tryz.prog G0 72 [gD 0 [] pr,.int .i64 v] (gD 0 [] pr2):=by
 rcases hp with rfl|rfl|rfl|rfl<;>rcases hv with rfl|rfl
 ·exact⟨[2],.inr (.inl rfl),prov0_2⟩
 ·exact⟨[3],.inr (.inr (.inl rfl)),prov0_3⟩
 ·exact⟨[2],.inr (.inl rfl),prov2_2⟩
 ·exact⟨[2,3],.inr (.inr (.inr rfl)),prov2_3⟩
 ·exact⟨[2,3],.inr (.inr (.inr rfl)),H⟩
 ·exact⟨[3],.inr (.inr (.inl rfl)),prov3_3⟩
 ·exact⟨[2,3],.inr (.inr (.inr rfl)),prov23_2⟩
 ·exact⟨[2,3],.inr (.inr (.inr rfl)),prov23_3⟩
theorem hz_len(ns:List Node)(ds:List Dev)(s pr:List Int)(i:Nat)(p:Int):(hazL ns ds s pr i p).length≤4:=by
 unfold hazL
 split
 ·unfold hz4 selH
  simp only[List.length_append]
  repeat' split
  all_goals simp
 ·simp
theorem prI_len{pr:List Int}(h:prI pr):pr.length≤1000:=by rcases h with rfl|rfl|rfl|rfl<;>simp
structure MvOK(ns:List Node)(ds:List Dev)(i:Nat)(d:Dev):Prop where
 at_:ds[i]? = some d
 kd:d.kind≠1
 cp:d.comp=0
 ea:d.kind=4→d.a=2∨d.a=3
theorem op_run(H:Prov32){ns:List Node}{ds:List Dev}(hc:Zk ns ds=0)(hn:ns.length=6){s:List Int}(hs:StOK ds s){i:Nat}{d:Dev}(hd:MvOK ns ds i d){p:Int}(hp:p=1∨p=2)(hne:PO.at_ s i≠p)
  (h1:((p==2)&&(dutyL ns ds s i==4))=false) {pr:List Int} (hpr:prI pr) (fd:List Fnd) (k:Nat) :
  ∃ pr' fd',prI pr'∧RunL ns ds 0 [] k ⟨s,[],pr,fd⟩ (ZV ds ⟨i,p⟩) ⟨s.set i p,[],pr',fd'⟩:=by
 obtain⟨hil,hdi⟩:=List.getElem?_eq_some_iff.1 hd.at_
 have ho:HOK ds s 0 [] ⟨i,p⟩ i:=⟨hil,rfl,hp,hne,(fun x hx=>by rw[hd.at_] at hx;obtain rfl:=Option.some.inj hx;exact⟨hd.kd,hd.cp⟩),(fun x hx=>by cases hx),by simp,by decide⟩
 have hsl:(s.set i p).length=s.length:=by simp
 rcases hp with rfl|rfl
 ·refine⟨pr,fd++(hazL ns ds s pr i 1).map (Fnd.mk k),hpr,?_⟩
  have e:ZV ds ⟨i,1⟩=[⟨1,i,0,0,0⟩]:=by simp[ZV]
  rw[e]
  refine⟨⟨s.set i 1,[],pr,fd++(hazL ns ds s pr i 1).map (Fnd.mk k)⟩,.inl ⟨.inl rfl,rfl,hsl,hazL ns ds s pr i 1,by have:=hz_len ns ds s pr i 1;omega,rfl,fun m nm hmn=>?_⟩,by have:=hz_len ns ds s pr i 1;simp;omega,rfl⟩
  exact step1_imp ns ds hc (by omega) s hs 0 [] pr (prI_len hpr) i d hd.at_ ho m nm hmn
 ·have last:∀ (pr:List Int) (hpr:prI pr) (fd:List Fnd) (k:Nat),∃ pr' fd',prI pr'∧RunL ns ds 0 [] k ⟨s,[],pr,fd⟩ [⟨2,i,0,0,0⟩] ⟨s.set i 2,[],pr',fd'⟩:=by
   intro pr hpr fd k
   refine⟨(if ((2:Int)==2&&d.kind != 4)=true then [] else pr),fd++(hazL ns ds s pr i 2).map (Fnd.mk k),by split;exact .inl rfl;exact hpr,?_⟩
   refine⟨⟨s.set i 2,[],_,fd++(hazL ns ds s pr i 2).map (Fnd.mk k)⟩,.inl ⟨.inr ⟨rfl,rfl⟩,rfl,hsl,hazL ns ds s pr i 2,by have:=hz_len ns ds s pr i 2;omega,rfl,fun m nm hmn=>?_⟩,by have:=hz_len ns ds s pr i 2;simp;omega,rfl⟩
   exact step2_imp ns ds hc (by omega) s hs 0 [] pr (prI_len hpr) i d hd.at_ ho m nm hmn
  by_cases h4:d.kind=4
  ·obtain⟨v,hv,hav⟩:∃ v:Nat,(v=2∨v=3)∧d.a=v:=by
    rcases hd.ea h4 with h|h
    ·exact⟨2,.inl rfl,h⟩
    ·exact⟨3,.inr rfl,h⟩
   have e:ZV ds ⟨i,2⟩=[⟨5,0,v,0,0⟩]++[⟨2,i,0,0,0⟩]:=by simp[ZV,hd.at_,h4,hav]
   rw[e]
   obtain⟨pr2,hp2,hpv⟩:=prov_ok H hpr hv
   have hvn:v<ns.length:=by omega
   have hf:faultV d (colF ns.length ds (s.set i 2))=false:=by
    apply Bool.eq_false_iff.2
    intro hf
    unfold dutyL dutyV at h1
    rw[hd.at_] at h1
    simp only at h1
    rw[if_pos hf] at h1
    exact absurd h1 (by decide)
   have hdead:=prove_dead (ZM hc) hs.1 hd.at_ h4 (by rw[hav];exact hvn) hf
   rw[hav,Int.toNat_natCast] at hdead
   obtain⟨pr',fd',h5,h6⟩:=last pr2 hp2 fd (k+1)
   refine⟨pr',fd',h5,?_⟩
   refine⟨⟨s,[],pr2,fd⟩,.inr ⟨rfl,rfl,rfl,rfl,fun m nm hmn=>?_⟩,by show fd.length≤fd.length+4;omega,h6⟩
   exact step5_imp ns ds hc (by omega) s hs 0 [] pr pr2 v hvn hdead hpv m nm hmn
  ·have e:ZV ds ⟨i,2⟩=[⟨2,i,0,0,0⟩]:=by simp[ZV,hd.at_,h4]
   rw[e]
   exact last pr hpr fd k
theorem stp_open{nn nd i:Nat}(h:i<nd)(k:Int)(hk:k=1∨k=2):StpOK nn nd ⟨k,i,0,0,0⟩:=by
 have h1:decide ((i:Int)<0)=false:=by simp
 have h2:decide ((nd:Int)≤(i:Int))=false:=by simp;omega
 refine⟨by show 1≤k∧k≤6;omega,?_⟩
 rcases hk with rfl|rfl<;>simp[hasF,YQ,hasO,h1,h2]<;>omega
theorem stp_prove{nn nd v:Nat}(h:v<nn):StpOK nn nd ⟨5,0,v,0,0⟩:=by
 refine⟨by show (1:Int)≤5∧(5:Int)≤6;omega,?_⟩
 simp[hasF,YQ,hasO]
 omega
theorem stp_lock{nn nd i:Nat}(h:i<nd){p key:Int}(hp:p=1∨p=2)(hk:0≤key∧key≤65536):StpOK nn nd ⟨3,i,0,p,key⟩:=by
 refine⟨by show (1:Int)≤3∧(3:Int)≤6;omega,?_⟩
 have h1:decide ((nd:Int)≤(i:Int))=false:=by simp;omega
 rcases hp with rfl|rfl<;>simp[hasF,YQ,hasO]<;>omega
theorem stepsO_ok{ns:List Node}{ds:List Dev}(hn:ns.length=6){i:Nat}{d:Dev}(hd:MvOK ns ds i d){p:Int}(hp:p=1∨p=2):∀ x∈ZV ds ⟨i,p⟩,StpOK ns.length ds.length x:=by
 obtain⟨hil,hdi⟩:=List.getElem?_eq_some_iff.1 hd.at_
 intro x hx
 rcases hp with rfl|rfl
 ·have e:ZV ds ⟨i,1⟩=[⟨1,i,0,0,0⟩]:=by simp[ZV]
  rw[e] at hx
  obtain rfl:x=_:=by simpa using hx
  exact stp_open hil 1 (.inl rfl)
 ·by_cases h4:d.kind=4
  ·have e:ZV ds ⟨i,2⟩=[⟨5,0,d.a,0,0⟩,⟨2,i,0,0,0⟩]:=by simp[ZV,hd.at_,h4]
   rw[e] at hx
   rcases List.mem_cons.1 hx with rfl|hx
   ·rcases hd.ea h4 with h|h
    ·rw[h];exact stp_prove (v:=2) (by omega)
    ·rw[h];exact stp_prove (v:=3) (by omega)
   ·obtain rfl:x=_:=by simpa using hx
    exact stp_open hil 2 (.inr rfl)
  ·have e:ZV ds ⟨i,2⟩=[⟨2,i,0,0,0⟩]:=by simp[ZV,hd.at_,h4]
   rw[e] at hx
   obtain rfl:x=_:=by simpa using hx
   exact stp_open hil 2 (.inr rfl)
theorem movs_nodup(ds:List Dev)(c:Int)(l:List Lk):(movs ds c l).Nodup:=List.Pairwise.filter _ List.nodup_range
theorem chain_run(H:Prov32){ns:List Node}{ds:List Dev}(hc:Zk ns ds=0)(hn:ns.length=6){st:List Int}(hs:StOK ds st)(hea:∀ d∈ds,d.kind=4→d.a=2∨d.a=3) :
  ∀ (l:List (Nat×Nat)) (v w:Nat),PO.Chain (nxV (ZS ns ds [] [3,5]) st (movs ds 0 [])) v l w→∀ (k:Nat) (pr:List Int) (fd:List Fnd),prI pr →
  (∃ pr' fd',prI pr'∧RunL ns ds 0 [] k ⟨Zi st (movs ds 0 []) v,[],pr,fd⟩ (ZD ds (l.map fun p=>opA st (movs ds 0 []) p.1 p.2)) ⟨Zi st (movs ds 0 []) w,[],pr',fd'⟩) ∧
  Yi (Zi st (movs ds 0 []) v) (l.map fun p=>opA st (movs ds 0 []) p.1 p.2)=Zi st (movs ds 0 []) w∧(∀ x∈ZD ds (l.map fun p=>opA st (movs ds 0 []) p.1 p.2),StpOK ns.length ds.length x)
 | [],v,w,h,k,pr,fd,hpr=>by
  have e:v=w:=h
  subst e
  exact⟨⟨pr,fd,hpr,rfl⟩,rfl,fun x hx=>by cases hx⟩
 | (u,i)::l,v,w,h,k,pr,fd,hpr=>by
  obtain⟨rfl,hi,hl⟩:=h
  have hi2:i<(movs ds 0 []).length∧permAt (ZS ns ds [] [3,5]) (movs ds 0 []) (Zi st (movs ds 0 []) u) i=true:=by
   unfold nxV at hi
   split at hi
   ·exact nextI_perm.1 hi
   ·cases hi
  obtain⟨hil,hpa⟩:=hi2
  obtain⟨m,hm⟩:∃ m,(movs ds 0 [])[i]? = some m:=⟨_,List.getElem?_eq_getElem hil⟩
  obtain⟨hml,hmd⟩:=Yv (List.mem_of_getElem? hm)
  obtain⟨d,hd⟩:∃ d,ds[m]? = some d:=⟨_,List.getElem?_eq_getElem hml⟩
  obtain⟨_,hk1,hcp,_⟩:=hmd d hd
  have hsO:StOK ds (Zi st (movs ds 0 []) u):=ZJ hs (fun x hx=>(Yv hx).1) u _
  have hat:=Val12.at_ hsO hml
  obtain⟨p,hp⟩:∃ p,3 - PO.at_ (Zi st (movs ds 0 []) u) m=p:=⟨_,rfl⟩
  have hp12:p=1∨p=2:=by omega
  have hgd:(movs ds 0 []).getD i 0=m:=by simp[List.getD_eq_getElem?_getD,hm]
  have hop:opA st (movs ds 0 []) u i=⟨m,p⟩:=by unfold opA;rw[hgd,hp]
  unfold permAt at hpa
  rw[hm] at hpa
  simp only at hpa
  rw[hp] at hpa
  have hpp:=(perm_parts (o:=⟨(m:Int),p⟩) (d:=d) (by simpa using hd)).1 hpa
  have hmv:MvOK ns ds m d:=⟨hd,hk1,hcp,hea d (List.mem_of_getElem? hd)⟩
  obtain⟨pr1,fd1,hpr1,hr1⟩:=op_run H hc hn hsO hmv hp12 (by omega) (by simpa using hpp.1) hpr fd k
  have hx:=state_xor st (movs ds 0 []) (movs_nodup ds 0 []) u i m hm (by rw[hs.1];exact hml)
  rw[hp] at hx
  obtain⟨⟨pr2,fd2,hpr2,hr2⟩,hb2,hk2⟩:=chain_run H hc hn hs hea l (u ^^^ 2 ^ i) w hl (k+(ZV ds ⟨m,p⟩).length) pr1 fd1 hpr1
  have hsf:ZD ds (List.map (fun p=>opA st (movs ds 0 []) p.1 p.2) ((u,i)::l))=ZV ds ⟨m,p⟩++ZD ds (l.map fun p=>opA st (movs ds 0 []) p.1 p.2):=by
   rw[List.map_cons,ZD,List.flatMap_cons,hop];rfl
  refine⟨⟨pr2,fd2,hpr2,?_⟩,?_,?_⟩
  ·rw[hsf]
   rw[hx] at hr2
   exact hr1.append hr2
  ·rw[List.map_cons,Yi,List.foldl_cons]
   show Yi ((Zi st (movs ds 0 []) u).set (opA st (movs ds 0 []) u i).dev.toNat (opA st (movs ds 0 []) u i).pos) _=_
   rw[hop]
   simp only[Int.toNat_natCast]
   rw[← hx]
   exact hb2
  ·rw[hsf]
   intro x hx
   rcases List.mem_append.1 hx with hx|hx
   ·exact stepsO_ok hn hmv hp12 x hx
   ·exact hk2 x hx
end
section
open Go Go.RowKit
structure CutOK(ds:List Dev)(od:List Nat):Prop where
 join:∀ j d,ds[j]? = some d→Zu d.kind=true→j∉od→(1≤d.a∧d.a≤4)∧(1≤d.b∧d.b≤4)
 src:∀ j d,ds[j]? = some d→isSrc d=true→j∉od→¬ (1≤d.a∧d.a≤4)
theorem two_notin{s:List Int}{od:List Nat}(h:∀ m∈od,PO.at_ s m=1){j:Nat}(hj:s[j]? = some 2):j∉od:=by
 intro hm
 have:=h j hm
 simp[PO.at_,hj] at this
theorem cut_rch{ds:List Dev}{od:List Nat}(hC:CutOK ds od){s:List Int}(h:∀ m∈od,PO.at_ s m=1):∀ (k u v:Nat),(1≤u∧u≤4)→PO.Steps (nbS ds s) k u v→1≤v∧v≤4
 | 0,u,v,hu,hk=>by
  have e:u=v:=hk
  subst e;exact hu
 | k+1,u,v,hu,hk=>by
  obtain⟨w,hw,hk⟩:=hk
  refine cut_rch hC h k w v ?_ hk
  obtain⟨j,d,h1,h2,h3⟩:=mem_nbS.1 hw
  unfold ZO at h3
  split at h3
  ·omega
  ·rename_i hj
   obtain⟨e1,e2⟩:=hC.join j d h1 (by simpa using hj) (two_notin h h2)
   split at h3
   ·omega
   ·split at h3
    ·omega
    ·omega
theorem cut_dead{n:Nat}{ds:List Dev}(hD:DevsIn n ds)(h6:n=6){od:List Nat}(hC:CutOK ds od){s:List Int}(h:∀ m∈od,PO.at_ s m=1){v:Nat}(hv:1≤v∧v≤4):liveO ((colF n ds s).getD v 0)=false:=by
 apply Bool.eq_false_iff.2
 intro hl
 obtain⟨j,d,h1,h2,h3,k,h4⟩:=(live_kind hD s (by omega)).1 hl
 have:=cut_rch hC h k v _ hv h4
 have ha:=hD.first d (List.mem_of_getElem? h1)
 exact hC.src j d h1 h3 (two_notin h h2) (by omega)
theorem not3{n:Nat}{ds:List Dev}(hD:DevsIn n ds)(h6:n=6){od:List Nat}(hC:CutOK ds od){s:List Int}(h:∀ m∈od,PO.at_ s m=1){x:Int}(hx:1≤x∧x≤4):((colF n ds s).getD x.toNat 0==3)=false∧liveO ((colF n ds s).getD x.toNat 0)=false:=by
 have hd:=cut_dead hD h6 hC h (v:=x.toNat) (by omega)
 refine⟨?_,hd⟩
 rw[beq_eq_false_iff_ne]
 intro e
 rw[e] at hd
 exact absurd hd (by decide)
theorem perm_dead{ns:List Node}{ds:List Dev}(hD:DevsIn ns.length ds)(h6:ns.length=6){od:List Nat}(hC:CutOK ds od){s:List Int}(h:∀ m∈od,PO.at_ s m=1){m:Nat}{d:Dev}(hd:ds[m]? = some d)(hm:m∉od)
  (hk:d.kind=3∨(d.kind=4∧(d.a=2∨d.a=3))) (p:Int):ZS ns ds [] [3,5] s ⟨m,p⟩=true:=by
 rw[perm_parts (d:=d) (by simpa using hd)]
 have hset:∀ x,∀ j∈od,PO.at_ (s.set m x) j=1:=fun x j hj=>by rw[Xn _ (fun e=>hm (by rw[e];exact hj))];exact h j hj
 have hab:(1≤d.a∧d.a≤4)∧(Zu d.kind=true→1≤d.b∧d.b≤4):=by
  rcases hk with hk|⟨hk,ha⟩
  ·have:=hC.join m d hd (by rw[hk];decide) hm
   exact⟨this.1,fun _=>this.2⟩
  ·exact⟨by omega,fun hj=>by rw[hk] at hj;exact absurd hj (by decide)⟩
 have hf:faultV d (colF ns.length ds (s.set m 2))=false:=by
  unfold faultV
  rw[(not3 hD h6 hC (hset 2) hab.1).1]
  cases hj:Zu d.kind with
  | false=>rfl
  | true=>rw[(not3 hD h6 hC (hset 2) (hab.2 hj)).1];rfl
 simp only[Int.toNat_natCast]
 have hdu:dutyL ns ds s m=dutyV ns d (partsL ns.length ds (s.set m 1)) (colF ns.length ds (s.set m 1)) (colF ns.length ds (s.set m 2)):=by unfold dutyL;rw[hd]
 have hn4:dutyL ns ds s m≠4:=by
  rw[hdu];unfold dutyV
  rw[if_neg (by rw[hf];decide)]
  repeat' split
  all_goals decide
 refine⟨by rw[beq_eq_false_iff_ne.2 hn4];simp,?_⟩
 rcases hk with hk|⟨hk,_⟩
 ·have hj:Zu d.kind=true:=by rw[hk];decide
  have h0:dutyL ns ds s m=0:=by
   rw[hdu]
   have hsd:sidesV d (partsL ns.length ds (s.set m 1)) (colF ns.length ds (s.set m 1))=((false,false),(d.a,d.b),(partsL ns.length ds (s.set m 1)).getD d.a.toNat 0 != (partsL ns.length ds (s.set m 1)).getD d.b.toNat 0):=by
    unfold sidesV
    rw[if_neg (by rw[hk];decide),if_neg (by rw[hj];decide),(not3 hD h6 hC (hset 1) hab.1).2,(not3 hD h6 hC (hset 1) (hab.2 hj)).2]
   have hdd:(deadV d (partsL ns.length ds (s.set m 1)) (colF ns.length ds (s.set m 1))).2=false:=by
    unfold deadV deadR
    rw[hsd]
    simp only
    split
    ·rfl
    ·simp
   unfold dutyV
   rw[if_neg (by rw[hf];decide),if_neg (by unfold parallelV;rw[hsd];simp),if_neg (by unfold loadV;rw[hdd];simp),if_neg (by rw[hdd];decide)]
  rw[h0]
  unfold badV
  rw[if_pos hk];decide
 ·unfold badV
  rw[if_neg (by omega),if_pos hk,beq_eq_false_iff_ne.2 hn4]
  simp
theorem perm_open{ns:List Node}{ds:List Dev}{s:List Int}{m:Nat}{d:Dev}(hd:ds[m]? = some d)(hk:d.kind=2∨d.kind=6):ZS ns ds [] [3,5] s ⟨m,1⟩=true:=by
 rw[perm_parts (d:=d) (by simpa using hd)]
 refine⟨rfl,?_⟩
 unfold badV
 rcases hk with hk|hk<;>rw[hk]<;>rfl
def setAll(t:List Int):List Nat→List Int→List Int
 | [],s=>s
 | m::od,s=>setAll t od (s.set m (PO.at_ t m))
theorem setAll_len(t:List Int):∀ (od:List Nat) (s:List Int),(setAll t od s).length=s.length
 | [],_=>rfl
 | m::od,s=>by rw[setAll,setAll_len t od];simp
theorem setAll_at(t:List Int):∀ (od:List Nat) (s:List Int) (j:Nat),j<s.length→(j∈od∨PO.at_ s j=PO.at_ t j)→PO.at_ (setAll t od s) j=PO.at_ t j
 | [],s,j,_,h=>by
  rcases h with h|h
  ·cases h
  ·exact h
 | m::od,s,j,hj,h=>by
  rw[setAll]
  refine setAll_at t od _ j (by simpa using hj) ?_
  by_cases e:m=j
  ·subst e;right;exact at_set_self s hj _
  ·rw[Xn _ e]
   rcases h with h|h
   ·rcases List.mem_cons.1 h with rfl|h
    ·exact absurd rfl e
    ·exact .inl h
   ·exact .inr h
theorem goto_chain{n:Nat}{perm:List Int→Opr→Bool}{st:List Int}{ms:List Nat}(hst:Val12 n st)(hms:∀ m∈ms,m<n)(hnd:ms.Nodup){t:List Int}(ht:Val12 n t)(done:List Nat):∀ (od:List Nat) (v:Nat),v<2 ^ ms.length →
  (∀ x∈done,PO.at_ (Zi st ms v) x=PO.at_ t x)→(∀ m∈od,m∈ms∧m∉done)→(∀ m∈od,∀ s,Val12 n s→(∀ x∈done,PO.at_ s x=PO.at_ t x)→PO.at_ s m≠PO.at_ t m→perm s ⟨m,PO.at_ t m⟩=true) →
  ∃ l w,PO.Chain (nxV perm st ms) v l w∧l.length≤od.length∧w<2 ^ ms.length∧Zi st ms w=setAll t od (Zi st ms v)
 | [],v,hv,_,_,_=>⟨[],v,rfl,Nat.le_refl _,hv,rfl⟩
 | m::od,v,hv,hd,ho,hp=>by
  have hS:Val12 n (Zi st ms v):=ZJ hst hms v _
  obtain⟨hmm,hmd⟩:=ho m (by simp)
  have hmn:=hms m hmm
  obtain⟨i,hil,hi⟩:=List.getElem_of_mem hmm
  have hi2:ms[i]? = some m:=by rw[← hi];simp
  by_cases he:PO.at_ (Zi st ms v) m=PO.at_ t m
  ·obtain⟨l,w,h1,h2,h3,h4⟩:=goto_chain hst hms hnd ht done od v hv hd (fun x hx=>ho x (by simp[hx])) (fun x hx=>hp x (by simp[hx]))
   refine⟨l,w,h1,by simp;omega,h3,?_⟩
   rw[h4,setAll,← he,set_at_self]
  ·have hx:=state_xor st ms hnd v i m hi2 (by rw[hst.1];exact hmn)
   have h3t:3 - PO.at_ (Zi st ms v) m=PO.at_ t m:=by
    have a1:=hS.at_ hmn
    have a2:=ht.at_ hmn
    omega
   rw[h3t] at hx
   have hv2:v ^^^ 2 ^ i<2 ^ ms.length:=PO.xor_lt hv hil
   obtain⟨l,w,h1,h2,h3,h4⟩:=goto_chain hst hms hnd ht done od (v ^^^ 2 ^ i) hv2 (fun x hx2=>by rw[hx,Xn _ (fun e=>hmd (by rw[e];exact hx2))];exact hd x hx2) (fun x hx=>ho x (by simp[hx])) (fun x hx=>hp x (by simp[hx]))
   refine⟨(v,i)::l,w,⟨rfl,?_,h1⟩,by simp;omega,h3,by rw[h4,hx,setAll]⟩
   unfold nxV
   rw[if_pos hv]
   refine nextI_perm.2 ⟨hil,?_⟩
   unfold permAt
   rw[hi2]
   simp only
   rw[h3t]
   exact hp m (by simp) _ hS hd he
theorem PO.Chain.app{nx:Nat→List Nat}:∀ {l l':List (Nat×Nat)} {a b c:Nat},PO.Chain nx a l b→PO.Chain nx b l' c→PO.Chain nx a (l++l') c
 | [],l',a,b,c,h1,h2=>by
  have e:a=b:=h1
  subst e;exact h2
 | (v,i)::l,l',a,b,c,h1,h2=>by
  obtain⟨e,h3,h4⟩:=h1
  exact⟨e,h3,PO.Chain.app h4 h2⟩
end
section
open Go Go.RowKit
theorem locksL_yes{ds:List Dev}{s:List Int}{i:Nat}(hi:i<ds.length)(h:Xd ds s i=true):Zx i (Zo ds s)=(PO.at_ s i,true):=by
 have hpw:(Zo ds s).Pairwise (fun a b=>a.dev≠b.dev):=(locksP_pw ds s ds.length).1.imp (fun h=>by omega)
 exact locked_of _ hpw ⟨i,PO.at_ s i,i⟩ ((Yz ds s ds.length _).2 ⟨i,hi,h,rfl⟩)
theorem locksL_back{ds:List Dev}{s:List Int}{i:Nat}(h:(Zx i (Zo ds s)).2=true):i<ds.length∧Xd ds s i=true:=by
 obtain⟨x,h1,h2,_⟩:=locked_some _ _ h
 obtain⟨j,h3,h4,rfl⟩:=(Yz ds s ds.length x).1 h1
 obtain rfl:i=j:=by have:(j:Int)=i:=h2;omega
 exact⟨h3,h4⟩
theorem secure_more{n:Nat}{ds:List Dev}(hD:DevsIn n ds)(zs:List Nat)(hz:∀ g∈zs,g<n)(A B:List Lk)
  (hAB:∀ i:Nat,i<ds.length→(Zx i A).2=true→Zx i B=Zx i A)
  (hBA:∀ (i:Nat) d,ds[i]? = some d→(Zx i B).2=true→(Zx i A).2=false→Zu d.kind=false∧d.kind≠4) (hs:secureB n ds zs A=true):secureB n ds zs B=true:=by
 have g1:∀ i,inG (ZR ds A) i=true→inG (ZR ds B) i=true:=by
  intro i hi
  obtain⟨e1,e2,e3,e4⟩:=(gaps_in ds A i).1 hi
  exact (gaps_in ds B i).2 ⟨e1,by rw[hAB i e1 e2];exact e2,by rw[hAB i e1 e2];exact e3,e4⟩
 have g2:∀ i d,ds[i]? = some d→Zu d.kind=true→inG (ZR ds B) i=true→inG (ZR ds A) i=true:=by
  intro i d hd hj hi
  obtain⟨e1,e2,e3,e4⟩:=(gaps_in ds B i).1 hi
  cases h:(Zx i A).2 with
  | false=>have:=(hBA i d hd e2 h).1;rw[hj] at this;cases this
  | true =>
   rw[hAB i e1 h] at e3
   exact (gaps_in ds A i).2 ⟨e1,h,e3,e4⟩
 have step:∀ (gl gl':List Int),(∀ i d,ds[i]? = some d→Zu d.kind=true→inG gl' i=true→inG gl i=true)→∀ v,(∃ g∈zs,Rch ds (gst gl ds.length) g v)→∃ g∈zs,Rch ds (gst gl' ds.length) g v:=by
  rintro gl gl' h v ⟨g,hg,k,hk⟩
  refine⟨g,hg,k,hk.mono (fun a b hb=>?_)⟩
  obtain⟨j,d,h1,h2,h3⟩:=mem_nbS.1 hb
  have hj:Zu d.kind=true:=by
   cases hj:Zu d.kind with
   | true=>rfl
   | false=>unfold ZO at h3;rw[if_pos hj] at h3;omega
  obtain⟨h4,h5⟩:=(gst_two gl ds.length j).1 h2
  exact mem_nbS.2 ⟨j,d,h1,(gst_two gl' ds.length j).2 ⟨h4,Bool.eq_false_iff.2 (fun h6=>by rw[h j d h1 hj h6] at h5;cases h5)⟩,h3⟩
 have hreg:Zv n ds zs (ZR ds B)=Zv n ds zs (ZR ds A) :=
  region_eq hD zs hz _ _ (fun v=>⟨step _ _ (fun i d _ _ h=>g1 i h) v,step _ _ g2 v⟩)
 unfold secureB at hs ⊢
 rw[Bool.and_eq_true] at hs ⊢
 refine⟨?_,?_⟩
 ·have:=(enoughG_iff _ _ ds 0).1 hs.1
  unfold enoughB
  rw[hreg]
  refine (enoughG_iff _ _ ds 0).2 (fun j d hd=>?_)
  have hb:=this j d hd
  apply Bool.eq_false_iff.2
  intro hb2
  unfold badB at hb hb2
  rw[Nat.zero_add] at hb hb2
  rw[Bool.and_eq_true] at hb2
  obtain⟨hb2,hb3⟩:=hb2
  rw[hb3,Bool.and_true,Bool.or_eq_false_iff] at hb
  rw[hb.1,Bool.false_or,Bool.and_eq_true] at hb2
  rw[hb2.1,Bool.true_and] at hb
  have h9:inG (ZR ds A) j=true:=by have:=hb.2;unfold inG;simpa using this
  have h8:=g1 j h9
  unfold inG at h8
  rw[h8] at hb2
  simp at hb2
 ·have hc:countedL n ds zs B=countedL n ds zs A:=by
   unfold countedL
   have hr:regN n ds zs (ZR ds B)=regN n ds zs (ZR ds A):=by unfold regN;rw[hreg]
   rw[hr]
   unfold Yg
   apply List.filter_congr
   intro v hv
   suffices key:((Yu ds B).any fun d=>devB ds (fun x=>x.a==v) d)=((Yu ds A).any fun d=>devB ds (fun x=>x.a==v) d) by simp only[key]
   rw[Bool.eq_iff_iff,List.any_eq_true,List.any_eq_true]
   constructor
   ·rintro⟨x,hx,hxv⟩
    obtain⟨i,rfl,e1,e2,e3,e4⟩:=(earths_in ds B x).1 hx
    have hd:ds[i]? = some ds[i]:=by simp[e1]
    cases h:(Zx i A).2 with
    | false =>
     have:=(hBA i _ hd e2 h).2
     simp[List.getD_eq_getElem?_getD,e1] at e4
     exact absurd e4 this
    | true =>
     rw[hAB i e1 h] at e3
     exact⟨_,(earths_in ds A _).2 ⟨i,rfl,e1,h,e3,e4⟩,hxv⟩
   ·rintro⟨x,hx,hxv⟩
    obtain⟨i,rfl,e1,e2,e3,e4⟩:=(earths_in ds A x).1 hx
    exact⟨_,(earths_in ds B _).2 ⟨i,rfl,e1,by rw[hAB i e1 e2];exact e2,by rw[hAB i e1 e2];exact e3,e4⟩,hxv⟩
  rw[hc]
  exact hs.2
structure NetOK(ds:List Dev)(od1 od2:List Nat):Prop where
 cut:CutOK ds od1
 k1:∀ m∈od1,∃ d,ds[m]? = some d∧(d.kind=2∨d.kind=6)
 k2:∀ m∈od2,∃ d,ds[m]? = some d∧(d.kind=3∨(d.kind=4∧(d.a=2∨d.a=3)))
 ms:∀ m,m∈movs ds 0 []↔m∈od1∨m∈od2
 dj:∀ m∈od2,m∉od1
 ln:od1.length+od2.length≤8
theorem state_zero(st:List Int)(ms:List Nat):Zi st ms 0=st:=by
 have:∀ k,ZI st ms 0 k=st:=by
  intro k
  induction k with
  | zero=>rfl
  | succ k ih=>unfold ZI;split<;>simp[ih]
 exact this _
theorem flip_out(st:List Int)(ms:List Nat)(v:Nat){j:Nat}(hj:j∉ms):∀ k,PO.at_ (ZI st ms v k) j=PO.at_ st j
 | 0=>rfl
 | k+1=>by
  have ih:=flip_out st ms v hj k
  unfold ZI
  split
  ·rename_i d hd
   split
   ·rw[Xn _ (fun e=>hj (by rw[← e];exact List.mem_of_getElem? hd))];exact ih
   ·exact ih
  ·exact ih
theorem ext_at{s t:List Int}(hl:s.length=t.length)(h:∀ j,j<s.length→PO.at_ s j=PO.at_ t j):s=t:=by
 apply List.ext_getElem hl
 intro j h1 h2
 have:=h j h1
 simpa[PO.at_,h1,h2] using this
theorem depth_le{ns:List Node}{ds:List Dev}(hc:Zk ns ds=0)(h6:ns.length=6){od1 od2:List Nat}(hN:NetOK ds od1 od2){st:List Int}(hst:StOK ds st)(zs:List Nat)(hz:∀ g∈zs,g<6)
  (hd:0≤(schR ns ds 0 [] [] st zs).depth):(schR ns ds 0 [] [] st zs).depth≤8:=by
 have hD:=ZM hc
 have hinv:=(YI (ZS ns ds [] [3,5]) (goalB ns ds zs) (goalC ns ds zs st) st (movs ds 0 [])).inv
 have hf:=hinv.found hd
 have hms:∀ m∈movs ds 0 [],m<ds.length:=fun m hm=>(Yv hm).1
 have hnd:=movs_nodup ds 0 []
 obtain⟨g,gs,hgs⟩:=List.exists_cons_of_ne_nil hf.some_
 have hg:=(hf.goal g (by rw[hgs];simp)).1
 have hgoal:goalB ns ds zs (Zi st (movs ds 0 []) g)=true:=by
  unfold glV at hg
  split at hg
  ·assumption
  ·cases hg
 obtain⟨t0,ht0⟩:∃ t0,Zi st (movs ds 0 []) g=t0:=⟨_,rfl⟩
 have hv0:Val12 ds.length t0:=by rw[← ht0];exact ZJ hst hms g _
 have hout:∀ j,j∉movs ds 0 []→PO.at_ t0 j=PO.at_ st j:=fun j hj=>by rw[← ht0];exact flip_out st _ g hj _
 rw[ht0] at hgoal
 have hones:∀ m,m<ds.length→PO.at_ (List.replicate ds.length (1:Int)) m=1:=fun m hm=>by simp[PO.at_,hm]
 obtain⟨t,ht⟩:∃ t,setAll (List.replicate ds.length 1) od1 t0=t:=⟨_,rfl⟩
 have hlt:∀ m∈od1,m<ds.length:=fun m hm=>hms m ((hN.ms m).2 (.inl hm))
 have htv:Val12 ds.length t:=by
  rw[← ht]
  have:∀ (od:List Nat) (s:List Int),(∀ m∈od,m<ds.length)→Val12 ds.length s→Val12 ds.length (setAll (List.replicate ds.length 1) od s):=by
   intro od
   induction od with
   | nil=>intro s _ h;exact h
   | cons m od ih=>intro s hm h;rw[setAll];exact ih _ (fun x hx=>hm x (by simp[hx])) (h.set m (.inl (hones m (hm m (by simp)))))
  exact this od1 t0 hlt hv0
 have ht1:∀ m∈od1,PO.at_ t m=1:=fun m hm=>by rw[← ht,setAll_at _ od1 t0 m (by rw[hv0.1];exact hlt m hm) (.inl hm)];exact hones m (hlt m hm)
 have ht2:∀ j,j∉od1→PO.at_ t j=PO.at_ t0 j:=by
  intro j hj
  rw[← ht]
  have:∀ (od:List Nat) (s:List Int),j∉od→PO.at_ (setAll (List.replicate ds.length 1) od s) j=PO.at_ s j:=by
   intro od
   induction od with
   | nil=>intro s _;rfl
   | cons m od ih=>intro s hm;rw[setAll,ih _ (fun h=>hm (by simp[h])),Xn _ (fun e=>hm (by simp[e]))]
  exact this od1 t0 hj
 have hgt:goalB ns ds zs t=true:=by
  unfold goalB at hgoal ⊢
  refine secure_more hD zs (fun g hg=>by rw[h6];exact hz g hg) (Zo ds t0) (Zo ds t) (fun i hi hl=>?_) (fun i d hdi hB hA=>?_) hgoal
  ·obtain⟨_,hb⟩:=locksL_back hl
   rw[locksL_yes hi hb]
   by_cases hm:i∈od1
   ·obtain⟨d,hdi,hk⟩:=hN.k1 i hm
    have hkk:(ds.map (·.kind)).getD i 0=d.kind:=by simp[List.getD_eq_getElem?_getD,hdi]
    have hb2:=hb
    unfold Xd at hb2
    rw[hkk] at hb2
    rcases hk with hk|hk
    ·rw[hk] at hb2;exact absurd hb2 (by simp[gapB])
    ·rw[hk] at hb2
     have e1:PO.at_ t0 i=1:=by simpa[gapB] using hb2
     have:Xd ds t i=true:=by unfold Xd;rw[hkk,hk,ht1 i hm];rfl
     rw[locksL_yes hi this,ht1 i hm,e1]
   ·have:Xd ds t i=true:=by unfold Xd at hb ⊢;rw[ht2 i hm];exact hb
    rw[locksL_yes hi this,ht2 i hm]
  ·obtain⟨hi,hb⟩:=locksL_back hB
   have hna:Xd ds t0 i≠true:=fun h=>by rw[locksL_yes hi h] at hA;cases hA
   by_cases hm:i∈od1
   ·obtain⟨d',hdi',hk⟩:=hN.k1 i hm
    obtain rfl:d=d':=Option.some.inj (hdi.symm.trans hdi')
    have hkk:(ds.map (·.kind)).getD i 0=d.kind:=by simp[List.getD_eq_getElem?_getD,hdi]
    unfold Xd at hb
    rw[hkk] at hb
    rcases hk with hk|hk
    ·rw[hk] at hb;exact absurd hb (by simp[gapB])
    ·rw[hk];exact⟨rfl,by decide⟩
   ·exfalso
    apply hna
    unfold Xd at hb ⊢
    rw[ht2 i hm] at hb
    exact hb
 have hN0:0<2 ^ (movs ds 0 []).length:=Nat.pow_pos (by decide)
 obtain⟨l1,w1,c1,c2,c3,c4⟩:=goto_chain (perm:=ZS ns ds [] [3,5]) hst hms hnd htv [] od1 0 hN0 (fun x hx=>by cases hx) (fun m hm=>⟨(hN.ms m).2 (.inl hm),by simp⟩)
  (fun m hm s _ _ _=>by rw[ht1 m hm];obtain⟨d,h1,h2⟩:=hN.k1 m hm;exact perm_open h1 h2)
 rw[state_zero] at c4
 obtain⟨l2,w2,e1,e2,e3,e4⟩:=goto_chain (perm:=ZS ns ds [] [3,5]) hst hms hnd htv od1 od2 w1 c3 (fun x hx=>by rw[c4];exact setAll_at t od1 st x (by rw[hst.1];exact hlt x hx) (.inl hx)) (fun m hm=>⟨(hN.ms m).2 (.inr hm),hN.dj m hm⟩)
  (fun m hm s _ hs _=>by obtain⟨d,h1,h2⟩:=hN.k2 m hm;exact perm_dead hD h6 hN.cut (fun x hx=>by rw[hs x hx];exact ht1 x hx) h1 (hN.dj m hm) h2 _)
 have hw:Zi st (movs ds 0 []) w2=t:=by
  rw[e4,c4]
  refine ext_at (by rw[setAll_len,setAll_len,hst.1,htv.1]) (fun j hj=>?_)
  rw[setAll_len,setAll_len] at hj
  refine setAll_at t od2 _ j (by rw[setAll_len];exact hj) ?_
  by_cases h2:j∈od2
  ·exact .inl h2
  ·right
   refine setAll_at t od1 st j hj ?_
   by_cases h1:j∈od1
   ·exact .inl h1
   ·right
    rw[ht2 j h1,hout j (fun h=>by rcases (hN.ms j).1 h with h|h;exact h1 h;exact h2 h)]
 have hgl:glV (goalB ns ds zs) (goalC ns ds zs st) st (movs ds 0 []) w2≠none:=by
  unfold glV
  rw[hw,if_pos hgt]
  simp
 have:=PO.chain_least hinv hd (l1++l2) w2 (c1.app e1) hgl
 have h8:=hN.ln
 rw[List.length_append] at this
 have h9:((l1.length+l2.length:Nat):Int)≤8:=by omega
 exact Int.le_trans this h9
end
section
open Go Go.RowKit
theorem lockS_mem:∀ (W:List Lk) (key:Int) (x:Stp),x∈lockS key W→∃ u∈W,∃ j:Nat,j<W.length∧x=⟨3,u.dev,0,u.pos,key+j⟩
 | [],_,x,h=>by simp[lockS] at h
 | u::W,key,x,h=>by
  rcases List.mem_cons.1 h with rfl|h
  ·exact⟨u,by simp,0,by simp,by simp⟩
  ·obtain⟨v,h1,j,h2,h3⟩:=lockS_mem W (key+1) x h
   exact⟨v,by simp[h1],j+1,by simp;omega,by rw[h3];congr 1;push_cast;omega⟩
theorem filter_two{α:Type}(p q:α→Bool):∀ (l:List α),(∀ x∈l,p x=true→q x=false)→(l.filter p).length+(l.filter q).length≤l.length
 | [],_=>by simp
 | x::l,h=>by
  have ih:=filter_two p q l (fun y hy=>h y (by simp[hy]))
  have hx:=h x (by simp)
  cases hp:p x<;>cases hq:q x<;>simp[hp,hq]<;>first|omega|(rw[hx hp] at hq;cases hq)
theorem want_facts{n:Nat}{ds:List Dev}(zs:List Nat){F:List Int}(hF:StOK ds F):(wantLks n ds zs [] F).length≤ds.length∧(wantLks n ds zs [] F).Pairwise (fun a b=>a.dev≠b.dev)∧∀ u∈wantLks n ds zs [] F,WOK ds F u:=by
 have hpw:(Zo ds F).Pairwise (fun a b=>a.dev≠b.dev):=(locksP_pw ds F ds.length).1.imp (fun h=>by omega)
 have hdis:∀ x∈Zo ds F,wantA [] (pointsL n ds zs (Zo ds F)) x=true→wantB ds [] (pointsL n ds zs (Zo ds F)) (countedL n ds zs (Zo ds F)) x=false:=by
  intro x _ h
  unfold wantA at h
  unfold wantB
  simp only[List.any_nil,Bool.not_false,Bool.true_and] at h ⊢
  rw[h];rfl
 unfold wantLks
 refine⟨?_,?_,?_⟩
 ·rw[List.length_append]
  exact Nat.le_trans (filter_two _ _ _ hdis) (locksP_len ds F ds.length)
 ·refine List.pairwise_append.2 ⟨hpw.filter _,hpw.filter _,fun a ha b hb e=>?_⟩
  obtain⟨ha1,ha2⟩:=List.mem_filter.1 ha
  obtain⟨hb1,hb2⟩:=List.mem_filter.1 hb
  obtain⟨i,_,_,rfl⟩:=(Yz ds F ds.length a).1 ha1
  obtain⟨j,_,_,rfl⟩:=(Yz ds F ds.length b).1 hb1
  obtain rfl:i=j:=by have:(i:Int)=j:=e;omega
  rw[hdis _ ha1 ha2] at hb2
  cases hb2
 ·intro u hu
  have hu1:u∈Zo ds F:=by
   rcases List.mem_append.1 hu with h|h
   ·exact (List.mem_filter.1 h).1
   ·exact (List.mem_filter.1 h).1
  obtain⟨i,h1,h2,rfl⟩:=(Yz ds F ds.length u).1 hu1
  have hil:i<F.length:=by rw[hF.1];exact h1
  refine⟨⟨i,rfl,h1,by simp[PO.at_,hil],fun h5=>?_⟩,?_⟩
  ·unfold Xd at h2
   rw[h5] at h2
   exact absurd h2 (by simp[gapB])
  ·have:=hF.2 _ (List.getElem_mem hil)
   simpa[PO.at_,hil] using this
theorem nameI_ok:YP nmI=true:=by decide
end
section
open Go Go.RowKit
def xDs:Nat→List Dev
 | 0=>[⟨⟨#[83,53]⟩,5,5,-1,0⟩]
 | 1=>[⟨⟨#[71,51]⟩,6,3,-1,0⟩]
 | 2=>[⟨⟨#[68,49]⟩,3,1,4,0⟩]
 | _=>[]
def Zz(k:Nat):List Dev:=baseD++xDs k
def od1(k:Nat):List Nat:=if k=1 then [1,5,8] else [1,5]
def od2(k:Nat):List Nat:=if k=2 then [2,4,6,7,8] else [2,4,6,7]
theorem net_len(k:Nat):8≤(Zz k).length∧(Zz k).length≤9:=by
 unfold Zz xDs
 split<;>exact⟨by decide,by decide⟩
def cutB(ds:List Dev)(od:List Nat):Bool:=(List.range ds.length).all fun j=>match ds[j]? with
 | some d=>od.contains j||((!Zu d.kind||(decide (1≤d.a)&&decide (d.a≤4)&&decide (1≤d.b)&&decide (d.b≤4)))&&(!isSrc d||!(decide (1≤d.a)&&decide (d.a≤4))))
 | none=>true
theorem cutB_ok{ds:List Dev}{od:List Nat}(h:cutB ds od=true):CutOK ds od:=by
 have key:∀ j d,ds[j]? = some d→j∉od→(!Zu d.kind||(decide (1≤d.a)&&decide (d.a≤4)&&decide (1≤d.b)&&decide (d.b≤4)))=true∧(!isSrc d||!(decide (1≤d.a)&&decide (d.a≤4)))=true:=by
  intro j d hd hn
  obtain⟨hj,_⟩:=List.getElem?_eq_some_iff.1 hd
  have:=List.all_eq_true.1 h j (by simpa using hj)
  simp only[hd,Bool.or_eq_true,Bool.and_eq_true] at this
  rcases this with h1|⟨h1,h2⟩
  ·exact absurd (by simpa using h1) hn
  ·exact⟨by simpa using h1,by simpa using h2⟩
 refine⟨fun j d hd hj hn=>?_,fun j d hd hs hn hr=>?_⟩
 ·have:=(key j d hd hn).1
  rw[hj] at this
  simp at this
  omega
 ·have:=(key j d hd hn).2
  rw[hs] at this
  simp at this
  omega
def k1B(ds:List Dev)(od:List Nat):Bool:=od.all fun m=>match ds[m]? with|some d=>(d.kind==2)||(d.kind==6)|none=>false
def k2B(ds:List Dev)(od:List Nat):Bool:=od.all fun m=>match ds[m]? with|some d=>(d.kind==3)||((d.kind==4)&&((d.a==2)||(d.a==3)))|none=>false
theorem net_ok(k:Nat):NetOK (Zz k) (od1 k) (od2 k):=by
 have main:∀ k,k<4→cutB (Zz k) (od1 k)=true∧k1B (Zz k) (od1 k)=true∧k2B (Zz k) (od2 k)=true∧(movs (Zz k) 0 []).all (fun m=>(od1 k).contains m||(od2 k).contains m)=true∧(od1 k++od2 k).all (fun m=>(movs (Zz k) 0 []).contains m)=true∧(od2 k).all (fun m=>!(od1 k).contains m)=true∧(od1 k).length+(od2 k).length≤8:=by
  intro k hk
  have:k=0∨k=1∨k=2∨k=3:=by omega
  rcases this with rfl|rfl|rfl|rfl<;>exact⟨by kernel_rfl,by kernel_rfl,by kernel_rfl,by kernel_rfl,by kernel_rfl,by kernel_rfl,by decide⟩
 have fin:∀ k,cutB (Zz k) (od1 k)=true∧k1B (Zz k) (od1 k)=true∧k2B (Zz k) (od2 k)=true∧(movs (Zz k) 0 []).all (fun m=>(od1 k).contains m||(od2 k).contains m)=true∧(od1 k++od2 k).all (fun m=>(movs (Zz k) 0 []).contains m)=true∧(od2 k).all (fun m=>!(od1 k).contains m)=true∧(od1 k).length+(od2 k).length≤8→NetOK (Zz k) (od1 k) (od2 k):=by
  rintro k ⟨h1,h2,h3,h4,h5,h6,h7⟩
  refine⟨cutB_ok h1,fun m hm=>?_,fun m hm=>?_,fun m=>⟨fun h=>?_,fun h=>?_⟩,fun m hm h=>?_,h7⟩
  ·have:=List.all_eq_true.1 h2 m hm
   cases hd:(Zz k)[m]? with
   | none=>rw[hd] at this;cases this
   | some d=>rw[hd] at this;exact⟨d,rfl,by simpa using this⟩
  ·have:=List.all_eq_true.1 h3 m hm
   cases hd:(Zz k)[m]? with
   | none=>rw[hd] at this;cases this
   | some d=>rw[hd] at this;exact⟨d,rfl,by simpa using this⟩
  ·have:=List.all_eq_true.1 h4 m h;simpa using this
  ·have:=List.all_eq_true.1 h5 m (by simpa using h);simpa using this
  ·have:=List.all_eq_true.1 h6 m hm;simp[h] at this
 by_cases h:k<4
 ·exact fin k (main k h)
 ·have e1:Zz k=Zz 3:=by
   unfold Zz;congr 1
   match k,h with
   | 0,h=>exact absurd (by decide) h
   | 1,h=>exact absurd (by decide) h
   | 2,h=>exact absurd (by decide) h
   | k+3,_=>rfl
  have e2:od1 k=od1 3:=by unfold od1;rw[if_neg (by omega),if_neg (by omega)]
  have e3:od2 k=od2 3:=by unfold od2;rw[if_neg (by omega),if_neg (by omega)]
  rw[e1,e2,e3]
  exact fin 3 (main 3 (by decide))
theorem net_ea(k:Nat):∀ d∈Zz k,d.kind=4→d.a=2∨d.a=3:=by
 have key:(Zz k).all (fun d=>!(d.kind==4)||((d.a==2)||(d.a==3)))=true:=by
  unfold Zz xDs
  split<;>kernel_rfl
 intro d hd h4
 have:=List.all_eq_true.1 key d hd
 simpa[h4] using this
end
section
open Go Go.RowKit
def nd(i:Nat)(c:Int):Node:=⟨nN i,c,0⟩
theorem Xo(i:Nat)(d:Dk):∃ c:Int,(0≤c∧c≤20)∧(nodeB i d).1=nd i c:=by
 have h:=d.nx.v_rng (a:=20) (by decide)
 unfold nodeB
 split
 ·split
  ·exact⟨1+d.nx.v 20,by omega,rfl⟩
  ·exact⟨0,by omega,rfl⟩
 ·exact⟨0,by omega,rfl⟩
theorem bayN_shape(d:Dk):∃ c0 c1 c2 c3 c4 c5:Int,((0≤c0∧c0≤20)∧(0≤c1∧c1≤20)∧(0≤c2∧c2≤20)∧(0≤c3∧c3≤20)∧(0≤c4∧c4≤20)∧(0≤c5∧c5≤20))∧bayN d=[nd 0 c0,nd 1 c1,nd 2 c2,nd 3 c3,nd 4 c4,nd 5 c5]:=by
 unfold bayN
 obtain⟨c0,h0,e0⟩:=Xo 0 (ZQ 0 d).2
 obtain⟨c1,h1,e1⟩:=Xo 1 (ZQ 1 d).2
 obtain⟨c2,h2,e2⟩:=Xo 2 (ZQ 2 d).2
 obtain⟨c3,h3,e3⟩:=Xo 3 (ZQ 3 d).2
 obtain⟨c4,h4,e4⟩:=Xo 4 (ZQ 4 d).2
 obtain⟨c5,h5,e5⟩:=Xo 5 (ZQ 5 d).2
 refine⟨c0,c1,c2,c3,c4,c5,⟨h0,h1,h2,h3,h4,h5⟩,?_⟩
 show (((((((ZQ 0 d).1++[(nodeB 0 (ZQ 0 d).2).1])++[(nodeB 1 (ZQ 1 d).2).1])++[(nodeB 2 (ZQ 2 d).2).1])++[(nodeB 3 (ZQ 3 d).2).1])++[(nodeB 4 (ZQ 4 d).2).1])++[(nodeB 5 (ZQ 5 d).2).1])=_
 rw[e0,e1,e2,e3,e4,e5]
 rfl
theorem ndErr_ok(i:Nat)(c:Int)(u:List (List UInt8))(h1:YP (nN i)=true)(h2:¬ (nN i).data.toList∈u)(h3:0≤c∧c≤20):nodeErr (nd i c) u=0:=by
 unfold nodeErr nd
 simp only
 rw[if_neg (by rw[h1];decide),if_neg h2,if_neg (by
  intro h
  rcases h with h|h|h
  ·omega
  ·omega
  ·exact absurd h (by decide))]
theorem chk_dev(k:Nat):chkD 6 (Zz k) [(nN 5).data.toList,(nN 4).data.toList,(nN 3).data.toList,(nN 2).data.toList,(nN 1).data.toList,(nN 0).data.toList]=0:=by
 unfold Zz xDs
 split<;>kernel_rfl
theorem chkN_one{n:Int}{ds:List Dev}{x:Node}{xs:List Node}{u:List (List UInt8)}(h:nodeErr x u=0):chkN n ds (x::xs) u=chkN n ds xs (x.name.data.toList::u):=by
 rw[chkN,if_pos h]
theorem net_check(k:Nat){c0 c1 c2 c3 c4 c5:Int}(h:(0≤c0∧c0≤20)∧(0≤c1∧c1≤20)∧(0≤c2∧c2≤20)∧(0≤c3∧c3≤20)∧(0≤c4∧c4≤20)∧(0≤c5∧c5≤20)):Zk [nd 0 c0,nd 1 c1,nd 2 c2,nd 3 c3,nd 4 c4,nd 5 c5] (Zz k)=0:=by
 obtain⟨h0,h1,h2,h3,h4,h5⟩:=h
 have hl:=(net_len k).2
 unfold Zk
 rw[if_neg (by simp;omega)]
 refine (chkN_one (ndErr_ok 0 c0 [] (by decide) (by decide) h0)).trans ?_
 refine (chkN_one (ndErr_ok 1 c1 [(nN 0).data.toList] (by decide) (by decide) h1)).trans ?_
 refine (chkN_one (ndErr_ok 2 c2 [(nN 1).data.toList,(nN 0).data.toList] (by decide) (by decide) h2)).trans ?_
 refine (chkN_one (ndErr_ok 3 c3 [(nN 2).data.toList,(nN 1).data.toList,(nN 0).data.toList] (by decide) (by decide) h3)).trans ?_
 refine (chkN_one (ndErr_ok 4 c4 [(nN 3).data.toList,(nN 2).data.toList,(nN 1).data.toList,(nN 0).data.toList] (by decide) (by decide) h4)).trans ?_
 refine (chkN_one (ndErr_ok 5 c5 [(nN 4).data.toList,(nN 3).data.toList,(nN 2).data.toList,(nN 1).data.toList,(nN 0).data.toList] (by decide) (by decide) h5)).trans ?_
 exact chk_dev k
theorem setB_z(below most:Nat):∀ (f i:Nat) (out:List Int) (d:Dk) (z:List Nat),out=nats z→z.Pairwise (·<·)→(∀ v∈z,v<i∧v<below)→z.length≤most→∃ z':List Nat,(setB_ below most f i out d).1=nats z'∧z'.Pairwise (·<·)∧(∀ v∈z',v<below)∧z'.length≤most
 | 0,i,out,d,z,h1,h2,h3,h4=>⟨z,h1,h2,fun v hv=>(h3 v hv).2,h4⟩
 | f+1,i,out,d,z,h1,h2,h3,h4=>by
  unfold setB_
  split
  ·rename_i hc
   split
   ·have hl:z.length<most:=by have:=hc.2;rw[h1,nats_len] at this;exact this
    refine setB_z below most f (i+1) _ d.nx (z++[i]) (by rw[h1];simp[nats]) (List.pairwise_append.2 ⟨h2,by simp,fun a ha b hb=>?_⟩) (fun v hv=>?_) (by simp;omega)
    ·obtain rfl:b=i:=by simpa using hb
     exact (h3 a ha).1
    ·rcases List.mem_append.1 hv with hv|hv
     ·have:=h3 v hv;omega
     ·obtain rfl:v=i:=by simpa using hv
      exact⟨by omega,hc.1⟩
   ·exact setB_z below most f (i+1) out d.nx z h1 h2 (fun v hv=>by have:=h3 v hv;omega) h4
  ·exact⟨z,h1,h2,fun v hv=>(h3 v hv).2,h4⟩
theorem ris_of{u:Int}:∀ (z:List Nat) (y:Int),z.Pairwise (·<·)→(∀ v∈z,y<(v:Int)∧(v:Int)<u)→risG u y (nats z)=true
 | [],_,_,_=>rfl
 | v::z,y,h1,h2=>by
  have hv:=h2 v (by simp)
  show (if (v:Int)≤y∨u≤(v:Int) then false else risG u v (nats z))=true
  rw[if_neg (by omega)]
  refine ris_of z v (List.pairwise_cons.1 h1).2 (fun w hw=>?_)
  have a1:=(List.pairwise_cons.1 h1).1 w hw
  have a2:=h2 w (by simp[hw])
  omega
theorem zone_shape(d:Dk)(ns:List Node)(h6:ns.length=6):∃ z:List Nat,(zoneF ns.length d).1=nats z∧(∀ v∈z,v<ns.length)∧z.length≤100∧ZOK ns z:=by
 obtain⟨z,h1,h2,h3,h4⟩:=setB_z ns.length 2 (ns.length+1) 0 [] d [] rfl List.Pairwise.nil (fun v hv=>by cases hv) (by simp)
 have h1':(setF ns.length 2 d).1=nats z:=h1
 have fin:∀ z:List Nat,z≠[]→z.Pairwise (·<·)→(∀ v∈z,v<ns.length)→z.length≤2→ZOK ns z:=fun z g1 g2 g3 g4=>⟨g1,g3,ris_of z (-1) g2 (fun v hv=>by have:=g3 v hv;omega),by omega⟩
 unfold zoneF
 by_cases he:(setF ns.length 2 d).1=[]
 ·rw[if_pos he]
  have hv:=(setF ns.length 2 d).2.v_rng (a:=(ns.length:Int)) (by omega)
  obtain⟨v,hvv⟩:∃ v:Nat,(setF ns.length 2 d).2.v ns.length=v:=⟨((setF ns.length 2 d).2.v ns.length).toNat,by omega⟩
  refine⟨[v],by simp[nats,hvv],fun w hw=>?_,by simp,fin [v] (by simp) (by simp) (fun w hw=>?_) (by simp)⟩
  ·obtain rfl:w=v:=by simpa using hw
   omega
  ·obtain rfl:w=v:=by simpa using hw
   omega
 ·rw[if_neg he]
  exact⟨z,h1',h3,by omega,fin z (fun e=>he (by rw[h1',e];rfl)) h2 h3 h4⟩
theorem bayK_ok{d:Dk}(h:DkOK d):DkOK (bayK d):=by
 have h1:DkOK (bayX d).2.2:=xtra_ok (nodesB_ok 6 h)
 unfold bayK cutS
 split
 ·exact h1.nx.nx
 ·exact h1.nx
end
section
open Go Go.RowKit
def FltIn(n:Nat)(ds:List Dev)(s t:List Int):Prop:=∀ v,v<n→PO.at_ (colF n ds s) v=3→PO.at_ (colF n ds t) v=3
theorem FltIn.trans{n:Nat}{ds:List Dev}{s t u:List Int}(h:FltIn n ds s t)(k:FltIn n ds t u):FltIn n ds s u:=fun v hv h3=>k v hv (h v hv h3)
theorem both_kind{n:Nat}{ds:List Dev}(hD:DevsIn n ds)(s:List Int){v:Nat}(hv:v<n):PO.at_ (colF n ds s) v=3↔KindAt isSrc ds s v∧KindAt isEarK ds s v:=by
 obtain⟨l,e,h1,h2,h3⟩:=col_bits hD s hv
 have h9:PO.at_ (colF n ds s) v=colV l e:=h1
 rw[h9,← h2,← h3]
 cases l<;>cases e<;>simp[colV]
theorem up_open(s:List Int)(i:Nat):Up (s.set i 1) s:=by
 refine⟨by simp,fun j hj=>?_⟩
 by_cases e:i=j
 ·subst e
  obtain⟨h1,h2⟩:=List.getElem?_eq_some_iff.1 hj
  simp at h2
 ·rw[List.getElem?_set_ne e] at hj;exact hj
theorem open_flt{n:Nat}{ds:List Dev}(hD:DevsIn n ds)(s:List Int)(i:Nat):FltIn n ds (s.set i 1) s:=fun v hv h3=>by
 obtain⟨k1,k2⟩:=(both_kind hD _ hv).1 h3
 exact (both_kind hD _ hv).2 ⟨kind_up (up_open s i) k1,kind_up (up_open s i) k2⟩
theorem rch_off{ds:List Dev}{s:List Int}{i:Nat}{d:Dev}(hd:ds[i]? = some d){u x:Nat}(hno:¬ Rch ds (s.set i 2) u d.a.toNat)(hr:Rch ds (s.set i 2) u x):Rch ds s u x:=by
 obtain⟨k,hk⟩:=hr
 induction k generalizing u with
 | zero=>have e:u=x:=hk;subst e;exact Rch.refl _ _ _
 | succ k ih =>
  obtain⟨m,hm,hk⟩:=hk
  have hm2:¬ Rch ds (s.set i 2) m d.a.toNat:=fun h=>hno ((edge_rch hm).trans h)
  refine Rch.trans (edge_rch ?_) (ih hm2 hk)
  obtain⟨j,e,h1,h2,h3⟩:=mem_nbS.1 hm
  by_cases e1:i=j
  ·subst e1
   rw[hd] at h1
   obtain rfl:=Option.some.inj h1
   exfalso
   unfold ZO at h3
   split at h3
   ·omega
   ·split at h3
    ·rename_i e5
     have e5:d.a=u:=by simpa using e5
     exact hno (by rw[show d.a.toNat=u by omega];exact Rch.refl _ _ _)
    ·split at h3
     ·exact hm2 (by rw[show d.a.toNat=m by omega];exact Rch.refl _ _ _)
     ·omega
  ·exact mem_nbS.2 ⟨j,e,h1,by rw[List.getElem?_set_ne e1] at h2;exact h2,h3⟩
theorem close_flt{n:Nat}{ds:List Dev}(hD:DevsIn n ds){s:List Int}{i:Nat}{d:Dev}(hd:ds[i]? = some d)(hf:faultV d (colF n ds (s.set i 2))=false):FltIn n ds (s.set i 2) s:=fun v hv h3=>by
 obtain⟨k1,k2⟩:=(both_kind hD _ hv).1 h3
 have hda:=hD.first d (List.mem_of_getElem? hd)
 have hno:¬ Rch ds (s.set i 2) v d.a.toNat:=fun hr=>by
  have hb:∀ K,KindAt K ds (s.set i 2) v→KindAt K ds (s.set i 2) d.a.toNat:=fun K ⟨j,e,a1,a2,a3,a4⟩=>⟨j,e,a1,a2,a3,(hr.symm hD).trans a4⟩
  have h9:=(both_kind hD (s.set i 2) (show d.a.toNat<n by omega)).2 ⟨hb _ k1,hb _ k2⟩
  have hlen:d.a.toNat<(colF n ds (s.set i 2)).length:=by rw[Y1];omega
  have:(colF n ds (s.set i 2)).getD d.a.toNat 0=3:=by rw[← h9];simp[PO.at_,hlen]
  unfold faultV at hf
  rw[this] at hf
  simp at hf
 have kk:∀ K,KindAt K ds (s.set i 2) v→KindAt K ds s v:=fun K ⟨j,e,a1,a2,a3,a4⟩=>by
  by_cases e1:i=j
  ·subst e1
   rw[hd] at a1
   obtain rfl:=Option.some.inj a1
   exact absurd a4 hno
  ·exact⟨j,e,a1,by rw[List.getElem?_set_ne e1] at a2;exact a2,a3,rch_off hd hno a4⟩
 exact (both_kind hD _ hv).2 ⟨kk _ k1,kk _ k2⟩
end
end Go.Proofs.YtjdgofpcmcobnaaGreatDoor.AL

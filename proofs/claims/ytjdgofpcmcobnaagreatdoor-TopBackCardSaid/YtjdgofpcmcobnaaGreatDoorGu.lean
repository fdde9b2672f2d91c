/-
  A way back is at most nine operations long.
-/
import Derived.Test.YtjdgofpcmcobnaaGreatDoorGp
import Derived.Test.YtjdgofpcmcobnaaGreatDoorGt
set_option maxRecDepth 100000
set_option maxHeartbeats 2000000
set_option linter.unusedVariables false
set_option linter.unusedSimpArgs false
namespace Go.Proofs.YtjdgofpcmcobnaaGreatDoor.AL
section
open Go Go.RowKit
theorem loadG_any(ps:List Int)(p:Int)(ns:List Node):∀ (g k:Nat),loadG ps p ns g k=true↔∃ j,k≤j∧j<k+g∧custB ps p ns j=true
 | 0,k=>by
  unfold loadG
  constructor
  ·intro h;cases h
  ·rintro⟨j,h1,h2,_⟩;omega
 | g+1,k=>by
  unfold loadG
  by_cases h:custB ps p ns k=true
  ·rw[if_pos h];exact⟨fun _=>⟨k,by omega,by omega,h⟩,fun _=>rfl⟩
  ·rw[if_neg h,loadG_any ps p ns g (k+1)]
   constructor
   ·rintro⟨j,h1,h2,h3⟩;exact⟨j,by omega,by omega,h3⟩
   ·rintro⟨j,h1,h2,h3⟩
    by_cases e:j=k
    ·subst e;exact absurd h3 h
    ·exact⟨j,by omega,by omega,h3⟩
def cuB(ns:List Node)(v:Nat):Bool:=decide (0<custAt ns v)
theorem cu_at(ns:List Node)(v:Nat):decide (0<(ns.map (·.cust)).getD v 0)=cuB ns v:=by
 unfold cuB custAt
 rw[Int.toNat_natCast]
 simp[List.getD_eq_getElem?_getD]
def xbad(d:Dev)(p:Int)(f q:Bool):Bool:=((p==2)&&f)||(((d.kind==3)&&(f||q))||(((d.kind==4)&&((p==1)&&f))||(((d.kind==6)&&((p==2)&&(!f&&q)))||(d.kind==5))))
def xhurt(d:Dev)(ps oc cs ct:List Int)(v:Nat):Bool:=((d.kind==3)&&((deadV d ps oc).2&&(ps.getD v 0==ps.getD (deadV d ps oc).1.toNat 0)))||((PO.at_ cs v==1)&&!(PO.at_ ct v==1))
theorem bad_x(ns:List Node)(d:Dev)(ps oc cc:List Int)(p:Int):(((p==2)&&(dutyV ns d ps oc cc==4))=false∧badV d.kind p (dutyV ns d ps oc cc)=false)↔(xbad d p (faultV d cc) (parallelV d ps oc)=false∧((d.kind==3)=true→loadV ns d ps oc=false)):=by
 unfold dutyV badV xbad
 generalize faultV d cc=f
 generalize parallelV d ps oc=q
 generalize loadV ns d ps oc=L
 generalize (deadV d ps oc).2=e
 generalize d.kind=k
 by_cases k3:k=3
 ·subst k3;cases f<;>cases q<;>cases L<;>cases e<;>simp
 ·by_cases k4:k=4
  ·subst k4;cases f<;>cases q<;>cases L<;>cases e<;>simp
  ·by_cases k6:k=6
   ·subst k6;cases f<;>cases q<;>cases L<;>cases e<;>simp
   ·rw[if_neg k3,if_neg k4,if_neg k6]
    cases f<;>cases q<;>cases L<;>cases e<;>simp[k3,k4,k6]
theorem supN_nil{P:Nat→Bool}{n:Nat}:supN P n=[]↔∀ v,v<n→P v=false:=by
 constructor
 ·intro h v hv
  apply Bool.eq_false_iff.2
  intro hp
  have:=(Yt P n v).2 ⟨v,rfl,hv,hp⟩
  rw[h] at this
  cases this
 ·intro h
  refine List.eq_nil_iff_forall_not_mem.2 (fun x hx=>?_)
  obtain⟨j,_,h2,h3⟩:=(Yt P n x).1 hx
  rw[h j h2] at h3
  cases h3
theorem perm5_iff{ns:List Node}{ds:List Dev}{pr s:List Int}{i:Nat}{p:Int}{d:Dev}(hd:ds[i]? = some d):ZS ns ds pr [5] s ⟨(i:Int),p⟩=true ↔
  xbad d p (faultV d (colF ns.length ds (s.set i 2))) (parallelV d (partsL ns.length ds (s.set i 1)) (colF ns.length ds (s.set i 1)))=false ∧
  ∀ v,v<ns.length→cuB ns v=true→xhurt d (partsL ns.length ds (s.set i 1)) (colF ns.length ds (s.set i 1)) (colF ns.length ds s) (colF ns.length ds (s.set i p)) v=false:=by
 have hdu:dutyL ns ds s i=dutyV ns d (partsL ns.length ds (s.set i 1)) (colF ns.length ds (s.set i 1)) (colF ns.length ds (s.set i 2)):=by unfold dutyL;rw[hd]
 have h1:ZS ns ds pr [5] s ⟨(i:Int),p⟩=true↔((p==2)&&(dutyL ns ds s i==4))=false∧badV d.kind p (dutyL ns ds s i)=false∧lostL (supL ns ds s) (supL ns ds (s.set i p))=[]:=by
  unfold ZS hazL
  simp only[Int.toNat_natCast]
  rw[hd]
  simp only
  unfold hz4 selH
  rw[← List.isEmpty_iff]
  generalize ((p==2)&&(dutyL ns ds s i==4))=b1
  generalize badV d.kind p (dutyL ns ds s i)=b2
  generalize (lostL (supL ns ds s) (supL ns ds (s.set i p))).isEmpty=b3
  generalize (((p==2)&&(d.kind==4))&&!(ins pr d.a))=b4
  cases b1<;>cases b2<;>cases b3<;>cases b4<;>simp[ins]
 rw[h1,← and_assoc,hdu,bad_x,lost_sup,supN_nil,and_assoc]
 refine and_congr_right (fun _=>?_)
 have hsup:∀ t v,suppB ns ds t v=(cuB ns v&&(PO.at_ (colF ns.length ds t) v==1)):=fun t v=>rfl
 have hld:loadV ns d (partsL ns.length ds (s.set i 1)) (colF ns.length ds (s.set i 1))=false↔∀ v,v<ns.length→cuB ns v=true→((deadV d (partsL ns.length ds (s.set i 1)) (colF ns.length ds (s.set i 1))).2&&((partsL ns.length ds (s.set i 1)).getD v 0==(partsL ns.length ds (s.set i 1)).getD (deadV d (partsL ns.length ds (s.set i 1)) (colF ns.length ds (s.set i 1))).1.toNat 0))=false:=by
  unfold loadV
  generalize (deadV d (partsL ns.length ds (s.set i 1)) (colF ns.length ds (s.set i 1)))=dd
  cases h2:dd.2 with
  | false=>simp
  | true =>
   rw[Bool.true_and,← Bool.not_eq_true,loadG_any]
   constructor
   ·intro h v hv hc
    rw[Bool.true_and]
    apply Bool.eq_false_iff.2
    intro hp
    exact h ⟨v,by omega,by omega,by unfold custB;rw[cu_at,hc,hp];rfl⟩
   ·rintro h ⟨v,_,hv,hc⟩
    unfold custB at hc
    rw[cu_at,Bool.and_eq_true] at hc
    have:=h v (by omega) hc.1
    rw[hc.2] at this
    cases this
 rw[hld]
 constructor
 ·rintro⟨a1,a2⟩ v hv hc
  have b2:=a2 v hv
  rw[hsup,hsup,hc,Bool.true_and,Bool.true_and] at b2
  unfold xhurt
  rw[b2,Bool.or_false]
  cases hk:(d.kind==3) with
  | false=>rfl
  | true=>rw[Bool.true_and];exact a1 hk v hv hc
 ·intro a
  refine⟨fun hk v hv hc=>?_,fun v hv=>?_⟩
  ·have:=a v hv hc
   unfold xhurt at this
   rw[hk,Bool.true_and,Bool.or_eq_false_iff] at this
   exact this.1
  ·rw[hsup,hsup]
   cases hc:cuB ns v with
   | false=>rfl
   | true =>
    have:=a v hv hc
    unfold xhurt at this
    rw[Bool.or_eq_false_iff] at this
    rw[Bool.true_and,Bool.true_and]
    exact this.2
end
section
open Go Go.RowKit
theorem flip_in{n:Nat}{st:List Int}{ms:List Nat}(hst:Val12 n st)(hms:∀ m∈ms,m<n)(hn:ms.Nodup)(v:Nat){i m:Nat}(hi:ms[i]? = some m):∀ k,PO.at_ (ZI st ms v k) m=if i<k∧v.testBit i=true then 3 - PO.at_ st m else PO.at_ st m
 | 0=>by simp[ZI]
 | k+1=>by
  have ih:=flip_in hst hms hn v hi k
  have hml:=hms m (List.mem_of_getElem? hi)
  have hlen:=(ZJ hst hms v k).1
  unfold ZI
  cases hk:ms[k]? with
  | none =>
   simp only
   rw[ih]
   have hne:i≠k:=fun e=>by subst e;rw[hi] at hk;cases hk
   by_cases h1:i<k
   ·by_cases h2:v.testBit i=true
    ·rw[if_pos ⟨h1,h2⟩,if_pos ⟨by omega,h2⟩]
    ·rw[if_neg (fun h=>h2 h.2),if_neg (fun h=>h2 h.2)]
   ·rw[if_neg (fun h=>h1 h.1),if_neg (fun h=>h1 (by omega))]
  | some d =>
   simp only
   have hb:(v / 2 ^ k % 2=1)↔v.testBit k=true:=by rw[Nat.testBit_eq_decide_div_mod_eq];simp
   by_cases e:i=k
   ·subst e
    rw[hi] at hk
    obtain rfl:m=d:=Option.some.inj hk
    by_cases hv:v.testBit i=true
    ·rw[if_pos (hb.2 hv),at_set_self _ (by rw[hlen];exact hml),ih,if_neg (fun h=>Nat.lt_irrefl _ h.1),if_pos ⟨Nat.lt_succ_self _,hv⟩]
    ·rw[if_neg (fun h=>hv (hb.1 h)),ih,if_neg (fun h=>hv h.2),if_neg (fun h=>hv h.2)]
   ·have hne:m≠d:=by
     intro e2
     subst e2
     obtain⟨a1,a2⟩:=List.getElem?_eq_some_iff.1 hi
     obtain⟨b1,b2⟩:=List.getElem?_eq_some_iff.1 hk
     rcases Nat.lt_or_gt_of_ne e with h|h
     ·exact (List.pairwise_iff_getElem.1 hn) i k a1 b1 h (a2.trans b2.symm)
     ·exact (List.pairwise_iff_getElem.1 hn) k i b1 a1 h (b2.trans a2.symm)
    have hsame:PO.at_ (if v / 2 ^ k % 2=1 then (ZI st ms v k).set d (3 - PO.at_ (ZI st ms v k) d) else ZI st ms v k) m=PO.at_ (ZI st ms v k) m:=by
     split
     ·exact Xn _ (fun h=>hne h.symm) _
     ·rfl
    rw[hsame,ih]
    by_cases h2:v.testBit i=true
    ·by_cases h1:i<k
     ·rw[if_pos ⟨h1,h2⟩,if_pos ⟨by omega,h2⟩]
     ·rw[if_neg (fun h=>h1 h.1),if_neg (fun h=>h1 (by omega))]
    ·rw[if_neg (fun h=>h2 h.2),if_neg (fun h=>h2 h.2)]
theorem state_at{n:Nat}{st:List Int}{ms:List Nat}(hst:Val12 n st)(hms:∀ m∈ms,m<n)(hn:ms.Nodup)(v:Nat){i m:Nat}(hi:ms[i]? = some m):PO.at_ (Zi st ms v) m=if v.testBit i=true then 3 - PO.at_ st m else PO.at_ st m:=by
 have hl:=(List.getElem?_eq_some_iff.1 hi).1
 rw[flip_in hst hms hn v hi]
 by_cases h2:v.testBit i=true
 ·rw[if_pos ⟨hl,h2⟩,if_pos h2]
 ·rw[if_neg (fun h=>h2 h.2),if_neg h2]
theorem state_comp{n:Nat}{st:List Int}{ms:List Nat}(hst:Val12 n st)(hms:∀ m∈ms,m<n)(hn:ms.Nodup)(u v:Nat):Zi (Zi st ms u) ms v=Zi st ms (u ^^^ v):=by
 have hu:Val12 n (Zi st ms u):=ZJ hst hms u _
 have h1:Val12 n (Zi (Zi st ms u) ms v):=ZJ hu hms v _
 have h2:Val12 n (Zi st ms (u ^^^ v)):=ZJ hst hms _ _
 refine ext_at (by rw[h1.1,h2.1]) (fun j hj=>?_)
 by_cases hm:j∈ms
 ·obtain⟨i,hi,e⟩:=List.getElem_of_mem hm
  have hi2:ms[i]? = some j:=by rw[← e];simp
  rw[state_at hu hms hn v hi2,state_at hst hms hn u hi2,state_at hst hms hn (u ^^^ v) hi2,Nat.testBit_xor]
  cases u.testBit i<;>cases v.testBit i<;>simp<;>omega
 ·rw[flip_out _ ms v hm,flip_out _ ms u hm,flip_out _ ms _ hm]
theorem state_inj{n:Nat}{st:List Int}{ms:List Nat}(hst:Val12 n st)(hms:∀ m∈ms,m<n)(hn:ms.Nodup){u v:Nat}(hu:u<2 ^ ms.length)(hv:v<2 ^ ms.length)(h:Zi st ms u=Zi st ms v):u=v:=by
 apply Nat.eq_of_testBit_eq
 intro i
 by_cases hi:i<ms.length
 ·have hi2:ms[i]? = some ms[i]:=by simp[hi]
  have e1:=state_at hst hms hn u hi2
  have e2:=state_at hst hms hn v hi2
  rw[h,e2] at e1
  have:=hst.at_ (hms _ (List.getElem_mem hi))
  cases hu2:u.testBit i<;>cases hv2:v.testBit i<;>simp[hu2,hv2] at e1 ⊢<;>omega
 ·have hp:2 ^ ms.length≤2 ^ i:=Nat.pow_le_pow_right (by decide) (by omega)
  rw[Nat.testBit_lt_two_pow (by omega),Nat.testBit_lt_two_pow (by omega)]
def mkB:Nat→Nat
 | 0=>113427455640312821154458202477256070485
 | 1=>68056473384187692692674921486353642291
 | 2=>20016609818878733144904388672456953615
 | 3=>1324055902416102970674609367438786815
 | 4=>5192217631581220737344928932233215
 | 5=>79228162495817593524129366015
 | _=>18446744073709551615
def swp(i S:Nat):Nat:=((S >>> 2 ^ i) &&& mkB i) ||| ((S &&& mkB i) <<< 2 ^ i)
theorem mkB_ok:∀ i,i<7→∀ a,a<128→(mkB i).testBit a=!(a.testBit i):=by
 have:((List.range 7).all fun i=>(List.range 128).all fun a=>(mkB i).testBit a==!(a.testBit i))=true:=by kernel_rfl
 intro i hi a ha
 have h1:=List.all_eq_true.1 this i (List.mem_range.2 hi)
 have h2:=List.all_eq_true.1 h1 a (List.mem_range.2 ha)
 simpa using h2
theorem xor_ok:∀ i,i<7→∀ a,a<128→a ^^^ 2 ^ i=(if a.testBit i=true then a - 2 ^ i else 2 ^ i+a)∧(a.testBit i=true→2 ^ i≤a∧(a - 2 ^ i).testBit i=false)∧(a.testBit i=false→2 ^ i≤a→(a - 2 ^ i).testBit i=true):=by
 have:((List.range 7).all fun i=>(List.range 128).all fun a=>(a ^^^ 2 ^ i==(if a.testBit i=true then a - 2 ^ i else 2 ^ i+a))&&((!(a.testBit i)||(Nat.ble (2 ^ i) a&&!((a - 2 ^ i).testBit i)))&&((a.testBit i)||(!(Nat.ble (2 ^ i) a)||(a - 2 ^ i).testBit i))))=true:=by kernel_rfl
 intro i hi a ha
 have h1:=List.all_eq_true.1 this i (List.mem_range.2 hi)
 have h2:=List.all_eq_true.1 h1 a (List.mem_range.2 ha)
 rw[Bool.and_eq_true,Bool.and_eq_true] at h2
 obtain⟨h3,h4,h5⟩:=h2
 refine⟨by simpa using h3,fun h=>?_,fun h hle=>?_⟩
 ·rw[h] at h4
  simpa[Nat.ble_eq] using h4
 ·rw[h] at h5
  have:Nat.ble (2 ^ i) a=true:=Nat.ble_eq_true_of_le hle
  rw[this] at h5
  simpa using h5
theorem swp_at{i a:Nat}(hi:i<7)(ha:a<128)(S:Nat):(swp i S).testBit a=S.testBit (a ^^^ 2 ^ i):=by
 obtain⟨x1,x2,x3⟩:=xor_ok i hi a ha
 unfold swp
 rw[Nat.testBit_or,Nat.testBit_and,Nat.testBit_shiftRight,Nat.testBit_shiftLeft,Nat.testBit_and,mkB_ok i hi a ha,x1]
 cases h:a.testBit i with
 | true =>
  obtain⟨h1,h2⟩:=x2 h
  rw[mkB_ok i hi _ (Nat.lt_of_le_of_lt (Nat.sub_le _ _) ha),h2]
  simp[h1]
 | false =>
  by_cases h1:2 ^ i≤a
  ·rw[mkB_ok i hi _ (Nat.lt_of_le_of_lt (Nat.sub_le _ _) ha),x3 h h1]
   simp
  ·simp[h1]
def stp:List Nat→Nat→Nat→Nat→Nat
 | [],_,_,acc=>acc
 | x::A,i,S,acc=>stp A (i+1) S (acc ||| (x &&& swp i S))
theorem stp_at{a:Nat}(ha:a<128)(S:Nat):∀ (A:List Nat) (i acc:Nat),i+A.length≤7→((stp A i S acc).testBit a=true↔acc.testBit a=true∨∃ j x,A[j]? = some x∧x.testBit a=true∧S.testBit (a ^^^ 2 ^ (i+j))=true)
 | [],i,acc,_=>by simp[stp]
 | x::A,i,acc,h=>by
  simp only[List.length_cons] at h
  rw[stp,stp_at ha S A (i+1) _ (by omega),Nat.testBit_or,Nat.testBit_and,swp_at (by omega) ha,Bool.or_eq_true,Bool.and_eq_true]
  constructor
  ·rintro ((h1|⟨h1,h2⟩)|⟨j,y,h1,h2,h3⟩)
   ·exact .inl h1
   ·exact .inr ⟨0,x,rfl,h1,h2⟩
   ·exact .inr ⟨j+1,y,by simpa using h1,h2,by rw[show i+(j+1)=i+1+j by omega];exact h3⟩
  ·rintro (h1|⟨j,y,h1,h2,h3⟩)
   ·exact .inl (.inl h1)
   ·cases j with
    | zero =>
     obtain rfl:x=y:=by simpa using h1
     exact .inl (.inr ⟨h2,h3⟩)
    | succ j=>exact .inr ⟨j,y,by simpa using h1,h2,by rw[show i+1+j=i+(j+1) by omega];exact h3⟩
def bfsB(A:List Nat):Nat→Nat→Nat
 | 0,S=>S
 | k+1,S=>bfsB A k (stp A 0 S S)
def nxA(A:List Nat)(a:Nat):List Nat:=(List.range A.length).filter fun i=>(A.getD i 0).testBit a
theorem mem_nxA{A:List Nat}{a i:Nat}:i∈nxA A a↔∃ x,A[i]? = some x∧x.testBit a=true:=by
 unfold nxA
 rw[List.mem_filter,List.mem_range]
 constructor
 ·rintro⟨h1,h2⟩
  exact⟨A[i],by simp[h1],by simpa[List.getD_eq_getElem?_getD,h1] using h2⟩
 ·rintro⟨x,h1,h2⟩
  obtain⟨h3,h4⟩:=List.getElem?_eq_some_iff.1 h1
  exact⟨h3,by simpa[List.getD_eq_getElem?_getD,h3,h4] using h2⟩
theorem xor_lt7{a i:Nat}(ha:a<128)(hi:i<7):a ^^^ 2 ^ i<128:=Nat.xor_lt_two_pow (n:=7) ha (Nat.pow_lt_pow_right (by decide) hi)
theorem bfs_chain{A:List Nat}(hA:A.length≤7):∀ (k S a:Nat),a<128→(bfsB A k S).testBit a=true→∃ l b,PO.Chain (nxA A) a l b∧l.length≤k∧S.testBit b=true
 | 0,S,a,_,h=>⟨[],a,rfl,Nat.le_refl _,h⟩
 | k+1,S,a,ha,h=>by
  obtain⟨l,b,h1,h2,h3⟩:=bfs_chain hA k (stp A 0 S S) a ha h
  have hb:∀ (l:List (Nat×Nat)) (a b:Nat),a<128→PO.Chain (nxA A) a l b→b<128:=by
   intro l
   induction l with
   | nil=>intro a b ha hc;have e:a=b:=hc;omega
   | cons p l ih =>
    intro a b ha hc
    obtain⟨v,i⟩:=p
    obtain⟨rfl,hi,hc⟩:=hc
    obtain⟨x,hx,_⟩:=mem_nxA.1 hi
    have:=(List.getElem?_eq_some_iff.1 hx).1
    exact ih _ b (xor_lt7 ha (by omega)) hc
  rcases (stp_at (hb l a b ha h1) S A 0 S (by omega)).1 h3 with h4|⟨j,x,h4,h5,h6⟩
  ·exact⟨l,b,h1,by omega,h4⟩
  ·rw[Nat.zero_add] at h6
   exact⟨l++[(b,j)],b ^^^ 2 ^ j,h1.app ⟨rfl,mem_nxA.2 ⟨x,h4,h5⟩,rfl⟩,by simp;omega,h6⟩
theorem bfs_closed{A:List Nat}(hA:A.length≤7){S:Nat}(hS:stp A 0 S S=S):∀ (l:List (Nat×Nat)) (a b:Nat),a<128→PO.Chain (nxA A) a l b→S.testBit b=true→S.testBit a=true
 | [],a,b,_,h,hb=>by have e:a=b:=h;rw[e];exact hb
 | (v,i)::l,a,b,ha,h,hb=>by
  obtain⟨rfl,hi,hc⟩:=h
  obtain⟨x,hx,hxa⟩:=mem_nxA.1 hi
  have hil:=(List.getElem?_eq_some_iff.1 hx).1
  have h1:=bfs_closed hA hS l _ b (xor_lt7 ha (by omega)) hc hb
  rw[← hS]
  exact (stp_at ha S A 0 S (by omega)).2 (.inr ⟨i,x,hx,hxa,by rw[Nat.zero_add];exact h1⟩)
theorem bfs_mono{A:List Nat}(hA:A.length≤7){a:Nat}(ha:a<128):∀ (k S:Nat),S.testBit a=true→(bfsB A k S).testBit a=true
 | 0,S,h=>h
 | k+1,S,h=>bfs_mono hA ha k _ ((stp_at ha S A 0 S (by omega)).2 (.inl h))
theorem bfs_near{A:List Nat}(hA:A.length≤7){k t:Nat}(ht:t<128)(hS:stp A 0 (bfsB A k (2 ^ t)) (bfsB A k (2 ^ t))=bfsB A k (2 ^ t)){a:Nat}(ha:a<128){l:List (Nat×Nat)}(hl:PO.Chain (nxA A) a l t):∃ l',PO.Chain (nxA A) a l' t∧l'.length≤k:=by
 have h1:=bfs_closed hA hS l a t ha hl (bfs_mono hA ht k _ (by rw[Nat.testBit_two_pow_self]))
 obtain⟨l',b,h2,h3,h4⟩:=bfs_chain hA k (2 ^ t) a ha h1
 rw[Nat.testBit_two_pow] at h4
 have:t=b:=of_decide_eq_true h4
 subst this
 exact⟨l',h2,h3⟩
theorem chain_xor{nx nx':Nat→List Nat}{c:Nat}(h:∀ v i,i∈nx v→i∈nx' (c ^^^ v)):∀ (l:List (Nat×Nat)) (v w:Nat),PO.Chain nx v l w→PO.Chain nx' (c ^^^ v) (l.map fun p=>(c ^^^ p.1,p.2)) (c ^^^ w)
 | [],v,w,hc=>by have e:v=w:=hc;subst e;rfl
 | (u,i)::l,v,w,hc=>by
  obtain⟨rfl,hi,hc⟩:=hc
  refine⟨rfl,h _ _ hi,?_⟩
  rw[Nat.xor_assoc]
  exact chain_xor h l _ w hc
end
section
open Go Go.RowKit
def bits6(f:Nat→Bool):Nat:=(bif f 0 then 1 else 0)+((bif f 1 then 2 else 0)+((bif f 2 then 4 else 0)+((bif f 3 then 8 else 0)+((bif f 4 then 16 else 0)+(bif f 5 then 32 else 0)))))
theorem land6(f g:Nat→Bool):Nat.beq (bits6 f &&& (64+bits6 g)) 0=true↔∀ v,v<6→g v=true→f v=false:=by
 have key:∀ a0 a1 a2 a3 a4 a5 c0 c1 c2 c3 c4 c5:Bool,Nat.beq (((bif a0 then 1 else 0)+((bif a1 then 2 else 0)+((bif a2 then 4 else 0)+((bif a3 then 8 else 0)+((bif a4 then 16 else 0)+(bif a5 then 32 else 0)))))) &&& (64+((bif c0 then 1 else 0)+((bif c1 then 2 else 0)+((bif c2 then 4 else 0)+((bif c3 then 8 else 0)+((bif c4 then 16 else 0)+(bif c5 then 32 else 0)))))))) 0=!((c0&&a0)||((c1&&a1)||((c2&&a2)||((c3&&a3)||((c4&&a4)||(c5&&a5)))))):=by decide +kernel
 unfold bits6
 rw[key]
 generalize hR:(∀ v,v<6→g v=true→f v=false)=R
 rw[show (∀ v,v<6→g v=true→f v=false)↔((g 0=true→f 0=false)∧(g 1=true→f 1=false)∧(g 2=true→f 2=false)∧(g 3=true→f 3=false)∧(g 4=true→f 4=false)∧(g 5=true→f 5=false)) from⟨fun h=>⟨h 0 (by decide),h 1 (by decide),h 2 (by decide),h 3 (by decide),h 4 (by decide),h 5 (by decide)⟩,fun ⟨h0,h1,h2,h3,h4,h5⟩ v hv=>by
  rcases (by omega:v=0∨v=1∨v=2∨v=3∨v=4∨v=5) with rfl|rfl|rfl|rfl|rfl|rfl<;>assumption⟩] at hR
 rw[← hR]
 generalize f 0=a0,f 1=a1,f 2=a2,f 3=a3,f 4=a4,f 5=a5,g 0=c0,g 1=c1,g 2=c2,g 3=c3,g 4=c4,g 5=c5
 simp only[Bool.not_eq_true',Bool.or_eq_false_iff,Bool.and_eq_false_imp]
def xmN(ds:List Dev)(s:List Int)(i:Nat)(p:Int):Nat :=
 match ds[i]? with
 | none=>64
 | some d =>
  bif xbad d p (faultV d (colF 6 ds (s.set i 2))) (parallelV d (partsL 6 ds (s.set i 1)) (colF 6 ds (s.set i 1))) then 64
  else bits6 (xhurt d (partsL 6 ds (s.set i 1)) (colF 6 ds (s.set i 1)) (bif p==1 then colF 6 ds (s.set i 2) else colF 6 ds (s.set i 1)) (bif p==1 then colF 6 ds (s.set i 1) else colF 6 ds (s.set i 2)))
theorem perm_x{ns:List Node}(h6:ns.length=6){ds:List Dev}{pr s:List Int}{i:Nat}{d:Dev}(hd:ds[i]? = some d){p:Int}(hp:p=1∨p=2)(hat:PO.at_ s i=3 - p) :
  ZS ns ds pr [5] s ⟨(i:Int),p⟩=true↔Nat.beq (xmN ds s i p &&& (64+bits6 (cuB ns))) 0=true:=by
 rw[perm5_iff hd,h6]
 unfold xmN
 rw[hd]
 simp only
 cases hb:xbad d p (faultV d (colF 6 ds (s.set i 2))) (parallelV d (partsL 6 ds (s.set i 1)) (colF 6 ds (s.set i 1))) with
 | true =>
  constructor
  ·rintro⟨h,_⟩;cases h
  ·intro h
   exfalso
   have:=Nat.eq_of_beq_eq_true h
   have h2:(64 &&& (64+bits6 (cuB ns))).testBit 6=true:=by
    rw[Nat.testBit_and,show (64:Nat)=2 ^ 6 from rfl,Nat.testBit_two_pow_self,Bool.true_and,Nat.testBit_two_pow_add_eq]
    rw[Nat.testBit_lt_two_pow (by unfold bits6;cases cuB ns 0<;>cases cuB ns 1<;>cases cuB ns 2<;>cases cuB ns 3<;>cases cuB ns 4<;>cases cuB ns 5<;>decide)]
    rfl
   simp only[cond_true] at this
   rw[this] at h2
   simp at h2
 | false =>
  rw[cond_false,land6]
  have hself:s=s.set i (3 - p):=by rw[← hat];exact (set_at_self s i).symm
  have e1:(bif p==1 then colF 6 ds (s.set i 2) else colF 6 ds (s.set i 1))=colF 6 ds s:=by
   rcases hp with rfl|rfl
   ·simp only[BEq.rfl,cond_true]
    have h2:s=s.set i 2:=hself
    rw[← h2]
   ·simp only[show ((2:Int)==1)=false from rfl,cond_false]
    have h2:s=s.set i 1:=hself
    rw[← h2]
  have e2:(bif p==1 then colF 6 ds (s.set i 1) else colF 6 ds (s.set i 2))=colF 6 ds (s.set i p):=by
   rcases hp with rfl|rfl
   ·rfl
   ·rfl
  rw[e1,e2]
  simp only[true_and]
def adj:List Nat→Nat→Nat
 | [],_=>0
 | x::xs,P=>2*adj xs P+(bif Nat.beq (x &&& P) 0 then 1 else 0)
theorem adj_at(P:Nat):∀ (xs:List Nat) (a:Nat),(adj xs P).testBit a=true↔∃ x,xs[a]? = some x∧Nat.beq (x &&& P) 0=true
 | [],a=>by simp[adj]
 | x::xs,0=>by
  unfold adj
  rw[Nat.testBit_zero]
  cases h:Nat.beq (x &&& P) 0 with
  | true=>have h2:=Nat.eq_of_beq_eq_true h;simp[h2]
  | false=>have h2:=Nat.ne_of_beq_eq_false h;simp[h2]
 | x::xs,a+1=>by
  unfold adj
  rw[Nat.testBit_succ]
  have:(2*adj xs P+(bif Nat.beq (x &&& P) 0 then 1 else 0)) / 2=adj xs P:=by cases Nat.beq (x &&& P) 0<;>simp<;>omega
  rw[this,adj_at P xs a]
  simp
def colsF(ds:List Dev)(B:List Int)(ms:List Nat):List (List Nat):=ms.map fun m=>(List.range (2 ^ ms.length)).map fun a=>xmN ds (Zi B ms a) m (3 - PO.at_ (Zi B ms a) m)
def nearA(A:List Nat)(t:Nat):Bool:=Nat.beq (stp A 0 (bfsB A 9 (2 ^ t)) (bfsB A 9 (2 ^ t))) (bfsB A 9 (2 ^ t))
def nearB(cols:List (List Nat))(ts:List Nat):Bool:=(List.range 64).all fun q=>ts.all fun t=>nearA (cols.map fun c=>adj c (64+q)) t
def bsS(k:Nat)(x2:Int):List Int:=[2,2,2,x2,2,2,2,2]++(xDs k).map fun _=>2
end
section
open Go Go.RowKit
def cl01:List (List Nat):=[[0,64,2,0,0,64,2,0,0,64,2,0,0,64,2,0,6,0,2,0,6,0,2,0,6,0,2,0,6,0,2,0,0,64,2,0,0,64,2,0,0,64,2,0,0,64,2,0,6,0,2,0,6,0,2,0,6,0,2,0,6,0,2,0],[64,0,64,0,64,0,64,0,64,0,64,0,64,0,64,0,4,0,4,0,4,0,4,0,4,0,4,0,4,0,4,0,64,0,64,0,64,0,64,0,64,0,64,0,64,0,64,0,4,0,4,0,4,0,4,0,4,0,4,0,4,0,4,0],[64,64,64,64,64,64,64,64,0,0,0,0,0,0,0,0,64,64,64,64,64,64,64,64,0,0,0,0,0,0,0,0,8,8,8,8,8,8,8,8,0,0,0,0,0,0,0,0,8,8,8,8,8,8,8,8,0,0,0,0,0,0,0,0],[0,0,0,0,16,16,16,16,64,64,64,64,0,0,0,0,0,0,0,0,16,16,16,16,64,64,64,64,0,0,0,0,24,24,24,24,16,16,16,16,0,0,0,0,0,0,0,0,24,24,24,24,16,16,16,16,0,0,0,0,0,0,0,0],[64,0,0,0,64,0,0,0,64,0,0,0,64,0,0,0,64,0,0,0,64,0,0,0,64,0,0,0,64,0,0,0,64,0,0,0,64,0,0,0,64,0,0,0,64,0,0,0,64,0,0,0,64,0,0,0,64,0,0,0,64,0,0,0],[64,64,64,64,0,0,0,0,0,0,0,0,0,0,0,0,64,64,64,64,0,0,0,0,0,0,0,0,0,0,0,0,64,64,64,64,0,0,0,0,0,0,0,0,0,0,0,0,64,64,64,64,0,0,0,0,0,0,0,0,0,0,0,0]]
theorem cl01_ok:colsF (Zz 0) (bsS 0 1) (movs (Zz 0) 0 [])=cl01:=by kernel_rfl
theorem nr01_ok:nearB cl01 [48,49,50,52,56]=true:=by kernel_rfl
def cl02:List (List Nat):=[[0,64,2,0,0,64,2,0,0,64,2,0,0,64,2,0,0,64,2,0,0,64,2,0,0,64,2,0,0,64,2,0,0,64,2,0,0,64,2,0,0,64,2,0,0,64,2,0,0,0,2,0,14,0,2,0,30,0,2,0,14,0,2,0],[64,64,64,64,64,0,64,0,64,0,64,0,64,0,64,0,64,64,64,64,64,0,64,0,64,0,64,0,64,0,64,0,64,64,64,64,64,0,64,0,64,0,64,0,64,0,64,0,64,2,64,2,12,0,12,0,28,0,28,0,12,0,12,0],[64,64,64,64,64,64,64,64,64,0,0,0,64,0,0,0,64,64,64,64,64,64,64,64,64,0,0,0,64,0,0,0,64,64,64,64,64,64,64,64,64,0,0,0,64,0,0,0,64,14,12,12,64,14,12,12,16,0,0,0,16,0,0,0],[0,0,0,0,16,16,16,16,64,64,64,64,0,0,0,0,0,0,0,0,16,16,16,16,64,64,64,64,0,0,0,0,0,0,0,0,16,16,16,16,64,64,64,64,0,0,0,0,0,30,28,28,16,16,16,16,0,0,0,0,0,0,0,0],[64,64,64,64,64,0,0,0,64,0,0,0,64,0,0,0,64,64,64,64,64,0,0,0,64,0,0,0,64,0,0,0,64,64,64,64,64,0,0,0,64,0,0,0,64,0,0,0,64,64,64,64,64,0,0,0,64,0,0,0,64,0,0,0],[64,64,64,64,64,0,0,0,64,0,0,0,64,0,0,0,64,64,64,64,64,0,0,0,64,0,0,0,64,0,0,0,64,64,64,64,64,0,0,0,64,0,0,0,64,0,0,0,64,64,64,64,64,0,0,0,64,0,0,0,64,0,0,0]]
theorem cl02_ok:colsF (Zz 0) (bsS 0 2) (movs (Zz 0) 0 [])=cl02:=by kernel_rfl
theorem nr02_ok:nearB cl02 [48,49,50,52,56]=true:=by kernel_rfl
def cl11:List (List Nat):=[[0,64,2,0,0,64,2,0,0,64,2,0,0,64,2,0,6,0,2,0,6,0,2,0,6,0,2,0,6,0,2,0,0,64,2,0,0,64,2,0,0,64,2,0,0,64,2,0,6,0,2,0,6,0,2,0,6,0,2,0,6,0,2,0,0,64,2,0,0,64,2,0,0,64,2,0,0,64,2,0,6,0,2,0,6,0,2,0,6,0,2,0,6,0,2,0,0,64,2,0,0,64,2,0,0,64,2,0,0,64,2,0,6,0,2,0,6,0,2,0,6,0,2,0,6,0,2,0],[64,0,64,0,64,0,64,0,64,0,64,0,64,0,64,0,4,0,4,0,4,0,4,0,4,0,4,0,4,0,4,0,64,0,64,0,64,0,64,0,64,0,64,0,64,0,64,0,4,0,4,0,4,0,4,0,4,0,4,0,4,0,4,0,64,0,64,0,64,0,64,0,64,0,64,0,64,0,64,0,4,0,4,0,4,0,4,0,4,0,4,0,4,0,4,0,64,0,64,0,64,0,64,0,64,0,64,0,64,0,64,0,4,0,4,0,4,0,4,0,4,0,4,0,4,0,4,0],[64,64,64,64,64,64,64,64,64,64,64,64,64,64,64,64,64,64,64,64,64,64,64,64,64,64,64,64,64,64,64,64,48,48,48,48,48,48,48,48,16,16,16,16,16,16,16,16,48,48,48,48,48,48,48,48,16,16,16,16,16,16,16,16,0,0,0,0,0,0,0,0,0,0,0,0,0,0,0,0,0,0,0,0,0,0,0,0,0,0,0,0,0,0,0,0,0,0,0,0,0,0,0,0,0,0,0,0,0,0,0,0,0,0,0,0,0,0,0,0,0,0,0,0,0,0,0,0],[0,0,0,0,0,0,0,0,64,64,64,64,0,0,0,0,0,0,0,0,0,0,0,0,64,64,64,64,0,0,0,0,32,32,32,32,0,0,0,0,0,0,0,0,0,0,0,0,32,32,32,32,0,0,0,0,0,0,0,0,0,0,0,0,0,0,0,0,0,0,0,0,0,0,0,0,0,0,0,0,0,0,0,0,0,0,0,0,0,0,0,0,0,0,0,0,0,0,0,0,0,0,0,0,0,0,0,0,0,0,0,0,0,0,0,0,0,0,0,0,0,0,0,0,0,0,0,0],[64,0,0,0,64,0,0,0,64,0,0,0,64,0,0,0,64,0,0,0,64,0,0,0,64,0,0,0,64,0,0,0,64,0,0,0,64,0,0,0,64,0,0,0,64,0,0,0,64,0,0,0,64,0,0,0,64,0,0,0,64,0,0,0,64,0,0,0,64,0,0,0,64,0,0,0,64,0,0,0,64,0,0,0,64,0,0,0,64,0,0,0,64,0,0,0,64,0,0,0,64,0,0,0,64,0,0,0,64,0,0,0,64,0,0,0,64,0,0,0,64,0,0,0,64,0,0,0],[64,64,64,64,64,64,64,64,64,64,64,64,64,64,64,64,64,64,64,64,64,64,64,64,64,64,64,64,64,64,64,64,64,64,64,64,64,64,64,64,64,64,64,64,64,64,64,64,64,64,64,64,64,64,64,64,64,64,64,64,64,64,64,64,0,0,0,0,0,0,0,0,0,0,0,0,0,0,0,0,0,0,0,0,0,0,0,0,0,0,0,0,0,0,0,0,0,0,0,0,0,0,0,0,0,0,0,0,0,0,0,0,0,0,0,0,0,0,0,0,0,0,0,0,0,0,0,0],[0,0,0,0,0,0,0,0,0,0,0,0,0,0,0,0,0,0,0,0,0,0,0,0,0,0,0,0,0,0,0,0,56,56,56,56,8,8,8,8,24,24,24,24,8,8,8,8,56,56,56,56,8,8,8,8,24,24,24,24,8,8,8,8,64,64,64,64,64,64,64,64,64,64,64,64,64,64,64,64,64,64,64,64,64,64,64,64,64,64,64,64,64,64,64,64,0,0,0,0,0,0,0,0,0,0,0,0,0,0,0,0,0,0,0,0,0,0,0,0,0,0,0,0,0,0,0,0]]
theorem cl11_ok:colsF (Zz 1) (bsS 1 1) (movs (Zz 1) 0 [])=cl11:=by kernel_rfl
theorem nr11_ok:nearB cl11 [48,49,50,52,56,112,113,114,116,120]=true:=by kernel_rfl
def cl12:List (List Nat):=[[0,64,2,0,0,64,2,0,0,64,2,0,0,64,2,0,0,64,2,0,0,64,2,0,0,64,2,0,0,64,2,0,0,64,2,0,0,64,2,0,0,64,2,0,0,64,2,0,0,0,2,0,0,0,2,0,0,0,2,0,0,0,2,0,0,64,2,0,0,64,2,0,0,64,2,0,0,64,2,0,0,64,2,0,0,64,2,0,0,64,2,0,0,64,2,0,0,64,2,0,0,64,2,0,0,64,2,0,0,64,2,0,62,0,2,0,14,0,2,0,30,0,2,0,14,0,2,0],[64,64,64,64,64,64,64,64,64,64,64,64,64,64,64,64,64,64,64,64,64,64,64,64,64,64,64,64,64,64,64,64,64,64,64,64,64,64,64,64,64,64,64,64,64,64,64,64,64,2,64,2,64,2,64,2,64,2,64,2,64,2,64,2,64,0,64,0,64,0,64,0,64,0,64,0,64,0,64,0,64,0,64,0,64,0,64,0,64,0,64,0,64,0,64,0,64,0,64,0,64,0,64,0,64,0,64,0,64,0,64,0,60,0,60,0,12,0,12,0,28,0,28,0,12,0,12,0],[64,64,64,64,64,64,64,64,64,64,64,64,64,64,64,64,64,64,64,64,64,64,64,64,64,64,64,64,64,64,64,64,64,64,64,64,64,64,64,64,64,64,64,64,64,64,64,64,48,48,48,48,48,48,48,48,16,16,16,16,16,16,16,16,64,0,0,0,64,0,0,0,64,0,0,0,64,0,0,0,64,0,0,0,64,0,0,0,64,0,0,0,64,0,0,0,64,0,0,0,64,0,0,0,64,0,0,0,64,0,0,0,48,0,0,0,48,0,0,0,16,0,0,0,16,0,0,0],[0,0,0,0,0,0,0,0,64,64,64,64,0,0,0,0,0,0,0,0,0,0,0,0,64,64,64,64,0,0,0,0,0,0,0,0,0,0,0,0,64,64,64,64,0,0,0,0,32,32,32,32,0,0,0,0,0,0,0,0,0,0,0,0,0,0,0,0,0,0,0,0,64,0,0,0,0,0,0,0,0,0,0,0,0,0,0,0,64,0,0,0,0,0,0,0,0,0,0,0,0,0,0,0,64,0,0,0,0,0,0,0,32,0,0,0,0,0,0,0,0,0,0,0,0,0,0,0],[64,64,64,64,64,64,64,64,64,64,64,64,64,64,64,64,64,64,64,64,64,64,64,64,64,64,64,64,64,64,64,64,64,64,64,64,64,64,64,64,64,64,64,64,64,64,64,64,64,64,64,64,64,64,64,64,64,64,64,64,64,64,64,64,64,0,0,0,64,0,0,0,64,0,0,0,64,0,0,0,64,0,0,0,64,0,0,0,64,0,0,0,64,0,0,0,64,0,0,0,64,0,0,0,64,0,0,0,64,0,0,0,64,0,0,0,64,0,0,0,64,0,0,0,64,0,0,0],[64,64,64,64,64,64,64,64,64,64,64,64,64,64,64,64,64,64,64,64,64,64,64,64,64,64,64,64,64,64,64,64,64,64,64,64,64,64,64,64,64,64,64,64,64,64,64,64,64,64,64,64,64,64,64,64,64,64,64,64,64,64,64,64,64,0,0,0,64,0,0,0,64,0,0,0,64,0,0,0,64,0,0,0,64,0,0,0,64,0,0,0,64,0,0,0,64,0,0,0,64,0,0,0,64,0,0,0,64,0,0,0,64,0,0,0,64,0,0,0,64,0,0,0,64,0,0,0],[0,0,0,0,0,0,0,0,0,0,0,0,0,0,0,0,0,0,0,0,0,0,0,0,0,0,0,0,0,0,0,0,0,0,0,0,0,0,0,0,0,0,0,0,0,0,0,0,0,62,60,60,0,14,12,12,0,30,28,28,0,14,12,12,64,64,64,64,64,64,64,64,64,64,64,64,64,64,64,64,64,64,64,64,64,64,64,64,64,64,64,64,64,64,64,64,64,64,64,64,64,64,64,64,64,64,64,64,64,64,64,64,64,0,0,0,64,0,0,0,64,0,0,0,64,0,0,0]]
theorem cl12_ok:colsF (Zz 1) (bsS 1 2) (movs (Zz 1) 0 [])=cl12:=by kernel_rfl
theorem nr12_ok:nearB cl12 [48,49,50,52,56,112,113,114,116,120]=true:=by kernel_rfl
def cl21:List (List Nat):=[[0,64,0,64,0,64,50,0,0,64,0,64,0,64,18,0,0,64,0,64,54,0,50,0,0,64,0,64,22,0,18,0,0,64,58,0,0,64,50,0,0,64,26,0,0,64,18,0,62,0,58,0,54,0,50,0,30,0,26,0,22,0,18,0,0,64,2,0,0,64,2,0,0,64,2,0,0,64,2,0,6,0,2,0,6,0,2,0,6,0,2,0,6,0,2,0,0,64,2,0,0,64,2,0,0,64,2,0,0,64,2,0,6,0,2,0,6,0,2,0,6,0,2,0,6,0,2,0],[64,0,64,0,64,0,64,0,64,0,64,0,64,0,64,0,64,0,64,0,4,0,4,0,64,0,64,0,4,0,4,0,64,0,64,0,64,0,64,0,64,0,64,0,64,0,64,0,4,0,4,0,4,0,4,0,4,0,4,0,4,0,4,0,64,0,64,0,64,0,64,0,64,0,64,0,64,0,64,0,4,0,4,0,4,0,4,0,4,0,4,0,4,0,4,0,64,0,64,0,64,0,64,0,64,0,64,0,64,0,64,0,4,0,4,0,4,0,4,0,4,0,4,0,4,0,4,0],[64,0,64,0,64,0,64,0,64,0,64,0,64,0,64,0,64,0,64,0,64,0,64,0,64,0,64,0,64,0,64,0,64,0,8,0,64,0,8,0,64,0,8,0,64,0,8,0,8,0,8,0,8,0,8,0,8,0,8,0,8,0,8,0,0,0,0,0,0,0,0,0,0,0,0,0,0,0,0,0,0,0,0,0,0,0,0,0,0,0,0,0,0,0,0,0,0,0,0,0,0,0,0,0,0,0,0,0,0,0,0,0,0,0,0,0,0,0,0,0,0,0,0,0,0,0,0,0],[0,0,0,0,0,0,32,0,64,0,64,0,64,0,0,0,0,0,0,0,32,0,32,0,64,0,64,0,0,0,0,0,0,0,32,0,0,0,32,0,64,0,0,0,64,0,0,0,32,0,32,0,32,0,32,0,0,0,0,0,0,0,0,0,0,0,0,0,0,0,0,0,0,0,0,0,0,0,0,0,0,0,0,0,0,0,0,0,0,0,0,0,0,0,0,0,0,0,0,0,0,0,0,0,0,0,0,0,0,0,0,0,0,0,0,0,0,0,0,0,0,0,0,0,0,0,0,0],[64,0,0,0,64,0,0,0,64,0,0,0,64,0,0,0,64,0,0,0,64,0,0,0,64,0,0,0,64,0,0,0,64,0,0,0,64,0,0,0,64,0,0,0,64,0,0,0,64,0,0,0,64,0,0,0,64,0,0,0,64,0,0,0,64,0,0,0,64,0,0,0,64,0,0,0,64,0,0,0,64,0,0,0,64,0,0,0,64,0,0,0,64,0,0,0,64,0,0,0,64,0,0,0,64,0,0,0,64,0,0,0,64,0,0,0,64,0,0,0,64,0,0,0,64,0,0,0],[64,0,64,0,0,0,0,0,64,0,64,0,0,0,0,0,64,0,64,0,0,0,0,0,64,0,64,0,0,0,0,0,64,0,64,0,0,0,0,0,64,0,64,0,0,0,0,0,64,0,64,0,0,0,0,0,64,0,64,0,0,0,0,0,0,0,0,0,0,0,0,0,0,0,0,0,0,0,0,0,0,0,0,0,0,0,0,0,0,0,0,0,0,0,0,0,0,0,0,0,0,0,0,0,0,0,0,0,0,0,0,0,0,0,0,0,0,0,0,0,0,0,0,0,0,0,0,0],[64,0,64,0,64,0,48,0,64,0,64,0,64,0,16,0,64,0,64,0,48,0,48,0,64,0,64,0,16,0,16,0,64,0,56,0,64,0,48,0,64,0,24,0,64,0,16,0,56,0,56,0,48,0,48,0,24,0,24,0,16,0,16,0,64,0,64,0,64,0,48,0,64,0,64,0,64,0,16,0,64,0,64,0,48,0,48,0,64,0,64,0,16,0,16,0,64,0,56,0,64,0,48,0,64,0,24,0,64,0,16,0,56,0,56,0,48,0,48,0,24,0,24,0,16,0,16,0]]
theorem cl21_ok:colsF (Zz 2) (bsS 2 1) (movs (Zz 2) 0 [])=cl21:=by kernel_rfl
theorem nr21_ok:nearB cl21 [112,113,114,116,120]=true:=by kernel_rfl
def cl22:List (List Nat):=[[0,64,0,64,0,64,50,0,0,64,0,64,0,64,18,0,0,64,0,64,0,64,50,0,0,64,0,64,0,64,18,0,0,64,0,64,0,64,50,0,0,64,0,64,0,64,18,0,62,0,62,0,62,0,50,0,30,0,30,0,30,0,18,0,0,64,2,0,0,64,2,0,0,64,2,0,0,64,2,0,0,64,2,0,0,64,2,0,0,64,2,0,0,64,2,0,0,64,2,0,0,64,2,0,0,64,2,0,0,64,2,0,62,0,2,0,14,0,2,0,30,0,2,0,14,0,2,0],[64,0,64,0,64,0,64,0,64,0,64,0,64,0,64,0,64,0,64,0,64,0,64,0,64,0,64,0,64,0,64,0,64,0,64,0,64,0,64,0,64,0,64,0,64,0,64,0,0,0,0,0,12,0,12,0,0,0,0,0,12,0,12,0,64,0,64,0,64,0,64,0,64,0,64,0,64,0,64,0,64,0,64,0,64,0,64,0,64,0,64,0,64,0,64,0,64,0,64,0,64,0,64,0,64,0,64,0,64,0,64,0,60,0,60,0,12,0,12,0,28,0,28,0,12,0,12,0],[64,0,64,0,64,0,64,0,64,0,64,0,64,0,64,0,64,0,64,0,64,0,64,0,64,0,64,0,64,0,64,0,64,0,64,0,64,0,64,0,64,0,64,0,64,0,64,0,0,0,12,0,0,0,12,0,0,0,12,0,0,0,12,0,64,0,0,0,64,0,0,0,64,0,0,0,64,0,0,0,64,0,0,0,64,0,0,0,64,0,0,0,64,0,0,0,64,0,0,0,64,0,0,0,64,0,0,0,64,0,0,0,48,0,0,0,48,0,0,0,16,0,0,0,16,0,0,0],[0,0,0,0,0,0,32,0,64,0,64,0,64,0,0,0,0,0,0,0,0,0,32,0,64,0,64,0,64,0,0,0,0,0,0,0,0,0,32,0,64,0,64,0,64,0,0,0,32,0,32,0,32,0,32,0,0,0,0,0,0,0,0,0,0,0,0,0,0,0,0,0,64,0,0,0,0,0,0,0,0,0,0,0,0,0,0,0,64,0,0,0,0,0,0,0,0,0,0,0,0,0,0,0,64,0,0,0,0,0,0,0,32,0,0,0,0,0,0,0,0,0,0,0,0,0,0,0],[64,0,64,0,64,0,0,0,64,0,64,0,64,0,0,0,64,0,64,0,64,0,0,0,64,0,64,0,64,0,0,0,64,0,64,0,64,0,0,0,64,0,64,0,64,0,0,0,64,0,64,0,64,0,0,0,64,0,64,0,64,0,0,0,64,0,0,0,64,0,0,0,64,0,0,0,64,0,0,0,64,0,0,0,64,0,0,0,64,0,0,0,64,0,0,0,64,0,0,0,64,0,0,0,64,0,0,0,64,0,0,0,64,0,0,0,64,0,0,0,64,0,0,0,64,0,0,0],[64,0,64,0,64,0,0,0,64,0,64,0,64,0,0,0,64,0,64,0,64,0,0,0,64,0,64,0,64,0,0,0,64,0,64,0,64,0,0,0,64,0,64,0,64,0,0,0,64,0,64,0,64,0,0,0,64,0,64,0,64,0,0,0,64,0,0,0,64,0,0,0,64,0,0,0,64,0,0,0,64,0,0,0,64,0,0,0,64,0,0,0,64,0,0,0,64,0,0,0,64,0,0,0,64,0,0,0,64,0,0,0,64,0,0,0,64,0,0,0,64,0,0,0,64,0,0,0],[64,0,64,0,64,0,48,0,64,0,64,0,64,0,16,0,64,0,64,0,64,0,48,0,64,0,64,0,64,0,16,0,64,0,64,0,64,0,48,0,64,0,64,0,64,0,16,0,0,0,60,0,48,0,48,0,0,0,28,0,16,0,16,0,64,0,64,0,64,0,48,0,64,0,64,0,64,0,16,0,64,0,64,0,64,0,48,0,64,0,64,0,64,0,16,0,64,0,64,0,64,0,48,0,64,0,64,0,64,0,16,0,0,0,60,0,48,0,48,0,0,0,28,0,16,0,16,0]]
theorem cl22_ok:colsF (Zz 2) (bsS 2 2) (movs (Zz 2) 0 [])=cl22:=by kernel_rfl
theorem nr22_ok:nearB cl22 [112,113,114,116,120]=true:=by kernel_rfl
def cl31:List (List Nat):=[[0,64,2,0,0,64,2,0,0,64,2,0,0,64,2,0,6,0,2,0,6,0,2,0,6,0,2,0,6,0,2,0,0,64,2,0,0,64,2,0,0,64,2,0,0,64,2,0,6,0,2,0,6,0,2,0,6,0,2,0,6,0,2,0],[64,0,64,0,64,0,64,0,64,0,64,0,64,0,64,0,4,0,4,0,4,0,4,0,4,0,4,0,4,0,4,0,64,0,64,0,64,0,64,0,64,0,64,0,64,0,64,0,4,0,4,0,4,0,4,0,4,0,4,0,4,0,4,0],[0,0,0,0,0,0,0,0,0,0,0,0,0,0,0,0,0,0,0,0,0,0,0,0,0,0,0,0,0,0,0,0,0,0,0,0,0,0,0,0,0,0,0,0,0,0,0,0,0,0,0,0,0,0,0,0,0,0,0,0,0,0,0,0],[0,0,0,0,0,0,0,0,0,0,0,0,0,0,0,0,0,0,0,0,0,0,0,0,0,0,0,0,0,0,0,0,0,0,0,0,0,0,0,0,0,0,0,0,0,0,0,0,0,0,0,0,0,0,0,0,0,0,0,0,0,0,0,0],[64,0,0,0,64,0,0,0,64,0,0,0,64,0,0,0,64,0,0,0,64,0,0,0,64,0,0,0,64,0,0,0,64,0,0,0,64,0,0,0,64,0,0,0,64,0,0,0,64,0,0,0,64,0,0,0,64,0,0,0,64,0,0,0],[0,0,0,0,0,0,0,0,0,0,0,0,0,0,0,0,0,0,0,0,0,0,0,0,0,0,0,0,0,0,0,0,0,0,0,0,0,0,0,0,0,0,0,0,0,0,0,0,0,0,0,0,0,0,0,0,0,0,0,0,0,0,0,0]]
theorem cl31_ok:colsF (Zz 3) (bsS 3 1) (movs (Zz 3) 0 [])=cl31:=by kernel_rfl
theorem nr31_ok:nearB cl31 [48,49,50,52,56]=true:=by kernel_rfl
def cl32:List (List Nat):=[[0,64,2,0,0,64,2,0,0,64,2,0,0,64,2,0,0,64,2,0,0,64,2,0,0,64,2,0,0,64,2,0,0,64,2,0,0,64,2,0,0,64,2,0,0,64,2,0,62,0,2,0,14,0,2,0,30,0,2,0,14,0,2,0],[64,0,64,0,64,0,64,0,64,0,64,0,64,0,64,0,64,0,64,0,64,0,64,0,64,0,64,0,64,0,64,0,64,0,64,0,64,0,64,0,64,0,64,0,64,0,64,0,60,0,60,0,12,0,12,0,28,0,28,0,12,0,12,0],[64,0,0,0,64,0,0,0,64,0,0,0,64,0,0,0,64,0,0,0,64,0,0,0,64,0,0,0,64,0,0,0,64,0,0,0,64,0,0,0,64,0,0,0,64,0,0,0,48,0,0,0,48,0,0,0,16,0,0,0,16,0,0,0],[0,0,0,0,0,0,0,0,64,0,0,0,0,0,0,0,0,0,0,0,0,0,0,0,64,0,0,0,0,0,0,0,0,0,0,0,0,0,0,0,64,0,0,0,0,0,0,0,32,0,0,0,0,0,0,0,0,0,0,0,0,0,0,0],[64,0,0,0,64,0,0,0,64,0,0,0,64,0,0,0,64,0,0,0,64,0,0,0,64,0,0,0,64,0,0,0,64,0,0,0,64,0,0,0,64,0,0,0,64,0,0,0,64,0,0,0,64,0,0,0,64,0,0,0,64,0,0,0],[64,0,0,0,64,0,0,0,64,0,0,0,64,0,0,0,64,0,0,0,64,0,0,0,64,0,0,0,64,0,0,0,64,0,0,0,64,0,0,0,64,0,0,0,64,0,0,0,64,0,0,0,64,0,0,0,64,0,0,0,64,0,0,0]]
theorem cl32_ok:colsF (Zz 3) (bsS 3 2) (movs (Zz 3) 0 [])=cl32:=by kernel_rfl
theorem nr32_ok:nearB cl32 [48,49,50,52,56]=true:=by kernel_rfl
end
section
open Go Go.RowKit
theorem colsF_len(ds:List Dev)(B:List Int)(ms:List Nat):(colsF ds B ms).length=ms.length:=by simp[colsF]
theorem edge_iff{ns:List Node}(h6:ns.length=6){ds:List Dev}{pr B:List Int}(hB:Val12 ds.length B){ms:List Nat}(hms:∀ m∈ms,m<ds.length){a:Nat}(ha:a<2 ^ ms.length){i:Nat} :
  permAt (ZS ns ds pr [5]) ms (Zi B ms a) i=true↔i∈nxA ((colsF ds B ms).map fun c=>adj c (64+bits6 (cuB ns))) a:=by
 rw[mem_nxA]
 unfold permAt colsF
 rw[List.map_map,List.getElem?_map]
 cases hi:ms[i]? with
 | none=>simp
 | some m =>
  have hm:=hms m (List.mem_of_getElem? hi)
  have hS:Val12 ds.length (Zi B ms a):=ZJ hB hms a _
  have hat:=hS.at_ hm
  obtain⟨p,hp⟩:∃ p,3 - PO.at_ (Zi B ms a) m=p:=⟨_,rfl⟩
  simp only[Option.map_some,Function.comp_apply,Option.some.injEq,exists_eq_left']
  rw[adj_at,hp,perm_x h6 (show ds[m]? = some ds[m] by simp[hm]) (by omega) (by omega)]
  simp only[List.getElem?_map,List.getElem?_range ha,Option.map_some,Option.some.injEq,exists_eq_left']
  rw[hp]
theorem back_near{ns:List Node}(h6:ns.length=6){ds:List Dev}{pr B:List Int}(hB:Val12 ds.length B)(hl:(movs ds 0 []).length≤7){cl:List (List Nat)}(hcl:colsF ds B (movs ds 0 [])=cl){ts:List Nat}(hnr:nearB cl ts=true){t:Nat}(ht:t∈ts)(ht7:t<2 ^ (movs ds 0 []).length)
  {f:Nat} (hf7:f<2 ^ (movs ds 0 []).length) (hd:0≤(bckR ns ds pr (Zi B (movs ds 0 []) f) (Zi B (movs ds 0 []) t)).depth):(bckR ns ds pr (Zi B (movs ds 0 []) f) (Zi B (movs ds 0 []) t)).depth≤9:=by
 have hms:∀ m∈movs ds 0 [],m<ds.length:=fun m hm=>(Yv hm).1
 have hnd:=movs_nodup ds 0 []
 obtain⟨F,hF⟩:∃ F,Zi B (movs ds 0 []) f=F:=⟨_,rfl⟩
 obtain⟨st,hst⟩:∃ st,Zi B (movs ds 0 []) t=st:=⟨_,rfl⟩
 have hFv:Val12 ds.length F:=by rw[← hF];exact ZJ hB hms f _
 have hstv:Val12 ds.length st:=by rw[← hst];exact ZJ hB hms t _
 rw[hF,hst] at hd ⊢
 have h128:2 ^ (movs ds 0 []).length≤128:=(Nat.pow_le_pow_right (by decide) hl:2 ^ (movs ds 0 []).length≤2 ^ 7)
 have hrel:∀ v,Zi F (movs ds 0 []) v=Zi B (movs ds 0 []) (f ^^^ v):=fun v=>by rw[← hF];exact state_comp hB hms hnd f v
 have hinv:=(YI (ZS ns ds pr [5]) (eqB st) (fun _=>0) F (movs ds 0 [])).inv
 have h00:PO.at_ (bckR ns ds pr F st).out 0=0:=((hinv.found hd).zero 0).2 rfl
 have hms6:(bckR ns ds pr F st).depth≤(2 ^ (movs ds 0 []).length:Nat):=by
  obtain⟨g,gs,hgs⟩:=List.exists_cons_of_ne_nil (hinv.found hd).some_
  have hg:=((hinv.found hd).goal g (by rw[hgs];simp)).2
  have:=(YI (ZS ns ds pr [5]) (eqB st) (fun _=>0) F (movs ds 0 [])).b g
  rw[hg] at this
  exact this
 obtain⟨b,hch,hgb,_⟩:=PO.find_chain hinv hd (2 ^ (movs ds 0 []).length+1) 0 (PO.good_start hinv hd) (by
  show (bckR ns ds pr F st).depth - PO.at_ (bckR ns ds pr F st).out 0<_
  rw[h00]
  have h9:∀ (M:Nat) (x:Int),x≤(M:Int)→x - 0<((M+1:Nat):Int):=fun M x h=>by omega
  exact h9 _ _ hms6)
 have hbl:∀ (l:List (Nat×Nat)) (v w:Nat),v<2 ^ (movs ds 0 []).length→PO.Chain (nxV (ZS ns ds pr [5]) F (movs ds 0 [])) v l w→w<2 ^ (movs ds 0 []).length:=by
  intro l
  induction l with
  | nil=>intro v w hv hc;have e:v=w:=hc;omega
  | cons q l ih =>
   intro v w hv hc
   obtain⟨u,i⟩:=q
   obtain⟨rfl,hi,hc⟩:=hc
   unfold nxV at hi
   rw[if_pos hv] at hi
   exact ih _ w (PO.xor_lt hv (nextI_perm.1 hi).1) hc
 have hN0:0<2 ^ (movs ds 0 []).length:=Nat.pow_pos (by decide)
 have hb7:=hbl _ 0 b hN0 hch
 have hend:Zi F (movs ds 0 []) b=st:=by
  unfold glV at hgb
  split at hgb
  ·rename_i hok
   exact (eqB_iff (by rw[(ZJ hFv hms b _).1,hstv.1])).1 hok
  ·cases hgb
 have hfb:f ^^^ b<2 ^ (movs ds 0 []).length:=Nat.xor_lt_two_pow hf7 hb7
 have hfbt:f ^^^ b=t:=state_inj hB hms hnd hfb ht7 (by rw[← hrel,hend,hst])
 obtain⟨A,hA⟩:∃ A,(colsF ds B (movs ds 0 [])).map (fun c=>adj c (64+bits6 (cuB ns)))=A:=⟨_,rfl⟩
 have hAl:A.length≤7:=by rw[← hA,List.length_map,colsF_len];exact hl
 have hedge:∀ v,v<2 ^ (movs ds 0 []).length→∀ i,(i∈nxV (ZS ns ds pr [5]) F (movs ds 0 []) v↔i∈nxA A (f ^^^ v)):=by
  intro v hv i
  unfold nxV
  rw[if_pos hv,nextI_perm,hrel,edge_iff h6 hB hms (Nat.xor_lt_two_pow hf7 hv),hA]
  constructor
  ·exact fun h=>h.2
  ·intro h
   refine⟨?_,h⟩
   obtain⟨x,hx,_⟩:=mem_nxA.1 h
   have:=(List.getElem?_eq_some_iff.1 hx).1
   rw[← hA,List.length_map,colsF_len] at this
   exact this
 have hch2:=chain_xor (c:=f) (nx':=nxA A) (fun v i hi=>by
  have hv:v<2 ^ (movs ds 0 []).length:=by
   unfold nxV at hi
   split at hi
   ·assumption
   ·cases hi
  exact (hedge v hv i).1 hi) _ 0 b hch
 rw[Nat.xor_zero,hfbt] at hch2
 have hnear:nearA A t=true:=by
  unfold nearB at hnr
  have hq:bits6 (cuB ns)<64:=by unfold bits6;cases cuB ns 0<;>cases cuB ns 1<;>cases cuB ns 2<;>cases cuB ns 3<;>cases cuB ns 4<;>cases cuB ns 5<;>decide
  have h1:=List.all_eq_true.1 hnr (bits6 (cuB ns)) (List.mem_range.2 hq)
  have h2:=List.all_eq_true.1 h1 t ht
  rw[← hcl,hA] at h2
  exact h2
 obtain⟨l',c1,c2⟩:=bfs_near hAl (by omega) (Nat.eq_of_beq_eq_true hnear) (by omega) hch2
 have hch3:∀ (l:List (Nat×Nat)) (v w:Nat),v<2 ^ (movs ds 0 []).length→PO.Chain (nxA A) (f ^^^ v) l (f ^^^ w)→PO.Chain (nxV (ZS ns ds pr [5]) F (movs ds 0 [])) v (l.map fun p=>(f ^^^ p.1,p.2)) w:=by
  intro l
  induction l with
  | nil =>
   intro v w hv hc
   have e:f ^^^ v=f ^^^ w:=hc
   have:f ^^^ (f ^^^ v)=f ^^^ (f ^^^ w):=by rw[e]
   rw[← Nat.xor_assoc,← Nat.xor_assoc,Nat.xor_self,Nat.zero_xor,Nat.zero_xor] at this
   exact this
  | cons q l ih =>
   intro v w hv hc
   obtain⟨u,i⟩:=q
   obtain⟨rfl,hi,hc⟩:=hc
   have hi2:=(hedge v hv i).2 hi
   refine⟨by show f ^^^ (f ^^^ v)=v;rw[← Nat.xor_assoc,Nat.xor_self,Nat.zero_xor],hi2,?_⟩
   have hil:i<(movs ds 0 []).length:=by
    unfold nxV at hi2
    rw[if_pos hv] at hi2
    exact (nextI_perm.1 hi2).1
   rw[Nat.xor_assoc] at hc
   exact ih _ w (PO.xor_lt hv hil) hc
 have hfin:=hch3 l' 0 b hN0 (by rw[Nat.xor_zero,hfbt];exact c1)
 have:=PO.chain_least hinv hd _ b hfin (by rw[hgb];simp)
 rw[List.length_map] at this
 exact Int.le_trans this (by exact_mod_cast c2)
end
end Go.Proofs.YtjdgofpcmcobnaaGreatDoor.AL

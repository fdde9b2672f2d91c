/-
  The types of this program; plain laws of networks, locks and searches.
-/
import Derived.Test.YtjdgofpcmcobnaaGreatDoorGb
import Derived.ScopeJumps
import Derived.Test.YtjdgofpcmcobnaaGreatDoorProg
import Derived.Lib.Hide
import Derived.Below
import Derived.WalkKit
import Derived.WalkArith
import Derived.Laws.Strings
import Derived.Test.YtjdgofpcmcobnaaGreatDoorGc
set_option maxRecDepth 100000
set_option maxHeartbeats 2000000
attribute [local simp] Go.Proofs.YtjdgofpcmcobnaaGreatDoor.AL.onesD Go.Proofs.YtjdgofpcmcobnaaGreatDoor.AL.oneD
set_option linter.unusedVariables false
set_option linter.unusedSimpArgs false
namespace Go.Proofs.YtjdgofpcmcobnaaGreatDoor.AL
section
open Go Go.RowKit
section
variable (P:Program) (G:Nat→Option (List D)) (N:Nat)
def awpL:List Code→Post→Nat→List (Nat×D)→List (Nat×Blk)→Prop
 | [],Q=>Q .normal
 | c::cs,Q=>awp P G N c (YN (awpL cs Q) Q)
end
def blockK(id:Nat)(K:Nat→List (Nat×D)→List (Nat×Blk)→Prop)(Q:Post):Post
 | .normal=>K
 | .exit i=>if i=id then K else Q (.exit i)
 | e=>Q e
@[simp] theorem blockK_normal(id K Q):blockK id K Q .normal=K:=rfl
@[simp] theorem blockK_ret(id K Q):blockK id K Q .ret=Q .ret:=rfl
@[simp] theorem blockK_exit(id K Q i):blockK id K Q (.exit i)=if i=id then K else Q (.exit i):=rfl
@[simp] theorem blockK_goto(id K Q i):blockK id K Q (.goto i)=Q (.goto i):=rfl
section
variable {P:Program} {G:Nat→Option (List D)} {Ty:Nat→Option TyI} {N:Nat} {Q:Post} {nx nx':Nat} {σ σ':List (Nat×D)} {st st':List (Nat×Blk)} {cs:List Code}
theorem awpL_one{c:Code}(h:awpL P G N [c] Q nx σ st):awp P G N c Q nx σ st:=by
 refine awp_mono h (fun e nx σ st h=>?_)
 cases e<;>exact h
theorem Zc(h:Q .normal nx σ st):awpL P G N [] Q nx σ st:=h
theorem awpL_seq{a b:Code}(h:awpL P G N (a::b::cs) Q nx σ st):awpL P G N (.seq a b::cs) Q nx σ st:=by
 refine awp_seq (awp_mono h (fun e nx σ st h=>?_))
 cases e<;>exact h
theorem awpL_skip(h:awpL P G N cs Q nx σ st):awpL P G N (.skip::cs) Q nx σ st:=awp_skip h
theorem Za(h:Q .ret nx σ st):awpL P G N (.ret::cs) Q nx σ st:=awp_ret h
theorem Ze{i:Nat}(h:Q (.exit i) nx σ st):awpL P G N (.exit i::cs) Q nx σ st:=awp_exit h
theorem awpL_cond{c:Operand}{x y:Code}{b:Bool}(hc:opD G (gt σ) c=.bool b)(ht:b=true→awpL P G N (x::cs) Q nx σ st)(hf:b=false→awpL P G N (y::cs) Q nx σ st):awpL P G N (.cond c x y::cs) Q nx σ st:=awp_cond hc ht hf
theorem awpL_block{id:Nat}{x:Code}(h:∀ K:Nat→List (Nat×D)→List (Nat×Blk)→Prop,(∀ nx σ st,awpL P G N cs Q nx σ st→K nx σ st)→awpL P G N [x] (blockK id K Q) nx σ st):awpL P G N (.block id x::cs) Q nx σ st:=by
 refine awp_block (awp_mono (awpL_one (h _ (fun _ _ _ h=>h))) (fun e nx σ st h=>?_))
 cases e with
 | exit i =>
  simp only[blockK_exit,blockQ_exit,thenQ_normal,thenQ_exit] at h ⊢
  split<;>rename_i hi<;>simp only[hi,if_true,if_false] at h<;>exact h
 | _=>exact h
theorem awpL_reg(hty:TyOK P Ty)(hm:P.follows .mixedOrders=true){id:Nat}{ops:Array Oper}{draw:Bool}{log:List LogE}{s:Prop}(pcs:List (PX P G))(h:YE G Ty N ops.toList nx ops.toList 0 pcs σ st=some (log,σ',st',s))(hs:s)(hok:Ye draw ops.toList log=true)(hn:nx+ops.size=nx')(hQ:awpL P G N cs Q nx' σ' st') :
  awpL P G N (.region id ops draw::cs) Q nx σ st:=by
 subst hn
 exact awp_region hm (absAll_ok hty _ _ _ _ _ _ _ _ _ h hs) hok hQ
theorem awpL_cut{X:Type}{c d:Code}(E:X→List (Nat×D))(S:X→List (Nat×Blk))(J:X→Prop)(h:∀ K:Nat→List (Nat×D)→List (Nat×Blk)→Prop,(∀ nx' σ' st' x,J x→Round nx (E x) (S x) σ' st'→K nx' σ' st')→awpL P G N [c] (YN K Q) nx σ st)
  (hk:∀ x,J x→awpL P G N (d::cs) Q nx (E x) (S x)):awpL P G N (c::d::cs) Q nx σ st:=by
 intro B w0 O df ι0 ι a w hr
 have hι:∀ m,(ι0 m).isSome=true→m<nx:=by
  intro m hm
  cases hx:ι0 m with
  | none=>rw[hx] at hm;cases hm
  | some ib =>
   obtain⟨ib',h1,_⟩:=hr.grow m ib hx
   exact hr.dom m (by rw[h1];rfl)
 have h1:=awpL_one (h (fun _ σ' st'=>∃ x,J x∧Round nx (E x) (S x) σ' st') (fun _ σ' st' x h1 h2=>⟨x,h1,h2⟩)) B w0 O df ι0 ι a w hr
 refine wp_mono h1 ?_
 rintro e a' w' ⟨nx',ι',σ',st',h2,h3⟩
 cases e with
 | normal =>
  obtain⟨x,hx,hrd⟩:=h3
  exact⟨nx,_,E x,S x,(h2.sub hrd.1 hrd.2.1).purge nx hrd.2.2.1 hrd.2.2.2 hι,hk x hx⟩
 | _=>exact⟨nx',ι',σ',st',h2,h3⟩
theorem awpL_sub{d:Code}(E:List (Nat×D))(S:List (Nat×Blk))(hE:∀ p∈E,Le (gt σ p.1) p.2)(hS:∀ p∈S,gs st p.1=some p.2)(h:awpL P G N (d::cs) Q nx E S):awpL P G N (d::cs) Q nx σ st:=awp_sub E S nx hE hS (Nat.le_refl _) h
end
def flat:Code→List Code
 | .seq a b=>flat a++flat b
 | .skip=>[]
 | c=>[c]
section
variable {P:Program} {G:Nat→Option (List D)} {Ty:Nat→Option TyI} {N:Nat} {Q:Post} {nx nx':Nat} {σ σ':List (Nat×D)} {st st':List (Nat×Blk)} {cs:List Code}
theorem awpL_mono:∀ {cs:List Code} {Q Q':Post} {nx:Nat} {σ:List (Nat×D)} {st:List (Nat×Blk)},awpL P G N cs Q nx σ st→(∀ e nx σ st,Q e nx σ st→Q' e nx σ st)→awpL P G N cs Q' nx σ st
 | [],_,_,_,_,_,h,hq=>hq _ _ _ _ h
 | c::cs,Q,Q',_,_,_,h,hq=>awp_mono h (fun e nx σ st h=>by
  cases e with
  | normal=>exact awpL_mono h hq
  | _=>exact hq _ _ _ _ h)
theorem awpL_flat:∀ (c:Code) {cs:List Code} {Q:Post} {nx:Nat} {σ:List (Nat×D)} {st:List (Nat×Blk)},awpL P G N (flat c++cs) Q nx σ st→awpL P G N (c::cs) Q nx σ st
 | .seq a b,cs,Q,nx,σ,st,h=>by
  refine awpL_seq (awpL_flat a ?_)
  have key:∀ (l:List Code) {nx σ st},awpL P G N (l++(flat b++cs)) Q nx σ st→awpL P G N (l++(b::cs)) Q nx σ st:=by
   intro l
   induction l with
   | nil=>intro nx σ st h;exact awpL_flat b h
   | cons x l ih =>
    intro nx σ st h
    refine awp_mono h (fun e nx σ st h=>?_)
    cases e with
    | normal=>exact ih h
    | _=>exact h
  exact key _ (by rw[← List.append_assoc];exact h)
 | .skip,cs,Q,nx,σ,st,h=>awpL_skip h
 | .region _ _ _,_,_,_,_,_,h=>h
 | .cond _ _ _,_,_,_,_,_,h=>h
 | .block _ _,_,_,_,_,_,h=>h
 | .loop _,_,_,_,_,_,h=>h
 | .rangeFunc _ _ _ _,_,_,_,_,_,h=>h
 | .exit _,_,_,_,_,_,h=>h
 | .scope _,_,_,_,_,_,h=>h
 | .label _,_,_,_,_,_,h=>h
 | .goto _,_,_,_,_,_,h=>h
 | .ret,_,_,_,_,_,h=>h
 | .refuse _,_,_,_,_,_,h=>h
theorem awpL_all{c:Code}(h:awpL P G N (flat c) Q nx σ st):awp P G N c Q nx σ st:=awpL_one (awpL_flat c (by rw[List.append_nil];exact h))
theorem Zn{c:Operand}{x y:Code}{b:Bool}(hc:opD G (gt σ) c=.bool b)(ht:b=true→awpL P G N (flat x++cs) Q nx σ st)(hf:b=false→awpL P G N (flat y++cs) Q nx σ st):awpL P G N (.cond c x y::cs) Q nx σ st:=awpL_cond hc (fun h=>awpL_flat x (ht h)) (fun h=>awpL_flat y (hf h))
theorem Zd{id:Nat}{x:Code}(h:∀ K:Nat→List (Nat×D)→List (Nat×Blk)→Prop,(∀ nx σ st,awpL P G N cs Q nx σ st→K nx σ st)→awpL P G N (flat x) (blockK id K Q) nx σ st):awpL P G N (.block id x::cs) Q nx σ st :=
 awpL_block (fun K hK=>awpL_flat x (by rw[List.append_nil];exact h K hK))
theorem fl_loop{X:Type}{body:Code}(E:X→List (Nat×D))(S:X→List (Nat×Blk))(J:X→Prop)(μ:X→Nat)(x0:X)(h0:J x0)(hE:Round nx (E x0) (S x0) σ st)
  (round:∀ x,J x→∀ K:Nat→List (Nat×D)→List (Nat×Blk)→Prop,(∀ nx' σ' st' x',J x'→μ x'<μ x→Round nx (E x') (S x') σ' st'→K nx' σ' st')→awpL P G N (flat body) (YN K Q) nx (E x) (S x)):awpL P G N (.loop body::cs) Q nx σ st:=by
 have hq:∀ K e nx σ st,YN K Q e nx σ st→YN K (YN (awpL P G N cs Q) Q) e nx σ st:=fun K e nx σ st h=>by cases e<;>exact h
 exact awp_loop (Q:=YN (awpL P G N cs Q) Q) E S J μ x0 h0 hE (fun x hx=>awp_mono (awpL_all (round x hx _ (fun nx' σ' st' x' h1 h2 h3=>⟨x',h1,h2,h3⟩))) (hq _))
end
@[simp] theorem gt_nil(t:Nat):gt [] t=.any:=rfl
@[simp] theorem gt_cons(u:Nat)(d:D)(l:List (Nat×D))(t:Nat):gt ((u,d)::l) t=if t=u then d else gt l t:=rfl
@[simp] theorem gs_nil(t:Nat):gs [] t=none:=rfl
@[simp] theorem gs_cons(u:Nat)(d:Blk)(l:List (Nat×Blk))(t:Nat):gs ((u,d)::l) t=if t=u then some d else gs l t:=rfl
attribute [simp] eqAgg kindsA Z1 atomEq List.filter_cons mapK YE absVal absMem absBuiltin absCall absCallI absCallB isI0 freshA freshD ok opD setL putS ZP argsL Op.operands cD cA lenD lenK isSlK isStrK binD binI unD pickD nilOKD nilEq Z5 Zf loadD isAggK YU resN Z2 fieldOf ZN arrOf padd Yx D.lo D.los fillD placeOf putL Z9 YL partD indexD bndD Yq mapO Zy reachL ZB ZA namesB YA Les Round Blk.lo resD resOne resR YJ D.inn D.inns D.ren D.rens Blk.ren Blk.inn hasB renN ImpPost
end
section
open Go Go.RowKit
def keep(rs:List Nat)(σ:List (Nat×D)):List (Nat×D):=rs.map (fun t=>(t,gt σ t))
def but(ns:List Nat)(st:List (Nat×Blk)):List (Nat×Blk):=st.filter (fun p=>!(ns.contains p.1))
section
variable {P:Program} {G:Nat→Option (List D)} {Ty:Nat→Option TyI} {N:Nat} {Q:Post} {nx nx':Nat} {σ σ':List (Nat×D)} {st st':List (Nat×Blk)} {cs:List Code}
theorem Zg{X:Type}{body:Code}(rs ns:List Nat)(A:X→List (Nat×D))(S:X→List (Nat×Blk))(J:X→Prop)(μ:X→Nat)(x0:X)(h0:J x0)(hE:Round nx (A x0++keep rs σ) (S x0++but ns st) σ st)
  (round:∀ x,J x→∀ K:Nat→List (Nat×D)→List (Nat×Blk)→Prop,(∀ nx' σ' st' x',J x'→μ x'<μ x→Round nx (A x'++keep rs σ) (S x'++but ns st) σ' st'→K nx' σ' st')→awpL P G N (flat body) (YN K Q) nx (A x++keep rs σ) (S x++but ns st)):awpL P G N (.loop body::cs) Q nx σ st :=
 fl_loop (fun x=>A x++keep rs σ) (fun x=>S x++but ns st) J μ x0 h0 hE round
theorem Rel.oneSlot{c:Ctx}{dom:Nat→Prop}{ι:Nat→Option IB}{a:Act}{w:World}{σ:List (Nat×D)}{st:Nat→Option Blk}(h:Rel c dom ι a w (gt σ) st)(t:Nat)(d:D)(hd:Rep w (Fb c ι st) ι (a.tmps.getD t undef) d):Rel c dom ι a w (gt ((t,d)::σ)) st:=by
 refine⟨h.size,h.defers,fun u=>?_,h.blk,h.inj,h.dom,h.os,h.tape,h.output,h.hsize,h.keep,h.low,h.own,h.glob,h.grow⟩
 simp only[gt]
 by_cases hu:u=t
 ·subst hu;rw[if_pos rfl];exact hd
 ·rw[if_neg hu];exact h.env u
theorem Yf{d:Code}(t es:Nat)(h:gt σ t=.nils)(h1:awpL P G N (d::cs) Q (nx+1) ((t,.os nx 0 0 0)::σ) ((nx,.arr es [])::st)):awpL P G N (d::cs) Q nx σ st:=by
 intro B w0 O df ι0 ι a w hr
 have hno:=hr.none_of (nm:=nx) (by simp)
 obtain⟨k1,k2⟩:=hr.one (w':=w) nx ⟨false,0,es,0,0,0⟩ (.arr es []) rfl rfl rfl (Nat.le_refl _) (fun b _=>.inl rfl) (fun h=>absurd h (Nat.lt_irrefl _)) (fun ib hi=>by rw[hno.1] at hi;cases hi)
  (fun _ _=>⟨⟨false,0,es,0,0,0⟩,by simp[updI],rfl,rfl,rfl,Nat.le_refl _,(fun r hr=>by cases hr),fun h=>absurd h (Nat.lt_irrefl _)⟩)
 have e:gs ((nx,.arr es [])::st)=updS (gs st) nx (some (.arr es [])):=by
  funext m
  simp only[gs,updS]
 refine h1 B w0 O df ι0 (updI ι nx ⟨false,0,es,0,0,0⟩) a w ?_
 rw[e]
 have hv:=(hr.env t)
 rw[h] at hv
 refine (k1.weaken (fun _=>Le.refl _) (fun n hn=>?_)).oneSlot t _ ?_
 ·rcases hn with hn|hn
  ·exact Nat.lt_succ_of_lt hn
  ·rw[hn];exact Nat.lt_succ_self _
 ·rw[hv.is_nils]
  exact .os nx 0 0 0 ⟨false,0,es,0,0,0⟩ _ (by simp[updI]) (Nat.le_refl _) rfl (fun _=>⟨none,0,rfl,Nat.le_refl _,rfl,fun h=>absurd h (Nat.lt_irrefl _),fun h=>absurd h (Nat.lt_irrefl _)⟩)
theorem awpL_le{d:Code}(t:Nat)(d':D)(h:Le (gt σ t) d')(h1:awpL P G N (d::cs) Q nx ((t,d')::σ) st):awpL P G N (d::cs) Q nx σ st :=
 fun B w0 O df ι0 ι a w hr=>h1 B w0 O df ι0 ι a w (hr.oneSlot t d' (h _ _ _ _ (hr.env t)))
end
@[simp] theorem mapO_app{α β:Type}(f:α→Option β):∀ a b:List α,mapO f (a++b)=(mapO f a).bind fun x=>(mapO f b).map (x++·)
 | [],b=>by cases h:mapO f b<;>simp[mapO,h]
 | x::a,b=>by
  rw[List.cons_append,mapO,mapO,mapO_app f a b]
  cases f x<;>cases mapO f a<;>cases mapO f b<;>simp
@[simp] theorem namesL_app:∀ a b:List D,ZB (a++b)=ZB a++ZB b
 | [],b=>rfl
 | x::a,b=>by rw[List.cons_append,ZB,ZB,namesL_app a b,List.append_assoc]
@[simp] theorem los_app(n:Nat):∀ a b:List D,D.los n (a++b)=(D.los n a&&D.los n b)
 | [],b=>rfl
 | x::a,b=>by rw[List.cons_append,D.los,D.los,los_app n a b,Bool.and_assoc]
structure Clo(d:List D):Prop where
 v:∀ g k,mapO (Zy g (k+4)) d=some d
 l:∀ n,D.los n d=true
 n:ZB d=[]
theorem ZH:Clo []:=⟨fun _ _=>rfl,fun _=>rfl,rfl⟩
@[simp] theorem range_2:List.range 2=[0,1]:=rfl
@[simp] theorem range_3:List.range 3=[0,1,2]:=rfl
@[simp] theorem range_4:List.range 4=[0,1,2,3]:=rfl
@[simp] theorem range_5:List.range 5=[0,1,2,3,4]:=rfl
@[simp] theorem range_6:List.range 6=[0,1,2,3,4,5]:=rfl
@[simp] theorem range_7:List.range 7=[0,1,2,3,4,5,6]:=rfl
@[simp] theorem range_8:List.range 8=[0,1,2,3,4,5,6,7]:=rfl
attribute [simp] wantedL gtO_some wantH_bool wantH_tup wantH_none
attribute [simp] keep but
end
section
open Go Go.RowKit
def gotoQ(l:Nat)(K:Nat→List (Nat×D)→List (Nat×Blk)→Prop)(Q:Post):Post
 | .goto l'=>fun nx σ st=>l'=l∧K nx σ st
 | e=>Q e
@[simp] theorem gotoQ_normal(l K Q):gotoQ l K Q .normal=Q .normal:=rfl
@[simp] theorem gotoQ_ret(l K Q):gotoQ l K Q .ret=Q .ret:=rfl
@[simp] theorem gotoQ_exit(l K Q i):gotoQ l K Q (.exit i)=Q (.exit i):=rfl
section
variable {P:Program} {G:Nat→Option (List D)} {N:Nat} {Q:Post} {nx:Nat} {σ:List (Nat×D)} {st:List (Nat×Blk)} {cs:List Code}
theorem awpL_label{l:Nat}(h:awpL P G N cs Q nx σ st):awpL P G N (.label l::cs) Q nx σ st :=
 fun B w0 O df ι0 ι a w hr=>wp_label ⟨nx,ι,σ,st,hr,h⟩
theorem awpL_goto{l:Nat}(h:Q (.goto l) nx σ st):awpL P G N (.goto l::cs) Q nx σ st :=
 fun B w0 O df ι0 ι a w hr=>wp_goto ⟨nx,ι,σ,st,hr,h⟩
theorem awp_scope{X:Type}{c rest:Code}(l nx1:Nat)(E:X→List (Nat×D))(S:X→List (Nat×Blk))(J:X→Prop)(μ:X→Nat)(hn:nx≤nx1)(hf:findLabel c l=some rest)
  (first:awp P G N c (gotoQ l (fun _ σ' st'=>∃ x,J x∧Round nx1 (E x) (S x) σ' st') Q) nx σ st)
  (pass:∀ x,J x→awp P G N rest (gotoQ l (fun _ σ' st'=>∃ x',J x'∧μ x'<μ x∧Round nx1 (E x') (S x') σ' st') Q) nx1 (E x) (S x)):awp P G N (.scope c) Q nx σ st:=by
 intro B w0 O df ι0 ι a w hr
 intro b k cs
 have hg:gotoIn l (.inScope c::k)=some (.code rest::.inScope c::k):=by simp[gotoIn,hf]
 have hι:∀ m,(ι0 m).isSome=true→m<nx1:=by
  intro m hm
  cases hx:ι0 m with
  | none=>rw[hx] at hm;cases hm
  | some ib =>
   obtain⟨ib',h1,_⟩:=hr.grow m ib hx
   exact Nat.lt_of_lt_of_le (hr.dom m (by rw[h1];rfl)) hn
 have key:∀ m x,μ x=m→J x→∀ ι a w,Rel ⟨P,G,N,B,w0,O,df,ι0⟩ (·<nx1) ι a w (gt (E x)) (gs (S x)) →
   ∃ e a' w',(∃ nx' ι' σ' st',Rel ⟨P,G,N,B,w0,O,df,ι0⟩ (·<nx') ι' a' w' (gt σ') (gs st')∧Q e nx' σ' st')∧Arrives P (lone (b.at a (.code rest::.inScope c::k)) cs w) b k cs e a' w':=by
  intro m
  induction m using Nat.strongRecOn with
  | _ m ih =>
   intro x hm hJ ι a w hr
   obtain⟨e,a₁,w₁,hq,harr⟩:=pass x hJ B w0 O df ι0 ι a w hr b (.inScope c::k) cs
   obtain⟨nx',ι',σ',st',h1,h2⟩:=hq
   cases e with
   | normal=>exact⟨.normal,a₁,w₁,⟨nx',ι',σ',st',h1,h2⟩,Steps.trans harr (.one step_inScope)⟩
   | exit id=>exact⟨.exit id,a₁,w₁,⟨nx',ι',σ',st',h1,h2⟩,fun k' hk=>harr k' (by simp[exitTo,hk])⟩
   | goto l' =>
    obtain⟨rfl,x',hJ',hlt,hE',hS',hl1,hl2⟩:=h2
    obtain⟨e₂,a₂,w₂,hq₂,harr₂⟩:=ih (μ x') (hm▸hlt) x' rfl hJ' _ a₁ w₁ ((h1.sub hE' hS').purge nx1 hl1 hl2 hι)
    exact⟨e₂,a₂,w₂,hq₂,.of_steps (harr _ hg) harr₂⟩
   | ret=>exact⟨_,a₁,w₁,⟨nx',ι',σ',st',h1,h2⟩,harr⟩
   | panic ch=>exact⟨_,a₁,w₁,⟨nx',ι',σ',st',h1,h2⟩,harr⟩
   | outgrown=>exact⟨_,a₁,w₁,⟨nx',ι',σ',st',h1,h2⟩,harr⟩
 obtain⟨e,a₁,w₁,hq,harr⟩:=first B w0 O df ι0 ι a w hr b (.inScope c::k) cs
 obtain⟨nx',ι',σ',st',h1,h2⟩:=hq
 cases e with
 | normal=>exact⟨.normal,a₁,w₁,⟨nx',ι',σ',st',h1,h2⟩,.head step_scope (Steps.trans harr (.one step_inScope))⟩
 | exit id=>exact⟨.exit id,a₁,w₁,⟨nx',ι',σ',st',h1,h2⟩,fun k' hk=>.head step_scope (harr k' (by simp[exitTo,hk]))⟩
 | goto l' =>
  obtain⟨rfl,x',hJ',hE',hS',hl1,hl2⟩:=h2
  obtain⟨e₂,a₂,w₂,hq₂,harr₂⟩:=key _ x' rfl hJ' _ a₁ w₁ ((h1.sub hE' hS').purge nx1 hl1 hl2 hι)
  exact⟨e₂,a₂,w₂,hq₂,.of_steps (.head step_scope (harr _ hg)) harr₂⟩
 | ret=>exact⟨_,a₁,w₁,⟨nx',ι',σ',st',h1,h2⟩,.of_steps (.one step_scope) harr⟩
 | panic ch=>exact⟨_,a₁,w₁,⟨nx',ι',σ',st',h1,h2⟩,.of_steps (.one step_scope) harr⟩
 | outgrown=>exact⟨_,a₁,w₁,⟨nx',ι',σ',st',h1,h2⟩,.of_steps (.one step_scope) harr⟩
theorem fl_scope{X:Type}{c rest:Code}(l nx1:Nat)(E:X→List (Nat×D))(S:X→List (Nat×Blk))(J:X→Prop)(μ:X→Nat)(hf:findLabel c l=some rest)(hn:nx≤nx1)
  (pass:∀ x,J x→∀ K:Nat→List (Nat×D)→List (Nat×Blk)→Prop,(∀ nx' σ' st' x',J x'→μ x'<μ x→Round nx1 (E x') (S x') σ' st'→K nx' σ' st')→awpL P G N (flat rest) (gotoQ l K (YN (awpL P G N cs Q) Q)) nx1 (E x) (S x))
  (first:∀ K:Nat→List (Nat×D)→List (Nat×Blk)→Prop,(∀ nx' σ' st' x',J x'→Round nx1 (E x') (S x') σ' st'→K nx' σ' st')→(∀ x,J x→awpL P G N (flat rest) (gotoQ l K (YN (awpL P G N cs Q) Q)) nx1 (E x) (S x))→awpL P G N (flat c) (gotoQ l K (YN (awpL P G N cs Q) Q)) nx σ st):awpL P G N (.scope c::cs) Q nx σ st:=by
 have hp:∀ x,J x→awpL P G N (flat rest) (gotoQ l (fun _ σ' st'=>∃ x',J x'∧μ x'<μ x∧Round nx1 (E x') (S x') σ' st') (YN (awpL P G N cs Q) Q)) nx1 (E x) (S x):=fun x hx=>pass x hx _ (fun _ _ _ x' h1 h2 h3=>⟨x',h1,h2,h3⟩)
 refine awp_scope l nx1 E S J μ hn hf (awpL_all (first _ (fun _ _ _ x' h1 h2=>⟨x',h1,h2⟩) (fun x hx=>awpL_mono (hp x hx) (fun e nx σ st h=>?_)))) (fun x hx=>awpL_all (hp x hx))
 cases e<;>first|exact h|exact⟨h.1,h.2.imp fun x' h=>⟨h.1,h.2.2⟩⟩
end
end
section
open Go Go.Conc Go.RowKit
section
variable {P:Program} {G:Nat→Option (List D)} {Ty:Nat→Option TyI}
theorem chan_turnW{c:Ctx}{dom:Nat→Prop}{ι:Nat→Option IB}{a:Act}{w:World}{σ:Nat→D}{st:Nat→Option Blk}(hr:Rel c dom ι a w σ st){n cap:Nat}{xs ys:List Int}{ib:IB}(hs:st n=some (.obj (.chanI cap xs)))(b1:ι n=some ib)(b2:ib.box=true)(b3:0<ib.cap)
  {buf:Array Value} (hbuf:buf=(ys.map (.int .i64)).toArray) (s r:Nat) :
  ∃ ι',Rel c (fun m=>dom m∨m=n) ι' a (w.setChan ib.blk cap buf false s r false) σ (updS st n (some (.obj (.chanI cap ys)))):=by
 have hlt:=(hr.own ib.blk ⟨n,ib,by rw[hs];rfl,b1,b3,rfl⟩).1
 obtain⟨r1,_⟩:=hr.one (w':=w.setChan ib.blk cap buf false s r false) n ib (.obj (.chanI cap ys)) rfl rfl rfl (by rw[size_setChan];exact Nat.le_refl _)
   (fun b hb'=>by
    by_cases e:b=ib.blk
    ·exact .inr ⟨ib,b1,by rw[hs];rfl,b3,e⟩
    ·exact .inl (by simp only[World.setChan];rw[Array.getElem?_setIfInBounds_ne (Ne.symm e)]))
   (fun _=>⟨by rw[size_setChan];exact hlt,.inl ⟨ib,b1,by rw[hs];rfl,b3,rfl⟩⟩)
   (fun ib2 h2=>.inl (Option.some.inj (b1.symm.trans h2)))
   (fun f1 f2=>⟨ib,.chan cap buf false s r false,by simp[updI],b2,b3,heap_setChan _ _ _ _ _ _ _ _ hlt,s,r,by rw[hbuf]⟩)
 exact⟨_,r1⟩
theorem wanted_noneW{o:Oper}(hg:o.guard=none)(f:Nat→Option Bool):Region.wanted o f=true:=by
 unfold Region.wanted
 rw[hg]
def Xe(G:Nat→Option (List D))(Ty:Nat→Option TyI)(N:Nat):List Oper→List (Nat×D)→List (Nat×Blk)→Option (List (Nat×D)×List (Nat×Blk)×Prop)
 | [],σ,st=>some (σ,st,True)
 | o::rest,σ,st =>
  match o.guard with
  | some _=>none
  | none=>match o.op with
   | .move x|.assign x=>(Xe G Ty N rest (setL σ o.dst (opD G (gt σ) x)) st).map fun r=>(r.1,r.2.1,(∀ t,o.dst=some t→t<N)∧r.2.2)
   | .send c x=>(match opD G (gt σ) c,opD G (gt σ) x with
    | .rf n true,.int .i64 m=>(match gs st n with
     | some (.obj (.chanI cap xs))=>(Xe G Ty N rest (setL σ o.dst .any) (putS st [(n,some (.obj (.chanI cap (xs++[m]))))])).map fun r=>(r.1,r.2.1,((∀ t,o.dst=some t→t<N)∧xs.length<cap)∧r.2.2)
     | _=>none)
    | _,_=>none)
   | .recv t c false=>(match opD G (gt σ) c,Ty t with
    | .rf n true,some i=>(match i.k,gs st n with
     | .chan e,some (.obj (.chanI cap (m::xs)))=>(match Ty e with
      | some _=>(Xe G Ty N rest (setL σ o.dst (.int .i64 m)) (putS st [(n,some (.obj (.chanI cap xs)))])).map fun r=>(r.1,r.2.1,(∀ t,o.dst=some t→t<N)∧r.2.2)
      | none=>none)
     | _,_=>none)
    | _,_=>none)
   | _=>none
theorem absComm_ok(hty:TyOK P Ty){N nx:Nat}{ops:Array Oper}:∀ (rest:List Oper) (i:Nat) (σ σ':List (Nat×D)) (st st':List (Nat×Blk)) (s:Prop),rest=ops.toList.drop i→i≤ops.size→Xe G Ty N rest σ st=some (σ',st',s)→s →
  ∀ (c:Ctx) (Q:Exit→Act→World→Prop),c.P=P→c.G=G→c.N=N→(∀ ι a w,Rel c (·<nx) ι a w (gt σ') (gs st')→Q .normal a w)→∀ ι a w,Rel c (·<nx) ι a w (gt σ) (gs st)→RegTo P ops Q ((List.range ops.size).drop i) a w
 | [],i,σ,σ',st,st',s,hrest,hi,h,hs,c,Q,hP,hG,hcN,fin,ι,a,w,hr=>by
  simp only[Xe,Option.some.injEq,Prod.mk.injEq] at h
  obtain⟨rfl,rfl,rfl⟩:=h
  have:i=ops.size:=by
   have:=congrArg List.length hrest
   simp at this;omega
  subst this
  have hd:(List.range ops.size).drop ops.size=[]:=by simp
  rw[hd]
  exact regTo_ops (fin ι a w hr)
 | o::rest,i,σ,σ',st,st',s,hrest,hi,h,hs,c,Q,hP,hG,hcN,fin,ι,a,w,hr=>by
  have hlt:i<ops.size:=by
   have:=congrArg List.length hrest
   simp at this;omega
  have hc:(List.range ops.size).drop i=i::(List.range ops.size).drop (i+1):=by
   rw[List.drop_eq_getElem_cons (by simpa using hlt)]
   simp
  have hcons:ops.toList.drop i=ops.toList[i]'(by simpa using hlt)::ops.toList.drop (i+1):=List.drop_eq_getElem_cons (by simpa using hlt)
  rw[hcons] at hrest
  injection hrest with ho hrest
  have ho':ops[i]? = some o:=by rw[ho];simp[hlt]
  rw[hc]
  simp only[Xe] at h
  split at h
  ·cases h
  ·rename_i hg
   have mv:∀ x,(∀ (a:Act),execOp a.eval o=pure (.value (a.eval x)))→(Xe G Ty N rest (setL σ o.dst (opD G (gt σ) x)) st).map (fun r=>(r.1,r.2.1,(∀ t,o.dst=some t→t<N)∧r.2.2))=some (σ',st',s)→RegTo P ops Q (i::(List.range ops.size).drop (i+1)) a w:=by
    intro x hx h
    cases hm:Xe G Ty N rest (setL σ o.dst (opD G (gt σ) x)) st with
    | none=>rw[hm] at h;cases h
    | some r =>
     obtain⟨σ1,st1,s1⟩:=r
     rw[hm] at h
     cases h
     refine regTo_op ho' (wanted_noneW hg _) (by rw[hx];rfl) (absComm_ok hty rest (i+1) _ _ _ _ _ hrest (by omega) hm hs.2 c Q hP hG hcN fin ι _ w ?_)
     rw[gt_setL]
     subst hG
     exact hr.put _ _ (Zl hr x) _ (by rw[hcN];exact hs.1)
   split at h
   ·rename_i x hop
    exact mv x (fun a=>by unfold execOp;rw[hop]) h
   ·rename_i x hop
    exact mv x (fun a=>by unfold execOp;rw[hop]) h
   ·rename_i ch x hop
    split at h
    ·rename_i n m hch hx
     split at h
     ·rename_i cap xs hst
      cases hm:Xe G Ty N rest (setL σ o.dst .any) (putS st [(n,some (.obj (.chanI cap (xs++[m]))))]) with
      | none=>rw[hm] at h;cases h
      | some r =>
       obtain⟨σ1,st1,s1⟩:=r
       rw[hm] at h
       cases h
       obtain⟨⟨hd,hroom⟩,hs2⟩:=hs
       have r3:=absComm_ok hty rest (i+1) _ _ _ _ _ hrest (by omega) hm hs2 c Q hP hG hcN fin
       subst hG
       have hv:=Zl hr ch
       rw[hch] at hv
       have hu:=Zl hr x
       rw[hx] at hu
       obtain⟨ib,ob,b1,b2,b3,b4,⟨s0,r0,b5⟩,ex⟩:=rf_map hr hv hst
       rw[b5] at b4
       refine regTo_send (c:=ib.blk) (v:=.int .i64 m) (z':=.tuple #[]) (tm:=false) ho' (wanted_noneW hg _) (w':=w) ?_ b4 (by simpa using hroom) ?_
       ·unfold execOp
        rw[hop]
        show Sem.run P (pure _) w=_
        rw[ex,hu.is_int]
        rfl
       ·obtain⟨ι',hr'⟩:=chan_turnW hr hst b1 b2 b3 (buf:=((xs.map (.int .i64)).toArray).push (.int .i64 m)) (ys:=xs++[m]) (by simp) (s0+1) r0
        refine r3 ι' _ _ ?_
        rw[gt_setL,Xq]
        refine ((hr'.put undef .any (.pure _ _ (.any _)) _ (by rw[hcN];exact hd)).weaken (fun _=>Le.refl _) (fun q hq=>?_))
        rcases hq with hq|rfl
        ·exact hq
        ·exact hr.dom q (by rw[b1];rfl)
     ·cases h
    ·cases h
   ·rename_i t ch hop
    split at h
    ·rename_i n ti hch hti
     split at h
     ·rename_i e cap m xs hk hst
      split at h
      ·rename_i j hj
       cases hm:Xe G Ty N rest (setL σ o.dst (.int .i64 m)) (putS st [(n,some (.obj (.chanI cap xs)))]) with
       | none=>rw[hm] at h;cases h
       | some r =>
        obtain⟨σ1,st1,s1⟩:=r
        rw[hm] at h
        cases h
        have r3:=absComm_ok hty rest (i+1) _ _ _ _ _ hrest (by omega) hm hs.2 c Q hP hG hcN fin
        subst hG
        have hv:=Zl hr ch
        rw[hch] at hv
        obtain⟨dir,h1,_⟩:=chan_of hty hti hk
        obtain⟨info,de,z,e1,e2,_,e4,_,e6,_⟩:=hty.get hj
        obtain⟨ib,ob,b1,b2,b3,b4,⟨s0,r0,b5⟩,ex⟩:=rf_map hr hv hst
        rw[b5] at b4
        refine regTo_recv (c:=ib.blk) (z:=z) (tm:=false) (closed:=false) false ho' (wanted_noneW hg _) (w':=w) ?_ b4 (by simp) ?_
        ·unfold execOp
         rw[hop]
         simp[run_underlying h1,zeroValue,typeInfo,e1,e6,ex,rcase]
        ·obtain⟨ι',hr'⟩:=chan_turnW hr hst b1 b2 b3 (buf:=(((m::xs).map (Value.int .i64)).toArray).extract 1 (((m::xs).map (Value.int .i64)).toArray).size) (ys:=xs) (by apply Array.ext';simp;exact List.take_of_length_le (by simp)) s0 (r0+1)
         refine r3 ι' _ _ ?_
         rw[gt_setL,Xq]
         refine ((hr'.put _ (.int .i64 m) (.pure _ _ (.int _ _)) _ (by rw[hcN];exact hs.1)).weaken (fun _=>Le.refl _) (fun q hq=>?_))
         rcases hq with hq|rfl
         ·exact hq
         ·exact hr.dom q (by rw[b1];rfl)
      ·cases h
     ·cases h
    ·cases h
   ·cases h
theorem awpL_comm(hty:TyOK P Ty){N nx id:Nat}{Q:Post}{σ σ':List (Nat×D)}{st st':List (Nat×Blk)}{cs:List Code}{ops:Array Oper}{s:Prop}(h:Xe G Ty N ops.toList σ st=some (σ',st',s))(hs:s)(hQ:awpL P G N cs Q nx σ' st'):awpL P G N (.region id ops false::cs) Q nx σ st:=by
 intro B w0 O df ι0 ι a w hr
 have:=absComm_ok (P:=P) (ops:=ops) hty (nx:=nx) ops.toList 0 σ σ' st st' s (by simp) (Nat.zero_le _) h hs ⟨P,G,N,B,w0,O,df,ι0⟩ (fun e a' w'=>∃ nx' ι' σ' st',Rel ⟨P,G,N,B,w0,O,df,ι0⟩ (·<nx') ι' a' w' (gt σ') (gs st')∧YN (awpL P G N cs Q) Q e nx' σ' st') rfl rfl rfl (fun ι a w hr=>⟨nx,ι,σ',st',hr,hQ⟩) ι a w hr
 rw[List.drop_zero] at this
 exact wp_region_to this
end
section
variable {P:Program} {G:Nat→Option (List D)} {N:Nat} {Q:Post} {nx:Nat} {σ:List (Nat×D)} {st:List (Nat×Blk)} {cs:List Code}
theorem awp_loopN{X:Type}{body:Code}(E:X→List (Nat×D))(S:X→List (Nat×Blk))(J:X→Prop)(μ nf:X→Nat)(hn:∀ x,J x→nx≤nf x)(x0:X)(h0:J x0)(hE:Round (nf x0) (E x0) (S x0) σ st)
  (round:∀ x,J x→awp P G N body (YN (fun _ σ' st'=>∃ x',J x'∧μ x'<μ x∧Round (nf x') (E x') (S x') σ' st') Q) (nf x) (E x) (S x)):awp P G N (.loop body) Q nx σ st:=by
 intro B w0 O df ι0 ι a w hr
 intro b k cs
 have hι:∀ m,(ι0 m).isSome=true→m<nx:=by
  intro m hm
  cases hx:ι0 m with
  | none=>rw[hx] at hm;cases hm
  | some ib =>
   obtain⟨ib',h1,_⟩:=hr.grow m ib hx
   exact hr.dom m (by rw[h1];rfl)
 have key:∀ m x,μ x=m→J x→∀ ι a w,Rel ⟨P,G,N,B,w0,O,df,ι0⟩ (·<nf x) ι a w (gt (E x)) (gs (S x)) →
   ∃ e a' w',(∃ nx' ι' σ' st',Rel ⟨P,G,N,B,w0,O,df,ι0⟩ (·<nx') ι' a' w' (gt σ') (gs st')∧Q e nx' σ' st')∧Arrives P (lone (b.at a (.code body::.inLoop body::k)) cs w) b k cs e a' w':=by
  intro m
  induction m using Nat.strongRecOn with
  | _ m ih =>
   intro x hm hJ ι a w hr
   obtain⟨e,a1,w1,hq,harr⟩:=round x hJ B w0 O df ι0 ι a w hr b (.inLoop body::k) cs
   obtain⟨nx',ι',σ',st',h1,h2⟩:=hq
   cases e with
   | normal =>
    obtain⟨x',hJ',hlt,hE',hS',hl1,hl2⟩:=h2
    obtain⟨e2,a2,w2,hq2,harr2⟩:=ih (μ x') (hm▸hlt) x' rfl hJ' _ a1 w1 ((h1.sub hE' hS').purge (nf x') hl1 hl2 (fun m hm=>Nat.lt_of_lt_of_le (hι m hm) (hn x' hJ')))
    exact⟨e2,a2,w2,hq2,.of_steps (Steps.trans harr (.one step_inLoop)) harr2⟩
   | exit id=>exact⟨_,a1,w1,⟨nx',ι',σ',st',h1,h2⟩,.pass (x:=.inLoop body) rfl (fun _ _=>.inl (by simp)) harr⟩
   | goto l=>exact⟨_,a1,w1,⟨nx',ι',σ',st',h1,h2⟩,.pass (x:=.inLoop body) rfl (fun _ _=>.inl (by simp)) harr⟩
   | ret=>exact⟨_,a1,w1,⟨nx',ι',σ',st',h1,h2⟩,.pass (x:=.inLoop body) rfl (fun _ _=>.inl (by simp)) harr⟩
   | panic ch=>exact⟨_,a1,w1,⟨nx',ι',σ',st',h1,h2⟩,.pass (x:=.inLoop body) rfl (fun _ _=>.inl (by simp)) harr⟩
   | outgrown=>exact⟨_,a1,w1,⟨nx',ι',σ',st',h1,h2⟩,.pass (x:=.inLoop body) rfl (fun _ _=>.inl (by simp)) harr⟩
 obtain⟨e,a',w',hq,harr⟩:=key _ x0 rfl h0 _ a w ((hr.sub hE.1 hE.2.1).purge (nf x0) hE.2.2.1 hE.2.2.2 (fun m hm=>Nat.lt_of_lt_of_le (hι m hm) (hn x0 h0)))
 exact⟨e,a',w',hq,.of_steps (.one step_loop) harr⟩
theorem fl_loopN{X:Type}{body:Code}(E:X→List (Nat×D))(S:X→List (Nat×Blk))(J:X→Prop)(μ nf:X→Nat)(hn:∀ x,J x→nx≤nf x)(x0:X)(h0:J x0)(hE:Round (nf x0) (E x0) (S x0) σ st)
  (round:∀ x,J x→∀ K:Nat→List (Nat×D)→List (Nat×Blk)→Prop,(∀ nx' σ' st' x',J x'→μ x'<μ x→Round (nf x') (E x') (S x') σ' st'→K nx' σ' st')→awpL P G N (flat body) (YN K Q) (nf x) (E x) (S x)):awpL P G N (.loop body::cs) Q nx σ st:=by
 have hq:∀ K e nx σ st,YN K Q e nx σ st→YN K (YN (awpL P G N cs Q) Q) e nx σ st:=fun K e nx σ st h=>by cases e<;>exact h
 exact awp_loopN (Q:=YN (awpL P G N cs Q) Q) E S J μ nf hn x0 h0 hE (fun x hx=>awp_mono (awpL_all (round x hx _ (fun nx' σ' st' x' h1 h2 h3=>⟨x',h1,h2,h3⟩))) (hq _))
end
attribute [simp] Xe
end
/-
 The types of the program,as the data logic reads them.
-/
section
open Go
def tyTab:List (Nat×TyI):=[
 (1,⟨.func,1,8,(.nilf)⟩),
 (2,⟨(.int .i64),1,8,(.int .i64 0)⟩),
 (3,⟨(.int .i64),1,8,(.int .i64 0)⟩),
 (4,⟨.bool,1,1,(.bool false)⟩),
 (5,⟨(.int .u8),1,1,(.int .u8 0)⟩),
 (6,⟨(.int .u8),1,1,(.int .u8 0)⟩),
 (7,⟨(.agg [(0,1,false),(1,1,false),(2,1,false),(3,1,false)]),4,24,(.agg [.int .i64 0,.int .i64 0,.bool false,.int .u8 0])⟩),
 (8,⟨(.agg [(0,1,false),(1,1,false),(2,1,false),(3,1,false)]),4,24,(.agg [.int .i64 0,.int .i64 0,.bool false,.int .u8 0])⟩),
 (9,⟨.str,1,16,(.str ⟨#[]⟩)⟩),
 (10,⟨.str,1,16,(.str ⟨#[]⟩)⟩),
 (11,⟨.str,1,16,(.str ⟨#[]⟩)⟩),
 (12,⟨(.int .u64),1,8,(.int .u64 0)⟩),
 (13,⟨(.agg [(0,1,false),(1,1,false)]),2,24,(.agg [.str ⟨#[]⟩,.int .u64 0])⟩),
 (14,⟨(.agg [(0,1,false),(1,1,false)]),2,24,(.agg [.str ⟨#[]⟩,.int .u64 0])⟩),
 (15,⟨(.ptr 273),1,8,(.np)⟩),
 (16,⟨(.ptr 276),1,8,(.np)⟩),
 (17,⟨(.ptr 285),1,8,(.np)⟩),
 (18,⟨(.agg [(0,1,false)]),1,8,(.agg [.np])⟩),
 (19,⟨(.agg [(0,1,false)]),1,8,(.agg [.np])⟩),
 (20,⟨(.ifc true),1,16,(.nili)⟩),
 (21,⟨(.int .i32),1,4,(.int .i32 0)⟩),
 (22,⟨(.sl 3),1,24,(.nils)⟩),
 (23,⟨.func,1,8,(.nilf)⟩),
 (24,⟨.func,1,8,(.nilf)⟩),
 (25,⟨(.ptr 80),1,8,(.np)⟩),
 (26,⟨.func,1,8,(.nilf)⟩),
 (27,⟨(.sl 68),1,24,(.nils)⟩),
 (28,⟨(.sl 55),1,24,(.nils)⟩),
 (29,⟨(.agg [(0,1,false),(1,1,false)]),2,48,(.agg [.nils,.nils])⟩),
 (30,⟨(.agg [(0,1,false),(1,1,false)]),2,48,(.agg [.nils,.nils])⟩),
 (32,⟨.func,1,8,(.nilf)⟩),
 (33,⟨.func,1,8,(.nilf)⟩),
 (34,⟨(.sl 74),1,24,(.nils)⟩),
 (35,⟨(.agg [(0,1,false),(1,1,false)]),2,40,(.agg [.str ⟨#[]⟩,.nils])⟩),
 (36,⟨(.agg [(0,1,false),(1,1,false)]),2,40,(.agg [.str ⟨#[]⟩,.nils])⟩),
 (37,⟨(.int .i64),1,8,(.int .i64 0)⟩),
 (39,⟨.func,1,8,(.nilf)⟩),
 (40,⟨(.sl 62),1,24,(.nils)⟩),
 (41,⟨(.agg [(0,1,false),(1,1,false),(2,1,false)]),3,56,(.agg [.int .i64 0,.nils,.nils])⟩),
 (42,⟨(.agg [(0,1,false),(1,1,false),(2,1,false)]),3,56,(.agg [.int .i64 0,.nils,.nils])⟩),
 (43,⟨.func,1,8,(.nilf)⟩),
 (44,⟨(.sl 59),1,24,(.nils)⟩),
 (46,⟨.func,1,8,(.nilf)⟩),
 (48,⟨.func,1,8,(.nilf)⟩),
 (49,⟨(.agg [(0,1,false),(1,1,false)]),2,16,(.agg [.int .i64 0,.int .i64 0])⟩),
 (50,⟨(.agg [(0,1,false),(1,1,false)]),2,16,(.agg [.int .i64 0,.int .i64 0])⟩),
 (51,⟨.func,1,8,(.nilf)⟩),
 (53,⟨.func,1,8,(.nilf)⟩),
 (54,⟨(.agg [(0,1,false),(1,1,false),(2,1,false),(3,1,false),(4,1,false)]),5,48,(.agg [.str ⟨#[]⟩,.int .i64 0,.int .i64 0,.int .i64 0,.int .i64 0])⟩),
 (55,⟨(.agg [(0,1,false),(1,1,false),(2,1,false),(3,1,false),(4,1,false)]),5,48,(.agg [.str ⟨#[]⟩,.int .i64 0,.int .i64 0,.int .i64 0,.int .i64 0])⟩),
 (57,⟨.func,1,8,(.nilf)⟩),
 (58,⟨(.agg [(0,1,false),(1,1,false)]),2,16,(.agg [.int .i64 0,.int .i64 0])⟩),
 (59,⟨(.agg [(0,1,false),(1,1,false)]),2,16,(.agg [.int .i64 0,.int .i64 0])⟩),
 (60,⟨.func,1,8,(.nilf)⟩),
 (61,⟨(.agg [(0,1,false),(1,1,false),(2,1,false)]),3,24,(.agg [.int .i64 0,.int .i64 0,.int .i64 0])⟩),
 (62,⟨(.agg [(0,1,false),(1,1,false),(2,1,false)]),3,24,(.agg [.int .i64 0,.int .i64 0,.int .i64 0])⟩),
 (63,⟨.func,1,8,(.nilf)⟩),
 (65,⟨.func,1,8,(.nilf)⟩),
 (66,⟨.func,1,8,(.nilf)⟩),
 (67,⟨(.agg [(0,1,false),(1,1,false),(2,1,false)]),3,32,(.agg [.str ⟨#[]⟩,.int .i64 0,.int .i64 0])⟩),
 (68,⟨(.agg [(0,1,false),(1,1,false),(2,1,false)]),3,32,(.agg [.str ⟨#[]⟩,.int .i64 0,.int .i64 0])⟩),
 (69,⟨(.agg [(0,1,false),(1,1,false),(2,3,true)]),5,104,(.agg [.nils,.nils,.int .i64 0,.nils,.nils])⟩),
 (70,⟨(.agg [(0,1,false),(1,1,false),(2,3,true)]),5,104,(.agg [.nils,.nils,.int .i64 0,.nils,.nils])⟩),
 (72,⟨.func,1,8,(.nilf)⟩),
 (73,⟨(.agg [(0,1,false),(1,1,false),(2,1,false),(3,1,false),(4,1,false)]),5,40,(.agg [.int .i64 0,.int .i64 0,.int .i64 0,.int .i64 0,.int .i64 0])⟩),
 (74,⟨(.agg [(0,1,false),(1,1,false),(2,1,false),(3,1,false),(4,1,false)]),5,40,(.agg [.int .i64 0,.int .i64 0,.int .i64 0,.int .i64 0,.int .i64 0])⟩),
 (75,⟨(.sl 50),1,24,(.nils)⟩),
 (77,⟨.func,1,8,(.nilf)⟩),
 (78,⟨(.int .u64),1,8,(.int .u64 0)⟩),
 (79,⟨(.agg [(0,1,false),(1,1,false),(2,1,false)]),3,40,(.agg [.nils,.int .i64 0,.int .u64 0])⟩),
 (80,⟨(.agg [(0,1,false),(1,1,false),(2,1,false)]),3,40,(.agg [.nils,.int .i64 0,.int .u64 0])⟩),
 (81,⟨.func,1,8,(.nilf)⟩),
 (82,⟨.func,1,8,(.nilf)⟩),
 (83,⟨.func,1,8,(.nilf)⟩),
 (84,⟨.func,1,8,(.nilf)⟩),
 (85,⟨.func,1,8,(.nilf)⟩),
 (86,⟨.func,1,8,(.nilf)⟩),
 (87,⟨.func,1,8,(.nilf)⟩),
 (88,⟨.func,1,8,(.nilf)⟩),
 (89,⟨(.int .u64),1,8,(.int .u64 0)⟩),
 (90,⟨.func,1,8,(.nilf)⟩),
 (91,⟨.func,1,8,(.nilf)⟩),
 (92,⟨.func,1,8,(.nilf)⟩),
 (94,⟨.func,1,8,(.nilf)⟩),
 (95,⟨.func,1,8,(.nilf)⟩),
 (96,⟨.func,1,8,(.nilf)⟩),
 (97,⟨.func,1,8,(.nilf)⟩),
 (98,⟨.func,1,8,(.nilf)⟩),
 (99,⟨.func,1,8,(.nilf)⟩),
 (100,⟨(.agg [(0,1,false),(1,3,true),(4,1,false)]),5,88,(.agg [.nils,.int .i64 0,.nils,.nils,.bool false])⟩),
 (101,⟨(.agg [(0,1,false),(1,3,true),(4,1,false)]),5,88,(.agg [.nils,.int .i64 0,.nils,.nils,.bool false])⟩),
 (103,⟨.func,1,8,(.nilf)⟩),
 (104,⟨.func,1,8,(.nilf)⟩),
 (105,⟨(.agg [(0,1,false),(1,1,false),(2,1,false)]),3,56,(.agg [.nils,.nils,.nilf])⟩),
 (106,⟨(.agg [(0,1,false),(1,1,false),(2,1,false)]),3,56,(.agg [.nils,.nils,.nilf])⟩),
 (108,⟨.func,1,8,(.nilf)⟩),
 (109,⟨.func,1,8,(.nilf)⟩),
 (110,⟨(.sl 3),1,24,(.nils)⟩),
 (112,⟨.func,1,8,(.nilf)⟩),
 (113,⟨(.sl 5),1,24,(.nils)⟩),
 (114,⟨.func,1,8,(.nilf)⟩),
 (115,⟨.func,1,8,(.nilf)⟩),
 (117,⟨.func,1,8,(.nilf)⟩),
 (118,⟨.func,1,8,(.nilf)⟩),
 (119,⟨.func,1,8,(.nilf)⟩),
 (120,⟨.func,1,8,(.nilf)⟩),
 (121,⟨.func,1,8,(.nilf)⟩),
 (122,⟨.func,1,8,(.nilf)⟩),
 (123,⟨.func,1,8,(.nilf)⟩),
 (124,⟨.func,1,8,(.nilf)⟩),
 (125,⟨.func,1,8,(.nilf)⟩),
 (126,⟨.func,1,8,(.nilf)⟩),
 (128,⟨.func,1,8,(.nilf)⟩),
 (129,⟨.func,1,8,(.nilf)⟩),
 (131,⟨.func,1,8,(.nilf)⟩),
 (132,⟨.func,1,8,(.nilf)⟩),
 (133,⟨(.map 3 3),1,8,.any⟩),
 (134,⟨.func,1,8,(.nilf)⟩),
 (135,⟨(.sl 138),1,24,(.nils)⟩),
 (136,⟨.func,1,8,(.nilf)⟩),
 (137,⟨(.agg [(0,1,false),(1,1,false)]),2,16,(.agg [.int .i64 0,.nilf])⟩),
 (138,⟨(.agg [(0,1,false),(1,1,false)]),2,16,(.agg [.int .i64 0,.nilf])⟩),
 (139,⟨.func,1,8,(.nilf)⟩),
 (140,⟨.func,1,8,(.nilf)⟩),
 (141,⟨.func,1,8,(.nilf)⟩),
 (142,⟨.func,1,8,(.nilf)⟩),
 (143,⟨(.sl 22),1,24,(.nils)⟩),
 (144,⟨(.sl 75),1,24,(.nils)⟩),
 (145,⟨(.agg [(0,1,false),(1,1,false),(2,1,false),(3,1,false),(4,1,false)]),5,104,(.agg [.nils,.nils,.nils,.nils,.int .i64 0])⟩),
 (146,⟨(.agg [(0,1,false),(1,1,false),(2,1,false),(3,1,false),(4,1,false)]),5,104,(.agg [.nils,.nils,.nils,.nils,.int .i64 0])⟩),
 (147,⟨.func,1,8,(.nilf)⟩),
 (148,⟨(.sl 4),1,24,(.nils)⟩),
 (149,⟨.func,1,8,(.nilf)⟩),
 (150,⟨.func,1,8,(.nilf)⟩),
 (151,⟨.func,1,8,(.nilf)⟩),
 (152,⟨.func,1,8,(.nilf)⟩),
 (153,⟨.func,1,8,(.nilf)⟩),
 (154,⟨.func,1,8,(.nilf)⟩),
 (155,⟨.func,1,8,(.nilf)⟩),
 (156,⟨.func,1,8,(.nilf)⟩),
 (157,⟨.func,1,8,(.nilf)⟩),
 (158,⟨.func,1,8,(.nilf)⟩),
 (159,⟨.func,1,8,(.nilf)⟩),
 (160,⟨.func,1,8,(.nilf)⟩),
 (161,⟨.func,1,8,(.nilf)⟩),
 (162,⟨.func,1,8,(.nilf)⟩),
 (163,⟨.func,1,8,(.nilf)⟩),
 (164,⟨.func,1,8,(.nilf)⟩),
 (166,⟨.func,1,8,(.nilf)⟩),
 (167,⟨.func,1,8,(.nilf)⟩),
 (168,⟨.func,1,8,(.nilf)⟩),
 (169,⟨.func,1,8,(.nilf)⟩),
 (170,⟨.func,1,8,(.nilf)⟩),
 (171,⟨.func,1,8,(.nilf)⟩),
 (172,⟨.func,1,8,(.nilf)⟩),
 (173,⟨.func,1,8,(.nilf)⟩),
 (174,⟨(.chan 3),1,8,.any⟩),
 (175,⟨.func,1,8,(.nilf)⟩),
 (177,⟨.func,1,8,(.nilf)⟩),
 (178,⟨(.agg [(0,1,false),(1,1,false)]),2,2,(.agg [.bool false,.bool false])⟩),
 (179,⟨(.arr 4 178),8,8,(.agg [.bool false,.bool false,.bool false,.bool false,.bool false,.bool false,.bool false,.bool false])⟩),
 (180,⟨(.map 9 4),1,8,.any⟩),
 (181,⟨.func,1,8,(.nilf)⟩),
 (182,⟨.func,1,8,(.nilf)⟩),
 (183,⟨.func,1,8,(.nilf)⟩),
 (184,⟨(.sl 20),1,24,(.nils)⟩),
 (185,⟨.func,1,8,(.nilf)⟩),
 (186,⟨(.arr 4 4),4,4,(.agg [.bool false,.bool false,.bool false,.bool false])⟩),
 (188,⟨.func,1,8,(.nilf)⟩),
 (189,⟨(.arr 4 37),4,32,(.agg [.int .i64 0,.int .i64 0,.int .i64 0,.int .i64 0])⟩),
 (190,⟨(.agg [(0,1,false),(1,1,false)]),2,16,(.agg [.int .i64 0,.bool false])⟩),
 (191,⟨(.agg [(0,1,false),(1,1,false)]),2,16,(.agg [.int .i64 0,.bool false])⟩),
 (192,⟨.func,1,8,(.nilf)⟩),
 (193,⟨.func,1,8,(.nilf)⟩),
 (194,⟨.func,1,8,(.nilf)⟩),
 (195,⟨.func,1,8,(.nilf)⟩),
 (196,⟨.func,1,8,(.nilf)⟩),
 (197,⟨.func,1,8,(.nilf)⟩),
 (198,⟨.func,1,8,(.nilf)⟩),
 (199,⟨.func,1,8,(.nilf)⟩),
 (200,⟨.func,1,8,(.nilf)⟩),
 (201,⟨.func,1,8,(.nilf)⟩),
 (202,⟨.func,1,8,(.nilf)⟩),
 (203,⟨.func,1,8,(.nilf)⟩),
 (204,⟨.func,1,8,(.nilf)⟩),
 (205,⟨.func,1,8,(.nilf)⟩),
 (206,⟨(.sl 210),1,24,(.nils)⟩),
 (208,⟨.func,1,8,(.nilf)⟩),
 (209,⟨(.agg [(0,1,false),(1,1,false),(2,1,false),(3,1,false)]),4,4,(.agg [.bool false,.bool false,.bool false,.bool false])⟩),
 (210,⟨(.agg [(0,1,false),(1,1,false),(2,1,false),(3,1,false)]),4,4,(.agg [.bool false,.bool false,.bool false,.bool false])⟩),
 (211,⟨(.agg [(0,1,false),(1,1,false),(2,1,false)]),3,3,(.agg [.int .u8 0,.int .u8 0,.bool false])⟩),
 (212,⟨(.arr 4 211),12,12,(.agg [.int .u8 0,.int .u8 0,.bool false,.int .u8 0,.int .u8 0,.bool false,.int .u8 0,.int .u8 0,.bool false,.int .u8 0,.int .u8 0,.bool false])⟩),
 (213,⟨.str,1,16,(.str ⟨#[]⟩)⟩),
 (214,⟨(.agg []),0,0,(.agg [])⟩),
 (215,⟨(.agg []),0,0,(.agg [])⟩),
 (216,⟨(.agg []),0,0,(.agg [])⟩),
 (217,⟨(.agg []),0,0,(.agg [])⟩),
 (218,⟨(.agg []),0,0,(.agg [])⟩),
 (219,⟨.func,1,8,(.nilf)⟩),
 (220,⟨(.sl 191),1,24,(.nils)⟩),
 (221,⟨.func,1,8,(.nilf)⟩),
 (222,⟨.func,1,8,(.nilf)⟩),
 (223,⟨.func,1,8,(.nilf)⟩),
 (224,⟨.func,1,8,(.nilf)⟩),
 (225,⟨.func,1,8,(.nilf)⟩),
 (226,⟨.func,1,8,(.nilf)⟩),
 (228,⟨.func,1,8,(.nilf)⟩),
 (229,⟨.func,1,8,(.nilf)⟩),
 (230,⟨(.agg [(0,2,true),(2,5,true),(7,1,false),(8,1,false),(9,1,false)]),10,168,(.agg [.nils,.nils,.str ⟨#[]⟩,.int .i64 0,.int .i64 0,.int .i64 0,.int .i64 0,.nils,.nils,.nils])⟩),
 (231,⟨(.agg [(0,2,true),(2,5,true),(7,1,false),(8,1,false),(9,1,false)]),10,168,(.agg [.nils,.nils,.str ⟨#[]⟩,.int .i64 0,.int .i64 0,.int .i64 0,.int .i64 0,.nils,.nils,.nils])⟩),
 (232,⟨.func,1,8,(.nilf)⟩),
 (233,⟨(.agg [(0,1,false),(1,1,false)]),2,16,(.agg [.nilf,.int .i64 0])⟩),
 (234,⟨(.sl 233),1,24,(.nils)⟩),
 (235,⟨.func,1,8,(.nilf)⟩),
 (236,⟨(.int .i64),1,8,(.int .i64 0)⟩),
 (238,⟨.func,1,8,(.nilf)⟩),
 (239,⟨.func,1,8,(.nilf)⟩),
 (240,⟨.func,1,8,(.nilf)⟩),
 (241,⟨.func,1,8,(.nilf)⟩),
 (242,⟨.func,1,8,(.nilf)⟩),
 (243,⟨(.int .u32),1,4,(.int .u32 0)⟩),
 (244,⟨.func,1,8,(.nilf)⟩),
 (245,⟨.func,1,8,(.nilf)⟩),
 (246,⟨.func,1,8,(.nilf)⟩),
 (247,⟨.func,1,8,(.nilf)⟩),
 (248,⟨.func,1,8,(.nilf)⟩),
 (249,⟨.func,1,8,(.nilf)⟩),
 (250,⟨.func,1,8,(.nilf)⟩),
 (251,⟨.func,1,8,(.nilf)⟩),
 (252,⟨(.arr 2 4),2,2,(.agg [.bool false,.bool false])⟩),
 (253,⟨(.arr 2 3),2,16,(.agg [.int .i64 0,.int .i64 0])⟩),
 (255,⟨.func,1,8,(.nilf)⟩),
 (256,⟨.func,1,8,(.nilf)⟩),
 (257,⟨(.int .u64),1,8,(.int .u64 0)⟩),
 (258,⟨.func,1,8,(.nilf)⟩),
 (259,⟨.func,1,8,(.nilf)⟩),
 (260,⟨.func,1,8,(.nilf)⟩),
 (261,⟨(.ptr 3),1,8,(.np)⟩),
 (262,⟨.func,1,8,(.nilf)⟩),
 (263,⟨.func,1,8,(.nilf)⟩),
 (264,⟨.func,1,8,(.nilf)⟩),
 (265,⟨.func,1,8,(.nilf)⟩),
 (266,⟨.func,1,8,(.nilf)⟩),
 (267,⟨(.ptr 257),1,8,(.np)⟩),
 (269,⟨.func,1,8,(.nilf)⟩),
 (270,⟨.func,1,8,(.nilf)⟩),
 (271,⟨.func,1,8,(.nilf)⟩),
 (272,⟨(.agg [(0,1,false),(1,1,false),(2,1,false),(3,1,false)]),4,40,(.agg [.np,.np,.np,.str ⟨#[]⟩])⟩),
 (273,⟨(.agg [(0,1,false),(1,1,false),(2,1,false),(3,1,false)]),4,40,(.agg [.np,.np,.np,.str ⟨#[]⟩])⟩),
 (274,⟨(.arr 0 16),0,0,(.agg [])⟩),
 (275,⟨(.agg [(0,0,true)]),0,0,(.agg [])⟩),
 (276,⟨(.agg [(0,0,true)]),0,0,(.agg [])⟩),
 (277,⟨.func,1,8,(.nilf)⟩),
 (278,⟨(.int .u8),1,1,(.int .u8 0)⟩),
 (279,⟨(.int .u8),1,1,(.int .u8 0)⟩),
 (280,⟨.func,1,8,(.nilf)⟩),
 (281,⟨(.ptr 5),1,8,(.np)⟩),
 (282,⟨(.int .i32),1,4,(.int .i32 0)⟩),
 (283,⟨(.int .i32),1,4,(.int .i32 0)⟩),
 (284,⟨(.agg [(0,1,false),(1,1,false),(2,1,false),(3,1,false),(4,1,false),(5,1,false),(6,1,false),(7,1,false),(8,1,false),(9,1,false),(10,1,false)]),11,48,(.agg [.int .u64 0,.int .u64 0,.int .u32 0,.int .u8 0,.int .u8 0,.int .u8 0,.int .u8 0,.nilf,.np,.int .i32 0,.int .i32 0])⟩),
 (285,⟨(.agg [(0,1,false),(1,1,false),(2,1,false),(3,1,false),(4,1,false),(5,1,false),(6,1,false),(7,1,false),(8,1,false),(9,1,false),(10,1,false)]),11,48,(.agg [.int .u64 0,.int .u64 0,.int .u32 0,.int .u8 0,.int .u8 0,.int .u8 0,.int .u8 0,.nilf,.np,.int .i32 0,.int .i32 0])⟩)]
def Ty(t:Nat):Option TyI:=tyTab.lookup t
theorem ty_all:(tyTab.all fun p=>tyB Tryz.prog p.1 p.2)=true:=by decide +kernel
theorem lookup_mem{α β:Type}[BEq α][LawfulBEq α]:∀ {l:List (α×β)} {a:α} {b:β},l.lookup a=some b→(a,b)∈l
 | [],_,_,h=>by cases h
 | (x,y)::l,a,b,h=>by
  simp only[List.lookup] at h
  split at h
  ·rename_i e;cases h;rw[eq_of_beq e];simp
  ·exact List.mem_cons_of_mem _ (lookup_mem h)
theorem Xb:TyOK Tryz.prog Ty:=fun t i h=>List.all_eq_true.1 ty_all (t,i) (lookup_mem h)
@[simp] theorem Ty_3:Ty 3=some ⟨(.int .i64),1,8,(.int .i64 0)⟩:=by kernel_rfl
@[simp] theorem Ty_4:Ty 4=some ⟨.bool,1,1,(.bool false)⟩:=by kernel_rfl
@[simp] theorem Ty_5:Ty 5=some ⟨(.int .u8),1,1,(.int .u8 0)⟩:=by kernel_rfl
@[simp] theorem Ty_9:Ty 9=some ⟨.str,1,16,(.str ⟨#[]⟩)⟩:=by kernel_rfl
@[simp] theorem Ty_20:Ty 20=some ⟨(.ifc true),1,16,(.nili)⟩:=by kernel_rfl
@[simp] theorem Ty_22:Ty 22=some ⟨(.sl 3),1,24,(.nils)⟩:=by kernel_rfl
@[simp] theorem Ty_27:Ty 27=some ⟨(.sl 68),1,24,(.nils)⟩:=by kernel_rfl
@[simp] theorem Ty_28:Ty 28=some ⟨(.sl 55),1,24,(.nils)⟩:=by kernel_rfl
@[simp] theorem Ty_30:Ty 30=some ⟨(.agg [(0,1,false),(1,1,false)]),2,48,(.agg [.nils,.nils])⟩:=by kernel_rfl
@[simp] theorem Ty_34:Ty 34=some ⟨(.sl 74),1,24,(.nils)⟩:=by kernel_rfl
@[simp] theorem Ty_36:Ty 36=some ⟨(.agg [(0,1,false),(1,1,false)]),2,40,(.agg [.str ⟨#[]⟩,.nils])⟩:=by kernel_rfl
@[simp] theorem Ty_37:Ty 37=some ⟨(.int .i64),1,8,(.int .i64 0)⟩:=by kernel_rfl
@[simp] theorem Ty_40:Ty 40=some ⟨(.sl 62),1,24,(.nils)⟩:=by kernel_rfl
@[simp] theorem Ty_42:Ty 42=some ⟨(.agg [(0,1,false),(1,1,false),(2,1,false)]),3,56,(.agg [.int .i64 0,.nils,.nils])⟩:=by kernel_rfl
@[simp] theorem Ty_44:Ty 44=some ⟨(.sl 59),1,24,(.nils)⟩:=by kernel_rfl
@[simp] theorem Ty_50:Ty 50=some ⟨(.agg [(0,1,false),(1,1,false)]),2,16,(.agg [.int .i64 0,.int .i64 0])⟩:=by kernel_rfl
@[simp] theorem Ty_55:Ty 55=some ⟨(.agg [(0,1,false),(1,1,false),(2,1,false),(3,1,false),(4,1,false)]),5,48,(.agg [.str ⟨#[]⟩,.int .i64 0,.int .i64 0,.int .i64 0,.int .i64 0])⟩:=by kernel_rfl
@[simp] theorem Ty_59:Ty 59=some ⟨(.agg [(0,1,false),(1,1,false)]),2,16,(.agg [.int .i64 0,.int .i64 0])⟩:=by kernel_rfl
@[simp] theorem Ty_62:Ty 62=some ⟨(.agg [(0,1,false),(1,1,false),(2,1,false)]),3,24,(.agg [.int .i64 0,.int .i64 0,.int .i64 0])⟩:=by kernel_rfl
@[simp] theorem Ty_68:Ty 68=some ⟨(.agg [(0,1,false),(1,1,false),(2,1,false)]),3,32,(.agg [.str ⟨#[]⟩,.int .i64 0,.int .i64 0])⟩:=by kernel_rfl
@[simp] theorem Ty_74:Ty 74=some ⟨(.agg [(0,1,false),(1,1,false),(2,1,false),(3,1,false),(4,1,false)]),5,40,(.agg [.int .i64 0,.int .i64 0,.int .i64 0,.int .i64 0,.int .i64 0])⟩:=by kernel_rfl
@[simp] theorem Ty_75:Ty 75=some ⟨(.sl 50),1,24,(.nils)⟩:=by kernel_rfl
@[simp] theorem Ty_78:Ty 78=some ⟨(.int .u64),1,8,(.int .u64 0)⟩:=by kernel_rfl
@[simp] theorem Ty_80:Ty 80=some ⟨(.agg [(0,1,false),(1,1,false),(2,1,false)]),3,40,(.agg [.nils,.int .i64 0,.int .u64 0])⟩:=by kernel_rfl
@[simp] theorem Ty_89:Ty 89=some ⟨(.int .u64),1,8,(.int .u64 0)⟩:=by kernel_rfl
@[simp] theorem Ty_104:Ty 104=some ⟨.func,1,8,(.nilf)⟩:=by kernel_rfl
@[simp] theorem Ty_106:Ty 106=some ⟨(.agg [(0,1,false),(1,1,false),(2,1,false)]),3,56,(.agg [.nils,.nils,.nilf])⟩:=by kernel_rfl
@[simp] theorem Ty_133:Ty 133=some ⟨(.map 3 3),1,8,.any⟩:=by kernel_rfl
@[simp] theorem Ty_143:Ty 143=some ⟨(.sl 22),1,24,(.nils)⟩:=by kernel_rfl
@[simp] theorem Ty_144:Ty 144=some ⟨(.sl 75),1,24,(.nils)⟩:=by kernel_rfl
@[simp] theorem Ty_146:Ty 146=some ⟨(.agg [(0,1,false),(1,1,false),(2,1,false),(3,1,false),(4,1,false)]),5,104,(.agg [.nils,.nils,.nils,.nils,.int .i64 0])⟩:=by kernel_rfl
@[simp] theorem Ty_148:Ty 148=some ⟨(.sl 4),1,24,(.nils)⟩:=by kernel_rfl
@[simp] theorem Ty_174:Ty 174=some ⟨(.chan 3),1,8,.any⟩:=by kernel_rfl
@[simp] theorem Ty_178:Ty 178=some ⟨(.agg [(0,1,false),(1,1,false)]),2,2,(.agg [.bool false,.bool false])⟩:=by kernel_rfl
@[simp] theorem Ty_179:Ty 179=some ⟨(.arr 4 178),8,8,(.agg [.bool false,.bool false,.bool false,.bool false,.bool false,.bool false,.bool false,.bool false])⟩:=by kernel_rfl
@[simp] theorem Ty_180:Ty 180=some ⟨(.map 9 4),1,8,.any⟩:=by kernel_rfl
@[simp] theorem Ty_184:Ty 184=some ⟨(.sl 20),1,24,(.nils)⟩:=by kernel_rfl
@[simp] theorem Ty_186:Ty 186=some ⟨(.arr 4 4),4,4,(.agg [.bool false,.bool false,.bool false,.bool false])⟩:=by kernel_rfl
@[simp] theorem Ty_189:Ty 189=some ⟨(.arr 4 37),4,32,(.agg [.int .i64 0,.int .i64 0,.int .i64 0,.int .i64 0])⟩:=by kernel_rfl
@[simp] theorem Ty_191:Ty 191=some ⟨(.agg [(0,1,false),(1,1,false)]),2,16,(.agg [.int .i64 0,.bool false])⟩:=by kernel_rfl
@[simp] theorem Ty_211:Ty 211=some ⟨(.agg [(0,1,false),(1,1,false),(2,1,false)]),3,3,(.agg [.int .u8 0,.int .u8 0,.bool false])⟩:=by kernel_rfl
@[simp] theorem Ty_212:Ty 212=some ⟨(.arr 4 211),12,12,(.agg [.int .u8 0,.int .u8 0,.bool false,.int .u8 0,.int .u8 0,.bool false,.int .u8 0,.int .u8 0,.bool false,.int .u8 0,.int .u8 0,.bool false])⟩:=by kernel_rfl
@[simp] theorem Ty_213:Ty 213=some ⟨.str,1,16,(.str ⟨#[]⟩)⟩:=by kernel_rfl
@[simp] theorem Ty_215:Ty 215=some ⟨(.agg []),0,0,(.agg [])⟩:=by kernel_rfl
@[simp] theorem Ty_216:Ty 216=some ⟨(.agg []),0,0,(.agg [])⟩:=by kernel_rfl
@[simp] theorem Ty_217:Ty 217=some ⟨(.agg []),0,0,(.agg [])⟩:=by kernel_rfl
@[simp] theorem Ty_218:Ty 218=some ⟨(.agg []),0,0,(.agg [])⟩:=by kernel_rfl
@[simp] theorem Ty_220:Ty 220=some ⟨(.sl 191),1,24,(.nils)⟩:=by kernel_rfl
@[simp] theorem Ty_231:Ty 231=some ⟨(.agg [(0,2,true),(2,5,true),(7,1,false),(8,1,false),(9,1,false)]),10,168,(.agg [.nils,.nils,.str ⟨#[]⟩,.int .i64 0,.int .i64 0,.int .i64 0,.int .i64 0,.nils,.nils,.nils])⟩:=by kernel_rfl
@[simp] theorem Ty_232:Ty 232=some ⟨.func,1,8,(.nilf)⟩:=by kernel_rfl
@[simp] theorem Ty_233:Ty 233=some ⟨(.agg [(0,1,false),(1,1,false)]),2,16,(.agg [.nilf,.int .i64 0])⟩:=by kernel_rfl
@[simp] theorem Ty_234:Ty 234=some ⟨(.sl 233),1,24,(.nils)⟩:=by kernel_rfl
@[simp] theorem Ty_252:Ty 252=some ⟨(.arr 2 4),2,2,(.agg [.bool false,.bool false])⟩:=by kernel_rfl
@[simp] theorem Ty_253:Ty 253=some ⟨(.arr 2 3),2,16,(.agg [.int .i64 0,.int .i64 0])⟩:=by kernel_rfl
end
section
open Go Go.RowKit
def clsD:List D:=[.int .u8 65,.int .u8 90,.bool true,.int .u8 97,.int .u8 122,.bool true,.int .u8 48,.int .u8 57,.bool false,.int .u8 95,.int .u8 95,.bool false]
def posD:List D:=[.bool false,.bool false,.bool true,.bool true,.bool true,.bool true,.bool true,.bool false]
def G0:Nat→Option (List D):=fun g=>if g=1 then some clsD else if g=0 then some posD else none
@[simp] theorem G0_0:G0 0=some posD:=rfl
@[simp] theorem G0_1:G0 1=some clsD:=rfl
theorem mixed:Tryz.prog.follows .mixedOrders=true:=by kernel_rfl
theorem w64{n:Int}(h1 : -9223372036854775808≤n)(h2:n≤9223372036854775807):IntKind.wrap .i64 n=n:=by
 rw[IntKind.wrap_i64];omega
theorem R{cs:List Code}{N nx nx' id:Nat}{Q:Post}{σ σ':List (Nat×D)}{st st':List (Nat×Blk)}{ops:Array Oper}{draw:Bool}{log:List LogE}{s:Prop}(pcs:List (PX Tryz.prog G0))(h:YE G0 Ty N ops.toList nx ops.toList 0 pcs σ st=some (log,σ',st',s))(hs:s)
  (hQ:awpL Tryz.prog G0 N cs Q nx' σ' st') (hok:Ye draw ops.toList log=true:=by kernel_rfl) (hn:nx+ops.size=nx':=by simp;rfl):awpL Tryz.prog G0 N (.region id ops draw::cs) Q nx σ st:=awpL_reg Xb mixed pcs h hs hok hn hQ
theorem R0{cs:List Code}{N nx nx' id:Nat}{Q:Post}{σ σ':List (Nat×D)}{st st':List (Nat×Blk)}{ops:Array Oper}{draw:Bool}{log:List LogE}{s:Prop}
  (hQ:awpL Tryz.prog G0 N cs Q nx' σ' st') (h:YE (P:=Tryz.prog) G0 Ty N ops.toList nx ops.toList 0 [] σ st=some (log,σ',st',s):=by simp;(first|exact⟨rfl,rfl,rfl,trivial⟩|exact⟨rfl,rfl,rfl,Iff.rfl⟩)) (hs:s:=by first|trivial|omega|(simp;done)|(simp;omega)) (hok:Ye draw ops.toList log=true:=by kernel_rfl) (hn:nx+ops.size=nx':=by simp;rfl):awpL Tryz.prog G0 N (.region id ops draw::cs) Q nx σ st:=awpL_reg Xb mixed [] h hs hok hn hQ
theorem R1{cs:List Code}{N nx nx' id:Nat}{Q:Post}{σ σ':List (Nat×D)}{st st':List (Nat×Blk)}{ops:Array Oper}{draw:Bool}{log:List LogE}{s:Prop}
  (hQ:awpL Tryz.prog G0 N cs Q nx' σ' st') (h:YE (P:=Tryz.prog) G0 Ty N ops.toList nx ops.toList 0 [] σ st=some (log,σ',st',s):=by simp;(try simp (disch:=omega) only[w64]);(first|exact⟨rfl,rfl,rfl,trivial⟩|exact⟨rfl,rfl,rfl,Iff.rfl⟩)) (hs:s:=by first|trivial|omega|(simp;done)|(simp;omega)) (hok:Ye draw ops.toList log=true:=by kernel_rfl) (hn:nx+ops.size=nx':=by simp;rfl):awpL Tryz.prog G0 N (.region id ops draw::cs) Q nx σ st:=awpL_reg Xb mixed [] h hs hok hn hQ
theorem Zh{k:Nat}{fn:Func}{code:Code}{args:List D}{R:D}(hf:Tryz.prog.funcs[k]? = some fn)(hb:fn.body=some code){N:Nat}(hNt:fn.ntmps=N)
  (h:awpL Tryz.prog G0 N (flat code) (fun e _ σ st=>(e=.normal∨e=.ret)∧∃ R',resD Ty fn.results.toList σ st=some R'∧Le R' R) 0 (argsL args) []) (hn:(fn.name == "runtime.NumGoroutine")=false:=by kernel_rfl) (hN:args.length≤N:=by simp):Pure Tryz.prog G0 k args R :=
 pure_of Xb hf hb hNt hn hN (awpL_all h)
theorem F3{α β γ:Type}{a:α}{b:β}{c:γ}:a=a∧b=b∧c=c∧True:=⟨rfl,rfl,rfl,trivial⟩
theorem F4{α β γ:Type}{a:α}{b:β}{c:γ}{p:Prop}:a=a∧b=b∧c=c∧(p↔p):=⟨rfl,rfl,rfl,Iff.rfl⟩
theorem R2{cs:List Code}{N nx nx' id:Nat}{Q:Post}{σ σ':List (Nat×D)}{st st':List (Nat×Blk)}{ops:Array Oper}{draw:Bool}{log:List LogE}{s:Prop}(pcs:List (PX Tryz.prog G0))(h:YE G0 Ty N ops.toList nx ops.toList 0 pcs σ st=some (log,σ',st',s))
  (hQ:awpL Tryz.prog G0 N cs Q nx' σ' st') (hs:s:=by first|trivial|omega|(simp;done)|(simp;omega)) (hok:Ye draw ops.toList log=true:=by kernel_rfl) (hn:nx+ops.size=nx':=by simp;rfl):awpL Tryz.prog G0 N (.region id ops draw::cs) Q nx σ st:=awpL_reg Xb mixed pcs h hs hok hn hQ
theorem R6{cs:List Code}{N nx nx' id:Nat}{Q:Post}{σ σ':List (Nat×D)}{st st':List (Nat×Blk)}{ops:Array Oper}{draw:Bool}{log:List LogE}{s:Prop}(pcs:List (PX Tryz.prog G0))(hQ:awpL Tryz.prog G0 N cs Q nx' σ' st')(h:YE G0 Ty N ops.toList nx ops.toList 0 pcs σ st=some (log,σ',st',s):=by simp;first|exact F3|exact F4)
  (hs:s:=by first|trivial|omega|(simp;done)|(simp;omega)) (hok:Ye draw ops.toList log=true:=by kernel_rfl) (hn:nx+ops.size=nx':=by simp;rfl):awpL Tryz.prog G0 N (.region id ops draw::cs) Q nx σ st:=awpL_reg Xb mixed pcs h hs hok hn hQ
theorem fl_T{P:Program}{G:Nat→Option (List D)}{N:Nat}{Q:Post}{nx:Nat}{σ:List (Nat×D)}{st:List (Nat×Blk)}{cs:List Code}{c:Operand}{x y:Code}(ht:awpL P G N (flat x++cs) Q nx σ st)(hc:opD G (gt σ) c=.bool true:=by first|rfl|(simp;rfl)):awpL P G N (.cond c x y::cs) Q nx σ st:=Zn hc (fun _=>ht) (fun h=>by cases h)
theorem KN:(∀ t,gt [] t=.any)∧(∀ (u:Nat) (d:D) (l:List (Nat×D)) (t:Nat),gt ((u,d)::l) t=if t=u then d else gt l t)∧(∀ (f:Nat→Nat×D) a l,List.map f (a::l)=f a::List.map f l)∧(∀ f:Nat→Nat×D,List.map f []=[])∧(∀ (α:Type) (a:α) (l m:List α),(a::l)++m=a::(l++m))∧(∀ (α:Type) (m:List α),[]++m=m) ∧
  (∀ (p:Nat×Blk→Bool) a l,List.filter p (a::l)=if p a=true then a::List.filter p l else List.filter p l)∧(∀ p:Nat×Blk→Bool,List.filter p []=[])∧(∀ (a b:Nat) (l:List Nat),(a::l).contains b=(b==a||l.contains b))∧(∀ b:Nat,([]:List Nat).contains b=false)∧(∀ b,(b||false)=b)∧(∀ b,(b||true)=true)∧(∀ b,(true||b)=true)∧(∀ b,(false||b)=b)∧(!true)=false∧(!false)=true∧(false=true)=False∧(∀ (α:Type) (a b:α),(if True then a else b)=a)∧(∀ (α:Type) (a b:α),(if False then a else b)=b) :=
 ⟨fun _=>rfl,fun _ _ _ _=>rfl,fun _ _ _=>rfl,fun _=>rfl,fun _ _ _ _=>rfl,fun _ _=>rfl,fun _ _ _=>List.filter_cons,fun _=>rfl,fun _ _ _=>List.contains_cons,fun _=>rfl,Bool.or_false,Bool.or_true,Bool.true_or,Bool.false_or,rfl,rfl,by simp,fun _ _ _=>rfl,fun _ _ _=>rfl⟩
theorem bf_(b:Bool):b=true∨b=false:=Bool.eq_false_or_eq_true b
theorem fl_C{P:Program}{G:Nat→Option (List D)}{N:Nat}{Q:Post}{nx:Nat}{σ:List (Nat×D)}{st:List (Nat×Blk)}{cs:List Code}{c:Operand}{x y:Code}{b:Bool}(ht:b=true→awpL P G N (flat x++cs) Q nx σ st)(hf:b=false→awpL P G N (flat y++cs) Q nx σ st)(hc:opD G (gt σ) c=.bool b:=by first|rfl|(simp;rfl)):awpL P G N (.cond c x y::cs) Q nx σ st:=Zn hc ht hf
theorem fl_F{P:Program}{G:Nat→Option (List D)}{N:Nat}{Q:Post}{nx:Nat}{σ:List (Nat×D)}{st:List (Nat×Blk)}{cs:List Code}{c:Operand}{x y:Code}(hf:awpL P G N (flat y++cs) Q nx σ st)(hc:opD G (gt σ) c=.bool false:=by first|rfl|(simp;rfl)):awpL P G N (.cond c x y::cs) Q nx σ st:=Zn hc (fun h=>by cases h) (fun _=>hf)
def Zb(l:List Int):List (List D):=l.map (fun x=>[.int .i64 x])
@[simp] theorem intsD_length(l:List Int):(Zb l).length=l.length:=by simp[Zb]
@[simp] theorem intsD_get(l:List Int)(k:Nat):(Zb l)[k]? = (l[k]?).map (fun x=>[.int .i64 x]):=by simp[Zb]
end
section
open Go Go.RowKit
set_option maxHeartbeats 400000
def YZ{α:Type}(Z:List α)(z:α)(k:Nat):List α:=Z.take k++List.replicate (Z.length - k) z
theorem filled_len{α:Type}(Z:List α)(z:α)(k:Nat)(h:k≤Z.length):(YZ Z z k).length=Z.length:=by simp[YZ];omega
theorem filled_step{α:Type}(Z:List α)(z:α)(k:Nat)(h:k<Z.length):(YZ Z z k).set k Z[k]=YZ Z z (k+1):=by
 unfold YZ
 have hl:(Z.take k).length=k:=by simp;omega
 rw[List.set_append_right _ _ (by omega),hl,Nat.sub_self,show Z.length - k=(Z.length - (k+1))+1 by omega,List.replicate_succ,List.set_cons_zero,List.take_succ_eq_append_getElem h,List.append_assoc]
 rfl
theorem filled_all{α:Type}(Z:List α)(z:α)(k:Nat)(h:Z.length≤k):YZ Z z k=Z:=by
 unfold YZ;rw[List.take_of_length_le h,show Z.length - k=0 by omega];simp
theorem filled_zero{α:Type}(Z:List α)(z:α):YZ Z z 0=List.replicate Z.length z:=by simp[YZ]
namespace PO
def at_(out:List Int)(v:Nat):Int:=(out[v]?).getD (-1)
theorem at_set(out:List Int)(w v:Nat)(x:Int):at_ (out.set w x) v=if w=v∧v<out.length then x else at_ out v:=by
 unfold at_
 rw[List.getElem?_set]
 by_cases h:w=v
 ·subst h
  by_cases h2:w<out.length
  ·simp[h2]
  ·simp[h2]
 ·simp[h]
def scan(x:Int):List Nat→List Int→List Nat→List Int×List Nat
 | [],out,q=>(out,q)
 | w::ws,out,q=>if at_ out w<0 then scan x ws (out.set w x) (q++[w]) else scan x ws out q
def bfs(nb:Nat→List Nat):Nat→List Int→List Nat→List Int
 | 0,out,_=>out
 | _+1,out,[]=>out
 | f+1,out,v::q=>bfs nb f (scan (at_ out v+1) (nb v) out q).1 (scan (at_ out v+1) (nb v) out q).2
def negs(out:List Int):Nat:=out.countP (fun x=>decide (x<0))
theorem negs_set{out:List Int}{w:Nat}{x:Int}(hw:w<out.length)(h:at_ out w<0)(hx:0≤x):negs (out.set w x)+1=negs out:=by
 induction out generalizing w with
 | nil=>simp at hw
 | cons y l ih =>
  cases w with
  | zero =>
   have hy:y<0:=by simpa[at_] using h
   have hx':¬ x<0:=by omega
   simp[negs,hy,hx']
  | succ w =>
   have h1:at_ l w<0:=by simpa[at_] using h
   have h2:=ih (by simpa using hw) h1
   simp only[negs,List.set_cons_succ,List.countP_cons] at h2 ⊢
   omega
structure Scanned(N:Nat)(x:Int)(ws:List Nat)(out:List Int)(q:List Nat)(out':List Int)(q':List Nat):Prop where
 len:out'.length=out.length
 old:∀ u,0≤at_ out u→at_ out' u=at_ out u
 new:∃ l,q'=q++l∧(∀ u∈l,at_ out u<0∧at_ out' u=x∧u∈ws)∧(∀ u,at_ out u<0→0≤at_ out' u→u∈l)
 all:∀ u∈ws,0≤at_ out' u
 neg:negs out'+q'.length=negs out+q.length
 low:∀ u,at_ out u<0→at_ out' u=at_ out u∨at_ out' u=x
theorem scanned{N:Nat}{x:Int}(hx:0≤x):∀ (ws:List Nat) (out:List Int) (q:List Nat),(∀ w∈ws,w<N)→out.length=N →
  Scanned N x ws out q (scan x ws out q).1 (scan x ws out q).2
 | [],out,q,_,_=>⟨rfl,fun _ _=>rfl,⟨[],by simp[scan],by simp,fun u h1 h2=>absurd h2 (by simp[scan];omega)⟩,by simp,rfl,fun _ _=>.inl rfl⟩
 | w::ws,out,q,hw,hl=>by
  have hwN:w<N:=hw w (by simp)
  have hws:∀ w∈ws,w<N:=fun u hu=>hw u (by simp[hu])
  simp only[scan]
  by_cases h:at_ out w<0
  ·rw[if_pos h]
   have ih:=scanned hx ws (out.set w x) (q++[w]) hws (by simpa using hl)
   generalize hr:scan x ws (out.set w x) (q++[w])=r at ih
   obtain⟨len,old,⟨l,hq,hnew,hall⟩,all,neg,low⟩:=ih
   have hset:∀ v,at_ (out.set w x) v=if w=v then x else at_ out v:=fun v=>by
    rw[at_set]
    by_cases e:w=v
    ·subst e;simp[hl,hwN]
    ·simp[e]
   refine⟨by simpa using len,fun u hu=>?_,⟨w::l,by simp[hq],fun u hu=>?_,fun u h1 h2=>?_⟩,fun u hu=>?_,?_,fun u hu=>?_⟩
   ·have e:w≠u:=by rintro rfl;omega
    rw[old u (by rw[hset,if_neg e];exact hu),hset,if_neg e]
   ·rcases List.mem_cons.1 hu with rfl|hu
    ·refine⟨h,?_,by simp⟩
     rw[old _ (by rw[hset,if_pos rfl];exact hx),hset,if_pos rfl]
    ·obtain⟨g1,g2,g3⟩:=hnew u hu
     rw[hset] at g1
     by_cases e:w=u
     ·rw[if_pos e] at g1;omega
     ·rw[if_neg e] at g1
      exact⟨g1,g2,by simp[g3]⟩
   ·by_cases e:w=u
    ·subst e;simp
    ·exact List.mem_cons_of_mem _ (hall u (by rw[hset,if_neg e];exact h1) h2)
   ·rcases List.mem_cons.1 hu with rfl|hu
    ·rw[old _ (by rw[hset,if_pos rfl];exact hx),hset,if_pos rfl];exact hx
    ·exact all u hu
   ·have:=negs_set (out:=out) (x:=x) (by omega) h hx
    simp at neg ⊢
    omega
   ·by_cases e:w=u
    ·subst e
     right
     rw[old _ (by rw[hset,if_pos rfl];exact hx),hset,if_pos rfl]
    ·have:=low u (by rw[hset,if_neg e];exact hu)
     rwa [hset,if_neg e] at this
  ·rw[if_neg h]
   have ih:=scanned hx ws out q hws hl
   obtain⟨len,old,⟨l,hq,hnew,hall⟩,all,neg,low⟩:=ih
   refine⟨len,old,⟨l,hq,fun u hu=>?_,hall⟩,fun u hu=>?_,neg,low⟩
   ·obtain⟨g1,g2,g3⟩:=hnew u hu
    exact⟨g1,g2,by simp[g3]⟩
   ·rcases List.mem_cons.1 hu with rfl|hu
    ·rw[old _ (by omega)];omega
    ·exact all u hu
structure Inv(N:Nat)(nb:Nat→List Nat)(goals:List Nat)(out:List Int)(q:List Nat):Prop where
 len:out.length=N
 low:∀ v,-1≤at_ out v
 qge:∀ v∈q,0≤at_ out v
 sorted:q.Pairwise (fun u v=>at_ out u≤at_ out v)
 near:∀ u∈q,∀ v∈q,at_ out v≤at_ out u+1
 doneLe:∀ u,0≤at_ out u→u∉q→∀ v∈q,at_ out u≤at_ out v
 doneNb:∀ u,0≤at_ out u→u∉q→∀ v∈nb u,0≤at_ out v∧at_ out v≤at_ out u+1
 pred:∀ v,0<at_ out v→∃ u,v∈nb u∧0≤at_ out u∧at_ out v=at_ out u+1
 zero:∀ v,at_ out v=0↔v∈goals
theorem inv_step{N:Nat}{nb:Nat→List Nat}{goals:List Nat}(hnb:∀ v,∀ w∈nb v,w<N){out:List Int}{v:Nat}{q:List Nat}(h:Inv N nb goals out (v::q)) :
  Inv N nb goals (scan (at_ out v+1) (nb v) out q).1 (scan (at_ out v+1) (nb v) out q).2:=by
 have hv:0≤at_ out v:=h.qge v (by simp)
 have hs:=scanned (N:=N) (x:=at_ out v+1) (by omega) (nb v) out q (hnb v) h.len
 generalize scan (at_ out v+1) (nb v) out q=r at hs
 obtain⟨out',q'⟩:=r
 obtain⟨len,old,⟨l,hq,hnew,hall⟩,all,neg,low⟩:=hs
 simp only at hq hnew hall all old low ⊢
 have hsor:=List.pairwise_cons.1 h.sorted
 have oldq:∀ u∈q,at_ out' u=at_ out u:=fun u hu=>old u (h.qge u (by simp[hu]))
 have vle:∀ u∈q,at_ out v≤at_ out u:=hsor.1
 have ule:∀ u∈q,at_ out u≤at_ out v+1:=fun u hu=>h.near v (by simp) u (by simp[hu])
 have cases_:∀ u,0≤at_ out' u→(0≤at_ out u∧at_ out' u=at_ out u)∨(u∈l∧at_ out' u=at_ out v+1):=fun u hu=>by
  by_cases h0:0≤at_ out u
  ·exact .inl ⟨h0,old u h0⟩
  ·have hm:=hall u (by omega) hu
   exact .inr ⟨hm,(hnew u hm).2.1⟩
 have top:∀ u,u∈nb v→at_ out' u≤at_ out v+1:=fun u hu=>by
  rcases cases_ u (all u hu) with⟨h0,e⟩|⟨_,e⟩
  ·rw[e]
   by_cases hm:u∈v::q
   ·exact h.near v (by simp) u hm
   ·have:=h.doneLe u h0 hm v (by simp);omega
  ·omega
 refine⟨by rw[len];exact h.len,fun u=>?_,fun u hu=>?_,?_,fun u hu w hw=>?_,fun u hu hn w hw=>?_,fun u hu hn w hw=>?_,fun u hu=>?_,fun u=>?_⟩
 ·by_cases h0:0≤at_ out u
  ·rw[old u h0];omega
  ·rcases low u (by omega) with e|e
   ·rw[e];exact h.low u
   ·omega
 ·rw[hq] at hu
  rcases List.mem_append.1 hu with hu|hu
  ·rw[oldq u hu];exact h.qge u (by simp[hu])
  ·rw[(hnew u hu).2.1];omega
 ·rw[hq,List.pairwise_append]
  refine⟨?_,?_,fun a ha b hb=>?_⟩
  ·refine List.Pairwise.imp_of_mem (fun ha hb hab=>?_) hsor.2
   rw[oldq _ ha,oldq _ hb];exact hab
  ·refine List.Pairwise.imp_of_mem (R:=fun _ _=>True) (fun ha hb _=>?_) (List.pairwise_of_forall (fun _ _=>trivial))
   rw[(hnew _ ha).2.1,(hnew _ hb).2.1];omega
  ·rw[oldq a ha,(hnew b hb).2.1];exact ule a ha
 ·have lo:∀ y∈q',at_ out v≤at_ out' y∧at_ out' y≤at_ out v+1:=fun y hy=>by
   rw[hq] at hy
   rcases List.mem_append.1 hy with hy|hy
   ·rw[oldq y hy];exact⟨vle y hy,ule y hy⟩
   ·rw[(hnew y hy).2.1];omega
  have a:=lo u hu;have b:=lo w hw;omega
 ·have hw':at_ out v≤at_ out' w:=by
   rw[hq] at hw
   rcases List.mem_append.1 hw with hw|hw
   ·rw[oldq w hw];exact vle w hw
   ·rw[(hnew w hw).2.1];omega
  rcases cases_ u hu with⟨h0,e⟩|⟨hm,_⟩
  ·rw[e]
   by_cases hm:u∈v::q
   ·rcases List.mem_cons.1 hm with rfl|hm
    ·exact hw'
    ·exact absurd (by rw[hq];simp[hm]) hn
   ·have:=h.doneLe u h0 hm v (by simp);omega
  ·exact absurd (by rw[hq];simp[hm]) hn
 ·rcases cases_ u hu with⟨h0,e⟩|⟨hm,_⟩
  ·by_cases hm:u∈v::q
   ·rcases List.mem_cons.1 hm with rfl|hm
    ·rw[e];exact⟨all w hw,top w hw⟩
    ·exact absurd (by rw[hq];simp[hm]) hn
   ·have:=h.doneNb u h0 hm w hw
    rw[old w this.1,e];exact this
  ·exact absurd (by rw[hq];simp[hm]) hn
 ·rcases cases_ u (by omega) with⟨h0,e⟩|⟨hm,e⟩
  ·obtain⟨p,hp1,hp2,hp3⟩:=h.pred u (by omega)
   exact⟨p,hp1,by rw[old p hp2];exact hp2,by rw[e,old p hp2];exact hp3⟩
  ·exact⟨v,(hnew u hm).2.2,by rw[old v hv];exact hv,by rw[e,old v hv]⟩
 ·rw[← h.zero u]
  constructor
  ·intro hu
   rcases cases_ u (by omega) with⟨_,e⟩|⟨_,e⟩
   ·omega
   ·omega
  ·intro hu
   rw[old u (by omega)];exact hu
theorem inv_bfs{N:Nat}{nb:Nat→List Nat}{goals:List Nat}(hnb:∀ v,∀ w∈nb v,w<N):∀ (f:Nat) (out:List Int) (q:List Nat),Inv N nb goals out q→negs out+q.length≤f →
  Inv N nb goals (bfs nb f out q) []
 | 0,out,q,h,hf=>by
  have:q=[]:=List.eq_nil_of_length_eq_zero (by omega)
  subst this;exact h
 | f+1,out,[],h,_=>h
 | f+1,out,v::q,h,hf=>by
  simp only[bfs]
  have hs:=scanned (N:=N) (x:=at_ out v+1) (by have:=h.qge v (by simp);omega) (nb v) out q (hnb v) h.len
  exact inv_bfs hnb f _ _ (inv_step hnb h) (by have:=hs.neg;simp at hf;omega)
structure Dist(N:Nat)(nb:Nat→List Nat)(goals:List Nat)(out:List Int):Prop where
 len:out.length=N
 low:∀ v,-1≤at_ out v
 edge:∀ u,0≤at_ out u→∀ v∈nb u,0≤at_ out v∧at_ out v≤at_ out u+1
 pred:∀ v,0<at_ out v→∃ u,v∈nb u∧0≤at_ out u∧at_ out v=at_ out u+1
 zero:∀ v,at_ out v=0↔v∈goals
theorem Inv.dist{N:Nat}{nb:Nat→List Nat}{goals:List Nat}{out:List Int}(h:Inv N nb goals out []):Dist N nb goals out :=
 ⟨h.len,h.low,fun u hu v hv=>h.doneNb u hu (by simp) v hv,h.pred,h.zero⟩
def mark(out:List Int):List Nat→List Int
 | []=>out
 | g::gs=>mark (out.set g 0) gs
theorem mark_len:∀ (gs:List Nat) (out:List Int),(mark out gs).length=out.length
 | [],_=>rfl
 | g::gs,out=>by simp[mark,mark_len gs]
theorem at_mark:∀ (gs:List Nat) (out:List Int) (v:Nat),(∀ g∈gs,g<out.length)→at_ (mark out gs) v=if v∈gs then 0 else at_ out v
 | [],_,_,_=>by simp[mark]
 | g::gs,out,v,h=>by
  simp only[mark]
  rw[at_mark gs _ v (by intro x hx;simp;exact h x (by simp[hx])),at_set]
  have:=h g (by simp)
  by_cases e:g=v
  ·subst e;simp[this]
  ·by_cases m:v∈gs
   ·simp[m]
   ·simp[m,e,Ne.symm e]
theorem at_rep(n v:Nat):at_ (List.replicate n (-1)) v = -1:=by
 unfold at_
 rw[List.getElem?_replicate]
 split<;>rfl
theorem inv_start{N:Nat}{nb:Nat→List Nat}{goals:List Nat}(hg:∀ g∈goals,g<N):Inv N nb goals (mark (List.replicate N (-1)) goals) goals:=by
 have hat:∀ v,at_ (mark (List.replicate N (-1)) goals) v=if v∈goals then 0 else -1:=fun v=>by
  rw[at_mark _ _ _ (by simpa using hg),at_rep]
 refine⟨by simp[mark_len],fun v=>?_,fun v hv=>?_,?_,fun u hu v hv=>?_,fun u hu hn=>?_,fun u hu hn=>?_,fun v hv=>?_,fun v=>?_⟩
 ·rw[hat];split<;>omega
 ·rw[hat,if_pos hv];omega
 ·refine List.Pairwise.imp_of_mem (R:=fun _ _=>True) (fun ha hb _=>?_) (List.pairwise_of_forall (fun _ _=>trivial))
  rw[hat,if_pos ha,hat,if_pos hb];omega
 ·rw[hat,hat,if_pos hu,if_pos hv];omega
 ·rw[hat,if_neg hn] at hu;omega
 ·rw[hat,if_neg hn] at hu;omega
 ·rw[hat] at hv;split at hv<;>omega
 ·rw[hat];by_cases m:v∈goals<;>simp[m]
end PO
namespace PO
def Steps(nb:Nat→List Nat):Nat→Nat→Nat→Prop
 | 0,u,v=>u=v
 | n+1,u,v=>∃ m,m∈nb u∧Steps nb n m v
theorem Steps.snoc{nb:Nat→List Nat}:∀ {n u m v:Nat},Steps nb n u m→v∈nb m→Steps nb (n+1) u v
 | 0,u,m,v,h,hv=>by
  have h:u=m:=h
  subst h
  exact⟨v,hv,rfl⟩
 | n+1,u,m,v,⟨x,hx,h⟩,hv=>⟨x,hx,Steps.snoc h hv⟩
theorem Steps.symm{nb:Nat→List Nat}(hs:∀ u v,v∈nb u→u∈nb v):∀ {n u v:Nat},Steps nb n u v→Steps nb n v u
 | 0,u,v,h=>by
  have h:u=v:=h
  exact h.symm
 | n+1,u,v,⟨x,hx,h⟩=>(Steps.symm hs h).snoc (hs u x hx)
theorem Steps.mono{nb nb':Nat→List Nat}(hs:∀ u v,v∈nb u→v∈nb' u):∀ {n u v:Nat},Steps nb n u v→Steps nb' n u v
 | 0,_,_,h=>h
 | _+1,u,_,⟨x,hx,h⟩=>⟨x,hs u x hx,Steps.mono hs h⟩
theorem Steps.trans{nb:Nat→List Nat}:∀ {n m u x v:Nat},Steps nb n u x→Steps nb m x v→∃ k,Steps nb k u v
 | 0,m,u,x,v,h,h2=>by
  have h:u=x:=h
  subst h
  exact⟨m,h2⟩
 | n+1,m,u,x,v,⟨y,hy,h⟩,h2=>by
  obtain⟨k,hk⟩:=Steps.trans h h2
  exact⟨k+1,y,hy,hk⟩
theorem Dist.le{N:Nat}{nb:Nat→List Nat}{goals:List Nat}{out:List Int}(h:Dist N nb goals out):∀ {n u v:Nat},0≤at_ out u→Steps nb n u v→0≤at_ out v∧at_ out v≤at_ out u+n
 | 0,u,v,hu,hs=>by
  have hs:u=v:=hs
  subst hs
  omega
 | n+1,u,v,hu,⟨x,hx,hs⟩=>by
  have h1:=h.edge u hu x hx
  have h2:=Dist.le h h1.1 hs
  omega
theorem Dist.path{N:Nat}{nb:Nat→List Nat}{goals:List Nat}{out:List Int}(h:Dist N nb goals out):∀ (k v:Nat),at_ out v=k→∃ g,g∈goals∧Steps nb k g v
 | 0,v,hk=>⟨v,(h.zero v).1 hk,rfl⟩
 | k+1,v,hk=>by
  obtain⟨u,hu,h0,e⟩:=h.pred v (by omega)
  obtain⟨g,hg,hs⟩:=Dist.path h k u (by omega)
  exact⟨g,hg,hs.snoc hu⟩
end PO
def nm(letter:List UInt8)(k:Nat):ByteArray:=⟨(letter++[48+UInt8.ofNat (k / 10),48+UInt8.ofNat (k % 10)]).toArray⟩
structure Node where
 name:ByteArray
 cust:Int
 comp:Int
structure Dev where
 name:ByteArray
 kind:Int
 a:Int
 b:Int
 comp:Int
def letter(kind:Nat):List UInt8:=match kind with|1=>[76]|2=>[81]|3=>[68]|4=>[69]|5=>[83]|6=>[71]|_=>[]
def cls:List (Int×Int×Bool):=[(65,90,true),(97,122,true),(48,57,false),(95,95,false)]
def Y8(b:Int)(first:Bool):List (Int×Int×Bool)→Bool
 | []=>false
 | (f,t,x)::r=>if f≤b∧b≤t then x||!first else Y8 b first r
def fitsB(b:Int)(first:Bool):Bool:=Y8 b first cls
def okBytes:List UInt8→Bool→Bool
 | [],_=>true
 | c::r,f=>fitsB (c.toNat:Int) f&&okBytes r false
def YP(s:ByteArray):Bool:=okBytes s.data.toList true&&decide (1≤s.size)&&decide (s.size≤12)
theorem okBytes_drop(s:ByteArray)(k:Nat)(f:Bool)(h:k<s.size):okBytes (s.data.toList.drop k) f=(fitsB (s[k].toNat:Int) f&&okBytes (s.data.toList.drop (k+1)) false):=by
 rw[List.drop_eq_getElem_cons (by simpa using h)]
 rfl
theorem nameB_size{s:ByteArray}(h:YP s=true):1≤s.size∧s.size≤12:=by
 unfold YP at h
 simp only[Bool.and_eq_true,decide_eq_true_eq] at h
 exact⟨h.1.2,h.2⟩
def idx(p:Int→Bool):List Int→Nat→Int
 | [],_ => -1
 | x::xs,k=>if p x then k else idx p xs (k+1)
theorem set_tail{α:Type}(vs:List α)(k m:Nat)(z v:α)(h:vs.length=k)(hm:0<m):(vs++List.replicate m z).set k v=(vs++[v])++List.replicate (m - 1) z:=by
 subst h
 obtain⟨m,rfl⟩:∃ m',m=m'+1:=⟨m - 1,by omega⟩
 rw[List.set_append_right _ _ (Nat.le_refl _),Nat.sub_self,List.replicate_succ,List.set_cons_zero]
 simp
def Zu(k:Int):Bool:=decide (1≤k)&&decide (k≤3)
def Xs(n:Int):Bool:=decide (0≤n)&&decide (n≤7)
def Y9(d:Dev)(n:Int):Bool:=decide (0≤d.a)&&decide (d.a<n)&&(if Zu d.kind then decide (0≤d.b)&&decide (d.b<n)&&(d.b != d.a) else (d.b == -1))
def nodeErr(x:Node)(used:List (List UInt8)):Int :=
 if YP x.name=false then 3 else if x.name.data.toList∈used then 4 else if x.cust<0∨1048576<x.cust∨Xs x.comp=false then 5 else 0
def devErr(n:Int)(d:Dev)(used:List (List UInt8)):Int :=
 if YP d.name=false then 3 else if d.name.data.toList∈used then 4 else if d.kind<1∨6<d.kind then 6 else if Y9 d n=false then 7 else if Xs d.comp=false then 5 else 0
def chkD(n:Int):List Dev→List (List UInt8)→Int
 | [],_=>0
 | d::ds,u=>if devErr n d u=0 then chkD n ds (d.name.data.toList::u) else devErr n d u
def chkN(n:Int)(ds:List Dev):List Node→List (List UInt8)→Int
 | [],u=>chkD n ds u
 | x::xs,u=>if nodeErr x u=0 then chkN n ds xs (x.name.data.toList::u) else nodeErr x u
def Zk(ns:List Node)(ds:List Dev):Int:=if 32<ns.length∨64<ds.length then 1 else chkN ns.length ds ns []
def ZO(d:Dev)(v:Int):Int:=if Zu d.kind=false then -1 else if d.a==v then d.b else if d.b==v then d.a else -1
def nbZ(zs:List (Dev×Bool))(v:Nat):List Nat:=zs.filterMap (fun z=>if 0≤ZO z.1 v∧z.2=true then some (ZO z.1 v).toNat else none)
def nats(xs:List Nat):List Int:=xs.map (fun (x:Nat)=>(x:Int))
theorem nats_len(xs:List Nat):(nats xs).length=xs.length:=by simp[nats]
theorem at_get{out:List Int}{v:Nat}(h:v<out.length):PO.at_ out v=out[v]:=by simp[PO.at_,h]
theorem nbZ_drop(zs:List (Dev×Bool))(v m:Nat)(h:m<zs.length):nbZ (zs.drop m) v=if 0≤ZO zs[m].1 v∧zs[m].2=true then (ZO zs[m].1 v).toNat::nbZ (zs.drop (m+1)) v else nbZ (zs.drop (m+1)) v:=by
 rw[List.drop_eq_getElem_cons h]
 unfold nbZ
 rw[List.filterMap_cons]
 by_cases c:0≤ZO zs[m].1 v∧zs[m].2=true
 ·simp only[if_pos c]
 ·simp only[if_neg c]
theorem negs_le(out:List Int):PO.negs out≤out.length:=List.countP_le_length
structure DevsIn(n:Nat)(ds:List Dev):Prop where
 few:n≤32
 dev:ds.length≤64
 ends:∀ d∈ds,1≤d.kind∧d.kind≤6∧Y9 d n=true
theorem devErr_zero{n:Int}{d:Dev}{u:List (List UInt8)}(h:devErr n d u=0):1≤d.kind∧d.kind≤6∧Y9 d n=true:=by
 unfold devErr at h
 split at h
 ·cases h
 ·split at h
  ·cases h
  ·split at h
   ·cases h
   ·split at h
    ·cases h
    ·rename_i h3 h4
     exact⟨by omega,by omega,by simpa using h4⟩
theorem chkD_zero{n:Int}:∀ {ds:List Dev} {u:List (List UInt8)},chkD n ds u=0→∀ d∈ds,1≤d.kind∧d.kind≤6∧Y9 d n=true
 | [],_,_=>by simp
 | d::ds,u,h=>by
  simp only[chkD] at h
  split at h
  ·rename_i h0
   intro x hx
   rcases List.mem_cons.1 hx with rfl|hx
   ·exact devErr_zero h0
   ·exact chkD_zero h x hx
  ·rename_i h0
   exact absurd h h0
theorem chkN_zero{n:Int}{ds:List Dev}:∀ {xs:List Node} {u:List (List UInt8)},chkN n ds xs u=0→∃ u',chkD n ds u'=0
 | [],u,h=>⟨u,h⟩
 | x::xs,u,h=>by
  simp only[chkN] at h
  split at h
  ·exact chkN_zero h
  ·rename_i h0
   exact absurd h h0
theorem ZM{ns:List Node}{ds:List Dev}(h:Zk ns ds=0):DevsIn ns.length ds:=by
 unfold Zk at h
 split at h
 ·cases h
 ·rename_i hl
  obtain⟨u,hu⟩:=chkN_zero h
  exact⟨by omega,by omega,chkD_zero hu⟩
theorem Y0{d:Dev}{n:Nat}(h:Y9 d n=true):0≤d.a∧d.a<n∧(Zu d.kind=true→0≤d.b∧d.b<n∧d.b≠d.a)∧(Zu d.kind=false→d.b = -1):=by
 unfold Y9 at h
 simp only[Bool.and_eq_true,decide_eq_true_eq] at h
 refine⟨h.1.1,h.1.2,fun hj=>?_,fun hj=>?_⟩
 ·have:=h.2
  rw[if_pos hj] at this
  simp at this
  exact⟨this.1.1,this.1.2,this.2⟩
 ·have:=h.2
  rw[if_neg (by simp[hj])] at this
  simpa using this
theorem across_lt{n:Nat}{d:Dev}(h:Y9 d n=true)(hn:1≤n)(v:Int):ZO d v<n:=by
 obtain⟨h1,h2,h3,_⟩:=Y0 h
 unfold ZO
 split
 ·omega
 ·rename_i hj
  have:=h3 (by simpa using hj)
  split
  ·omega
  ·split<;>omega
theorem across_back{n:Nat}{d:Dev}(h:Y9 d n=true){u v:Nat}(he:ZO d u=v):ZO d v=u:=by
 obtain⟨h1,h2,h3,_⟩:=Y0 h
 unfold ZO at he ⊢
 split at he
 ·omega
 ·rename_i hj
  rw[if_neg hj]
  have:=h3 (by simpa using hj)
  split at he
  ·rename_i ha
   have ha:d.a=u:=by simpa using ha
   have hb:d.b=v:=he
   rw[if_neg (by simp;omega),if_pos (by simp[hb]),ha]
  ·split at he
   ·rename_i hb
    have hb:d.b=u:=by simpa using hb
    rw[if_pos (by simp[he]),hb]
   ·omega
theorem mem_nbZ{zs:List (Dev×Bool)}{u v:Nat}:v∈nbZ zs u↔∃ d,(d,true)∈zs∧ZO d u=v:=by
 unfold nbZ
 rw[List.mem_filterMap]
 constructor
 ·rintro⟨⟨d,b⟩,hz,h⟩
  split at h
  ·rename_i hc
   injection h with h
   obtain⟨h0,hb⟩:=hc
   simp only at h0 hb h
   subst hb
   exact⟨d,hz,by omega⟩
  ·cases h
 ·rintro⟨d,hz,h⟩
  exact⟨(d,true),hz,by simp[h]⟩
theorem nbZ_symm{n:Nat}{ds:List Dev}(h:DevsIn n ds)(use:List Bool)(u v:Nat)(hv:v∈nbZ (ds.zip use) u):u∈nbZ (ds.zip use) v:=by
 obtain⟨d,hz,he⟩:=mem_nbZ.1 hv
 exact mem_nbZ.2 ⟨d,hz,across_back (h.ends d (List.of_mem_zip hz).1).2.2 he⟩
theorem nbZ_lt{n:Nat}{ds:List Dev}(h:DevsIn n ds)(hn:1≤n)(use:List Bool)(u v:Nat)(hv:v∈nbZ (ds.zip use) u):v<n:=by
 obtain⟨d,hz,he⟩:=mem_nbZ.1 hv
 have:=across_lt (h.ends d (List.of_mem_zip hz).1).2.2 hn u
 omega
def Yj(oc:List Int):List Bool:=oc.map (fun x=>decide (0≤x))
theorem Xl(oc:List Int):(Yj oc).length=oc.length:=by simp[Yj]
theorem marks_at(oc:List Int)(u:Nat)(h:u<(Yj oc).length):(Yj oc)[u]=decide (0≤PO.at_ oc u):=by
 rw[Xl] at h
 simp[Yj,PO.at_,h]
theorem marks_set(oc:List Int)(u:Nat)(x:Int)(hx:0≤x):(Yj oc).set u true=Yj (oc.set u x):=by
 unfold Yj
 rw[List.map_set,decide_eq_true hx]
theorem marks_rep(n:Nat):Yj (List.replicate n (-1))=List.replicate n false:=by simp[Yj]
def YF(st:List Int):List Bool:=st.map (fun p=>p==2)
def Xh(n:Nat)(ds:List Dev)(st:List Int)(gs:List Nat):List Int:=PO.bfs (nbZ (ds.zip (YF st))) (PO.negs (PO.mark (List.replicate n (-1)) gs)+gs.length) (PO.mark (List.replicate n (-1)) gs) gs
structure QOn(n:Nat)(out:List Int)(q:List Nat):Prop where
 len:out.length=n
 mem:∀ u∈q,u<n∧0≤PO.at_ out u
theorem QOn.step{n:Nat}{out:List Int}{q:List Nat}(h:QOn n out q){v u:Nat}(hv:0≤PO.at_ out v)(hu:u<n)(hn:PO.at_ out u<0):QOn n (out.set u (PO.at_ out v+1)) (q++[u])∧PO.negs (out.set u (PO.at_ out v+1))+1=PO.negs out∧PO.at_ (out.set u (PO.at_ out v+1)) v=PO.at_ out v:=by
 have hne:u≠v:=fun e=>by rw[e] at hn;omega
 have hng:=PO.negs_set (x:=PO.at_ out v+1) (by rw[h.len];exact hu) hn (by omega)
 refine⟨⟨by simp[h.len],fun x hx=>?_⟩,hng,by rw[PO.at_set,if_neg (by omega)]⟩
 rcases List.mem_append.1 hx with hx|hx
 ·refine⟨(h.mem x hx).1,?_⟩
  rw[PO.at_set]
  split
  ·omega
  ·exact (h.mem x hx).2
 ·obtain rfl:x=u:=by simpa using hx
  refine⟨hu,?_⟩
  rw[PO.at_set,if_pos ⟨rfl,by rw[h.len];exact hu⟩];omega
theorem start_n(n:Nat)(gs:List Nat)(hg:∀ g∈gs,g<n):QOn n (PO.mark (List.replicate n (-1)) gs) gs:=by
 refine⟨by rw[PO.mark_len];simp,fun u hu=>⟨hg u hu,?_⟩⟩
 rw[PO.at_mark _ _ _ (by simpa using hg),if_pos hu];omega
def fillP:List Int→List Bool→Int→List Int
 | o::os,b::bs,v=>(if b then v else o)::fillP os bs v
 | os,_,_=>os
def partStep(n:Nat)(ds:List Dev)(st:List Int)(out:List Int)(v:Nat):List Int:=if 0≤PO.at_ out v then out else fillP out (Yj (Xh n ds st [v])) v
def Z6(n:Nat)(ds:List Dev)(st:List Int)(k:Nat):List Int:=(List.range k).foldl (partStep n ds st) (List.replicate n (-1))
def partsL(n:Nat)(ds:List Dev)(st:List Int):List Int:=Z6 n ds st n
theorem partsTo_succ(n:Nat)(ds:List Dev)(st:List Int)(k:Nat):Z6 n ds st (k+1)=partStep n ds st (Z6 n ds st k) k:=by
 unfold Z6
 rw[List.range_succ,List.foldl_append]
 rfl
theorem fillP_len:∀ (out:List Int) (bs:List Bool) (v:Int),(fillP out bs v).length=out.length
 | [],_,_=>by simp[fillP]
 | _::_,[],_=>by simp[fillP]
 | _::os,_::bs,v=>by simp[fillP,fillP_len os bs v]
theorem fillP_at:∀ (out:List Int) (bs:List Bool) (v:Int) (i:Nat) (h1:i<out.length) (h2:i<bs.length),(fillP out bs v)[i]'(by rw[fillP_len];exact h1)=if bs[i] then v else out[i]
 | [],_,_,i,h1,_=>by simp at h1
 | _::_,[],_,i,_,h2=>by simp at h2
 | o::os,b::bs,v,0,_,_=>by simp[fillP]
 | o::os,b::bs,v,i+1,h1,h2=>by simp[fillP];exact fillP_at os bs v i (by simpa using h1) (by simpa using h2)
theorem partStep_len(n:Nat)(ds:List Dev)(st:List Int)(out:List Int)(v:Nat):(partStep n ds st out v).length=out.length:=by
 unfold partStep
 split
 ·rfl
 ·exact fillP_len _ _ _
theorem partsTo_len(n:Nat)(ds:List Dev)(st:List Int):∀ k,(Z6 n ds st k).length=n
 | 0=>by simp[Z6]
 | k+1=>by rw[partsTo_succ,partStep_len,partsTo_len n ds st k]
def colV(l e:Bool):Int:=(if l then 1 else 0)+(if e then 2 else 0)
def liveZ(ps:List Int)(p:Int)(z:Dev×Int):Bool:=(z.2==2)&&((z.1.kind==5)||(z.1.kind==6))&&(PO.at_ ps z.1.a.toNat==p)
def Xt(ps:List Int)(p:Int)(z:Dev×Int):Bool:=(z.2==2)&&(z.1.kind==4)&&(PO.at_ ps z.1.a.toNat==p)
def Z8(ps:List Int)(zs:List (Dev×Int))(p:Int):Int:=colV (zs.any (liveZ ps p)) (zs.any (Xt ps p))
def colL(ds:List Dev)(st ps:List Int):List Int:=ps.map (Z8 ps (ds.zip st))
theorem bits_snoc(ps:List Int)(zs:List (Dev×Int))(z:Dev×Int)(p:Int):Z8 ps (zs++[z]) p=colV (zs.any (liveZ ps p)||liveZ ps p z) (zs.any (Xt ps p)||Xt ps p z):=by
 unfold Z8
 rw[List.any_append,List.any_append]
 simp
theorem bits_not(ps:List Int)(zs:List (Dev×Int))(z:Dev×Int)(h:((z.2==2)&&((z.1.kind==4)||(z.1.kind==5)||(z.1.kind==6)))=false):Z8 ps (zs++[z])=Z8 ps zs:=by
 funext p
 rw[bits_snoc]
 have h1:liveZ ps p z=false:=by
  unfold liveZ
  cases h2:(z.2==2)<;>cases h4:(z.1.kind==4)<;>cases h5:(z.1.kind==5)<;>cases h6:(z.1.kind==6)<;>simp_all
 have h2:Xt ps p z=false:=by
  unfold Xt
  cases h2:(z.2==2)<;>cases h4:(z.1.kind==4)<;>cases h5:(z.1.kind==5)<;>cases h6:(z.1.kind==6)<;>simp_all
 rw[h1,h2,Bool.or_false,Bool.or_false]
 rfl
theorem bits_cases(ps:List Int)(zs:List (Dev×Int))(p:Int):Z8 ps zs p=0∨Z8 ps zs p=1∨Z8 ps zs p=2∨Z8 ps zs p=3:=by
 unfold Z8
 cases zs.any (liveZ ps p)<;>cases zs.any (Xt ps p)<;>decide
def orE(x:Int):Int:=if x=0 then 2 else if x=1 then 3 else x
def orL(x:Int):Int:=if x=0 then 1 else if x=2 then 3 else x
theorem bits_earth(ps:List Int)(zs:List (Dev×Int))(z:Dev×Int)(h2:z.2=2)(hk:z.1.kind=4):Z8 ps (zs++[z])=fun q=>if q=PO.at_ ps z.1.a.toNat then orE (Z8 ps zs q) else Z8 ps zs q:=by
 funext q
 rw[bits_snoc]
 have h1:liveZ ps q z=false:=by simp[liveZ,hk]
 rw[h1,Bool.or_false]
 by_cases hq:q=PO.at_ ps z.1.a.toNat
 ·rw[if_pos hq]
  have h3:Xt ps q z=true:=by simp[Xt,h2,hk,hq]
  rw[h3,Bool.or_true]
  unfold Z8 orE
  cases zs.any (liveZ ps q)<;>cases zs.any (Xt ps q)<;>decide
 ·rw[if_neg hq]
  have h3:Xt ps q z=false:=by simp[Xt,h2,hk];omega
  rw[h3,Bool.or_false];rfl
theorem bits_live(ps:List Int)(zs:List (Dev×Int))(z:Dev×Int)(h2:z.2=2)(hk:z.1.kind=5∨z.1.kind=6):Z8 ps (zs++[z])=fun q=>if q=PO.at_ ps z.1.a.toNat then orL (Z8 ps zs q) else Z8 ps zs q:=by
 funext q
 rw[bits_snoc]
 have h1:Xt ps q z=false:=by rcases hk with hk|hk<;>simp[Xt,hk]
 rw[h1,Bool.or_false]
 by_cases hq:q=PO.at_ ps z.1.a.toNat
 ·rw[if_pos hq]
  have h3:liveZ ps q z=true:=by rcases hk with hk|hk<;>simp[liveZ,h2,hk,hq]
  rw[h3,Bool.or_true]
  unfold Z8 orL
  cases zs.any (liveZ ps q)<;>cases zs.any (Xt ps q)<;>decide
 ·rw[if_neg hq]
  have h3:liveZ ps q z=false:=by rcases hk with hk|hk<;>(simp[liveZ,h2,hk];omega)
  rw[h3,Bool.or_false];rfl
def nbS(ds:List Dev)(st:List Int):Nat→List Nat:=nbZ (ds.zip (YF st))
def Rch(ds:List Dev)(st:List Int)(u v:Nat):Prop:=∃ k,PO.Steps (nbS ds st) k u v
theorem Rch.refl(ds:List Dev)(st:List Int)(u:Nat):Rch ds st u u:=⟨0,rfl⟩
theorem Rch.trans{ds:List Dev}{st:List Int}{u v x:Nat}(h:Rch ds st u v)(k:Rch ds st v x):Rch ds st u x:=by
 obtain⟨a,h⟩:=h
 obtain⟨b,k⟩:=k
 exact h.trans k
theorem Rch.symm{n:Nat}{ds:List Dev}{st:List Int}(hD:DevsIn n ds){u v:Nat}(h:Rch ds st u v):Rch ds st v u:=by
 obtain⟨a,h⟩:=h
 exact⟨a,h.symm (nbZ_symm hD _)⟩
theorem flood_dist{n:Nat}{ds:List Dev}(h:DevsIn n ds)(st:List Int)(v:Nat)(hv:v<n):PO.Dist n (nbS ds st) [v] (Xh n ds st [v]) :=
 (PO.inv_bfs (fun u w hw=>nbZ_lt h (by omega) _ u w hw) _ _ _ (PO.inv_start (fun g hm=>(List.mem_singleton.1 hm)▸hv)) (Nat.le_refl _)).dist
theorem flood_rch{n:Nat}{ds:List Dev}(h:DevsIn n ds)(st:List Int)(v:Nat)(hv:v<n)(u:Nat):0≤PO.at_ (Xh n ds st [v]) u↔Rch ds st v u:=by
 have D:=flood_dist h st v hv
 constructor
 ·intro h0
  obtain⟨g,hg,hs⟩:=D.path (PO.at_ (Xh n ds st [v]) u).toNat u (by omega)
  obtain rfl:g=v:=by simpa using hg
  exact⟨_,hs⟩
 ·rintro⟨k,hk⟩
  exact (D.le (u:=v) (by rw[(D.zero v).2 (by simp)];omega) hk).1
def Least(ds:List Dev)(st:List Int)(v u:Nat):Prop:=Rch ds st v u∧∀ x,x<v→¬ Rch ds st x u
theorem at_fill{out:List Int}{bs:List Bool}{v:Int}{u:Nat}(h1:u<out.length)(h2:u<bs.length):PO.at_ (fillP out bs v) u=if bs[u] then v else PO.at_ out u:=by
 rw[at_get (by rw[fillP_len];exact h1),fillP_at out bs v u h1 h2,at_get h1]
theorem partsTo_inv{n:Nat}{ds:List Dev}(h:DevsIn n ds)(st:List Int):∀ k,k≤n→∀ u,u<n →
  (PO.at_ (Z6 n ds st k) u = -1∧∀ v,v<k→¬ Rch ds st v u)∨∃ v:Nat,v<k∧PO.at_ (Z6 n ds st k) u=v∧Least ds st v u
 | 0,_,u,_=>.inl ⟨by show PO.at_ (List.replicate n (-1)) u = -1;exact PO.at_rep n u,fun v hv=>by omega⟩
 | k+1,hk,u,hu=>by
  have ih:=partsTo_inv h st k (by omega)
  rw[partsTo_succ]
  unfold partStep
  by_cases hge:0≤PO.at_ (Z6 n ds st k) k
  ·rw[if_pos hge]
   rcases ih k (by omega) with⟨e,_⟩|⟨x,hx,_,hL⟩
   ·omega
   ·rcases ih u hu with⟨e,hn⟩|⟨v,hv,e,hl⟩
    ·refine .inl ⟨e,fun v hv hr=>?_⟩
     by_cases hvk:v=k
     ·subst hvk;exact hn x hx (hL.1.trans hr)
     ·exact hn v (by omega) hr
    ·exact .inr ⟨v,by omega,e,hl⟩
  ·rw[if_neg hge]
   have hnk:∀ v,v<k→¬ Rch ds st v k:=by
    rcases ih k (by omega) with⟨_,hn⟩|⟨x,_,e,_⟩
    ·exact hn
    ·omega
   have hml:u<(Yj (Xh n ds st [k])).length:=by rw[Xl,(flood_dist h st k (by omega)).len];exact hu
   rw[at_fill (by rw[partsTo_len];exact hu) hml,marks_at]
   by_cases hr:Rch ds st k u
   ·have:=(flood_rch h st k (by omega) u).2 hr
    rw[decide_eq_true this]
    exact .inr ⟨k,by omega,rfl,hr,fun v hv hv2=>hnk v hv (hv2.trans (hr.symm h))⟩
   ·have:¬ 0≤PO.at_ (Xh n ds st [k]) u:=fun h0=>hr ((flood_rch h st k (by omega) u).1 h0)
    rw[decide_eq_false this]
    rcases ih u hu with⟨e,hn⟩|⟨v,hv,e,hl⟩
    ·refine .inl ⟨e,fun v hv hr2=>?_⟩
     by_cases hvk:v=k
     ·subst hvk;exact hr hr2
     ·exact hn v (by omega) hr2
    ·exact .inr ⟨v,by omega,e,hl⟩
theorem parts_least{n:Nat}{ds:List Dev}(h:DevsIn n ds)(st:List Int)(u:Nat)(hu:u<n):∃ v:Nat,v≤u∧PO.at_ (partsL n ds st) u=v∧Least ds st v u:=by
 rcases partsTo_inv h st n (Nat.le_refl _) u hu with⟨_,hn⟩|⟨v,_,e,hl⟩
 ·exact absurd (Rch.refl ds st u) (hn u hu)
 ·refine⟨v,?_,e,hl⟩
  by_cases hv:v≤u
  ·exact hv
  ·exact absurd (Rch.refl ds st u) (hl.2 u (by omega))
theorem Yd(n:Nat)(ds:List Dev)(st:List Int):(partsL n ds st).length=n:=partsTo_len n ds st n
theorem parts_bound{n:Nat}{ds:List Dev}(h:DevsIn n ds)(hn:n≤32)(st:List Int):∀ p∈partsL n ds st,0≤p∧p<32:=by
 intro p hp
 obtain⟨u,hu,rfl⟩:=List.getElem_of_mem hp
 have hu':u<n:=by rw[Yd] at hu;exact hu
 obtain⟨v,hv,e,_⟩:=parts_least h st u hu'
 rw[at_get hu] at e
 omega
theorem parts_iff{n:Nat}{ds:List Dev}(h:DevsIn n ds)(st:List Int){u x:Nat}(hu:u<n)(hx:x<n):PO.at_ (partsL n ds st) u=PO.at_ (partsL n ds st) x↔Rch ds st u x:=by
 obtain⟨a,_,ea,ha⟩:=parts_least h st u hu
 obtain⟨b,_,eb,hb⟩:=parts_least h st x hx
 constructor
 ·intro e
  obtain rfl:a=b:=by omega
  exact (ha.1.symm h).trans hb.1
 ·intro hr
  have h1:¬ a<b:=fun hl=>hb.2 a hl (ha.1.trans hr)
  have h2:¬ b<a:=fun hl=>ha.2 b hl (hb.1.trans (hr.symm h))
  omega
theorem DevsIn.first{n:Nat}{ds:List Dev}(h:DevsIn n ds):∀ d∈ds,0≤d.a∧d.a<n:=fun d hd=>by
 have:=Y0 (h.ends d hd).2.2
 exact⟨this.1,this.2.1⟩
def flt:List Int→Nat→List Int
 | [],_=>[]
 | x::xs,k=>if x=3 then (k:Int)::flt xs (k+1) else flt xs (k+1)
def isSrc(d:Dev):Bool:=(d.kind==5)||(d.kind==6)
theorem colL_len(ds:List Dev)(st ps:List Int):(colL ds st ps).length=ps.length:=by simp[colL]
def Up(st st':List Int):Prop:=st.length=st'.length∧∀ j:Nat,st[j]? = some 2→st'[j]? = some 2
theorem mem_nbS{ds:List Dev}{st:List Int}{u v:Nat}:v∈nbS ds st u↔∃ (j:Nat) (d:Dev),ds[j]? = some d∧st[j]? = some 2∧ZO d u=v:=by
 unfold nbS
 rw[mem_nbZ]
 constructor
 ·rintro⟨d,hm,he⟩
  obtain⟨j,hj,e⟩:=List.getElem_of_mem hm
  rw[List.getElem_zip] at e
  simp only[Prod.mk.injEq] at e
  have h1:j<ds.length:=by simp at hj;omega
  have h2:j<st.length:=by simp[YF] at hj;omega
  refine⟨j,d,by rw[List.getElem?_eq_getElem h1,e.1],?_,he⟩
  have:=e.2
  simp[YF] at this
  rw[List.getElem?_eq_getElem h2,this]
 ·rintro⟨j,d,h1,h2,he⟩
  refine⟨d,?_,he⟩
  obtain⟨l1,e1⟩:=List.getElem?_eq_some_iff.1 h1
  obtain⟨l2,e2⟩:=List.getElem?_eq_some_iff.1 h2
  have hl:j<(ds.zip (YF st)).length:=by simp[YF];omega
  have:(ds.zip (YF st))[j]=(d,true):=by rw[List.getElem_zip];simp[YF,e1,e2]
  rw[← this]
  exact List.getElem_mem hl
theorem Up.rch{ds:List Dev}{st st':List Int}(h:Up st st'){u v:Nat}(hr:Rch ds st u v):Rch ds st' u v:=by
 obtain⟨k,hk⟩:=hr
 refine⟨k,hk.mono (fun a b hb=>?_)⟩
 obtain⟨j,d,h1,h2,he⟩:=mem_nbS.1 hb
 exact mem_nbS.2 ⟨j,d,h1,h.2 j h2,he⟩
def kindZ(K:Dev→Bool)(ps:List Int)(p:Int)(z:Dev×Int):Bool:=(z.2==2)&&K z.1&&(PO.at_ ps z.1.a.toNat==p)
theorem any_kind{K:Dev→Bool}{ds:List Dev}{st ps:List Int}{p:Int}:(ds.zip st).any (kindZ K ps p)=true↔∃ (j:Nat) (d:Dev),ds[j]? = some d∧st[j]? = some 2∧K d=true∧PO.at_ ps d.a.toNat=p:=by
 rw[List.any_eq_true]
 constructor
 ·rintro⟨z,hm,hz⟩
  obtain⟨j,hj,e⟩:=List.getElem_of_mem hm
  rw[List.getElem_zip] at e
  have h1:j<ds.length:=by simp at hj;omega
  have h2:j<st.length:=by simp at hj;omega
  subst e
  simp only[kindZ,Bool.and_eq_true,beq_iff_eq] at hz
  exact⟨j,ds[j],List.getElem?_eq_getElem h1,by rw[List.getElem?_eq_getElem h2,hz.1.1],hz.1.2,hz.2⟩
 ·rintro⟨j,d,h1,h2,hK,hp⟩
  obtain⟨l1,e1⟩:=List.getElem?_eq_some_iff.1 h1
  obtain⟨l2,e2⟩:=List.getElem?_eq_some_iff.1 h2
  have hl:j<(ds.zip st).length:=by simp;omega
  refine⟨(ds.zip st)[j],List.getElem_mem hl,?_⟩
  rw[List.getElem_zip,e1,e2]
  simp[kindZ,hK,hp]
theorem up_set(st:List Int)(i:Nat):Up st (st.set i 2):=by
 refine⟨by simp,fun j hj=>?_⟩
 rw[List.getElem?_set]
 obtain⟨l,e⟩:=List.getElem?_eq_some_iff.1 hj
 split
 ·rename_i e2;subst e2;simp[l]
 ·exact hj
theorem edge_rch{ds:List Dev}{st:List Int}{u v:Nat}(h:v∈nbS ds st u):Rch ds st u v:=⟨1,v,h,rfl⟩
def supN(P:Nat→Bool):Nat→List Int
 | 0=>[]
 | k+1=>supN P k++(if P k then [(k:Int)] else [])
theorem Z3(P:Nat→Bool):∀ k,(supN P k).length≤k
 | 0=>Nat.le_refl _
 | k+1=>by
  have:=Z3 P k
  unfold supN
  split<;>simp<;>omega
theorem Yt(P:Nat→Bool):∀ (k:Nat) (v:Int),v∈supN P k↔∃ j:Nat,v=j∧j<k∧P j=true
 | 0,v=>by simp[supN]
 | k+1,v=>by
  have ih:=Yt P k v
  unfold supN
  rw[List.mem_append,ih]
  constructor
  ·rintro (⟨j,e,hj,hp⟩|h)
   ·exact⟨j,e,by omega,hp⟩
   ·split at h
    ·rename_i hp
     exact⟨k,by simpa using h,by omega,hp⟩
    ·simp at h
  ·rintro⟨j,rfl,hj,hp⟩
   by_cases e:j=k
   ·subst e
    right
    rw[if_pos hp]
    simp
   ·exact .inl ⟨j,rfl,by omega,hp⟩
theorem supN_filter(P Q:Nat→Bool)(n:Nat):∀ k,k≤n→(supN P k).filter (fun v=>!(supN Q n).contains v)=supN (fun v=>P v&&!Q v) k
 | 0,_=>rfl
 | k+1,hk=>by
  have ih:=supN_filter P Q n k (by omega)
  show (supN P k++(if P k then [(k:Int)] else [])).filter (fun v=>!(supN Q n).contains v)=supN (fun v=>P v&&!Q v) k++(if (P k&&!Q k)=true then [(k:Int)] else [])
  rw[List.filter_append,ih]
  congr 1
  by_cases hp:P k=true
  ·have hc:(supN Q n).contains (k:Int)=Q k:=by
    rw[Bool.eq_iff_iff,List.contains_iff_mem,Yt]
    constructor
    ·rintro⟨j,e,_,hq⟩
     obtain rfl:k=j:=by omega
     exact hq
    ·exact fun hq=>⟨k,rfl,by omega,hq⟩
   rw[if_pos hp]
   cases hq:Q k
   ·rw[hq] at hc
    rw[List.filter_cons_of_pos (by rw[hc];rfl),hp]
    rfl
   ·rw[hq] at hc
    rw[List.filter_cons_of_neg (by rw[hc];decide),hp]
    rfl
  ·have hp:P k=false:=by simpa using hp
   simp[hp]
def custAt(ns:List Node)(v:Int):Int:=((ns[v.toNat]?).map (·.cust)).getD 0
def custF(ns:List Node)(l:List Int):Int:=(l.map (custAt ns)).sum
theorem custF_snoc(ns:List Node)(l:List Int)(v:Int):custF ns (l++[v])=custF ns l+custAt ns v:=by simp[custF]
def suppB(ns:List Node)(ds:List Dev)(st:List Int)(v:Nat):Bool:=decide (0<custAt ns v)&&(PO.at_ (colL ds st (partsL ns.length ds st)) v==1)
def supL(ns:List Node)(ds:List Dev)(st:List Int):List Int:=supN (suppB ns ds st) ns.length
def lostL(a b:List Int):List Int:=a.filter (fun v=>!b.contains v)
theorem lost_sup(ns:List Node)(ds:List Dev)(s t:List Int):lostL (supL ns ds s) (supL ns ds t)=supN (fun v=>suppB ns ds s v&&!suppB ns ds t v) ns.length:=supN_filter _ _ _ _ (Nat.le_refl _)
theorem lostL_len(a b:List Int):(lostL a b).length≤a.length:=List.length_filter_le _ _
theorem supL_len(ns:List Node)(ds:List Dev)(st:List Int):(supL ns ds st).length≤ns.length:=Z3 _ _
theorem supL_in(ns:List Node)(ds:List Dev)(st:List Int):∀ v∈supL ns ds st,0≤v∧v<ns.length:=fun v hv=>by
 obtain⟨j,rfl,hj,_⟩:=(Yt _ _ _).1 hv
 omega
theorem lostL_in{a b:List Int}{n:Nat}(h:∀ v∈a,0≤v∧v<n):∀ v∈lostL a b,0≤v∧v<n:=fun v hv=>h v (List.mem_filter.1 hv).1
theorem nodeErr_zero{x:Node}{u:List (List UInt8)}(h:nodeErr x u=0):0≤x.cust∧x.cust≤1048576:=by
 unfold nodeErr at h
 split at h
 ·cases h
 ·split at h
  ·cases h
  ·split at h
   ·cases h
   ·rename_i h3
    omega
theorem chkN_cust{n:Int}{ds:List Dev}:∀ {xs:List Node} {u:List (List UInt8)},chkN n ds xs u=0→∀ x∈xs,0≤x.cust∧x.cust≤1048576
 | [],_,_=>by simp
 | x::xs,u,h=>by
  simp only[chkN] at h
  split at h
  ·rename_i h0
   intro y hy
   rcases List.mem_cons.1 hy with rfl|hy
   ·exact nodeErr_zero h0
   ·exact chkN_cust h y hy
  ·rename_i h0
   exact absurd h h0
theorem checkL_cust{ns:List Node}{ds:List Dev}(h:Zk ns ds=0):∀ x∈ns,0≤x.cust∧x.cust≤1048576:=by
 unfold Zk at h
 split at h
 ·cases h
 ·exact chkN_cust h
theorem custAt_bound{ns:List Node}(h:∀ x∈ns,0≤x.cust∧x.cust≤1048576)(v:Int):0≤custAt ns v∧custAt ns v≤1048576:=by
 unfold custAt
 cases e:ns[v.toNat]? with
 | none=>simp
 | some x=>exact h x (List.mem_of_getElem? e)
theorem custF_bound{ns:List Node}(h:∀ x∈ns,0≤x.cust∧x.cust≤1048576):∀ vs:List Int,0≤custF ns vs∧custF ns vs≤1048576*(vs.length:Int)
 | []=>by simp[custF]
 | v::vs=>by
  have:=custF_bound h vs
  have:=custAt_bound h v
  have e:custF ns (v::vs)=custAt ns v+custF ns vs:=by simp[custF]
  rw[e,List.length_cons]
  omega
def colF(n:Nat)(ds:List Dev)(s:List Int):List Int:=colL ds s (partsL n ds s)
theorem Y1(n:Nat)(ds:List Dev)(s:List Int):(colF n ds s).length=n:=by rw[colF,colL_len,Yd]
structure Lk where
 dev:Int
 pos:Int
 key:Int
deriving DecidableEq
def lidx(p:Lk→Bool):List Lk→Nat→Int
 | [],_ => -1
 | x::xs,k=>if p x then k else lidx p xs (k+1)
theorem lidx_any(p:Lk→Bool):∀ (xs:List Lk) (k:Nat),decide (0≤lidx p xs k)=xs.any p
 | [],k=>rfl
 | x::xs,k=>by
  rw[lidx,List.any_cons]
  cases h:p x
  ·simpa using lidx_any p xs (k+1)
  ·simp
def nbT(sp:Nat→Bool)(zs:List (Dev×Bool))(v:Nat):List Nat:=if sp v=true then [] else nbZ zs v
def Xi(n:Nat)(zs:List (Dev×Bool))(sp:Nat→Bool)(gs:List Nat):List Int:=PO.bfs (nbT sp zs) (PO.negs (PO.mark (List.replicate n (-1)) gs)+gs.length) (PO.mark (List.replicate n (-1)) gs) gs
def lkE(ds:List Dev)(x:Lk):Int :=
 if x.dev<0∨(ds.length:Int)≤x.dev then 8 else if (ds.map (·.kind)).getD x.dev.toNat 0=5 then 6 else if x.pos≠1∧x.pos≠2 then 10 else if x.key<0∨65536<x.key then 5 else 0
def Zx(d:Int):List Lk→Int×Bool
 | []=>(0,false)
 | x::xs=>if x.dev=d then (x.pos,true) else Zx d xs
def cmpI(a b:Int):Int:=if a<b then -1 else if b<a then 1 else 0
def orI:List Int→Int
 | []=>0
 | x::xs=>if x=0 then orI xs else x
def ordL(a b:Lk):Int:=orI [cmpI a.dev b.dev,cmpI a.key b.key]
def lkO(l:List Lk)(k:Nat)(x:Lk):Bool:=match k with
 | 0=>false
 | j+1=>match l[j]? with
  | some y=>decide (0≤ordL y x)
  | none=>false
theorem lkO_succ(l:List Lk)(j:Nat)(x:Lk)(h:j<l.length):lkO l (j+1) x=decide (0≤ordL l[j] x):=by
 simp[lkO,h]
def lkAt(ds:List Dev)(l:List Lk)(k:Nat)(x:Lk):Int :=
 if lkE ds x≠0 then lkE ds x else if lkO l k x=true then 14
 else if ((l.take k).any fun y=>y.dev==x.dev&&y.pos != x.pos)=true then 18 else if ((l.take k).any fun y=>y.key==x.key)=true then 4 else 0
def lkG(ds:List Dev)(l:List Lk):List Lk→Nat→Int
 | [],_=>0
 | x::xs,k=>if lkAt ds l k x≠0 then lkAt ds l k x else lkG ds l xs (k+1)
def ZF(ns:List Node)(ds:List Dev)(l:List Lk):Int:=if Zk ns ds≠0 then Zk ns ds else if 128<l.length then 1 else lkG ds l l 0
def gapB(k:Int):Bool:=(k==1)||(k==3)||(k==6)
def YG(p:Int→Bool)(pos:Int)(ds:List Dev)(l:List Lk)(i:Nat):Bool:=(Zx i l).2&&((Zx i l).1==pos)&&p ((ds.map (·.kind)).getD i 0)
def risG(u:Int):Int→List Int→Bool
 | _,[]=>true
 | y,x::xs=>if x≤y∨u≤x then false else risG u x xs
def usB(gl:List Int)(n:Nat):List Bool:=(List.range n).map (fun i:Nat=>!(gl.any (fun x=>(i:Int)==x)))
theorem usB_len(gl:List Int)(n:Nat):(usB gl n).length=n:=by simp[usB]
theorem usB_at(gl:List Int)(n i:Nat)(h:i<(usB gl n).length):(usB gl n)[i]=!(gl.any (fun x=>(i:Int)==x)):=by simp[usB]
def Zv(n:Nat)(ds:List Dev)(zs:List Nat)(gl:List Int):List Bool:=Yj (Xi n (ds.zip (usB gl ds.length)) (fun _=>false) zs)
def atB(r:List Bool)(d:Dev):Bool:=r.getD d.a.toNat false||(Zu d.kind&&r.getD d.b.toNat false)
def badB(r:List Bool)(gl:List Int)(i:Nat)(d:Dev):Bool:=((d.kind==5)||((d.kind==6)&&!(gl.any (fun x=>(i:Int)==x))))&&atB r d
def Xf(r:List Bool)(gl:List Int):List Dev→Nat→Bool
 | [],_=>true
 | d::ds,i=>if badB r gl i d=true then false else Xf r gl ds (i+1)
def enoughB(n:Nat)(ds:List Dev)(zs:List Nat)(gl:List Int):Bool:=Xf (Zv n ds zs gl) gl ds 0
def Y2(gl:List Int)(v:Nat):Bool:=gl.any (fun x=>(v:Int)==x)
def YW(n:Nat)(ds:List Dev)(v:Nat)(gl:List Int):List Bool:=Yj (Xi n (ds.zip (List.replicate ds.length true)) (Y2 gl) [v])
def srcB(r:List Bool)(gl:List Int)(d:Dev):Bool:=((d.kind==5)||(d.kind==6))&&(r.getD d.a.toNat false&&!(Y2 gl d.a.toNat))
def protB(n:Nat)(ds:List Dev)(v:Nat)(gl:List Int):Bool:=!(ds.any (srcB (YW n ds v gl) gl))&&gl.any (fun x=>(YW n ds v gl).getD x.toNat false)
def KindAt(K:Dev→Bool)(ds:List Dev)(st:List Int)(v:Nat):Prop:=∃ (j:Nat) (d:Dev),ds[j]? = some d∧st[j]? = some 2∧K d=true∧Rch ds st v d.a.toNat
theorem kind_iff{n:Nat}{ds:List Dev}(hD:DevsIn n ds)(K:Dev→Bool)(st:List Int){v:Nat}(hv:v<n):(ds.zip st).any (kindZ K (partsL n ds st) (PO.at_ (partsL n ds st) v))=true↔KindAt K ds st v:=by
 rw[any_kind]
 constructor
 ·rintro⟨j,d,h1,h2,h3,h4⟩
  have hd:=hD.first d (List.mem_of_getElem? h1)
  exact⟨j,d,h1,h2,h3,((parts_iff hD st (by omega) hv).1 h4).symm hD⟩
 ·rintro⟨j,d,h1,h2,h3,h4⟩
  have hd:=hD.first d (List.mem_of_getElem? h1)
  exact⟨j,d,h1,h2,h3,(parts_iff hD st (by omega) hv).2 (h4.symm hD)⟩
def isEarK(d:Dev):Bool:=d.kind==4
theorem col_bits{n:Nat}{ds:List Dev}(hD:DevsIn n ds)(st:List Int){v:Nat}(hv:v<n):∃ l e:Bool,PO.at_ (colL ds st (partsL n ds st)) v=colV l e∧(l=true↔KindAt isSrc ds st v)∧(e=true↔KindAt isEarK ds st v):=by
 have h1:=Yd n ds st
 rw[at_get (by rw[colL_len,h1];exact hv)]
 simp only[colL,List.getElem_map,Z8]
 have e1:(partsL n ds st)[v]'(by omega)=PO.at_ (partsL n ds st) v:=(at_get (by omega)).symm
 rw[e1]
 exact⟨_,_,rfl,kind_iff hD isSrc st hv,kind_iff hD isEarK st hv⟩
end
section
open Go Go.RowKit
set_option maxHeartbeats 400000
structure GG(ds:List Dev)(gl:List Int):Prop where
 ris:∀ k,risG ds.length (-1) (gl.take k)=true
 kind:∀ g∈gl,0≤g∧g<ds.length∧gapB ((ds.map (·.kind)).getD g.toNat 0)=true
 len:gl.length≤64
theorem risG_take{u:Int}:∀ (l:List Int) (y:Int) (k:Nat),risG u y l=true→risG u y (l.take k)=true
 | [],_,k,_=>by cases k<;>rfl
 | x::xs,y,0,_=>rfl
 | x::xs,y,k+1,h=>by
  simp only[risG] at h
  rw[List.take_succ_cons]
  simp only[risG]
  split at h
  ·cases h
  ·rename_i hn;rw[if_neg hn];exact risG_take xs x k h
theorem risG_snoc{u:Int}:∀ (l:List Int) (y x:Int),risG u y l=true→(∀ z∈l,z<x)→y<x→x<u→risG u y (l++[x])=true
 | [],y,x,_,_,h1,h2=>by simp only[List.nil_append,risG];rw[if_neg (by omega)]
 | z::l,y,x,h,hl,h1,h2=>by
  rw[List.cons_append]
  simp only[risG] at h ⊢
  split at h
  ·cases h
  ·rename_i hn
   rw[if_neg hn]
   exact risG_snoc l z x h (fun q hq=>hl q (by simp[hq])) (hl z (by simp)) h2
theorem supN_ris(p:Nat→Bool)(u:Int):∀ n:Nat,(n:Int)≤u→risG u (-1) (supN p n)=true
 | 0,_=>by simp[supN,risG]
 | n+1,h=>by
  unfold supN
  split
  ·exact risG_snoc _ _ _ (supN_ris p u n (by omega)) (fun z hz=>by obtain⟨k,rfl,hk,_⟩:=(Yt _ _ _).1 hz;omega) (by omega) (by omega)
  ·rw[List.append_nil];exact supN_ris p u n (by omega)
theorem GG.sup{ds:List Dev}{p:Nat→Bool}(hd:ds.length≤64)(h:∀ k,p k=true→gapB ((ds.map (·.kind)).getD k 0)=true):GG ds (supN p ds.length) :=
 ⟨fun k=>risG_take _ _ k (supN_ris p _ _ (Int.le_refl _)),fun g hg=>by
  obtain⟨k,rfl,hk,hp⟩:=(Yt _ _ _).1 hg
  exact⟨by omega,by omega,h k hp⟩,by have:=Z3 p ds.length;omega⟩
theorem GG.those{ds:List Dev}(hd:ds.length≤64)(pos:Int)(l:List Lk):GG ds (supN (YG gapB pos ds l) ds.length):=GG.sup hd (fun k h=>by simp only[YG,Bool.and_eq_true] at h;exact h.2)
theorem idx_splitD(p:Int→Bool):∀ (xs:List Int) (k:Nat),(idx p xs k = -1∧∀ x∈xs,p x=false)∨∃ i,∃ h:i<xs.length,idx p xs k=((k+i:Nat):Int)∧p xs[i]=true∧∀ x∈xs.take i,p x=false
 | [],k=>.inl ⟨rfl,by simp⟩
 | x::xs,k=>by
  by_cases hp:p x=true
  ·exact .inr ⟨0,by simp,by simp[idx,hp],hp,by simp⟩
  ·have hp:p x=false:=by simpa using hp
   have e:idx p (x::xs) k=idx p xs (k+1):=by simp[idx,hp]
   rw[e]
   rcases idx_splitD p xs (k+1) with⟨h1,h2⟩|⟨i,hi,h1,h2,h3⟩
   ·exact .inl ⟨h1,fun y hy=>by rcases List.mem_cons.1 hy with rfl|hy;exact hp;exact h2 y hy⟩
   ·exact .inr ⟨i+1,by simp;omega,by rw[h1];congr 1;omega,by simpa using h2,fun y hy=>by
     rw[List.take_succ_cons] at hy
     rcases List.mem_cons.1 hy with rfl|hy
     ·exact hp
     ·exact h3 y hy⟩
def Yg(p:Int→Bool)(xs:List Int):List Int:=xs.filter (fun x=>!(p x))
theorem keepL_snoc(p:Int→Bool)(xs:List Int)(j:Nat)(hj:j<xs.length):Yg p (xs.take (j+1))=Yg p (xs.take j)++(if p xs[j] then [] else [xs[j]]):=by
 unfold Yg
 rw[List.take_succ_eq_append_getElem hj,List.filter_append]
 congr 1
 cases h:p xs[j]
 ·rw[List.filter_cons_of_pos (by rw[h];rfl)];rfl
 ·rw[List.filter_cons_of_neg (by rw[h];decide)];rfl
def devB(ds:List Dev)(f:Dev→Bool)(x:Int):Bool:=(ds[x.toNat]?).any f
theorem devB_at(ds:List Dev)(f:Dev→Bool)(k:Nat)(h:k<ds.length):devB ds f (k:Int)=f ds[k]:=by simp[devB,h]
def regN(n:Nat)(ds:List Dev)(zs:List Nat)(gl:List Int):List Int:=supN (fun v=>(Zv n ds zs gl).getD v false) n
def Xu(n:Nat)(ds:List Dev)(zs:List Nat)(gl:List Int):List Nat:=zs.filter (fun v=>!(protB n ds v gl))
def ZR(ds:List Dev)(l:List Lk):List Int:=supN (YG gapB 1 ds l) ds.length
def Yu(ds:List Dev)(l:List Lk):List Int:=supN (YG (fun k=>k==4) 2 ds l) ds.length
def pointsL(n:Nat)(ds:List Dev)(zs:List Nat)(l:List Lk):List Int:=Yg (fun x=>!(devB ds (atB (Zv n ds zs (ZR ds l))) x)) (ZR ds l)
def countedL(n:Nat)(ds:List Dev)(zs:List Nat)(l:List Lk):List Int:=Yg (fun v=>!((Yu ds l).any (fun d=>devB ds (fun x=>x.a==v) d))) (regN n ds zs (ZR ds l))
def secureB(n:Nat)(ds:List Dev)(zs:List Nat)(l:List Lk):Bool:=enoughB n ds zs (ZR ds l)&&(Xu n ds zs (countedL n ds zs l)).isEmpty
theorem regN_ok{n:Nat}{ds:List Dev}{zs:List Nat}{gl:List Int}{x:Int}(h:x∈regN n ds zs gl):0≤x∧x<n:=by
 obtain⟨k,rfl,hk,_⟩:=(Yt _ _ _).1 h
 exact⟨by omega,by omega⟩
theorem countedL_ok{n:Nat}{ds:List Dev}{zs:List Nat}{l:List Lk}{x:Int}(h:x∈countedL n ds zs l):0≤x∧x<n:=regN_ok (List.mem_filter.1 h).1
theorem countedL_len(n:Nat)(ds:List Dev)(zs:List Nat)(l:List Lk):(countedL n ds zs l).length≤n :=
 Nat.le_trans (List.length_filter_le _ _) (Z3 _ _)
def faultV(d:Dev)(cc:List Int):Bool:=(cc.getD d.a.toNat 0==3)||(Zu d.kind&&(cc.getD d.b.toNat 0==3))
def deadR(r:(Bool×Bool)×(Int×Int)×Bool):Int×Bool:=if r.2.2=false then (0,false) else if r.1.1=r.1.2 then (0,false) else if r.1.1=true then (r.2.1.2,true) else (r.2.1.1,true)
def custB(ps:List Int)(p:Int)(ns:List Node)(k:Nat):Bool:=decide (0<((ns.map (·.cust)).getD k 0))&&(ps.getD k 0==p)
def loadG(ps:List Int)(p:Int)(ns:List Node):Nat→Nat→Bool
 | 0,_=>false
 | g+1,k=>if custB ps p ns k=true then true else loadG ps p ns g (k+1)
namespace PO
def nbX(nx:Nat→List Nat)(v:Nat):List Nat:=(nx v).map (fun i=>v ^^^ 2 ^ i)
structure RS where
 out:List Int
 q:List Nat
 edges:List (List Nat)
 goals:List Nat
 least:Int
 depth:Int
def RS.goal(s:RS)(v:Nat):Option Int→RS
 | none=>s
 | some c=>if s.depth<0∨c<s.least then { s with goals:=[v],least:=c,depth:=at_ s.out v }
   else if c=s.least then { s with goals:=s.goals++[v],depth:=at_ s.out v } else { s with depth:=at_ s.out v }
def RS.grow(nx:Nat→List Nat)(s:RS)(v:Nat):RS :=
 { s with edges:=s.edges.set v (nx v),out:=(scan (at_ s.out v+1) (nbX nx v) s.out s.q).1,q:=(scan (at_ s.out v+1) (nbX nx v) s.out s.q).2 }
def RS.pass(nx:Nat→List Nat)(gl:Nat→Option Int)(s:RS)(v:Nat):RS :=
 if 0≤(s.goal v (gl v)).depth then s.goal v (gl v) else (s.goal v (gl v)).grow nx v
def reachF(nx:Nat→List Nat)(gl:Nat→Option Int):Nat→RS→RS
 | 0,s=>s
 | f+1,s=>match s.q with
  | []=>s
  | v::q=>if 0≤s.depth∧s.depth<at_ s.out v then { s with q:=q } else reachF nx gl f (RS.pass nx gl { s with q:=q } v)
def startRS(N:Nat):RS:={ out:=mark (List.replicate N (-1)) [0],q:=[0],edges:=List.replicate N [],goals:=[],least:=0,depth := -1 }
structure Fnd(N:Nat)(nx:Nat→List Nat)(gl:Nat→Option Int)(s:RS):Prop where
 some_:s.goals≠[]
 goal:∀ g∈s.goals,gl g=some s.least∧at_ s.out g=s.depth
 pred:∀ v,0<at_ s.out v→∃ u,v∈nbX nx u∧0≤at_ s.out u∧at_ s.out v=at_ s.out u+1
 done:∀ u,0≤at_ s.out u→at_ s.out u<s.depth→gl u=none∧s.edges.getD u []=nx u∧∀ v∈nbX nx u,0≤at_ s.out v∧at_ s.out v≤at_ s.out u+1
 zero:∀ v,at_ s.out v=0↔v=0
 far:∀ v∈s.q,s.depth≤at_ s.out v
structure RInv(N:Nat)(nx:Nat→List Nat)(gl:Nat→Option Int)(s:RS):Prop where
 el:s.edges.length=N
 len:s.out.length=N
 edg:∀ u,s.edges.getD u []=[]∨s.edges.getD u []=nx u
 room:negs s.out+s.q.length≤N
 qin:∀ v∈s.q,v<N∧0≤at_ s.out v
 search:s.depth<0→s.goals=[]∧Inv N (nbX nx) [0] s.out s.q∧∀ u,0≤at_ s.out u→u∉s.q→gl u=none∧s.edges.getD u []=nx u
 found:0≤s.depth→Fnd N nx gl s
theorem at_lt{out:List Int}{v:Nat}(h:0≤at_ out v):v<out.length:=by
 apply Decidable.byContradiction
 intro hn
 have:out[v]? = none:=List.getElem?_eq_none (by omega)
 simp[at_,this] at h
theorem startRS_inv{N:Nat}(hN:0<N)(nx:Nat→List Nat)(gl:Nat→Option Int):RInv N nx gl (startRS N):=by
 have hi:=inv_start (N:=N) (nb:=nbX nx) (goals:=[0]) (by simpa using hN)
 refine⟨by simp[startRS],by simp[startRS,mark_len],fun u=>.inl ?_,?_,?_,fun _=>⟨rfl,hi,fun u hu hn=>?_⟩,fun h=>absurd h (by simp[startRS])⟩
 ·simp only[startRS,List.getD_eq_getElem?_getD,List.getElem?_replicate];split<;>rfl
 ·have h1:negs (mark (List.replicate N (-1)) [0])+1=negs (List.replicate N (-1)):=negs_set (by simpa using hN) (by rw[at_rep];omega) (by omega)
  have h2:negs (List.replicate N (-1))≤N:=by have:=List.countP_le_length (p:=fun x=>decide (x<0)) (l:=List.replicate N (-1:Int));simpa[negs] using this
  simp only[startRS,List.length_cons,List.length_nil]
  omega
 ·intro v hv
  have:v=0:=by simpa[startRS] using hv
  subst this
  exact⟨hN,by have:=hi.qge 0 (by simp);exact this⟩
 ·have h1:at_ (mark (List.replicate N (-1)) [0]) u=if u∈[0] then 0 else at_ (List.replicate N (-1)) u:=at_mark _ _ _ (by simpa using hN)
  simp only[startRS] at hu hn
  rw[h1,if_neg hn,at_rep] at hu
  omega
theorem pass_inv{N:Nat}{nx:Nat→List Nat}{gl:Nat→Option Int}(hnx:∀ v,v<N→∀ w∈nbX nx v,w<N)(hnb:∀ v,¬ v<N→nx v=[]){s:RS}(h:RInv N nx gl s){v:Nat}{q:List Nat}(hq:s.q=v::q)(hb:¬ (0≤s.depth∧s.depth<at_ s.out v)) :
  RInv N nx gl (RS.pass nx gl { s with q:=q } v)∧negs (RS.pass nx gl { s with q:=q } v).out+(RS.pass nx gl { s with q:=q } v).q.length+1=negs s.out+s.q.length:=by
 have hvN:=(h.qin v (by rw[hq];simp)).1
 have hv0:=(h.qin v (by rw[hq];simp)).2
 have hNb:∀ u,∀ w∈nbX nx u,w<N:=fun u w hw=>by
  by_cases hu:u<N
  ·exact hnx u hu w hw
  ·rw[nbX,hnb u hu] at hw;simp at hw
 have hroom:=h.room
 rw[hq] at hroom
 by_cases hd:0≤s.depth
 ·-- a goal is found already
  have hf:=h.found hd
  have hvd:at_ s.out v=s.depth:=by have:=hf.far v (by rw[hq];simp);omega
  have key:∀ t:RS,t.out=s.out→t.q=q→t.edges=s.edges→t.depth=s.depth→(t.goals≠[]∧∀ g∈t.goals,gl g=some t.least∧at_ s.out g=s.depth)→RInv N nx gl t∧negs t.out+t.q.length+1=negs s.out+s.q.length:=by
   intro t e1 e2 e3 e4 hg
   refine⟨⟨by rw[e3];exact h.el,by rw[e1];exact h.len,by rw[e3];exact h.edg,by rw[e1,e2];simp at hroom;omega,by rw[e1,e2];intro x hx;exact h.qin x (by rw[hq];simp[hx]),fun hn=>absurd hn (by rw[e4];omega),fun _=>⟨hg.1,?_,?_,?_,?_,?_⟩⟩,by rw[e1,e2,hq];simp;omega⟩
   ·rw[e1,e4];exact hg.2
   ·rw[e1];exact hf.pred
   ·rw[e1,e3,e4];exact hf.done
   ·rw[e1];exact hf.zero
   ·rw[e1,e2,e4];intro x hx;exact hf.far x (by rw[hq];simp[hx])
  unfold RS.pass
  cases hg:gl v with
  | none =>
   have e:(RS.goal { s with q:=q } v none)={ s with q:=q }:=rfl
   rw[e,if_pos (show 0≤({ s with q:=q }:RS).depth from hd)]
   exact key _ rfl rfl rfl rfl ⟨hf.some_,hf.goal⟩
  | some c =>
   simp only[RS.goal]
   by_cases hc:s.depth<0∨c<s.least
   ·simp only[if_pos hc]
    simp only[if_pos hv0]
    exact key _ rfl rfl rfl hvd ⟨by simp,fun g hgm=>by rw[List.mem_singleton.1 hgm];exact⟨hg,hvd⟩⟩
   ·simp only[if_neg hc]
    by_cases hc2:c=s.least
    ·simp only[if_pos hc2]
     simp only[if_pos hv0]
     refine key _ rfl rfl rfl hvd ⟨by simp,fun g hgm=>?_⟩
     rcases List.mem_append.1 hgm with hgm|hgm
     ·exact hf.goal g hgm
     ·rw[List.mem_singleton.1 hgm];exact⟨by rw[hg,hc2],hvd⟩
    ·simp only[if_neg hc2]
     simp only[if_pos hv0]
     exact key _ rfl rfl rfl hvd ⟨hf.some_,hf.goal⟩
 ·have hd':s.depth<0:=by omega
  obtain⟨hg0,hi,hdone⟩:=h.search hd'
  rw[hq] at hi
  unfold RS.pass
  cases hg:gl v with
  | some c =>
   simp only[RS.goal,if_pos (Or.inl hd':s.depth<0∨c<s.least)]
   simp only[if_pos hv0]
   have hsor:=(List.pairwise_cons.1 hi.sorted).1
   refine⟨⟨h.el,h.len,h.edg,by simp at hroom ⊢;omega,fun x hx=>h.qin x (by rw[hq];simp[show x∈q from hx]),fun hn=>absurd hn (by simp only;omega),fun _=>⟨by simp,fun g hgm=>?_,hi.pred,fun u hu hlt=>?_,fun x=>by rw[hi.zero];simp,fun x hx=>hsor x hx⟩⟩,by simp[hq];omega⟩
   ·rw[List.mem_singleton.1 hgm];exact⟨hg,rfl⟩
   ·have hun:u∉v::q:=fun hm=>by
     rcases List.mem_cons.1 hm with rfl|hm
     ·simp only at hlt;omega
     ·have:=hsor u hm;simp only at hlt;omega
    have hd2:=hdone u hu (by rw[hq];exact hun)
    exact⟨hd2.1,hd2.2,hi.doneNb u hu hun⟩
  | none =>
   have e:(RS.goal { s with q:=q } v none)={ s with q:=q }:=rfl
   rw[e,if_neg (show ¬ 0≤({ s with q:=q }:RS).depth from hd)]
   have hs:=inv_step hNb hi
   have hsc:=scanned (N:=N) (x:=at_ s.out v+1) (by omega) (nbX nx v) s.out q (hNb v) hi.len
   simp only[RS.grow]
   generalize scan (at_ s.out v+1) (nbX nx v) s.out q=r at *
   obtain⟨out',q'⟩:=r
   simp only at hs hsc ⊢
   have hE:∀ u,(s.edges.set v (nx v)).getD u []=if v=u then nx v else s.edges.getD u []:=fun u=>by
    simp only[List.getD_eq_getElem?_getD,List.getElem?_set]
    by_cases e:v=u
    ·subst e;rw[if_pos rfl,if_pos (by rw[h.el];exact hvN),if_pos rfl];rfl
    ·rw[if_neg e,if_neg e]
   have hnegs:=hsc.neg
   refine⟨⟨by simpa using h.el,hs.len,fun u=>?_,by simp at hroom ⊢;omega,fun x hx=>⟨by have:=at_lt (hs.qge x hx);rw[hs.len] at this;exact this,hs.qge x hx⟩,fun _=>⟨hg0,hs,fun u hu hn=>?_⟩,fun hn=>absurd hn hd⟩,by simp[hq];omega⟩
   ·rw[hE];split
    ·rename_i e;subst e;exact .inr rfl
    ·exact h.edg u
   ·rw[hE]
    by_cases e:v=u
    ·subst e;rw[if_pos rfl];exact⟨hg,rfl⟩
    ·rw[if_neg e]
     obtain⟨l,hql,hnew,hall⟩:=hsc.new
     have hu0:0≤at_ s.out u:=by
      apply Decidable.byContradiction
      intro hneg
      have:=hall u (by omega) hu
      exact hn (by rw[hql];simp[this])
     have hnq:u∉s.q:=by
      rw[hq];intro hm
      rcases List.mem_cons.1 hm with rfl|hm
      ·exact e rfl
      ·exact hn (by rw[hql];simp[hm])
     exact hdone u hu0 hnq
theorem reach_inv{N:Nat}{nx:Nat→List Nat}{gl:Nat→Option Int}(hnx:∀ v,v<N→∀ w∈nbX nx v,w<N)(hnb:∀ v,¬ v<N→nx v=[]):∀ (f:Nat) (s:RS),RInv N nx gl s→negs s.out+s.q.length≤f →
  RInv N nx gl (reachF nx gl f s)∧((reachF nx gl f s).depth<0→(reachF nx gl f s).q=[])
 | 0,s,h,hf=>⟨h,fun _=>List.eq_nil_of_length_eq_zero (by simp only[reachF];omega)⟩
 | f+1,s,h,hf=>by
  unfold reachF
  cases hq:s.q with
  | nil=>exact⟨h,fun _=>hq⟩
  | cons v q =>
   simp only
   by_cases hb:0≤s.depth∧s.depth<at_ s.out v
   ·rw[if_pos hb]
    have hf':=h.found hb.1
    refine⟨⟨h.el,h.len,h.edg,by have:=h.room;rw[hq] at this;simp at this ⊢;omega,fun x hx=>h.qin x (by rw[hq];simp[show x∈q from hx]),fun hn=>absurd hn (by simp only;omega),fun _=>⟨hf'.some_,hf'.goal,hf'.pred,hf'.done,hf'.zero,fun x hx=>hf'.far x (by rw[hq];simp[show x∈q from hx])⟩⟩,fun hn=>absurd hn (by simp only;omega)⟩
   ·rw[if_neg hb]
    obtain⟨h1,h2⟩:=pass_inv hnx hnb h hq hb
    exact reach_inv hnx hnb f _ h1 (by omega)
def goodB(edges:List (List Nat))(out:List Int)(g:List Bool)(d:Int)(v:Nat):Bool :=
 decide (at_ out v=d)&&(edges.getD v []).any (fun i=>decide (at_ out (v ^^^ 2 ^ i)=d+1)&&g.getD (v ^^^ 2 ^ i) false)
def goodP(edges:List (List Nat))(out:List Int)(d:Int):List Nat→List Bool→List Bool
 | [],g=>g
 | v::vs,g=>goodP edges out d vs (if goodB edges out g d v=true then g.set v true else g)
def goodF(edges:List (List Nat))(out:List Int)(N:Nat):Nat→List Bool→List Bool
 | 0,g=>g
 | d+1,g=>goodF edges out N d (goodP edges out d (List.range N) g)
def goodL(s:RS)(N:Nat):List Bool:=match s.goals with
 | []=>List.replicate N false
 | g::gs=>goodF s.edges s.out N (at_ s.out g).toNat ((g::gs).foldl (fun b x=>b.set x true) (List.replicate N false))
theorem getD_set(g:List Bool)(v u:Nat)(b:Bool):(g.set v b).getD u false=if v=u∧u<g.length then b else g.getD u false:=by
 simp only[List.getD_eq_getElem?_getD,List.getElem?_set]
 by_cases e:v=u
 ·subst e
  by_cases h:v<g.length
  ·simp[h]
  ·simp[h]
 ·simp[e]
theorem goodP_len(edges:List (List Nat))(out:List Int)(d:Int):∀ (vs:List Nat) (g:List Bool),(goodP edges out d vs g).length=g.length
 | [],_=>rfl
 | v::vs,g=>by rw[goodP,goodP_len];split<;>simp
theorem goodF_len(edges:List (List Nat))(out:List Int)(N:Nat):∀ (d:Nat) (g:List Bool),(goodF edges out N d g).length=g.length
 | 0,_=>rfl
 | d+1,g=>by rw[goodF,goodF_len,goodP_len]
theorem foldSet_len:∀ (gs:List Nat) (b:List Bool),(gs.foldl (fun b x=>b.set x true) b).length=b.length
 | [],_=>rfl
 | x::gs,b=>by rw[List.foldl_cons,foldSet_len];simp
theorem goodL_len(s:RS)(N:Nat):(goodL s N).length=N:=by
 unfold goodL
 split
 ·simp
 ·rw[goodF_len,foldSet_len];simp
theorem foldSet_at:∀ (gs:List Nat) (b:List Bool) (u:Nat),(∀ x∈gs,x<b.length)→((gs.foldl (fun b x=>b.set x true) b).getD u false=true↔u∈gs∨b.getD u false=true)
 | [],_,_,_=>by simp
 | x::gs,b,u,h=>by
  rw[List.foldl_cons,foldSet_at gs _ u (by intro y hy;rw[List.length_set];exact h y (by simp[hy])),getD_set]
  have:=h x (by simp)
  by_cases e:x=u
  ·subst e;simp[this]
  ·simp[e,Ne.symm e]
theorem goodP_at(edges:List (List Nat))(out:List Int)(d:Int):∀ (vs:List Nat) (g:List Bool) (u:Nat),(∀ x∈vs,x<g.length) →
  ((goodP edges out d vs g).getD u false=true↔g.getD u false=true∨(u∈vs∧goodB edges out g d u=true))
 | [],_,_,_=>by simp[goodP]
 | v::vs,g,u,h=>by
  have hv:=h v (by simp)
  have hB:∀ x,goodB edges out (if goodB edges out g d v=true then g.set v true else g) d x=goodB edges out g d x:=by
   intro x
   by_cases hb:goodB edges out g d v=true
   ·rw[if_pos hb]
    have hvd:at_ out v=d:=by simp[goodB] at hb;exact hb.1
    unfold goodB
    congr 1
    refine List.any_congr rfl (fun i=>?_) |> fun e=>e
    rw[getD_set]
    by_cases e:v=x ^^^ 2 ^ i
    ·have hne:¬ at_ out (x ^^^ 2 ^ i)=d+1:=by rw[← e,hvd];omega
     simp[hne]
    ·rw[if_neg (fun hc=>e hc.1)]
   ·rw[if_neg hb]
  have hlen:∀ x∈vs,x<(if goodB edges out g d v=true then g.set v true else g).length:=by
   intro x hx
   have:=h x (by simp[hx])
   split
   ·rw[List.length_set];exact this
   ·exact this
  rw[goodP,goodP_at edges out d vs _ u hlen,hB]
  by_cases hb:goodB edges out g d v=true
  ·rw[if_pos hb,getD_set]
   by_cases e:v=u
   ·subst e;simp[hv,hb]
   ·have e':¬ u=v:=Ne.symm e
    simp[e,e']
  ·rw[if_neg hb]
   constructor
   ·rintro (h1|h1)
    ·exact .inl h1
    ·exact .inr ⟨by simp[h1.1],h1.2⟩
   ·rintro (h1|⟨h1,h2⟩)
    ·exact .inl h1
    ·rcases List.mem_cons.1 h1 with rfl|h1
     ·exact absurd h2 hb
     ·exact .inr ⟨h1,h2⟩
structure GInv(N:Nat)(edges:List (List Nat))(out:List Int)(goals:List Nat)(D d:Int)(g:List Bool):Prop where
 len:g.length=N
 sound:∀ v,g.getD v false=true→v∈goals∨(at_ out v<D∧∃ i∈edges.getD v [],at_ out (v ^^^ 2 ^ i)=at_ out v+1∧g.getD (v ^^^ 2 ^ i) false=true)
 le:∀ v,g.getD v false=true→at_ out v≤D∧d≤at_ out v
 goal:∀ v∈goals,g.getD v false=true
 full:∀ v,d≤at_ out v→at_ out v<D→v<N→(∃ i∈edges.getD v [],at_ out (v ^^^ 2 ^ i)=at_ out v+1∧g.getD (v ^^^ 2 ^ i) false=true)→g.getD v false=true
theorem goodF_inv{N:Nat}{edges:List (List Nat)}{out:List Int}{goals:List Nat}{D:Int}:∀ (d:Nat) (g:List Bool),(d:Int)≤D→GInv N edges out goals D d g→GInv N edges out goals D 0 (goodF edges out N d g)
 | 0,_,_,h=>h
 | d+1,g,hd,h=>by
  refine goodF_inv d _ (by omega) ?_
  have hat:=fun u=>goodP_at edges out d (List.range N) g u (by rw[h.len];simp)
  have hB:∀ v,goodB edges out g d v=true↔at_ out v=d∧∃ i∈edges.getD v [],at_ out (v ^^^ 2 ^ i)=d+1∧g.getD (v ^^^ 2 ^ i) false=true:=by
   intro v
   simp only[goodB,Bool.and_eq_true,decide_eq_true_eq,List.any_eq_true]
  have mono:∀ u,g.getD u false=true→(goodP edges out d (List.range N) g).getD u false=true:=fun u hu=>(hat u).2 (.inl hu)
  refine⟨by rw[goodP_len];exact h.len,fun v hv=>?_,fun v hv=>?_,fun v hv=>mono v (h.goal v hv),fun v h1 h2 hN hx=>?_⟩
  ·rcases (hat v).1 hv with hv|⟨-,hv⟩
   ·rcases h.sound v hv with hg|⟨h1,i,hi,h2,h3⟩
    ·exact .inl hg
    ·exact .inr ⟨h1,i,hi,h2,mono _ h3⟩
   ·obtain⟨h1,i,hi,h2,h3⟩:=(hB v).1 hv
    exact .inr ⟨by omega,i,hi,by omega,mono _ h3⟩
  ·rcases (hat v).1 hv with hv|⟨-,hv⟩
   ·have:=h.le v hv;omega
   ·obtain⟨h1,-⟩:=(hB v).1 hv;omega
  ·obtain⟨i,hi,h3,h4⟩:=hx
   by_cases he:at_ out v=d
   ·have h5:g.getD (v ^^^ 2 ^ i) false=true:=by
     rcases (hat _).1 h4 with h4|⟨-,h4⟩
     ·exact h4
     ·have:=((hB _).1 h4).1;omega
    exact (hat v).2 (.inr ⟨List.mem_range.2 hN,(hB v).2 ⟨he,i,hi,by omega,h5⟩⟩)
   ·have h5:g.getD (v ^^^ 2 ^ i) false=true:=by
     rcases (hat _).1 h4 with h4|⟨-,h4⟩
     ·exact h4
     ·have:=((hB _).1 h4).1;omega
    exact mono v (h.full v (by omega) h2 hN ⟨i,hi,h3,h5⟩)
theorem goodL_inv{N:Nat}{nx:Nat→List Nat}{gl:Nat→Option Int}{s:RS}(h:RInv N nx gl s)(hd:0≤s.depth):GInv N s.edges s.out s.goals s.depth 0 (goodL s N):=by
 have hf:=h.found hd
 have hgN:∀ g∈s.goals,g<N:=fun g hg=>by have:=at_lt (out:=s.out) (v:=g) (by rw[(hf.goal g hg).2];exact hd);rw[h.len] at this;exact this
 have hg:=hf.goal
 have hs:=hf.some_
 unfold goodL
 cases hgs:s.goals with
 | nil=>exact absurd hgs hs
 | cons g gs =>
  rw[hgs] at hg hgN
  simp only
  have hgd:=(hg g (by simp)).2
  refine goodF_inv _ _ (by rw[hgd];omega) ?_
  have hat:=fun u=>foldSet_at (g::gs) (List.replicate N false) u (by simpa using hgN)
  have hrep:∀ u,¬ (List.replicate N false).getD u false=true:=fun u=>by
   simp only[List.getD_eq_getElem?_getD,List.getElem?_replicate];split<;>simp
  have hmem:∀ u,((g::gs).foldl (fun b x=>b.set x true) (List.replicate N false)).getD u false=true→u∈g::gs:=fun u hu=>by
   rcases (hat u).1 hu with h1|h1
   ·exact h1
   ·exact absurd h1 (hrep u)
  rw[hgd,Int.toNat_of_nonneg hd]
  refine⟨by rw[foldSet_len];simp,fun v hv=>.inl (hmem v hv),fun v hv=>?_,fun v hv=>(hat v).2 (.inl hv),fun v h1 h2=>by omega⟩
  have:=(hg v (hmem v hv)).2
  omega
theorem good_start{N:Nat}{nx:Nat→List Nat}{gl:Nat→Option Int}{s:RS}(h:RInv N nx gl s)(hd:0≤s.depth):(goodL s N).getD 0 false=true:=by
 have hf:=h.found hd
 have hG:=goodL_inv h hd
 have key:∀ (k:Nat) (v:Nat),at_ s.out v=k→(goodL s N).getD v false=true→(goodL s N).getD 0 false=true:=by
  intro k
  induction k with
  | zero=>intro v hv hg;rw[(hf.zero v).1 hv] at hg;exact hg
  | succ k ih =>
   intro v hv hg
   obtain⟨u,hu,h0,h1⟩:=hf.pred v (by omega)
   have hle:=(hG.le v hg).1
   have hdn:=hf.done u h0 (by omega)
   rw[nbX,List.mem_map] at hu
   obtain⟨i,hi,rfl⟩:=hu
   refine ih u (by omega) (hG.full u (by omega) (by omega) (by have:=at_lt h0;rw[h.len] at this;exact this) ⟨i,by rw[hdn.2.1];exact hi,by omega,hg⟩)
 cases hgs:s.goals with
 | nil=>exact absurd hgs hf.some_
 | cons g gs =>
  have hg:=hf.goal g (by rw[hgs];simp)
  exact key s.depth.toNat g (by rw[hg.2];omega) (hG.goal g (by rw[hgs];simp))
def pickF(out:List Int)(g:List Bool)(v:Nat):List Nat→Option Nat
 | []=>none
 | i::is=>if g.getD (v ^^^ 2 ^ i) false=true∧at_ out (v ^^^ 2 ^ i)=at_ out v+1 then some i else pickF out g v is
def findF(s:RS)(g:List Bool):Nat→Nat→List (Nat×Nat)
 | 0,_=>[]
 | f+1,v=>if s.goals.contains v=true then [] else match pickF s.out g v (s.edges.getD v []) with
  | none=>[]
  | some i=>(v,i)::findF s g f (v ^^^ 2 ^ i)
theorem pickF_some{out:List Int}{g:List Bool}{v i:Nat}:∀ {is:List Nat},pickF out g v is=some i→i∈is∧g.getD (v ^^^ 2 ^ i) false=true∧at_ out (v ^^^ 2 ^ i)=at_ out v+1
 | [],h=>by simp[pickF] at h
 | j::is,h=>by
  simp only[pickF] at h
  split at h
  ·rename_i hc
   injection h with h;subst h
   exact⟨by simp,hc⟩
  ·obtain⟨h1,h2⟩:=pickF_some h
   exact⟨by simp[h1],h2⟩
theorem pickF_none{out:List Int}{g:List Bool}{v:Nat}:∀ {is:List Nat},pickF out g v is=none→∀ i∈is,¬ (g.getD (v ^^^ 2 ^ i) false=true∧at_ out (v ^^^ 2 ^ i)=at_ out v+1)
 | [],_,_,h=>by simp at h
 | j::is,h,i,hi=>by
  simp only[pickF] at h
  split at h
  ·cases h
  ·rename_i hc
   rcases List.mem_cons.1 hi with rfl|hi
   ·exact hc
   ·exact pickF_none h i hi
def Chain(nx:Nat→List Nat):Nat→List (Nat×Nat)→Nat→Prop
 | a,[],b=>a=b
 | a,(v,i)::l,b=>v=a∧i∈nx a∧Chain nx (a ^^^ 2 ^ i) l b
theorem find_chain{N:Nat}{nx:Nat→List Nat}{gl:Nat→Option Int}{s:RS}(h:RInv N nx gl s)(hd:0≤s.depth):∀ (f:Nat) (v:Nat),(goodL s N).getD v false=true→s.depth - at_ s.out v<f →
  ∃ b,Chain nx v (findF s (goodL s N) f v) b∧gl b=some s.least∧((findF s (goodL s N) f v).length:Int)=s.depth - at_ s.out v
 | 0,v,hg,hlt=>by have:=((goodL_inv h hd).le v hg).1;omega
 | f+1,v,hg,hlt=>by
  have hf:=h.found hd
  have hG:=goodL_inv h hd
  unfold findF
  by_cases hc:s.goals.contains v=true
  ·rw[if_pos hc]
   have hm:v∈s.goals:=by simpa using hc
   exact⟨v,rfl,(hf.goal v hm).1,by rw[(hf.goal v hm).2];simp⟩
  ·rw[if_neg hc]
   have hm:v∉s.goals:=by simpa using hc
   rcases hG.sound v hg with hgo|⟨hlt',i,hi,h1,h2⟩
   ·exact absurd hgo hm
   ·cases hp:pickF s.out (goodL s N) v (s.edges.getD v []) with
    | none=>exact absurd ⟨h2,h1⟩ (pickF_none hp i hi)
    | some j =>
     simp only
     obtain⟨hj,hj1,hj2⟩:=pickF_some hp
     obtain⟨b,hb1,hb2,hb3⟩:=find_chain h hd f (v ^^^ 2 ^ j) hj1 (by omega)
     have hv0:=(hG.le v hg).2
     exact⟨b,⟨rfl,by rw[← (hf.done v hv0 hlt').2.1];exact hj,hb1⟩,hb2,by rw[List.length_cons];omega⟩
theorem chain_least{N:Nat}{nx:Nat→List Nat}{gl:Nat→Option Int}{s:RS}(h:RInv N nx gl s)(hd:0≤s.depth)(l:List (Nat×Nat))(b:Nat)(hc:Chain nx 0 l b)(hb:gl b≠none):s.depth≤l.length:=by
 have hf:=h.found hd
 have key:∀ (l:List (Nat×Nat)) (a:Nat),Chain nx a l b→0≤at_ s.out a→s.depth≤at_ s.out a+l.length:=by
  intro l
  induction l with
  | nil =>
   intro a hc h0
   have hab:a=b:=hc
   subst hab
   apply Decidable.byContradiction
   intro hn
   exact hb (hf.done a h0 (by simpa using hn)).1
  | cons p l ih =>
   intro a hc h0
   obtain⟨v,i⟩:=p
   obtain⟨rfl,hi,hc⟩:=hc
   by_cases hlt:at_ s.out v<s.depth
   ·have hm:v ^^^ 2 ^ i∈nbX nx v:=List.mem_map.2 ⟨i,hi,rfl⟩
    obtain⟨h1,h2⟩:=(hf.done v h0 hlt).2.2 _ hm
    have:=ih _ hc h1
    simp only[List.length_cons]
    omega
   ·simp only[List.length_cons]
    omega
 have h0:at_ s.out 0=0:=(hf.zero 0).2 rfl
 have:=key l 0 hc (by omega)
 omega
theorem xor_lt{m v i:Nat}(hv:v<2 ^ m)(hi:i<m):v ^^^ 2 ^ i<2 ^ m:=Nat.xor_lt_two_pow hv (Nat.pow_lt_pow_right (by omega) hi)
end PO
def liveO(x:Int):Bool:=x==1||x==3
def sidesV(d:Dev)(ps oc:List Int):(Bool×Bool)×(Int×Int)×Bool :=
 if d.kind=4 then ((false,false),(0,0),false)
 else if Zu d.kind=false then ((true,liveO (oc.getD d.a.toNat 0)),(-1,d.a),true)
 else ((liveO (oc.getD d.a.toNat 0),liveO (oc.getD d.b.toNat 0)),(d.a,d.b),ps.getD d.a.toNat 0 != ps.getD d.b.toNat 0)
def parallelV(d:Dev)(ps oc:List Int):Bool:=(sidesV d ps oc).2.2&&(sidesV d ps oc).1.1&&(sidesV d ps oc).1.2
def deadV(d:Dev)(ps oc:List Int):Int×Bool:=deadR (sidesV d ps oc)
def loadV(ns:List Node)(d:Dev)(ps oc:List Int):Bool:=(deadV d ps oc).2&&loadG ps (ps.getD (deadV d ps oc).1.toNat 0) ns ns.length 0
end
section
open Go Go.RowKit
def nodeRow(x:Node):List D:=[.str x.name,.int .i64 x.cust,.int .i64 x.comp]
def Xj(d:Dev):List D:=[.str d.name,.int .i64 d.kind,.int .i64 d.a,.int .i64 d.b,.int .i64 d.comp]
def Zm(x:Lk):List D:=[.int .i64 x.dev,.int .i64 x.pos,.int .i64 x.key]
def ZK(l:List Bool):List (List D):=l.map (fun b=>[.bool b])
abbrev nsD(ns:List Node):D:=.sl (ns.map nodeRow)
abbrev dsD(ds:List Dev):D:=.sl (ds.map Xj)
abbrev netD(ns:List Node)(ds:List Dev):D:=.agg [nsD ns,dsD ds]
@[simp] theorem boolsD_length(l:List Bool):(ZK l).length=l.length:=by simp[ZK]
@[simp] theorem boolsD_get(l:List Bool)(k:Nat):(ZK l)[k]? = (l[k]?).map (fun x=>[.bool x]):=by simp[ZK]
attribute [simp] nodeRow Xj Zm
@[simp] theorem intsD_at(l:List Int)(k:Nat)(h:k<(Zb l).length):(Zb l)[k]=[.int .i64 (l[k]'(by simpa using h))]:=by simp[Zb]
@[simp] theorem boolsD_at(l:List Bool)(k:Nat)(h:k<(ZK l).length):(ZK l)[k]=[.bool (l[k]'(by simpa using h))]:=by simp[ZK]
theorem Yk(l:List Int)(x:Int):Zb l++[[.int .i64 x]]=Zb (l++[x]):=by simp[Zb]
theorem setI(l:List Int)(k:Nat)(x:Int):(Zb l).set k [.int .i64 x]=Zb (l.set k x):=by simp[Zb,List.map_set]
theorem setB(l:List Bool)(k:Nat)(x:Bool):(ZK l).set k [.bool x]=ZK (l.set k x):=by simp[ZK,List.map_set]
theorem repI(n:Nat)(x:Int):List.replicate n [D.int .i64 x]=Zb (List.replicate n x):=by simp[Zb]
theorem repB(n:Nat)(x:Bool):List.replicate n [D.bool x]=ZK (List.replicate n x):=by simp[ZK]
theorem intsD_es(l:List Int):∀ r∈Zb l,r.length=1:=by simp[Zb]
theorem bOr_live{x:Int}(h:x=0∨x=1∨x=2∨x=3):bOr .i64 x 1=orL x:=by rcases h with rfl|rfl|rfl|rfl<;>decide
theorem bOr_earth{x:Int}(h:x=0∨x=1∨x=2∨x=3):bOr .i64 x 2=orE x:=by rcases h with rfl|rfl|rfl|rfl<;>decide
theorem orE_le{x:Int}(h:x=0∨x=1∨x=2∨x=3):0≤orE x∧orE x≤3:=by rcases h with rfl|rfl|rfl|rfl<;>decide
theorem orL_le{x:Int}(h:x=0∨x=1∨x=2∨x=3):0≤orL x∧orL x≤3:=by rcases h with rfl|rfl|rfl|rfl<;>decide
theorem ite_at{f:Int→Int}{g:Int→Int}{p:Int}:(fun q=>if q=p then g (f q) else f q)=fun q=>if q=p then g (f p) else f q:=by
 funext q;split
 ·rename_i h;rw[h]
 ·rfl
theorem filled_at{α:Type}(Z:List α)(z:α)(k:Nat)(h:k<Z.length):(YZ Z z k)[k]? = some z:=by
 unfold YZ
 rw[List.getElem?_append_right (by simp;omega),List.getElem?_replicate]
 simp;omega
theorem Zp{a b:Bool}(h:a=b):Le (.bool a) (.bool b):=h▸Le.refl _
theorem le_int{k:IntKind}{a b:Int}(h:a=b):Le (.int k a) (.int k b):=h▸Le.refl _
@[simp] theorem take_intsD(l:List Int):(Zb l).take l.length=Zb l:=List.take_of_length_le (by simp)
@[simp] theorem take_boolsD(l:List Bool):(ZK l).take l.length=ZK l:=List.take_of_length_le (by simp)
@[simp] theorem take_maplen{α β:Type}(f:α→β)(l:List α):(l.map f).take l.length=l.map f:=List.take_of_length_le (by simp)
theorem zip_snoc{α β:Type}{l:List α}{m:List β}{k:Nat}(h1:k<l.length)(h2:k<m.length):(l.zip m).take (k+1)=(l.zip m).take k++[(l[k],m[k])]:=by
 rw[List.take_succ_eq_append_getElem (by simp;omega)];simp
end
section
open Go Go.RowKit
theorem ZC{k:Nat}{fn:Func}{code:Code}{args:List D}{gl:List (Nat×Blk)}{nm nx1:Nat}{R:D}{upd:List (Nat×Option Blk)}(hf:Tryz.prog.funcs[k]? = some fn)(hb:fn.body=some code){N:Nat}(hNt:fn.ntmps=N)
  (h:awpL Tryz.prog G0 N (flat code) (fun e _ σ st=>(e=.normal∨e=.ret)∧∃ n1,ImpPost Ty fn.results.toList gl nx1 nm n1 R upd σ st) nx1 (argsL args) gl)
  (hlt:∀ p∈gl,p.1<nx1:=by simp) (hargs:D.inns (hasB gl) args=true:=by simp[D.inns,D.inn,hasB]) (hgin:∀ p∈gl,p.2.inn (hasB gl)=true:=by simp[Blk.inn]) (hgs:∀ p∈gl,gs gl p.1=some p.2:=by simp[gs]) (hcov:∀ p∈gl,p.1∈upd.map (·.1):=by simp) (hupd:∀ q∈upd,q.1=nm∨hasB gl q.1=true:=by simp[hasB])
  (hn:(fn.name == "runtime.NumGoroutine")=false:=by kernel_rfl) (hN:args.length≤N:=by simp):Imp Tryz.prog G0 k args gl nm R upd :=
 imp_of Xb hf hb hNt hn hN hlt hargs hgin hgs hcov hupd (awpL_all h)
def thawL(L:List Nat)(g:Nat→Option Blk)(σ:List (Nat×D)):List (Nat×D):=σ.map (fun p=>(p.1,thawD L g p.2))
theorem gt_thawL(L:List Nat)(g:Nat→Option Blk)(t:Nat):∀ σ:List (Nat×D),gt (thawL L g σ) t=thawD L g (gt σ t)
 | []=>by simp[thawL,gt,thawD,D.inn]
 | (u,d)::σ=>by
  have ih:=gt_thawL L g t σ
  simp only[thawL,List.map_cons,gt] at ih ⊢
  by_cases h:t=u
  ·simp[h]
  ·simp only[h,if_false];exact ih
theorem YT{P:Program}{G:Nat→Option (List D)}{N:Nat}{Q:Post}{nx:Nat}{σ:List (Nat×D)}{st:List (Nat×Blk)}{cs:List Code}{d:Code}(L:List Nat)
  (h:awpL P G N (d::cs) Q nx (thawL L (resN L (gs st)) σ) (thawS L (resN L (gs st)) st)):awpL P G N (d::cs) Q nx σ st:=by
 intro B w0 O df ι0 ι a w hr
 refine h B w0 O df ι0 ι a w ?_
 have:=Rel.thaw L hr
 have e:gt (thawL L (resN L (gs st)) σ)=fun t=>thawD L (resN L (gs st)) (gt σ t):=funext fun t=>gt_thawL _ _ t σ
 rw[e]
 exact this
mutual
theorem inn_of(p:Nat→Bool):∀ (d:D),ZA d=[]→D.inn p d=true
 | .bp _ _,h=>by simp[ZA] at h
 | .ap _ _ _ _,h=>by simp[ZA] at h
 | .os _ _ _ _,h=>by simp[ZA] at h
 | .rf _ _,h=>by simp[ZA] at h
 | .agg cs,h=>by simp only[ZA] at h;simp only[D.inn];exact inns_of p cs h
 | .tup cs,h=>by simp only[ZA] at h;simp only[D.inn];exact inns_of p cs h
 | .fn _ a b,h=>by
  simp only[ZA,List.append_eq_nil_iff] at h
  simp only[D.inn,Bool.and_eq_true]
  exact⟨inns_of p a h.1,inns_of p b h.2⟩
 | .ifc _ d,h=>by simp only[ZA] at h;simp only[D.inn];exact inn_of p d h
 | .any,_=>rfl
 | .bool _,_=>rfl
 | .int _ _,_=>rfl
 | .str _,_=>rfl
 | .rng _ _ _,_=>rfl
 | .strg _ _,_=>rfl
 | .np,_=>rfl
 | .nils,_=>rfl
 | .nilf,_=>rfl
 | .nili,_=>rfl
 | .sle,_=>rfl
 | .sl _,_=>rfl
 | .vp _,_=>rfl
theorem inns_of(p:Nat→Bool):∀ (ds:List D),ZB ds=[]→D.inns p ds=true
 | [],_=>rfl
 | d::ds,h=>by
  simp only[ZB,List.append_eq_nil_iff] at h
  simp only[D.inns,Bool.and_eq_true]
  exact⟨inn_of p d h.1,inns_of p ds h.2⟩
end
theorem Clo.inn{d:List D}(h:Clo d)(p:Nat→Bool):D.inns p d=true:=inns_of p d h.n
@[simp] theorem inns_app(p:Nat→Bool):∀ a b:List D,D.inns p (a++b)=(D.inns p a&&D.inns p b)
 | [],b=>rfl
 | x::a,b=>by rw[List.cons_append,D.inns,D.inns,inns_app p a b,Bool.and_assoc]
theorem Zs(l:List Int):∀ r∈Zb l,∀ x∈r,YA x=true:=by
 intro r hr x hx
 obtain⟨y,_,rfl⟩:=List.mem_map.1 hr
 obtain rfl:x=.int .i64 y:=by simpa using hx
 rfl
theorem Zq(l:List Bool):∀ r∈ZK l,∀ x∈r,YA x=true:=by
 intro r hr x hx
 obtain⟨y,_,rfl⟩:=List.mem_map.1 hr
 obtain rfl:x=.bool y:=by simpa using hx
 rfl
theorem Zt(l:List Lk):∀ r∈l.map Zm,∀ x∈r,YA x=true:=by
 intro r hr x hx
 obtain⟨y,_,rfl⟩:=List.mem_map.1 hr
 simp only[Zm,List.mem_cons,List.not_mem_nil,or_false] at hx
 rcases hx with rfl|rfl|rfl<;>rfl
theorem le_os{n a b l k:Nat}(h:a=b):Le (.os n a l k) (.os n b l k):=h▸Le.refl _
attribute [simp] thawL thawS thawD Z7 ZZ
end
section
open Go Go.RowKit
section
variable {P:Program} {G:Nat→Option (List D)} {N:Nat} {Q:Post} {nx:Nat} {σ:List (Nat×D)} {st:List (Nat×Blk)} {cs:List Code}
theorem rep_of_nils{w:World}{F:Nat→Prop}{ι:Nat→Option IB}{v:Value}(h:Rep w F ι v .nils){nx:Nat}{es:Nat}(hn:ι nx=some ⟨false,0,es,0,0,0⟩):Rep w F ι v (.os nx 0 0 0):=by
 rw[h.is_nils]
 exact .os nx 0 0 0 ⟨false,0,es,0,0,0⟩ _ hn (Nat.le_refl _) rfl (fun _=>⟨none,0,rfl,Nat.le_refl _,rfl,fun h=>absurd h (Nat.lt_irrefl _),fun h=>absurd h (Nat.lt_irrefl _)⟩)
theorem Rel.boxLe{c:Ctx}{dom:Nat→Prop}{ι:Nat→Option IB}{a:Act}{w:World}{σ:Nat→D}{st:Nat→Option Blk}(h:Rel c dom ι a w σ st)(n:Nat)(cs cs':List D)(hs:st n=some (.box cs))(hl:cs'.length=cs.length)
  (hle:∀ F v i (hi:i<cs.length),Rep w F ι v cs[i]→Rep w F ι v (cs'[i]'(by omega))):Rel c dom ι a w σ (updS st n (some (.box cs'))):=by
 have hsm:∀ m,(updS st n (some (.box cs')) m).isSome=(st m).isSome:=by
  intro m
  unfold updS
  by_cases e:m=n
  ·subst e;simp[hs]
  ·simp[e]
 have hown:∀ b,Own ι (updS st n (some (.box cs'))) b↔Own ι st b:=fun b=>by
  constructor
  ·rintro⟨m,ib,h1,h2⟩;exact⟨m,ib,by rw[← hsm];exact h1,h2⟩
  ·rintro⟨m,ib,h1,h2⟩;exact⟨m,ib,by rw[hsm];exact h1,h2⟩
 refine h.world rfl rfl rfl (Nat.le_refl _) (fun b _ _=>rfl) (Grows.refl _) (fun b hb=>⟨(h.own b ((hown b).1 hb)).1,.inl ((hown b).1 hb)⟩) (fun m b hm=>?_) (fun m k h1 h2=>h.inj m k (by rw[← hsm];exact h1) (by rw[← hsm];exact h2)) h.dom
 by_cases e:m=n
 ·subst e
  right
  simp only[updS,if_true,Option.some.injEq] at hm
  subst hm
  obtain⟨ib,vs,ty,h1,h2,h3,h4,h5,h6⟩:=h.blk m _ hs
  refine⟨ib,vs,ty,h1,h2,h3,h4,by omega,fun i hi=>?_⟩
  refine (hle _ _ i (by omega) (h6 i (by omega))).mono (fun b hb _=>⟨rfl,fun hF=>hb ?_⟩) (Grows.refl _)
  rcases hF with hF|hF
  ·exact .inl hF
  ·exact .inr ((hown b).1 hF)
 ·left
  simp only[updS,if_neg e] at hm
  exact⟨hm,rfl,fun _ _ _=>rfl⟩
theorem awpL_ownB{d:Code}(n k es:Nat)(bs:List D)(h:gs st n=some (.box bs))(hk:bs[k]? = some .nils)
  (h1:awpL P G N (d::cs) Q (nx+1) σ ((n,.box (bs.set k (.os nx 0 0 0)))::(nx,.arr es [])::st)):awpL P G N (d::cs) Q nx σ st:=by
 intro B w0 O df ι0 ι a w hr
 have hno:=hr.none_of (nm:=nx) (by simp)
 obtain⟨k1,k2⟩:=hr.one (w':=w) nx ⟨false,0,es,0,0,0⟩ (.arr es []) rfl rfl rfl (Nat.le_refl _) (fun b _=>.inl rfl) (fun h=>absurd h (Nat.lt_irrefl _)) (fun ib hi=>by rw[hno.1] at hi;cases hi)
  (fun _ _=>⟨⟨false,0,es,0,0,0⟩,by simp[updI],rfl,rfl,rfl,Nat.le_refl _,(fun r hr=>by cases hr),fun h=>absurd h (Nat.lt_irrefl _)⟩)
 have hne:n≠nx:=by
  intro e;subst e
  have:=hno.2
  rw[h] at this;cases this
 have e:gs ((n,.box (bs.set k (.os nx 0 0 0)))::(nx,.arr es [])::st)=updS (updS (gs st) nx (some (.arr es []))) n (some (.box (bs.set k (.os nx 0 0 0)))):=by
  funext m
  simp only[gs,updS]
 refine h1 B w0 O df ι0 (updI ι nx ⟨false,0,es,0,0,0⟩) a w ?_
 rw[e]
 refine ((k1.boxLe n bs (bs.set k (.os nx 0 0 0)) (by simp only[updS,if_neg hne];exact h) (by simp) (fun F v i hi hv=>?_)).weaken (fun _=>Le.refl _) (fun m hm=>?_))
 ·by_cases e:k=i
  ·subst e
   rw[List.getElem_set_self]
   rw[List.getElem?_eq_getElem hi,Option.some.injEq] at hk
   rw[hk] at hv
   exact rep_of_nils (es:=es) hv (by simp[updI])
  ·rw[List.getElem_set_ne e];exact hv
 ·rcases hm with hm|hm
  ·exact Nat.lt_succ_of_lt hm
  ·rw[hm];exact Nat.lt_succ_self _
end
end
section
open Go Go.RowKit
section
variable {P:Program} {G:Nat→Option (List D)} {Ty:Nat→Option TyI} {N nx:Nat} {ops:List Oper}
def stepO{P:Program}(G:Nat→Option (List D))(Ty:Nat→Option TyI)(nx i:Nat)(o:Oper)(pcs:List (PX P G))(σ:List (Nat×D))(st:List (Nat×Blk)):Option Out×List (PX P G) :=
 match o.op with
 | .call { callee:=.builtin b,args,argTypes }=>(absBuiltin Ty b args.toList argTypes.toList (opD G (gt σ)) (gs st) (nx+i),pcs)
 | .call { callee:=.value f,args,.. }=>(match pcs with|.p pc::pcs'=>(absCall G pc f args.toList (opD G (gt σ)) (gs st),pcs')|.i ic::pcs'=>(absCallI G ic f args.toList (opD G (gt σ)) (gs st) (nx+i),pcs')|.b bc::pcs'=>(absCallB G bc f args.toList (opD G (gt σ)) (gs st) (nx+i),pcs')|[]=>(none,[]))
 | _=>(match absVal Ty o (opD G (gt σ)) with|some r=>some r|none=>absMem Ty P o (opD G (gt σ)) (gs st) (nx+i),pcs)
def absPre{P:Program}(G:Nat→Option (List D))(Ty:Nat→Option TyI)(N:Nat)(ops:List Oper)(nx:Nat):List Oper→Nat→List (PX P G)→List (Nat×D)→List (Nat×Blk)→Option (List LogE×List (Nat×D)×List (Nat×Blk)×Prop×List (PX P G))
 | [],_,pcs,σ,st=>some ([],σ,st,True,pcs)
 | o::rest,i,pcs,σ,st =>
  match wantedL ops σ o with
  | none=>none
  | some false=>match absPre G Ty N ops nx rest (i+1) pcs (setL σ o.dst (.tup [])) st with
   | some (log,σ',st',s,p)=>some (⟨ZP ops o,[],o.dst,[]⟩::log,σ',st',(∀ t,o.dst=some t→t<N)∧s,p)
   | none=>none
  | some true=>match stepO G Ty nx i o pcs σ st with
   | (none,_)=>none
   | (some r,pcs')=>match absPre G Ty N ops nx rest (i+1) pcs' (setL σ o.dst r.v) (putS st r.upd) with
    | some (log,σ',st',s,p)=>some (⟨ZP ops o,r.L,o.dst,r.upd.map (·.1)⟩::log,σ',st',(∀ t,o.dst=some t→t<N)∧r.side∧s,p)
    | none=>none
theorem absAll_cons(o:Oper)(rest:List Oper)(i:Nat)(pcs:List (PX P G))(σ:List (Nat×D))(st:List (Nat×Blk)):YE G Ty N ops nx (o::rest) i pcs σ st=(match wantedL ops σ o with
  | none=>none
  | some false=>match YE G Ty N ops nx rest (i+1) pcs (setL σ o.dst (.tup [])) st with
   | some (log,σ',st',s)=>some (⟨ZP ops o,[],o.dst,[]⟩::log,σ',st',(∀ t,o.dst=some t→t<N)∧s)
   | none=>none
  | some true=>match stepO G Ty nx i o pcs σ st with
   | (none,_)=>none
   | (some r,pcs')=>match YE G Ty N ops nx rest (i+1) pcs' (setL σ o.dst r.v) (putS st r.upd) with
    | some (log,σ',st',s)=>some (⟨ZP ops o,r.L,o.dst,r.upd.map (·.1)⟩::log,σ',st',(∀ t,o.dst=some t→t<N)∧r.side∧s)
    | none=>none):=by
 rw[YE]
 cases wantedL ops σ o with
 | none=>rfl
 | some b =>
  cases b with
  | false=>rfl
  | true =>
   show (match (stepO G Ty nx i o pcs σ st).1 with|none=>none|some r=>match YE G Ty N ops nx rest (i+1) (stepO G Ty nx i o pcs σ st).2 (setL σ o.dst r.v) (putS st r.upd) with
    | some (log,σ',st',s)=>some ((⟨ZP ops o,r.L,o.dst,r.upd.map (fun x:Nat×Option Blk=>x.1)⟩:LogE)::log,σ',st',(∀ t,o.dst=some t→t<N)∧r.side∧s)
    | none=>none)=_
   generalize stepO G Ty nx i o pcs σ st=e
   obtain⟨e1,e2⟩:=e
   cases e1<;>rfl
theorem absPre_app:∀ (l1 l2:List Oper) (i:Nat) (p:List (PX P G)) (σ:List (Nat×D)) (st:List (Nat×Blk)) {log1 σ1 st1 s1 p1 log2 σ2 st2 s2},absPre G Ty N ops nx l1 i p σ st=some (log1,σ1,st1,s1,p1)→YE G Ty N ops nx l2 (i+l1.length) p1 σ1 st1=some (log2,σ2,st2,s2) →
  ∃ s,YE G Ty N ops nx (l1++l2) i p σ st=some (log1++log2,σ2,st2,s)∧(s1→s2→s)
 | [],l2,i,p,σ,st,log1,σ1,st1,s1,p1,log2,σ2,st2,s2,h1,h2=>by
  cases h1
  exact⟨s2,h2,fun _ h=>h⟩
 | o::l1,l2,i,p,σ,st,log1,σ1,st1,s1,p1,log2,σ2,st2,s2,h1,h2=>by
  have e:i+(o::l1).length=i+1+l1.length:=by simp;omega
  rw[e] at h2
  rw[List.cons_append,absAll_cons]
  rw[absPre] at h1
  cases hw:wantedL ops σ o with
  | none=>rw[hw] at h1;cases h1
  | some b =>
   rw[hw] at h1
   cases b with
   | false =>
    simp only at h1 ⊢
    split at h1
    ·rename_i hp
     cases h1
     obtain⟨s,h3,h4⟩:=absPre_app l1 l2 (i+1) p _ st hp h2
     rw[h3]
     exact⟨_,rfl,fun a b=>⟨a.1,h4 a.2 b⟩⟩
    ·cases h1
   | true =>
    simp only at h1 ⊢
    generalize stepO G Ty nx i o p σ st=e at *
    obtain⟨e1,e2⟩:=e
    cases e1 with
    | none=>cases h1
    | some r =>
     simp only at h1 ⊢
     split at h1
     ·rename_i hp
      cases h1
      obtain⟨s,h3,h4⟩:=absPre_app l1 l2 (i+1) _ _ _ hp h2
      rw[h3]
      exact⟨_,rfl,fun a b=>⟨a.1,a.2.1,h4 a.2.2 b⟩⟩
     ·cases h1
theorem absPre_app2:∀ (l1 l2:List Oper) (i:Nat) (p:List (PX P G)) (σ:List (Nat×D)) (st:List (Nat×Blk)) {log1 σ1 st1 s1 p1 log2 σ2 st2 s2 p2},absPre G Ty N ops nx l1 i p σ st=some (log1,σ1,st1,s1,p1)→absPre G Ty N ops nx l2 (i+l1.length) p1 σ1 st1=some (log2,σ2,st2,s2,p2) →
  ∃ s,absPre G Ty N ops nx (l1++l2) i p σ st=some (log1++log2,σ2,st2,s,p2)∧(s1→s2→s)
 | [],l2,i,p,σ,st,log1,σ1,st1,s1,p1,log2,σ2,st2,s2,p2,h1,h2=>by
  cases h1
  exact⟨s2,h2,fun _ h=>h⟩
 | o::l1,l2,i,p,σ,st,log1,σ1,st1,s1,p1,log2,σ2,st2,s2,p2,h1,h2=>by
  have e:i+(o::l1).length=i+1+l1.length:=by simp;omega
  rw[e] at h2
  rw[List.cons_append,absPre]
  rw[absPre] at h1
  cases hw:wantedL ops σ o with
  | none=>rw[hw] at h1;cases h1
  | some b =>
   rw[hw] at h1
   cases b with
   | false =>
    simp only at h1 ⊢
    split at h1
    ·rename_i hp
     cases h1
     obtain⟨s,h3,h4⟩:=absPre_app2 l1 l2 (i+1) p _ st hp h2
     rw[h3]
     exact⟨_,rfl,fun a b=>⟨a.1,h4 a.2 b⟩⟩
    ·cases h1
   | true =>
    simp only at h1 ⊢
    generalize stepO G Ty nx i o p σ st=e at *
    obtain⟨e1,e2⟩:=e
    cases e1 with
    | none=>cases h1
    | some r =>
     simp only at h1 ⊢
     split at h1
     ·rename_i hp
      cases h1
      obtain⟨s,h3,h4⟩:=absPre_app2 l1 l2 (i+1) _ _ _ hp h2
      rw[h3]
      exact⟨_,rfl,fun a b=>⟨a.1,a.2.1,h4 a.2.2 b⟩⟩
     ·cases h1
end
theorem R3{cs:List Code}{N nx nx' id:Nat}{Q:Post}{σ σ1 σ2 σ3:List (Nat×D)}{st st1 st2 st3:List (Nat×Blk)}{ops:Array Oper}{log1 log2 log3:List LogE}{s1 s2 s3:Prop}{draw:Bool}{p1 p2:List (PX Tryz.prog G0)}(n m:Nat)(hnm:n≤m∧m≤ops.toList.length)(pcs:List (PX Tryz.prog G0))
  (h1:absPre G0 Ty N ops.toList nx (ops.toList.take n) 0 pcs σ st=some (log1,σ1,st1,s1,p1)) (hs1:s1) (h2:absPre G0 Ty N ops.toList nx ((ops.toList.drop n).take (m - n)) n p1 σ1 st1=some (log2,σ2,st2,s2,p2)) (hs2:s2)
  (h3:YE G0 Ty N ops.toList nx (ops.toList.drop m) m p2 σ2 st2=some (log3,σ3,st3,s3)) (hs3:s3)
  (hQ:awpL Tryz.prog G0 N cs Q nx' σ3 st3) (hok:Ye draw ops.toList (log1++log2++log3)=true:=by kernel_rfl) (hn:nx+ops.size=nx':=by simp;rfl):awpL Tryz.prog G0 N (.region id ops draw::cs) Q nx σ st:=by
 have e1:(ops.toList.take n).length=n:=by simp;simp at hnm;omega
 have e2:((ops.toList.drop n).take (m - n)).length=m - n:=by simp;simp at hnm;omega
 obtain⟨s12,h12,hi1⟩:=absPre_app2 _ _ 0 pcs σ st h1 (by rw[e1,Nat.zero_add];exact h2)
 obtain⟨s,h,hi2⟩:=absPre_app _ _ 0 pcs σ st h12 (by rw[List.length_append,e1,e2,Nat.zero_add,show n+(m - n)=m by omega];exact h3)
 have e3:ops.toList.take n++(ops.toList.drop n).take (m - n)++ops.toList.drop m=ops.toList:=by
  rw[List.append_assoc]
  have:(ops.toList.drop n).take (m - n)++ops.toList.drop m=ops.toList.drop n:=by
   have h9:=List.take_append_drop (m - n) (ops.toList.drop n)
   rw[List.drop_drop,show n+(m - n)=m by omega] at h9
   exact h9
  rw[this,List.take_append_drop]
 rw[e3] at h
 exact awpL_reg Xb mixed pcs h (hi2 (hi1 hs1 hs2) hs3) hok hn hQ
attribute [simp] absPre stepO
end
section
open Go Go.RowKit
def Rl7(out:List Int)(z:Dev×Bool):Prop:=z.2=true→Zu z.1.kind=true→PO.at_ out z.1.a.toNat=PO.at_ out z.1.b.toNat
structure PInv(n:Nat)(ds:List Dev)(st:List Int)(out:List Int):Prop where
 len:out.length=n
 low:∀ v,v<n→∃ u:Nat,u≤v∧PO.at_ out v=u∧Rch ds st u v
def muS(out:List Int):Nat:=(out.map Int.toNat).sum
theorem sum_set_lt:∀ (l:List Nat) (i:Nat) (x:Nat) (h:i<l.length),(l.set i x).sum+l[i]=l.sum+x
 | [],i,x,h=>by simp at h
 | y::l,0,x,h=>by simp;omega
 | y::l,i+1,x,h=>by
  have:=sum_set_lt l i x (by simpa using h)
  simp at *
  omega
theorem muS_set{out:List Int}{i:Nat}(h:i<out.length)(x:Int):muS (out.set i x)+(PO.at_ out i).toNat=muS out+x.toNat:=by
 unfold muS
 rw[List.map_set,at_get h]
 have:=sum_set_lt (out.map Int.toNat) i x.toNat (by simpa using h)
 rw[List.getElem_map] at this
 exact this
theorem at_set7{out:List Int}{i:Nat}(h:i<out.length)(x:Int)(j:Nat):PO.at_ (out.set i x) j=if j=i then x else PO.at_ out j:=by
 by_cases e:j=i
 ·subst e;simp[PO.at_,h]
 ·rw[if_neg e];simp[PO.at_,Ne.symm e]
theorem PInv.step{n:Nat}{ds:List Dev}{st out:List Int}(hD:DevsIn n ds)(h:PInv n ds st out){a b:Nat}(ha:a<n)(hb:b<n)(hr:Rch ds st a b)(hne:PO.at_ out a≠PO.at_ out b){m:Int}(hm:m=min (PO.at_ out a) (PO.at_ out b)) :
  PInv n ds st ((out.set a m).set b m)∧muS ((out.set a m).set b m)<muS out:=by
 obtain⟨x,hx,ex,rx⟩:=h.low a ha
 obtain⟨y,hy,ey,ry⟩:=h.low b hb
 have la:a<out.length:=by rw[h.len];exact ha
 have lb:b<out.length:=by rw[h.len];exact hb
 have lb':b<(out.set a m).length:=by simpa using lb
 have hab:a≠b:=fun e=>hne (by rw[e])
 have hm2:(m=x∧x<y)∨(m=y∧y<x):=by rw[ex,ey] at hm hne;omega
 refine⟨⟨by simp[h.len],fun v hv=>?_⟩,?_⟩
 ·rw[at_set7 lb',at_set7 la]
  by_cases e1:v=b
  ·rw[if_pos e1]
   subst e1
   rcases hm2 with⟨e,hl⟩|⟨e,hl⟩
   ·exact⟨x,by omega,e,rx.trans hr⟩
   ·exact⟨y,hy,e,ry⟩
  ·rw[if_neg e1]
   by_cases e2:v=a
   ·rw[if_pos e2]
    subst e2
    rcases hm2 with⟨e,hl⟩|⟨e,hl⟩
    ·exact⟨x,hx,e,rx⟩
    ·exact⟨y,by omega,e,ry.trans (hr.symm hD)⟩
   ·rw[if_neg e2]
    exact h.low v hv
 ·have h1:=muS_set lb' m
  have h2:=muS_set la m
  rw[at_set7 la,if_neg (fun e=>hab e.symm)] at h1
  rw[ex] at h2
  rw[ey] at h1
  simp only[Int.toNat_natCast] at h1 h2
  rcases hm2 with⟨e,hl⟩|⟨e,hl⟩
  ·rw[e] at h1 h2 ⊢
   simp only[Int.toNat_natCast] at h1 h2
   omega
  ·rw[e] at h1 h2 ⊢
   simp only[Int.toNat_natCast] at h1 h2
   omega
theorem rl7_fix{ds:List Dev}{st out:List Int}(h:∀ z∈ds.zip (YF st),Rl7 out z){u v:Nat}(hv:v∈nbS ds st u):PO.at_ out u=PO.at_ out v:=by
 obtain⟨d,hz,he⟩:=mem_nbZ.1 hv
 unfold ZO at he
 split at he
 ·omega
 ·rename_i hj
  have r:PO.at_ out d.a.toNat=PO.at_ out d.b.toNat:=h _ hz rfl (by simpa using hj)
  split at he
  ·rename_i e
   have e:d.a=u:=by simpa using e
   rw[e,he,Int.toNat_natCast,Int.toNat_natCast] at r;exact r
  ·split at he
   ·rename_i e
    have e:d.b=u:=by simpa using e
    rw[e,he,Int.toNat_natCast,Int.toNat_natCast] at r;exact r.symm
   ·omega
theorem rl7_steps{ds:List Dev}{st out:List Int}(h:∀ z∈ds.zip (YF st),Rl7 out z):∀ (k:Nat) (u v:Nat),PO.Steps (nbS ds st) k u v→PO.at_ out u=PO.at_ out v
 | 0,u,v,hs=>by
  have hs:u=v:=hs
  rw[hs]
 | k+1,u,v,hs=>by
  obtain⟨x,h1,h2⟩:=hs
  exact (rl7_fix h h1).trans (rl7_steps h k x v h2)
theorem pfix{n:Nat}{ds:List Dev}{st out:List Int}(hD:DevsIn n ds)(h:PInv n ds st out)(hf:∀ z∈ds.zip (YF st),Rl7 out z):out=partsL n ds st:=by
 refine List.ext_getElem (by rw[h.len,Yd]) (fun v h1 h2=>?_)
 have hv:v<n:=by rw[h.len] at h1;exact h1
 rw[← at_get h1,← at_get h2]
 obtain⟨p,hp,ep,hl⟩:=parts_least hD st v hv
 obtain⟨u,hu,eu,hr⟩:=h.low p (by omega)
 obtain⟨k,hk⟩:=hl.1
 have e:=rl7_steps hf k p v hk
 have hup:¬ u<p:=fun hlt=>hl.2 u hlt (hr.trans hl.1)
 rw[← e,ep,eu]
 congr 1
 omega
def idL(n:Nat):List Int:=(List.range n).map Int.ofNat
theorem idL_len(n:Nat):(idL n).length=n:=by simp[idL]
theorem idL_get(n k:Nat)(h:k<n):(idL n)[k]'(by rw[idL_len];exact h)=(k:Int):=by simp[idL]
theorem PInv.start(n:Nat)(ds:List Dev)(st:List Int):PInv n ds st (idL n):=by
 refine⟨idL_len n,fun v hv=>⟨v,Nat.le_refl _,?_,Rch.refl ds st v⟩⟩
 rw[at_get (by rw[idL_len];exact hv)]
 simp[idL]
structure J7(n:Nat)(ds:List Dev)(st:List Int)(m0 m:Nat)(b:Bool)(out:List Int):Prop where
 inv:PInv n ds st out
 le:muS out≤m0
 lt:b=true→muS out<m0
 fix_:b=false→∀ z∈(ds.zip (YF st)).take m,Rl7 out z
theorem J7.start{n:Nat}{ds:List Dev}{st out:List Int}(h:PInv n ds st out):J7 n ds st (muS out) 0 false out:=⟨h,Nat.le_refl _,(fun h=>by cases h),fun _ z hz=>by simp at hz⟩
theorem zipU{ds:List Dev}{st:List Int}{m:Nat}{d:Dev}{s:Int}(hd:ds[m]? = some d)(hs:st[m]? = some s):(ds.zip (YF st)).take (m+1)=(ds.zip (YF st)).take m++[(d,s==2)]:=by
 obtain⟨h1,h2⟩:=List.getElem?_eq_some_iff.1 hd
 obtain⟨h3,h4⟩:=List.getElem?_eq_some_iff.1 hs
 rw[List.take_succ_eq_append_getElem (by simp[YF];omega),List.getElem_zip]
 simp[YF,h2,h4]
theorem J7.keep{n:Nat}{ds:List Dev}{st out:List Int}{m0 m:Nat}{b:Bool}(h:J7 n ds st m0 m b out){d:Dev}{s:Int}(hd:ds[m]? = some d)(hs:st[m]? = some s)(hr:s=2→Zu d.kind=true→PO.at_ out d.a.toNat=PO.at_ out d.b.toNat):J7 n ds st m0 (m+1) b out :=
 ⟨h.inv,h.le,h.lt,fun e z hz=>by
  rw[zipU hd hs] at hz
  rcases List.mem_append.1 hz with hz|hz
  ·exact h.fix_ e z hz
  ·rw[List.mem_singleton.1 hz]
   exact fun h1 h2=>hr (by simpa using h1) h2⟩
theorem J7.more{n:Nat}{ds:List Dev}{st out:List Int}{m0 m:Nat}{b:Bool}(hD:DevsIn n ds)(h:J7 n ds st m0 m b out){d:Dev}(hd:ds[m]? = some d)(hs:st[m]? = some 2)(hj:Zu d.kind=true){a c:Nat}(ha:d.a=a)(hc:d.b=c){x y:Int}(hx:out[a]? = some x)(hy:out[c]? = some y)(hne:x≠y) :
  J7 n ds st m0 (m+1) true ((out.set a (if y<x then y else x)).set c (if y<x then y else x)):=by
 obtain⟨h1,h2⟩:=List.getElem?_eq_some_iff.1 hx
 obtain⟨h3,h4⟩:=List.getElem?_eq_some_iff.1 hy
 have hr:Rch ds st a c:=⟨1,c,mem_nbS.2 ⟨m,d,hd,hs,by unfold ZO;rw[if_neg (by simp[hj]),if_pos (by simp[ha]),hc]⟩,rfl⟩
 have e1:PO.at_ out a=x:=by simp[PO.at_,hx]
 have e2:PO.at_ out c=y:=by simp[PO.at_,hy]
 obtain⟨q1,q2⟩:=h.inv.step hD (by rw[h.inv.len] at h1;exact h1) (by rw[h.inv.len] at h3;exact h3) hr (by rw[e1,e2];exact hne) (m:=if y<x then y else x) (by rw[e1,e2];split<;>omega)
 have:=h.le
 exact⟨q1,by omega,(fun _=>by omega),fun e=>by cases e⟩
theorem J7.done{n:Nat}{ds:List Dev}{st out:List Int}{m0 m:Nat}(h:J7 n ds st m0 m false out)(hm:m=ds.length):∀ z∈ds.zip (YF st),Rl7 out z:=fun z hz=>h.fix_ rfl z (by rw[List.take_of_length_le (by simp;omega)];exact hz)
def colK(ps:List Int)(zs:List (Dev×Int)):List Int:=ps.map (Z8 ps zs)
theorem ZX(ps:List Int)(zs:List (Dev×Int)):(colK ps zs).length=ps.length:=by simp[colK]
theorem colK_nil(ps:List Int):colK ps []=List.replicate ps.length 0:=by
 apply List.ext_getElem<;>simp[colK,Z8,colV]
def mixL(a b:List Int)(k:Nat):List Int:=a.take k++b.drop k
theorem mix_zero(a b:List Int):mixL a b 0=b:=by simp[mixL]
theorem mix_len{a b:List Int}(h:a.length=b.length){k:Nat}(hk:k≤b.length):(mixL a b k).length=b.length:=by simp[mixL];omega
theorem mix_at{a b:List Int}(h:a.length=b.length){k:Nat}(hk:k<b.length):(mixL a b k)[k]? = some b[k]:=by
 unfold mixL
 rw[List.getElem?_append_right (by simp;omega)]
 simp[show min k a.length=k by omega,hk]
theorem mix_set{a b:List Int}(h:a.length=b.length){k:Nat}(hk:k<b.length):(mixL a b k).set k (a[k]'(by omega))=mixL a b (k+1):=by
 unfold mixL
 have hl:(a.take k).length=k:=by simp;omega
 rw[List.set_append_right _ _ (by omega),hl,Nat.sub_self,List.drop_eq_getElem_cons hk,List.set_cons_zero,List.take_succ_eq_append_getElem (by omega),List.append_assoc]
 rfl
theorem mix_keep{a b:List Int}(h:a.length=b.length){k:Nat}(hk:k<b.length)(e:a[k]'(by omega)=b[k]):mixL a b k=mixL a b (k+1):=by
 rw[← mix_set h hk,e]
 obtain⟨h1,h2⟩:=List.getElem?_eq_some_iff.1 (mix_at h hk)
 rw[← h2];simp
theorem mix_all{a b:List Int}(h:a.length=b.length){k:Nat}(hk:b.length≤k):mixL a b k=a:=by
 unfold mixL
 rw[List.take_of_length_le (by omega),List.drop_of_length_le hk,List.append_nil]
theorem col_step(ps:List Int)(zs:List (Dev×Int))(d:Dev){s cl:Int}(hs:s=2)(hk:(d.kind=4∧cl=2)∨((d.kind=5∨d.kind=6)∧cl=1))(q:Int):Z8 ps (zs++[(d,s)]) q=if q=PO.at_ ps d.a.toNat then bOr .i64 (Z8 ps zs q) cl else Z8 ps zs q:=by
 have hc:=bits_cases ps zs q
 rcases hk with⟨hk,rfl⟩|⟨hk,rfl⟩
 ·rw[bits_earth ps zs (d,s) hs hk,bOr_earth hc]
 ·rw[bits_live ps zs (d,s) hs hk,bOr_live hc]
theorem col_skip(ps:List Int)(zs:List (Dev×Int))(d:Dev)(s:Int)(h:s≠2∨Zu d.kind=true):colK ps (zs++[(d,s)])=colK ps zs:=by
 unfold colK
 rw[bits_not ps zs (d,s)]
 rcases h with h|h
 ·simp[h]
 ·have h1:Zu d.kind=true:=h
  unfold Zu at h1
  simp at h1 ⊢
  intro _
  omega
end
end Go.Proofs.YtjdgofpcmcobnaaGreatDoor.AL

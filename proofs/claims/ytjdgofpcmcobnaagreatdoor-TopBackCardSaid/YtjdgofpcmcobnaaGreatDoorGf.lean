/-
  The sanity check of the law gives true; hazards as lists.
-/
import Derived.Test.YtjdgofpcmcobnaaGreatDoorGfa
import Derived.Test.YtjdgofpcmcobnaaGreatDoorGfd
import Derived.Test.YtjdgofpcmcobnaaGreatDoorGfb
import Derived.Test.YtjdgofpcmcobnaaGreatDoorGfc
set_option maxRecDepth 100000
set_option maxHeartbeats 2000000
attribute [local simp] Go.Proofs.YtjdgofpcmcobnaaGreatDoor.AL.onesD Go.Proofs.YtjdgofpcmcobnaaGreatDoor.AL.oneD
set_option linter.unusedVariables false
set_option linter.unusedSimpArgs false
namespace Go.Proofs.YtjdgofpcmcobnaaGreatDoor.AL
section
open Go Go.RowKit
def AllF:List (Nat×Func)→Prop
 | []=>True
 | (k,f)::l=>(Tryz.prog.funcs[k]? = some f∧(f.name == "runtime.NumGoroutine")=false∧Nat.ble f.ntmps 8000=true)∧AllF l
def AllT:CT Func→Prop
 | .lf=>True
 | .nd _ v l r=>AllF v∧AllT l∧AllT r
theorem lk_ok:∀ {l:List (Nat×Func)} {n:Nat} {f:Func},AllF l→lk n l=some f→Tryz.prog.funcs[n]? = some f∧(f.name == "runtime.NumGoroutine")=false∧Nat.ble f.ntmps 8000=true
 | [],_,_,_,h=>by cases h
 | (k,g)::l,n,f,ha,h=>by
  simp only[lk] at h
  cases hb:Nat.beq n k with
  | true =>
   rw[hb] at h
   have:=Nat.eq_of_beq_eq_true hb
   subst this
   cases h
   exact ha.1
  | false =>
   rw[hb] at h
   exact lk_ok ha.2 h
theorem find_ok:∀ {t:CT Func} {n:Nat},AllT t→AllF (t.find n)
 | .lf,_,_=>trivial
 | .nd k v l r,n,h=>by
  simp only[CT.find]
  cases Nat.beq n k with
  | true=>exact h.1
  | false =>
   cases Nat.blt n k with
   | true=>exact find_ok h.2.1
   | false=>exact find_ok h.2.2
noncomputable def AllY:CT TyI→Bool
 | .lf=>true
 | .nd _ v l r=>v.all (fun p=>tyB Tryz.prog p.1 p.2)&&(AllY l&&AllY r)
theorem lkY_ok:∀ {l:List (Nat×TyI)} {n:Nat} {f:TyI},(l.all fun p=>tyB Tryz.prog p.1 p.2)=true→lk n l=some f→tyB Tryz.prog n f=true
 | [],_,_,_,h=>by cases h
 | (k,g)::l,n,f,ha,h=>by
  simp only[List.all_cons,Bool.and_eq_true] at ha
  simp only[lk] at h
  cases hb:Nat.beq n k with
  | true =>
   rw[hb] at h
   have:=Nat.eq_of_beq_eq_true hb
   subst this
   cases h
   exact ha.1
  | false =>
   rw[hb] at h
   exact lkY_ok ha.2 h
theorem findY_ok:∀ {t:CT TyI} {n:Nat},AllY t=true→((t.find n).all fun p=>tyB Tryz.prog p.1 p.2)=true
 | .lf,_,_=>rfl
 | .nd k v l r,n,h=>by
  simp only[AllY,Bool.and_eq_true] at h
  simp only[CT.find]
  cases Nat.beq n k with
  | true=>exact h.1
  | false =>
   cases Nat.blt n k with
   | true=>exact findY_ok h.2.1
   | false=>exact findY_ok h.2.2
theorem tyQ_ok:TyOK Tryz.prog TyQ:=fun t i h=>lkY_ok (findY_ok (t:=tyT) (by kernel_rfl)) h
theorem okC0:AllF fnC0:=⟨⟨Tryz.func7,by rfl,by rfl⟩,trivial⟩
theorem okC1:AllF fnC1:=⟨⟨Tryz.func24,by rfl,by rfl⟩,⟨Tryz.func25,by rfl,by rfl⟩,⟨Tryz.func26,by rfl,by rfl⟩,trivial⟩
theorem okC2:AllF fnC2:=⟨⟨Tryz.func33,by rfl,by rfl⟩,⟨Tryz.func36,by rfl,by rfl⟩,⟨Tryz.func37,by rfl,by rfl⟩,⟨Tryz.func39,by rfl,by rfl⟩,⟨Tryz.func44,by rfl,by rfl⟩,⟨Tryz.func46,by rfl,by rfl⟩,⟨Tryz.func47,by rfl,by rfl⟩,trivial⟩
theorem okC3:AllF fnC3:=⟨⟨Tryz.func48,by rfl,by rfl⟩,⟨Tryz.func49,by rfl,by rfl⟩,⟨Tryz.func50,by rfl,by rfl⟩,⟨Tryz.func51,by rfl,by rfl⟩,⟨Tryz.func52,by rfl,by rfl⟩,⟨Tryz.func53,by rfl,by rfl⟩,⟨Tryz.func54,by rfl,by rfl⟩,⟨Tryz.func55,by rfl,by rfl⟩,⟨Tryz.func59,by rfl,by rfl⟩,trivial⟩
theorem okC4:AllF fnC4:=⟨⟨Tryz.func64,by rfl,by rfl⟩,⟨Tryz.func65,by rfl,by rfl⟩,⟨Tryz.func66,by rfl,by rfl⟩,⟨Tryz.func67,by rfl,by rfl⟩,⟨Tryz.func68,by rfl,by rfl⟩,⟨Tryz.func69,by rfl,by rfl⟩,⟨Tryz.func70,by rfl,by rfl⟩,⟨Tryz.func71,by rfl,by rfl⟩,⟨Tryz.func72,by rfl,by rfl⟩,⟨Tryz.func77,by rfl,by rfl⟩,trivial⟩
theorem okC5:AllF fnC5:=⟨⟨Tryz.func80,by rfl,by rfl⟩,⟨Tryz.func81,by rfl,by rfl⟩,⟨Tryz.func82,by rfl,by rfl⟩,⟨Tryz.func83,by rfl,by rfl⟩,⟨Tryz.func84,by rfl,by rfl⟩,⟨Tryz.func85,by rfl,by rfl⟩,⟨Tryz.func86,by rfl,by rfl⟩,⟨Tryz.func87,by rfl,by rfl⟩,⟨Tryz.func88,by rfl,by rfl⟩,⟨Tryz.func89,by rfl,by rfl⟩,⟨Tryz.func90,by rfl,by rfl⟩,⟨Tryz.func91,by rfl,by rfl⟩,⟨Tryz.func92,by rfl,by rfl⟩,⟨Tryz.func93,by rfl,by rfl⟩,⟨Tryz.func94,by rfl,by rfl⟩,⟨Tryz.func95,by rfl,by rfl⟩,trivial⟩
theorem okC6:AllF fnC6:=⟨⟨Tryz.func96,by rfl,by rfl⟩,⟨Tryz.func97,by rfl,by rfl⟩,⟨Tryz.func98,by rfl,by rfl⟩,⟨Tryz.func108,by rfl,by rfl⟩,⟨Tryz.func109,by rfl,by rfl⟩,⟨Tryz.func110,by rfl,by rfl⟩,⟨Tryz.func111,by rfl,by rfl⟩,trivial⟩
theorem okC7:AllF fnC7:=⟨⟨Tryz.func112,by rfl,by rfl⟩,⟨Tryz.func113,by rfl,by rfl⟩,⟨Tryz.func114,by rfl,by rfl⟩,⟨Tryz.func115,by rfl,by rfl⟩,⟨Tryz.func119,by rfl,by rfl⟩,⟨Tryz.func120,by rfl,by rfl⟩,⟨Tryz.func121,by rfl,by rfl⟩,⟨Tryz.func127,by rfl,by rfl⟩,trivial⟩
theorem okC8:AllF fnC8:=⟨⟨Tryz.func128,by rfl,by rfl⟩,⟨Tryz.func131,by rfl,by rfl⟩,⟨Tryz.func133,by rfl,by rfl⟩,⟨Tryz.func136,by rfl,by rfl⟩,⟨Tryz.func137,by rfl,by rfl⟩,⟨Tryz.func138,by rfl,by rfl⟩,⟨Tryz.func139,by rfl,by rfl⟩,⟨Tryz.func140,by rfl,by rfl⟩,⟨Tryz.func143,by rfl,by rfl⟩,trivial⟩
theorem okC9:AllF fnC9:=⟨⟨Tryz.func147,by rfl,by rfl⟩,⟨Tryz.func148,by rfl,by rfl⟩,⟨Tryz.func149,by rfl,by rfl⟩,⟨Tryz.func151,by rfl,by rfl⟩,⟨Tryz.func152,by rfl,by rfl⟩,⟨Tryz.func153,by rfl,by rfl⟩,⟨Tryz.func154,by rfl,by rfl⟩,⟨Tryz.func155,by rfl,by rfl⟩,trivial⟩
theorem okC10:AllF fnC10:=⟨⟨Tryz.func163,by rfl,by rfl⟩,⟨Tryz.func169,by rfl,by rfl⟩,⟨Tryz.func170,by rfl,by rfl⟩,⟨Tryz.func171,by rfl,by rfl⟩,⟨Tryz.func172,by rfl,by rfl⟩,⟨Tryz.func173,by rfl,by rfl⟩,⟨Tryz.func174,by rfl,by rfl⟩,⟨Tryz.func175,by rfl,by rfl⟩,trivial⟩
theorem okC11:AllF fnC11:=⟨⟨Tryz.func177,by rfl,by rfl⟩,⟨Tryz.func180,by rfl,by rfl⟩,⟨Tryz.func185,by rfl,by rfl⟩,⟨Tryz.func186,by rfl,by rfl⟩,⟨Tryz.func187,by rfl,by rfl⟩,⟨Tryz.func188,by rfl,by rfl⟩,⟨Tryz.func189,by rfl,by rfl⟩,⟨Tryz.func190,by rfl,by rfl⟩,⟨Tryz.func191,by rfl,by rfl⟩,trivial⟩
theorem okC12:AllF fnC12:=⟨⟨Tryz.func192,by rfl,by rfl⟩,⟨Tryz.func203,by rfl,by rfl⟩,⟨Tryz.func205,by rfl,by rfl⟩,⟨Tryz.func206,by rfl,by rfl⟩,⟨Tryz.func207,by rfl,by rfl⟩,trivial⟩
theorem okC13:AllF fnC13:=⟨⟨Tryz.func215,by rfl,by rfl⟩,⟨Tryz.func216,by rfl,by rfl⟩,trivial⟩
theorem okC14:AllF fnC14:=⟨⟨Tryz.func224,by rfl,by rfl⟩,⟨Tryz.func225,by rfl,by rfl⟩,⟨Tryz.func229,by rfl,by rfl⟩,⟨Tryz.func231,by rfl,by rfl⟩,⟨Tryz.func233,by rfl,by rfl⟩,trivial⟩
theorem fnT_ok:AllT fnT:=⟨okC7,⟨okC3,⟨okC1,⟨okC0,trivial,trivial⟩,⟨okC2,trivial,trivial⟩⟩,⟨okC5,⟨okC4,trivial,trivial⟩,⟨okC6,trivial,trivial⟩⟩⟩,⟨okC11,⟨okC9,⟨okC8,trivial,trivial⟩,⟨okC10,trivial,trivial⟩⟩,⟨okC13,⟨okC12,trivial,trivial⟩,⟨okC14,trivial,trivial⟩⟩⟩⟩
theorem eq_ok:EqOK Tryz.prog (fun t=>cond (Nat.beq t 74) (flatT Tryz.prog 100 74) none):=by
 intro t ks h
 cases hb:Nat.beq t 74 with
 | false=>simp only[hb,cond_false] at h;cases h
 | true =>
  have:=Nat.eq_of_beq_eq_true hb
  subst this
  exact⟨h,by kernel_rfl,by kernel_rfl⟩
theorem facts_ok:∀ {F:List (Nat×List D×D)} {k:Nat} {A:List D} {R:D},(∀ p∈F,Pure Tryz.prog G0 p.1 p.2.1 p.2.2)→facts F k A=some R→Pure Tryz.prog G0 k A R
 | [],_,_,_,_,h=>by cases h
 | (k',A',R')::l,k,A,R,hF,h=>by
  simp only[facts] at h
  cases hb:Nat.beq k k' with
  | false=>rw[hb] at h;exact facts_ok (fun p hp=>hF p (List.mem_cons_of_mem _ hp)) h
  | true =>
   rw[hb] at h
   simp only[cond_true] at h
   have:=Nat.eq_of_beq_eq_true hb
   subst this
   cases hl:leDs A A' with
   | false=>rw[hl] at h;exact facts_ok (fun p hp=>hF p (List.mem_cons_of_mem _ hp)) h
   | true =>
    rw[hl] at h
    cases h
    obtain⟨l1,l2⟩:=leDs_ok hl
    have hp:=hF (k,A',R') (by simp)
    exact⟨hp.body,fun w F vs hs hr hG hF=>hp.calls w F vs (by simp only;omega) (fun i hi=>(l2 i (by simp only at hi;omega) hi).p _ _ _ (hr i (by simp only at hi;omega))) hG hF⟩
theorem mo_ok{C:NS}{F:List (Nat×List D×D)}(hF:∀ p∈F,Pure Tryz.prog G0 p.1 p.2.1 p.2.2)(hC:∀ k,C.has k=true→Pure Tryz.prog G0 k [.sl []] (.sl [])):MoOK Tryz.prog G0 (MF C F):=by
 refine⟨fun k f h=>?_,eq_ok,fun k A R _ h=>?_,fun k h n a l u sc nm h1 h2=>?_⟩
 ·have h:fns k=some f:=h
  unfold fns at h
  split at h
  ·rename_i g hg
   obtain⟨g1,g2,g3⟩:=lk_ok (find_ok fnT_ok) hg
   unfold fnOf at h
   split at h
   ·rename_i c hc
    cases h
    exact⟨g,g1,hc,rfl,rfl,g2,by rw[Nat.ble_eq] at g3;exact g3⟩
   ·cases h
  ·cases h
 ·have h:ext0 C F k A=some R:=h
  unfold ext0 at h
  cases h3:C.has k with
  | true =>
   rw[h3] at h
   simp only[cond_true] at h
   unfold extC at h
   split at h
   ·cases h;exact hC k h3
   ·cases h
  | false =>
   rw[h3] at h
   exact facts_ok hF h
 ·cases h
def AllN(p:Nat→Prop):NS→Prop
 | .lf=>True
 | .nd k l r=>p k∧AllN p l∧AllN p r
theorem NS.ok{p:Nat→Prop}:∀ {t:NS} {n:Nat},AllN p t→t.has n=true→p n
 | .lf,_,_,h=>by cases h
 | .nd k l r,n,ha,h=>by
  simp only[NS.has] at h
  cases hb:Nat.beq n k with
  | true =>
   have:=Nat.eq_of_beq_eq_true hb
   subst this
   exact ha.1
  | false =>
   rw[hb] at h
   simp only[cond_false] at h
   cases hl:Nat.blt n k with
   | true=>rw[hl] at h;exact NS.ok ha.2.1 h
   | false=>rw[hl] at h;exact NS.ok ha.2.2 h
theorem ev0{k:Nat}{A:List D}{R:D}(f:Nat)(h:(evPure TyQ (MF .lf []) (evS TyQ G0 (MF .lf []) f) k A []).map (·.1)=some R):Pure Tryz.prog G0 k A R :=
 run_pure tyQ_ok (mo_ok (fun p hp=>by cases hp) (fun k h=>by cases h)) mixed (fun p hp=>by cases hp) h
theorem cl36:Pure Tryz.prog G0 36 [.sl []] (.sl []):=pure_nil ⟨Tryz.f36,Tryz.func36,rfl,by rfl⟩ (ev0 100 (by kernel_rfl)) (ev0 100 (by kernel_rfl))
theorem cl66:Pure Tryz.prog G0 66 [.sl []] (.sl []):=pure_nil ⟨Tryz.f66,Tryz.func66,rfl,by rfl⟩ (ev0 100 (by kernel_rfl)) (ev0 100 (by kernel_rfl))
theorem clone_ok:∀ k,cloneS.has k=true→Pure Tryz.prog G0 k [.sl []] (.sl []):=fun _k h=>NS.ok (t:=cloneS) (p:=fun k=>Pure Tryz.prog G0 k [.sl []] (.sl [])) ⟨cl66,⟨cl36,trivial,trivial⟩,trivial⟩ h
theorem ev1{F:List (Nat×List D×D)}{k:Nat}{A:List D}{R:D}(hF:∀ p∈F,Pure Tryz.prog G0 p.1 p.2.1 p.2.2)(f:Nat)(h:(evPure TyQ (MF cloneS F) (evS TyQ G0 (MF cloneS F) f) k A []).map (·.1)=some R):Pure Tryz.prog G0 k A R :=
 run_pure tyQ_ok (mo_ok hF clone_ok) mixed (fun p hp=>by cases hp) h
end
section
open Go Go.RowKit
theorem fcT_ok:∀ p∈fcT,Pure Tryz.prog G0 p.1 p.2.1 p.2.2:=by
 intro p hp
 simp only[fcT,List.mem_cons,List.not_mem_nil,or_false] at hp
 rcases hp with rfl|rfl
 ·exact ev1 (fun p hp=>by cases hp) 100000 run24
 ·exact ev1 (fun p hp=>by cases hp) 100000 run25
theorem first_fact:Pure Tryz.prog G0 7 [] (.bool true):=ev1 fcT_ok 100000 run7
end
section
open Go Go.RowKit
def selH(b:Bool)(h:Int):List Int:=if b=true then [h] else []
def hz4(b1 b2 b3 b4:Bool):List Int:=selH b1 1++(selH b2 2++(selH b3 3++selH b4 5))
theorem Pure.resLe{k:Nat}{A:List D}{R R':D}(h:Pure Tryz.prog G0 k A R)(hl:Le R R'):Pure Tryz.prog G0 k A R' :=
 ⟨h.body,fun w F vs h1 h2 h3 h4=>(h.calls w F vs h1 h2 h3 h4).mono fun _ _ ⟨v,h5,h6,h7⟩=>⟨v,h5,h6,hl.toP h7⟩⟩
def hzA(b1 b2 b3 b4:Bool):List D:=[.sl [[.int .i64 4,.bool false],[.int .i64 6,.bool false],[.int .i64 1,.bool b1],[.int .i64 2,.bool b2],[.int .i64 3,.bool b3],[.int .i64 5,.bool b4]]]
theorem hz0:Pure Tryz.prog G0 151 (hzA false false false false) .nils:=ev1 (F:=[]) (fun p hp=>by cases hp) 3000 (by kernel_rfl)
theorem hz1(b3 b4:Bool):Pure Tryz.prog G0 151 (hzA true true b3 b4) (.sl (Zb (hz4 true true b3 b4))):=by
 cases b3<;>cases b4<;>exact ev1 (F:=[]) (fun p hp=>by cases hp) 3000 (by kernel_rfl)
theorem hz2(b3 b4:Bool):Pure Tryz.prog G0 151 (hzA true false b3 b4) (.sl (Zb (hz4 true false b3 b4))):=by
 cases b3<;>cases b4<;>exact ev1 (F:=[]) (fun p hp=>by cases hp) 3000 (by kernel_rfl)
theorem hz3(b3 b4:Bool):Pure Tryz.prog G0 151 (hzA false true b3 b4) (.sl (Zb (hz4 false true b3 b4))):=by
 cases b3<;>cases b4<;>exact ev1 (F:=[]) (fun p hp=>by cases hp) 3000 (by kernel_rfl)
theorem hz5(b4:Bool):Pure Tryz.prog G0 151 (hzA false false true b4) (.sl (Zb (hz4 false false true b4))):=by
 cases b4<;>exact ev1 (F:=[]) (fun p hp=>by cases hp) 3000 (by kernel_rfl)
theorem hz6:Pure Tryz.prog G0 151 (hzA false false false true) (.sl (Zb (hz4 false false false true))):=ev1 (F:=[]) (fun p hp=>by cases hp) 3000 (by kernel_rfl)
theorem Xk(b1 b2 b3 b4:Bool):Pure Tryz.prog G0 151 (hzA b1 b2 b3 b4) (.sl (Zb (hz4 b1 b2 b3 b4))):=by
 cases b1
 ·cases b2
  ·cases b3
   ·cases b4
    ·exact hz0.resLe Le.nils
    ·exact hz6
   ·exact hz5 b4
  ·exact hz3 b3 b4
 ·cases b2
  ·exact hz2 b3 b4
  ·exact hz1 b3 b4
theorem blen_pure(n:Nat)(h:n≤12):Pure Tryz.prog G0 180 [.int .u64 n] .any:=by
 rcases (by omega:n=0∨n=1∨n=2∨n=3∨n=4∨n=5∨n=6∨n=7∨n=8∨n=9∨n=10∨n=11∨n=12) with rfl|rfl|rfl|rfl|rfl|rfl|rfl|rfl|rfl|rfl|rfl|rfl|rfl
 ·exact Pure.resLe (R:=.int .i64 0) (ev1 (F:=[]) (fun p hp=>by cases hp) 3000 (by kernel_rfl)) (Le.any _)
 ·exact Pure.resLe (R:=.int .i64 1) (ev1 (F:=[]) (fun p hp=>by cases hp) 3000 (by kernel_rfl)) (Le.any _)
 ·exact Pure.resLe (R:=.int .i64 2) (ev1 (F:=[]) (fun p hp=>by cases hp) 3000 (by kernel_rfl)) (Le.any _)
 ·exact Pure.resLe (R:=.int .i64 2) (ev1 (F:=[]) (fun p hp=>by cases hp) 3000 (by kernel_rfl)) (Le.any _)
 ·exact Pure.resLe (R:=.int .i64 3) (ev1 (F:=[]) (fun p hp=>by cases hp) 3000 (by kernel_rfl)) (Le.any _)
 ·exact Pure.resLe (R:=.int .i64 3) (ev1 (F:=[]) (fun p hp=>by cases hp) 3000 (by kernel_rfl)) (Le.any _)
 ·exact Pure.resLe (R:=.int .i64 3) (ev1 (F:=[]) (fun p hp=>by cases hp) 3000 (by kernel_rfl)) (Le.any _)
 ·exact Pure.resLe (R:=.int .i64 3) (ev1 (F:=[]) (fun p hp=>by cases hp) 3000 (by kernel_rfl)) (Le.any _)
 ·exact Pure.resLe (R:=.int .i64 4) (ev1 (F:=[]) (fun p hp=>by cases hp) 3000 (by kernel_rfl)) (Le.any _)
 ·exact Pure.resLe (R:=.int .i64 4) (ev1 (F:=[]) (fun p hp=>by cases hp) 3000 (by kernel_rfl)) (Le.any _)
 ·exact Pure.resLe (R:=.int .i64 4) (ev1 (F:=[]) (fun p hp=>by cases hp) 3000 (by kernel_rfl)) (Le.any _)
 ·exact Pure.resLe (R:=.int .i64 4) (ev1 (F:=[]) (fun p hp=>by cases hp) 3000 (by kernel_rfl)) (Le.any _)
 ·exact Pure.resLe (R:=.int .i64 4) (ev1 (F:=[]) (fun p hp=>by cases hp) 3000 (by kernel_rfl)) (Le.any _)
end
end Go.Proofs.YtjdgofpcmcobnaaGreatDoor.AL

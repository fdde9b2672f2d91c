/-
  A node that is proved ahead of another one.
-/
import Derived.Test.YtjdgofpcmcobnaaGreatDoorGp
import Derived.Test.YtjdgofpcmcobnaaGreatDoorGla
import Derived.Test.YtjdgofpcmcobnaaGreatDoorGf
import Derived.Test.YtjdgofpcmcobnaaGreatDoorGo
import Derived.Shelf.Spec.SlicesInsertGrow
import Derived.Shelf.Spec.SlicesInsert
set_option maxRecDepth 100000
set_option maxHeartbeats 2000000
set_option linter.unusedVariables false
set_option linter.unusedSimpArgs false
namespace Go.Proofs.YtjdgofpcmcobnaaGreatDoor.AL
section
open Go Go.RowKit
theorem flt_sub{n:Nat}{ds:List Dev}{s t:List Int}(h:FltIn n ds s t){x:Int}(hx:x∈supN (fltP (colF n ds s)) n):x∈supN (fltP (colF n ds t)) n:=by
 obtain⟨i,h3,h1,h2⟩:=(Yt _ _ _).1 hx
 refine (Yt _ _ _).2 ⟨i,h3,h1,?_⟩
 have l1:i<(colF n ds s).length:=by rw[Y1];exact h1
 have l2:i<(colF n ds t).length:=by rw[Y1];exact h1
 have:=h i h1 (by simpa[fltP,PO.at_,l1] using h2)
 simpa[fltP,PO.at_,l2] using this
end
section
open Go Go.Shelf Go.RowKit Go.Proofs
def renI:Ren:=⟨fun x=>if x=21 then 115 else if x=27 then 157 else if x=28 then 158 else if x=35 then 178 else if x=39 then 193 else x,fun x=>x,fun x=>x⟩
theorem laysI:Lays2.n21 Tryz.prog renI where
 mixed:=mixed
 f21:=by rfl
 f27:=by rfl
 f28:=by rfl
 f35:=by rfl
 f39:=by rfl
 t0:=by rfl
 a0:=fun w=>rfl
 z0:=fun w=>rfl
 v0:=fun w=>rfl
 t3:=by rfl
 a3:=fun w=>rfl
 z3:=fun w=>rfl
 v3:=fun w=>rfl
 t4:=by rfl
 a4:=fun w=>rfl
 z4:=fun w=>rfl
 v4:=fun w=>rfl
 t22:=by rfl
 a22:=fun w=>rfl
 z22:=fun w=>rfl
 v22:=fun w=>rfl
 i3:=by rfl
end
section
open Go Go.Shelf Go.RowKit Go.Proofs Go.Lib
set_option maxHeartbeats 4000000
theorem ins_shift(b c vb vc:Nat)(x y:Value)(w:World)(hroom:2≤c)(hvb:vb≠b)(ca:w.cell? ⟨b,0,none⟩=some x)(c1:(w.cell? ⟨b,1,none⟩).isSome=true)(fz:∀ j,w.frozen? ⟨b,j,none⟩=false)(cb:w.cell? ⟨vb,0,none⟩=some y)
  (h1x:x.oneCell'=true) (h1y:y.oneCell'=true) (tA tB:TypeId) (kA kB:Nat) (hsa:w.shape? vb=some (tA,kA)) (hsb:w.shape? b=some (tB,kB)) (hkB:kB≠0) (hfa:w.frozen? ⟨vb,0,none⟩=false) (hfe:w.frozen? ⟨vb,kA,none⟩=false) :
  Calls Tryz.prog 115 #[.slice (some ⟨b,0,none⟩) 1 c,.int .i64 0,.slice (some ⟨vb,0,none⟩) 1 vc] w fun e w' =>
   e=.returned (.slice (some ⟨b,0,none⟩) 2 c)∧w'=(w.drew.setCells b 1 [x]).setCells b 0 [y]:=by
 have L:=laysI
 have t0:=L.t0;have a0:=L.a0;have z0:=L.z0;have v0:=L.v0;have t3:=L.t3;have a3:=L.a3;have z3:=L.z3;have v3:=L.v3;have t4:=L.t4;have a4:=L.a4;have z4:=L.z4;have v4:=L.v4;have t22:=L.t22;have a22:=L.a22;have z22:=L.z22;have v22:=L.v22
 have u0:=run_underlying L.t0;have u3:=run_underlying L.t3;have u4:=run_underlying L.t4;have u22:=run_underlying L.t22
 have hsz:(Tryz.prog.info? (renI.t 3)).map (·.size)=some 1:=by
  obtain⟨i0,hi0,h0,h1,h2⟩:=info_parts L.i3
  rw[hi0];simp[h1]
 have hov:∀ lb cb,(callFunc (renI.f 27) #[.slice (some ⟨vb,0,none⟩) 1 vc,.slice (some ⟨b,1,none⟩) lb cb]).run Tryz.prog w=.ok (.value (.bool false)) w:=fun lb cb=>by
  rw[run_callFunc_extern L.f27 (by kernel_rfl) (by kernel_rfl) (by kernel_rfl) (e:=Extern.SlicesOverlaps.overlaps #[(renI.t 22),(renI.t 22)] #[(renI.t 4)]) (by kernel_rfl),
   run_overlaps_apart w (renI.t 22) (renI.t 4) (renI.t 3) L.t22 1 L.z3 ⟨vb,0,none⟩ ⟨b,1,none⟩ 1 vc lb cb hvb tA tB kA kB hsa hsb hkB hfa hfe]
  rfl
 have mixed:=L.mixed
 have hw1:IntKind.i64.wrap 1=1:=by decide
 have hb2:¬ (c=1):=by omega
 have hb4:¬ (c=0):=by omega
 have hb5:¬ ((c:Int)<2):=by omega
 have hcp1:∀ ty dc sc,(Builtin.copy_ #[(renI.t 22),(renI.t 22)] ty #[.slice (some ⟨b,1,none⟩) 1 dc,.slice (some ⟨b,0,none⟩) 2 sc]).run Tryz.prog w.drew=.ok (goInt 1) (w.drew.setCells b 1 [x]):=fun ty dc sc =>
  run_copy_cells w.drew _ _ ty (renI.t 3) b 1 1 dc ⟨b,0,none⟩ 2 sc [x] L.t22 hsz (by rfl)
   (fun j v hj=>by
    cases j with
    | zero=>simp at hj;subst hj;exact ca
    | succ j=>simp at hj)
   (fun j hj=>by
    have:j=0:=by simp at hj;omega
    subst this;exact c1) (fun j hj=>fz _) (fun v hv=>by simp at hv;subst hv;exact h1x)
 obtain⟨W1,hW1⟩:∃ W1,W1=w.drew.setCells b 1 [x]:=⟨_,rfl⟩
 have hd0:(W1.cell? ⟨b,0,none⟩).isSome=true:=by
  rw[hW1,World.cell?_setCells_out b _ _ _ _ (fun _ _=>.inl (by show 0<1;decide))]
  show (w.cell? ⟨b,0,none⟩).isSome=true
  rw[ca];rfl
 have hcp2:∀ (W:World),(∀ x,W.cell? x=W1.cell? x)→(∀ x,W.frozen? x=W1.frozen? x)→∀ ty dc,(Builtin.copy_ #[(renI.t 22),(renI.t 22)] ty #[.slice (some ⟨b,0,none⟩) 2 dc,.slice (some ⟨vb,0,none⟩) 1 vc]).run Tryz.prog W=.ok (goInt 1) (W.setCells b 0 [y]):=fun W hWc hWf ty dc =>
  run_copy_cells W _ _ ty (renI.t 3) b 0 2 dc ⟨vb,0,none⟩ 1 vc [y] L.t22 hsz (by rfl)
   (fun j v hj=>by
    cases j with
    | zero =>
     simp at hj;subst hj
     show W.cell? ⟨vb,0,none⟩=some y
     rw[hWc,hW1,World.cell?_setCells_out b _ _ _ _ (fun h _=>absurd h hvb)]
     exact cb
    | succ j=>simp at hj)
   (fun j hj=>by
    have:j=0:=by simp at hj;omega
    subst this
    show (W.cell? ⟨b,0,none⟩).isSome=true
    rw[hWc];exact hd0) (fun j hj=>by rw[hWf,hW1,World.frozen?_setCells];exact fz _) (fun v hv=>by simp at hv;subst hv;exact h1y)
 rw[← hW1] at hcp1
 show Calls Tryz.prog (renI.f 21) _ w _
 go_enter L.f21,Body2.n21_ntmps renI
 go_wp2_with (simp only[hov])
 go_region_law_o (refine step_copy_runI rfl _ _ (renI.t 22) (renI.t 22) rfl _ _ (by simp[Act.eval,Act.put]) (by simp[Act.eval,Act.put]) (hcp1 _ _ _) ?_)
 go_wp2_with (at_builtin;refine wpList_copy_runI _ rfl _ _ (renI.t 22) (renI.t 22) rfl _ _ rfl rfl (hcp2 _ (fun _=>rfl) (fun _=>rfl) _ _) ?_)
 go_ret
 first|exact⟨rfl,rfl⟩|exact⟨rfl,by rw[hW1]⟩
end
section
open Go Go.Shelf Go.RowKit Go.Proofs
theorem os_open{c:Ctx}{dom:Nat→Prop}{ι:Nat→Option IB}{a:Act}{w:World}{σ:Nat→D}{st:Nat→Option Blk}(hr:Rel c dom ι a w σ st){n:Nat}{x:Int}(hs:st n=some (.arr 1 [[.int .i64 x]])){v:Value}(hv:Rep w (Fb c ι st) ι v (.os n 1 0 1)) :
  ∃ ib vs ty,ι n=some ib∧0<ib.cap∧v=.slice (some ⟨ib.blk,0,none⟩) 1 ib.cap∧w.heap[ib.blk]? = some (.cells vs ty (0,0))∧vs.size=ib.cap∧vs[0]? = some (.int .i64 x):=by
 obtain⟨ib,b1,b2,b3,b4,b5,b6,b7⟩:=hr.blk n _ hs
 simp only[List.length_cons,List.length_nil,Nat.zero_add] at b4 b5
 cases hv with
 | pure _ _ h=>cases h
 | os _ _ _ _ ib' _ hn hle h1 h =>
  obtain rfl:ib=ib':=Option.some.inj (b1.symm.trans hn)
  obtain⟨A,cap,e1,e2,e3,e4,_⟩:=h (by omega)
  have hcap:0<ib.cap:=by omega
  obtain⟨e5,e6⟩:=e4 (by omega)
  obtain⟨vs,ty,k1,k2,k3⟩:=b7 hcap
  have hb0:ib.base=0:=by omega
  refine⟨ib,vs,ty,b1,hcap,?_,k1,by rw[k2,hb0];simp,?_⟩
  ·rw[e1,e6,hb0]
   have:cap=ib.cap:=by omega
   rw[this];simp
  ·have h9:=k3 0 (by simp) 0 (by simp) (by omega)
   rw[hb0] at h9 k2
   simp only[Nat.sub_self,Nat.zero_mul,Nat.zero_add,List.getElem_cons_zero] at h9
   have hsz:0<vs.size:=by rw[k2];simp;omega
   have e:vs.getD 0 undef=vs[0]:=by simp[hsz]
   rw[e] at h9
   rw[Array.getElem?_eq_getElem hsz,(Rep.pure (ι:=ι) _ _ h9).is_int]
theorem shape_cells{w:World}{b:Nat}{vs:Array Value}{ty:TypeId}(h:w.heap[b]? = some (.cells vs ty (0,0))):w.shape? b=some (ty,vs.size):=by unfold World.shape?;rw[h]
theorem frozen_cells{w:World}{b o:Nat}{vs:Array Value}{ty:TypeId}(h:w.heap[b]? = some (.cells vs ty (0,0))):w.frozen? ⟨b,o,none⟩=false:=by unfold World.frozen?;rw[h];simp
def gone2(st:Nat→Option Blk)(a b:Nat):Nat→Option Blk:=updL st [(a,none),(b,none)]
theorem gone2_some{st:Nat→Option Blk}{a b n:Nat}{x:Blk}(h:gone2 st a b n=some x):st n=some x∧n≠a∧n≠b:=by
 unfold gone2 updL updL updS at h
 by_cases e1:n=b
 ·subst e1;simp[updL,updS] at h
 ·by_cases e2:n=a
  ·subst e2;simp[updL,updS,e1] at h
  ·simp[updL,updS,e1,e2] at h
   exact⟨h,e2,e1⟩
theorem gone2_own{ι:Nat→Option IB}{st:Nat→Option Blk}{a b:Nat}{x:Nat}(h:Own ι (gone2 st a b) x):∃ n ib,(st n).isSome=true∧ι n=some ib∧0<ib.cap∧x=ib.blk∧n≠a∧n≠b:=by
 obtain⟨n,ib,h1,h2,h3,h4⟩:=h
 cases hx:gone2 st a b n with
 | none=>rw[hx] at h1;cases h1
 | some y =>
  obtain⟨e1,e2,e3⟩:=gone2_some hx
  exact⟨n,ib,by rw[e1];rfl,h2,h3,h4,e2,e3⟩
theorem pair_rep{w:World}{F:Nat→Prop}{b cap:Nat}(hc:2≤cap)(hF:¬ F b)(h0:w.cell? ⟨b,0,none⟩=some (.int .i64 2))(h1:w.cell? ⟨b,1,none⟩=some (.int .i64 3))(hz:(w.heap[b]?).isSome=true):RepP w F (.slice (some ⟨b,0,none⟩) 2 cap) (.sl [[.int .i64 2],[.int .i64 3]]):=by
 refine .sl b 0 1 cap [[.int .i64 2],[.int .i64 3]] (fun i j=>if i=0 then .int .i64 2 else .int .i64 3) hc hF (by simp) (fun i j hi hj=>?_) hz (fun i hi j hj=>?_)
 ·obtain rfl:j=0:=by omega
  simp only[List.length_cons,List.length_nil] at hi
  have:i=0∨i=1:=by omega
  rcases this with rfl|rfl
  ·exact h0
  ·exact h1
 ·simp only[List.length_cons,List.length_nil] at hi
  have:i=0∨i=1:=by omega
  rcases this with rfl|rfl
  ·have:j=0:=by simp at hj;omega
   subst this;exact .int _ _
  ·have:j=0:=by simp at hj;omega
   subst this;exact .int _ _
theorem sz_set(w:World)(a:Addr)(v:Value):(w.setCell a v).heap.size=w.heap.size:=by simp[World.setCell]
theorem sz_drew(w:World):w.drew.heap.size=w.heap.size:=rfl
theorem some_lt{w:World}{b:Nat}(h:b<w.heap.size):(w.heap[b]?).isSome=true:=by rw[Array.getElem?_eq_getElem h];rfl
theorem insert_imp(a b nm:Nat)(hab:a≠b):Imp Tryz.prog G0 115 [.os a 1 0 1,.int .i64 0,.os b 1 0 1] [(a,.arr 1 [[.int .i64 3]]),(b,.arr 1 [[.int .i64 2]])] nm (.sl [[.int .i64 2],[.int .i64 3]]) [(a,none),(b,none)]:=by
 refine⟨⟨Tryz.f115,Tryz.func115,by rfl,by rfl⟩,?_⟩
 intro c dom ι w st vs hP hG hr hg hnm hsz hv
 have hsa:=hg (a,.arr 1 [[.int .i64 3]]) (by simp)
 have hsb:=hg (b,.arr 1 [[.int .i64 2]]) (by simp)
 obtain⟨ia,va,ta,a1,a2,a3,a4,a5,a6⟩:=os_open hr hsa (hv 0 (by simp))
 obtain⟨ib,vb,tb,b1,b2,b3,b4,b5,b6⟩:=os_open hr hsb (hv 2 (by simp))
 have hi1:=(hv 1 (by simp)).is_int
 obtain⟨hva,hna⟩:vs=#[.slice (some ⟨ia.blk,0,none⟩) 1 ia.cap,.int .i64 0,.slice (some ⟨ib.blk,0,none⟩) 1 ib.cap]∧True:=by
  refine⟨?_,trivial⟩
  simp only[List.length_cons,List.length_nil] at hsz
  apply Array.ext (by simpa using hsz)
  intro i h1 h2
  have:i=0∨i=1∨i=2:=by omega
  rcases this with rfl|rfl|rfl
  ·have:vs[0]=vs.getD 0 undef:=by simp[h1]
   rw[this,a3];rfl
  ·have:vs[1]=vs.getD 1 undef:=by simp[h1]
   rw[this,hi1];rfl
  ·have:vs[2]=vs.getD 2 undef:=by simp[h1]
   rw[this,b3];rfl
 subst hva
 have hne:ia.blk≠ib.blk:=hr.inj a b (by rw[hsa];rfl) (by rw[hsb];rfl) hab ia ib a1 b1 a2 b2
 have ca:w.cell? ⟨ia.blk,0,none⟩=some (.int .i64 3):=by rw[cell_of_row w ia.blk 0 _ _ _ a4,a6]
 have cb:w.cell? ⟨ib.blk,0,none⟩=some (.int .i64 2):=by rw[cell_of_row w ib.blk 0 _ _ _ b4,b6]
 have hcs:∀ j v,([Value.int .i64 3]:List Value)[j]? = some v→w.cell? ⟨ia.blk,0+j,none⟩=some v:=by
  intro j v h
  cases j with
  | zero=>simp at h;subst h;exact ca
  | succ j=>simp at h
 have hvs:∀ j v,([Value.int .i64 2]:List Value)[j]? = some v→w.cell? ⟨ib.blk,0+j,none⟩=some v:=by
  intro j v h
  cases j with
  | zero=>simp at h;subst h;exact cb
  | succ j=>simp at h
 have h1c:∀ v∈([Value.int .i64 3]:List Value),v.oneCell'=true:=by intro v h;simp at h;subst h;rfl
 have h1v:∀ v∈([Value.int .i64 2]:List Value),v.oneCell'=true:=by intro v h;simp at h;subst h;rfl
 have hlt:ia.blk<w.heap.size:=(hr.own ia.blk ⟨a,ia,by rw[hsa];rfl,a1,a2,rfl⟩).1
 have hFb:∀ x,Fb c.bare ι (gone2 st a b) x→Fb c ι st x∧x≠ia.blk:=by
  rintro x (hx|hx)
  ·refine⟨.inl hx,fun e=>?_⟩
   subst e
   exact (hr.own ia.blk ⟨a,ia,by rw[hsa];rfl,a1,a2,rfl⟩).2.1 hx
  ·obtain⟨n,jb,e1,e2,e3,e4,e5,_⟩:=gone2_own hx
   refine⟨.inr ⟨n,jb,e1,e2,e3,e4⟩,fun e=>?_⟩
   exact hr.inj n a e1 (by rw[hsa];rfl) e5 jb ia e2 a1 e3 a2 (by rw[← e4,e])
 have fin:∀ (w':World),w'.os=w.os→w'.tape=w.tape→w'.output=w.output→w.heap.size≤w'.heap.size→(∀ x,x<w.heap.size→x≠ia.blk→w'.heap[x]? = w.heap[x]?) →
   Rel c.bare (fun n=>dom n∨n=nm) ι act0 w' any0 (gone2 st a b)∧∀ v d,Rep w (Fb c ι st) ι v d→Rep w' (Fb c ι (gone2 st a b)) ι v d:=by
  intro w' h1 h2 h3 h4 h5
  refine⟨hr.world h1 h2 h3 h4 (fun x hx hO=>h5 x hx (fun e=>hO ⟨a,ia,by rw[hsa];rfl,a1,a2,e⟩)) (Grows.refl _) (fun x hx=>?_) (fun n x hx=>?_) (fun n m e1 e2 e3=>?_) (fun n h=>.inl (hr.dom n h)),fun v d hvd=>hvd.mono (fun x hx hz=>⟨h5 x (isSome_lt hz) (fun e=>hx (.inr ⟨a,ia,by rw[hsa];rfl,a1,a2,e⟩)),fun hF=>hx (hFb x hF).1⟩) (Grows.refl _)⟩
  ·obtain⟨n,jb,e1,e2,e3,e4,_⟩:=gone2_own hx
   have hO:Own ι st x:=⟨n,jb,e1,e2,e3,e4⟩
   exact⟨by have:=(hr.own x hO).1;omega,.inl hO⟩
  ·obtain⟨e1,e2,e3⟩:=gone2_some hx
   refine .inl ⟨e1,rfl,fun jb e4 e5=>h5 _ (hr.own jb.blk ⟨n,jb,by rw[e1];rfl,e4,e5,rfl⟩).1 (hr.inj n a (by rw[e1];rfl) (by rw[hsa];rfl) e2 jb ia e4 a1 e5 a2)⟩
  ·cases f1:gone2 st a b n with
   | none=>rw[f1] at e1;cases e1
   | some y1=>cases f2:gone2 st a b m with
    | none=>rw[f2] at e2;cases e2
    | some y2=>exact hr.inj n m (by rw[(gone2_some f1).1];rfl) (by rw[(gone2_some f2).1];rfl) e3
 show Calls Tryz.prog 115 _ w _
 by_cases hcap:ia.cap=1
 ·have hC:=Any2.slices_Insert_int_grow laysI ia.blk 0 1 ia.cap 0 ib.blk 0 1 ib.cap [.int .i64 3] [.int .i64 2] w (by decide) (by decide) (by omega) (by omega) (by decide) rfl rfl hcs hvs h1c h1v
  refine Calls.mono hC ?_
  rintro e w' ⟨rfl,rfl⟩
  have hge:=grownCap_ge w (1+1) ia.cap (renI.t 3)
  generalize grownCap w (1+1) ia.cap (renI.t 3)=G at *
  obtain⟨ROW,hROW⟩:∃ ROW:Array Value,ROW=(([Value.int .i64 3]:List Value).take 0).toArray++Builtin.zeroCells (Value.int .i64 0).cells (1+1 - 0)++Builtin.zeroCells (Value.int .i64 0).cells (G - (1+1)):=⟨_,rfl⟩
  rw[← hROW]
  have hRs:2≤ROW.size:=by rw[hROW];simp[Builtin.zeroCells,Value.cells]
  obtain⟨w1,hw1⟩:∃ w1,w1=(w.alloc (.cells ROW (renI.t 3))).drew:=⟨_,rfl⟩
  rw[← hw1]
  have hb1:Below w.heap.size w w1:=by rw[hw1];exact ((Below.refl _ _).alloc (Nat.le_refl _) _).drew
  have hx1:w1.heap[w.heap.size]? = some (.cells ROW (renI.t 3) (0,0)):=by rw[hw1];show (w.heap.push _)[w.heap.size]? = _;simp
  simp only[List.drop_zero,World.setCells]
  have hb2:Below w.heap.size w ((w1.setCell ⟨w.heap.size,0,none⟩ (.int .i64 2)).drew.setCell ⟨w.heap.size,0+1,none⟩ (.int .i64 3)):=((hb1.setCell (Nat.le_refl _) _).drew).setCell (Nat.le_refl _) _
  have c0:(w1.cell? ⟨w.heap.size,0,none⟩).isSome=true:=by rw[cell_of_row w1 _ 0 _ _ _ hx1];simp;omega
  have c1:(w1.cell? ⟨w.heap.size,1,none⟩).isSome=true:=by rw[cell_of_row w1 _ 1 _ _ _ hx1];simp;omega
  obtain⟨r1,r2⟩:=fin _ hb2.os hb2.tape hb2.output hb2.size (fun x hx _=>hb2.block x hx)
  refine⟨_,ι,rfl,r1,.pure _ _ (pair_rep hge (fun hF=>?_) ?_ ?_ ?_),r2⟩
  ·have h9:=(hFb _ hF).1
   rcases h9 with h9|h9
   ·have:=(hr.low _ h9).1;have:=hr.hsize;simp only[Ctx.bare] at *;omega
   ·have:=(hr.own _ h9).1;omega
  ·refine (World.cell?_setCell_other _ _ _ _ (fun e=>by simp at e)).trans ?_
   exact World.cell?_setCell_same' w1 _ _ c0
  ·refine World.cell?_setCell_same' _ _ _ ?_
   show ((w1.setCell ⟨w.heap.size,0,none⟩ (.int .i64 2)).cell? ⟨w.heap.size,0+1,none⟩).isSome=true
   rw[show ((w1.setCell ⟨w.heap.size,0,none⟩ (.int .i64 2)).cell? ⟨w.heap.size,0+1,none⟩)=w1.cell? ⟨w.heap.size,0+1,none⟩ from World.cell?_setCell_other _ _ _ _ (fun e=>by simp at e)]
   exact c1
  ·have:w.heap.size<w1.heap.size:=by rw[hw1];show w.heap.size<(w.heap.push _).size;simp
   exact some_lt (by rw[sz_set,sz_drew,sz_set];exact this)
 ·have hC:=ins_shift ia.blk ia.cap ib.blk ib.cap (.int .i64 3) (.int .i64 2) w (by omega) (Ne.symm hne) ca (by rw[cell_of_row w _ 1 _ _ _ a4];simp;omega) (fun j=>frozen_cells a4) cb rfl rfl tb ta vb.size va.size (shape_cells b4) (shape_cells a4) (by omega) (frozen_cells b4) (frozen_cells b4)
  refine Calls.mono hC ?_
  rintro e w' ⟨rfl,rfl⟩
  simp only[World.setCells]
  obtain⟨r1,r2⟩:=fin ((w.drew.setCell ⟨ia.blk,1,none⟩ (.int .i64 3)).setCell ⟨ia.blk,0,none⟩ (.int .i64 2)) rfl rfl rfl (by rw[sz_set,sz_set,sz_drew];exact Nat.le_refl _) (fun x hx hn=>by
   rw[Below.heap_setCell _ _ _ _ hn,Below.heap_setCell _ _ _ _ hn];rfl)
  have c0:(w.cell? ⟨ia.blk,0,none⟩).isSome=true:=by rw[ca];rfl
  have c1:(w.cell? ⟨ia.blk,1,none⟩).isSome=true:=by rw[cell_of_row w _ 1 _ _ _ a4];simp;omega
  refine⟨_,ι,rfl,r1,.pure _ _ (pair_rep (by omega) (fun hF=>(hFb _ hF).2 rfl) ?_ ?_ ?_),r2⟩
  ·refine World.cell?_setCell_same' _ _ _ ?_
   rw[show ((w.drew.setCell ⟨ia.blk,1,none⟩ (.int .i64 3)).cell? ⟨ia.blk,0,none⟩)=w.drew.cell? ⟨ia.blk,0,none⟩ from World.cell?_setCell_other _ _ _ _ (fun e=>by simp at e)]
   exact c0
  ·refine (World.cell?_setCell_other _ _ _ _ (fun e=>by simp at e)).trans ?_
   exact World.cell?_setCell_same' w.drew _ _ c1
  ·exact some_lt (by rw[sz_set,sz_set,sz_drew];exact hlt)
end
section
open Go Go.RowKit
theorem prov32_fact:Pure Tryz.prog G0 72 [.agg [.int .i64 0,.nils,.sl (Zb [3])],.int .i64 2] (.agg [.int .i64 0,.nils,.sl (Zb [2,3])]):=by
 refine Zh Tryz.func72 rfl Tryz.ntmps72 ?_
 have hbs:=bs_pure [3] (by simp) 2
 rw[show bsF ([3]:List Int) 2 (([3]:List Int).length+1) 0 ([3]:List Int).length=0 from by decide] at hbs
 replace hbs:Pure Tryz.prog G0 114 [.sl (Zb [3]),.int .i64 2] (.tup [.int .i64 0,.bool false]):=hbs
 refine R0 ?_
 refine R6 [.p ⟨_,_,_,hbs⟩] ?_
 refine R0 ?_
 refine fl_T ?_
 refine R [.b ⟨_,_,_,_,_,_,Z4 [3] (by decide) (by decide) 15⟩,.i ⟨_,_,_,_,_,_,insert_imp 15 18 19 (by decide)⟩] (by simp[Zb];first|exact F3|exact F4) (by first|exact Zs _|exact Zq _|exact Zt _|trivial|omega|(simp;done)|(simp;omega)) ?_
 refine R0 ?_
 refine Za ?_
 simp[Zb]
theorem prov32:Prov32:=prov32_fact
end
end Go.Proofs.YtjdgofpcmcobnaaGreatDoor.AL

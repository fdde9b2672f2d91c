/-
  A node that is proved ahead of another one; the law gives true.
-/
import Derived.Test.YtjdgofpcmcobnaaGreatDoorGp
import Derived.Test.YtjdgofpcmcobnaaGreatDoorGla
import Derived.Test.YtjdgofpcmcobnaaGreatDoorGf
import Derived.Test.YtjdgofpcmcobnaaGreatDoorGo
import Derived.Shelf.Spec.SlicesInsertGrow
import Derived.Shelf.Spec.SlicesInsert
set_option maxRecDepth 100000
set_option maxHeartbeats 2000000
set_option linter.unusedVariables false
set_option linter.unusedSimpArgs false
namespace Go.Proofs.YtjdgofpcmcobnaaGreatDoor.AL
open Go Go.RowKit
theorem flt_sub {n:Nat} {ds:List Dev} {s t:List Int} (h:FltIn n ds s t) {x:Int} (hx:x∈supN (fltP (colF n ds s)) n):x∈supN (fltP (colF n ds t)) n:=by
 obtain ⟨i,h3,h1,h2⟩:=(supN_mem _ _ _).1 hx
 refine (supN_mem _ _ _).2 ⟨i,h3,h1,?_⟩
 have l1:i < (colF n ds s).length:=by rw [colF_len]; exact h1
 have l2:i < (colF n ds t).length:=by rw [colF_len]; exact h1
 have:=h i h1 (by simpa [fltP,PO.at_,l1] using h2)
 simpa [fltP,PO.at_,l2] using this
theorem stuck_main (l:List Int) (hI:∀ (hl:l.length≤400),∃ z:List Nat,(zoneF (bayN (newDk l)).length (bayK (newDk l))).1=nats z∧(∀ v∈z,v < (bayN (newDk l)).length)∧z.length≤100∧ZOK (bayN (newDk l)) z∧checkL (bayN (newDk l)) (bayD (newDk l))=0∧(bayN (newDk l)).length=6∧8≤(bayD (newDk l)).length∧(bayD (newDk l)).length≤9∧StOK (bayD (newDk l)) (bayS (newDk l))∧DkOK (bayK (newDk l))∧∀ sd:Nat,StkHyp (bayN (newDk l)) (bayD (newDk l)) (bayS (newDk l)) z sd):Pure Tryz.prog G0 4 [.sl (intsD l)] (.bool true):=by
 refine entry Tryz.func4 rfl Tryz.ntmps4 ?_
 refine R0 ?_
 refine R2 [.p ⟨_,_,_,few_pure l⟩] (by simp; first|exact F3|exact F4) ?_
 refine fl_cond (b:=!(decide (l.length≤400))) (by simp) (fun c1=>?_) (fun c1=>?_)
 ·refine R2 [.p ⟨_,_,_,first_fact⟩] (by simp; first|exact F3|exact F4) ?_
  refine awpL_ret ?_
  simp
 ·have hl:l.length≤400:=by simpa using c1
  have hd:=newDk_ok l hl
  have hbay:=fun nm h=>bay_imp (newDk l) hd nm h
  obtain ⟨z,hz1,hzv,hzl,hzo,hc,hn6,hd8,hd9,hso0,hkk,hIs⟩:=hI hl
  clear hI
  generalize bayN (newDk l)=ns at *
  generalize bayD (newDk l)=ds at *
  generalize bayS (newDk l)=st at *
  generalize bayK (newDk l)=dk at *
  have hsl:=hso0.1
  have hzf:=zoneF_ok ns.length hkk
  have hzi:=fun nm h=>zone_imp dk hkk ns ds (by omega) (by omega) nm h
  rw [hz1] at hzi
  generalize (zoneF ns.length dk).2=d2 at *
  have hvr:=d2.v_rng (a:=(st.length:Int)) (by omega)
  obtain ⟨sd,hsd⟩:∃ sd:Nat,d2.v st.length=sd:=⟨(d2.v st.length).toNat,by omega⟩
  have hI:=hIs sd
  refine R2 [.i ⟨_,_,_,_,_,_,new_imp l 5⟩] (by simp; first|exact F3|exact F4) ?_
  refine R2 [.i ⟨_,_,_,_,_,_,hbay 8 (by decide)⟩] (by simp; first|exact F3|exact F4) ?_
  refine R2 [.i ⟨_,_,_,_,_,_,hzi 17 (by decide)⟩] (by simp; first|exact F3|exact F4) ?_
  rcases hI with hI | ⟨ss,en,fd,L,pr,F,hI,hRun,hfl,hfa,hF,hFl,hfi,hLl,hLp⟩
  ·refine R [.p ⟨_,_,_,hI⟩] (by simp; first|exact F3|exact F4) (by exact le_agg ⟨Le.refl _,Le.nils,Le.nils,trivial⟩) ?_
   refine R0 ?_
   refine fl_T ?_
   refine R2 [.p ⟨_,_,_,first_fact⟩] (by simp; first|exact F3|exact F4) ?_
   refine awpL_ret ?_
   simp
  ·have hRun3:∀ m nm,Imp Tryz.prog G0 13 [netD ns ds,.sl (intsD st),.agg [.int .i64 0,.nils,.nils],.agg [.str nmI,.sl (ss.map stpRow)],.os m 1 0 1] [(m,.arr 1 [[.int .i64 (sd:Int)]])] nm (.tup [.sl (fd.map fRow),.os nm st.length 0 st.length,gD 0 L pr,.int .i64 en,.int .i64 0]) [(m,none),(nm,some (.arr 1 (intsD F)))]:=fun m nm=>Imp.own1 (A:=[netD ns ds,.sl (intsD st),.agg [.int .i64 0,.nils,.nils],.agg [.str nmI,.sl (ss.map stpRow)]]) (hRun nm) m
   have hFa:=faults_pure ns ds hc (by omega) F hF
   have hFb:=rfaults_pure ns ds hc st hso0
   have hsub:=fun x h=>flt_sub (x:=x) hfi h
   have hbl:=supN_len (fltP (colF ns.length ds st)) ns.length
   have hal:=supN_len (fltP (colF ns.length ds F)) ns.length
   generalize supN (fltP (colF ns.length ds F)) ns.length=af at *
   generalize supN (fltP (colF ns.length ds st)) ns.length=bf at *
   have htk:List.take st.length (intsD F)=intsD F:=List.take_of_length_le (by simp; omega)
   have hst0:st.length≠0:=by omega
   refine R [.p ⟨_,_,_,hI⟩] (by simp; first|exact F3|exact F4) (by exact le_agg ⟨Le.refl _,Le.nils,Le.nils,trivial⟩) ?_
   refine R0 ?_
   refine fl_F ?_
   refine R2 [.i ⟨_,_,_,_,_,_,next_imp d2 hzf st.length (by omega) (by omega) 5 39 (by decide)⟩,.i ⟨_,_,_,_,_,_,hRun3 40 41⟩] (by simp [hsd]; first|exact F3|exact F4) ?_
   refine R2 [] (by simp [hFl]; first|exact F3|exact F4) ?_
   refine fl_F ?_
   refine R0 ?_
   refine fl_block (fun K0_1 hK0_1=>?_)
   refine fl_loopK (X:=Nat) [4,5,10,11,78,79] [] (fun x=>[(80,.int .i64 x)]) (fun x=>[]) (fun x=>x≤fd.length) (fun x=>fd.length - x) 0 (by simp) (by simp) ?_
   simp only [KN,keep,but,reduceIte,Nat.reduceEqDiff,Nat.reduceBEq]
   rintro k hlek KL2 hKL2
   refine R0 ?_
   refine fl_C (fun c13=>?_) (fun c13=>?_)
   ·have hlt:k < fd.length:=by simpa using c13
    have hkk:fd[k]? = some fd[k]:=by simp [hlt]
    have hd:=Lib.hid (List.drop_eq_getElem_cons hlt)
    have hz3:=hfa _ (List.getElem_mem hlt)
    generalize fd[k]=x at *
    refine fl_block (fun K1_3 hK1_3=>?_)
    refine R2 [] (by simp [hkk]; first|exact F3|exact F4) ?_
    refine R2 [] (by simp [hz3,hkk]; first|exact F3|exact F4) ?_
    refine fl_F ?_
    refine awpL_nil (hK1_3 _ _ _ ?_)
    refine R2 [] (by simp [hkk]; (try simp (disch:=omega) only [w64]); first|exact F3|exact F4) ?_
    exact hKL2 _ _ _ (k+1) (by omega) (by omega) (by simp)
   ·have hge:fd.length≤k:=by simpa using c13
    have hke:k=fd.length:=by have:k≤fd.length:=hlek; omega
    have hdn:=Lib.hid (List.drop_of_length_le hge)
    refine awpL_exit (show K0_1 _ _ _ from hK0_1 _ _ _ ?_)
    refine R2 [.p ⟨_,_,_,hFb⟩] (by simp; first|exact F3|exact F4) ?_
    refine awpL_thaw [41] ?_
    refine R2 [.p ⟨_,_,_,hFa⟩] (by simp [htk,hst0,hFl]; first|exact F3|exact F4) ?_
    refine R0 ?_
    refine fl_block (fun K2_4 hK2_4=>?_)
    refine fl_loopK (X:=Nat) [10,11,16,19,100,101] [] (fun x=>[(102,.int .i64 x)]) (fun x=>[]) (fun x=>x≤af.length) (fun x=>af.length - x) 0 (by simp) (by simp) ?_
    simp only [KN,keep,but,reduceIte,Nat.reduceEqDiff,Nat.reduceBEq]
    rintro k hlek KL5 hKL5
    refine R0 ?_
    refine fl_C (fun c21=>?_) (fun c21=>?_)
    ·have hlt:k < af.length:=by simpa using c21
     have hkk:af[k]? = some af[k]:=by simp [hlt]
     have hd:=Lib.hid (List.drop_eq_getElem_cons hlt)
     have hxb:=hsub _ (List.getElem_mem hlt)
     generalize af[k]=x at *
     refine fl_block (fun K3_6 hK3_6=>?_)
     refine R2 [] (by simp [hkk]; first|exact F3|exact F4) ?_
     refine R2 [.p ⟨_,_,_,rhas_pure bf (by omega) x hxb⟩] (by simp [hkk]; first|exact F3|exact F4) ?_
     refine fl_F ?_
     refine awpL_nil (hK3_6 _ _ _ ?_)
     refine R2 [] (by simp [hkk]; (try simp (disch:=omega) only [w64]); first|exact F3|exact F4) ?_
     exact hKL5 _ _ _ (k+1) (by omega) (by omega) (by simp)
    ·have hge:af.length≤k:=by simpa using c21
     have hke:k=af.length:=by have:k≤af.length:=hlek; omega
     have hdn:=Lib.hid (List.drop_of_length_le hge)
     refine awpL_exit (show K2_4 _ _ _ from hK2_4 _ _ _ ?_)
     rcases L with _ | ⟨x0,xs⟩
     ·have hLk:lkD []=.nils:=rfl
      refine R2 [] (by simp [hLk]; first|exact F3|exact F4) ?_
      refine fl_block (fun K4_7 hK4_7=>?_)
      refine fl_loopK (X:=Nat) [10,19,112,113] [] (fun x=>[(114,.int .i64 x)]) (fun x=>[]) (fun x=>x=0) (fun x=>0) 0 (rfl) (by simp) ?_
      simp only [KN,keep,but,reduceIte,Nat.reduceEqDiff,Nat.reduceBEq]
      rintro j hj0 KL8 hKL8
      replace hj0:j=0:=hj0
      subst hj0
      refine R0 ?_
      refine fl_F ?_
      refine awpL_exit (show K4_7 _ _ _ from hK4_7 _ _ _ ?_)
      refine R2 [.p ⟨_,_,_,first_fact⟩] (by simp; first|exact F3|exact F4) ?_
      refine awpL_ret ?_
      simp
     ·have hLk:lkD (x0::xs)=.sl ((x0::xs).map lkRow):=rfl
      generalize x0::xs=L at *
      refine R2 [] (by simp [hLk]; first|exact F3|exact F4) ?_
      refine fl_block (fun K4_9 hK4_9=>?_)
      refine fl_loopK (X:=Nat) [10,19,112,113] [] (fun x=>[(114,.int .i64 x)]) (fun x=>[]) (fun x=>x≤L.length) (fun x=>L.length - x) 0 (by simp) (by simp) ?_
      simp only [KN,keep,but,reduceIte,Nat.reduceEqDiff,Nat.reduceBEq]
      rintro k hlek KL10 hKL10
      refine R0 ?_
      refine fl_C (fun c27=>?_) (fun c27=>?_)
      ·have hlt:k < L.length:=by simpa using c27
       have hkk:L[k]? = some L[k]:=by simp [hlt]
       have hd:=Lib.hid (List.drop_eq_getElem_cons hlt)
       obtain ⟨i,hi1,hi2⟩:=hLp _ (List.getElem_mem hlt)
       obtain ⟨hil,hi3⟩:=List.getElem?_eq_some_iff.1 hi2
       have f1:decide ((i:Int) < 0)=false:=by simp
       have f2:decide (st.length≤i)=false:=by simp; omega
       generalize L[k]=u at *
       refine fl_block (fun K5_11 hK5_11=>?_)
       refine R2 [] (by simp [hkk]; first|exact F3|exact F4) ?_
       refine R2 [] (by simp [hi1,hi2,hi3,f1,f2,hFl,hil,hkk]; first|exact F3|exact F4) ?_
       refine fl_F ?_
       refine awpL_nil (hK5_11 _ _ _ ?_)
       refine R2 [] (by simp [hkk]; (try simp (disch:=omega) only [w64]); first|exact F3|exact F4) ?_
       exact hKL10 _ _ _ (k+1) (by omega) (by omega) (by simp)
      ·have hge:L.length≤k:=by simpa using c27
       have hke:k=L.length:=by have:k≤L.length:=hlek; omega
       have hdn:=Lib.hid (List.drop_of_length_le hge)
       refine awpL_exit (show K4_9 _ _ _ from hK4_9 _ _ _ ?_)
       refine R2 [.p ⟨_,_,_,first_fact⟩] (by simp; first|exact F3|exact F4) ?_
       refine awpL_ret ?_
       simp
end Go.Proofs.YtjdgofpcmcobnaaGreatDoor.AL
namespace Go.Proofs.YtjdgofpcmcobnaaGreatDoor.AL
open Go Go.Shelf Go.RowKit Go.Proofs
def renI:Ren:=⟨fun x=>if x=21 then 115 else if x=27 then 157 else if x=28 then 158 else if x=35 then 178 else if x=39 then 193 else x,fun x=>x,fun x=>x⟩
theorem laysI:Lays2.n21 Tryz.prog renI where
  mixed:=mixed
  f21:=by rfl
  f27:=by rfl
  f28:=by rfl
  f35:=by rfl
  f39:=by rfl
  t0:=by rfl
  a0:=fun w=>rfl
  z0:=fun w=>rfl
  v0:=fun w=>rfl
  t3:=by rfl
  a3:=fun w=>rfl
  z3:=fun w=>rfl
  v3:=fun w=>rfl
  t4:=by rfl
  a4:=fun w=>rfl
  z4:=fun w=>rfl
  v4:=fun w=>rfl
  t22:=by rfl
  a22:=fun w=>rfl
  z22:=fun w=>rfl
  v22:=fun w=>rfl
  i3:=by rfl
end Go.Proofs.YtjdgofpcmcobnaaGreatDoor.AL
namespace Go.Proofs.YtjdgofpcmcobnaaGreatDoor.AL
open Go Go.Shelf Go.RowKit Go.Proofs Go.Lib
set_option maxHeartbeats 4000000
theorem ins_shift (b c vb vc:Nat) (x y:Value) (w:World) (hroom:2≤c) (hvb:vb≠b) (ca:w.cell? ⟨b,0,none⟩=some x) (c1:(w.cell? ⟨b,1,none⟩).isSome=true) (fz:∀ j,w.frozen? ⟨b,j,none⟩=false) (cb:w.cell? ⟨vb,0,none⟩=some y)
    (h1x:x.oneCell'=true) (h1y:y.oneCell'=true) (tA tB:TypeId) (kA kB:Nat) (hsa:w.shape? vb=some (tA,kA)) (hsb:w.shape? b=some (tB,kB)) (hkB:kB≠0) (hfa:w.frozen? ⟨vb,0,none⟩=false) (hfe:w.frozen? ⟨vb,kA,none⟩=false) :
    Calls Tryz.prog 115 #[.slice (some ⟨b,0,none⟩) 1 c,.int .i64 0,.slice (some ⟨vb,0,none⟩) 1 vc] w fun e w' =>
      e=.returned (.slice (some ⟨b,0,none⟩) 2 c)∧w'=(w.drew.setCells b 1 [x]).setCells b 0 [y]:=by
  have L:=laysI
  have t0:=L.t0; have a0:=L.a0; have z0:=L.z0; have v0:=L.v0; have t3:=L.t3; have a3:=L.a3; have z3:=L.z3; have v3:=L.v3; have t4:=L.t4; have a4:=L.a4; have z4:=L.z4; have v4:=L.v4; have t22:=L.t22; have a22:=L.a22; have z22:=L.z22; have v22:=L.v22
  have u0:=run_underlying L.t0; have u3:=run_underlying L.t3; have u4:=run_underlying L.t4; have u22:=run_underlying L.t22
  have hsz:(Tryz.prog.info? (renI.t 3)).map (·.size)=some 1:=by
    obtain ⟨i0,hi0,h0,h1,h2⟩:=info_parts L.i3
    rw [hi0]; simp [h1]
  have hov:∀ lb cb,(callFunc (renI.f 27) #[.slice (some ⟨vb,0,none⟩) 1 vc,.slice (some ⟨b,1,none⟩) lb cb]).run Tryz.prog w=.ok (.value (.bool false)) w:=fun lb cb=>by
    rw [run_callFunc_extern L.f27 (by kernel_rfl) (by kernel_rfl) (by kernel_rfl) (e:=Extern.SlicesOverlaps.overlaps #[(renI.t 22),(renI.t 22)] #[(renI.t 4)]) (by kernel_rfl),
      run_overlaps_apart w (renI.t 22) (renI.t 4) (renI.t 3) L.t22 1 L.z3 ⟨vb,0,none⟩ ⟨b,1,none⟩ 1 vc lb cb hvb tA tB kA kB hsa hsb hkB hfa hfe]
    rfl
  have mixed:=L.mixed
  have hw1:IntKind.i64.wrap 1=1:=by decide
  have hb2:¬ (c=1):=by omega
  have hb4:¬ (c=0):=by omega
  have hb5:¬ ((c:Int) < 2):=by omega
  have hcp1:∀ ty dc sc,(Builtin.copy_ #[(renI.t 22),(renI.t 22)] ty #[.slice (some ⟨b,1,none⟩) 1 dc,.slice (some ⟨b,0,none⟩) 2 sc]).run Tryz.prog w.drew=.ok (goInt 1) (w.drew.setCells b 1 [x]):=fun ty dc sc =>
    run_copy_cells w.drew _ _ ty (renI.t 3) b 1 1 dc ⟨b,0,none⟩ 2 sc [x] L.t22 hsz (by rfl)
      (fun j v hj=>by
        cases j with
        | zero=>simp at hj; subst hj; exact ca
        | succ j=>simp at hj)
      (fun j hj=>by
        have:j=0:=by simp at hj; omega
        subst this; exact c1) (fun j hj=>fz _) (fun v hv=>by simp at hv; subst hv; exact h1x)
  obtain ⟨W1,hW1⟩:∃ W1,W1=w.drew.setCells b 1 [x]:=⟨_,rfl⟩
  have hd0:(W1.cell? ⟨b,0,none⟩).isSome=true:=by
    rw [hW1,World.cell?_setCells_out b _ _ _ _ (fun _ _=>.inl (by show 0 < 1; decide))]
    show (w.cell? ⟨b,0,none⟩).isSome=true
    rw [ca]; rfl
  have hcp2:∀ (W:World),(∀ x,W.cell? x=W1.cell? x)→(∀ x,W.frozen? x=W1.frozen? x)→∀ ty dc,(Builtin.copy_ #[(renI.t 22),(renI.t 22)] ty #[.slice (some ⟨b,0,none⟩) 2 dc,.slice (some ⟨vb,0,none⟩) 1 vc]).run Tryz.prog W=.ok (goInt 1) (W.setCells b 0 [y]):=fun W hWc hWf ty dc =>
    run_copy_cells W _ _ ty (renI.t 3) b 0 2 dc ⟨vb,0,none⟩ 1 vc [y] L.t22 hsz (by rfl)
      (fun j v hj=>by
        cases j with
        | zero =>
          simp at hj; subst hj
          show W.cell? ⟨vb,0,none⟩=some y
          rw [hWc,hW1,World.cell?_setCells_out b _ _ _ _ (fun h _=>absurd h hvb)]
          exact cb
        | succ j=>simp at hj)
      (fun j hj=>by
        have:j=0:=by simp at hj; omega
        subst this
        show (W.cell? ⟨b,0,none⟩).isSome=true
        rw [hWc]; exact hd0) (fun j hj=>by rw [hWf,hW1,World.frozen?_setCells]; exact fz _) (fun v hv=>by simp at hv; subst hv; exact h1y)
  rw [← hW1] at hcp1
  show Calls Tryz.prog (renI.f 21) _ w _
  go_enter L.f21,Body2.n21_ntmps renI
  go_wp2_with (simp only [hov])
  go_region_law_o (refine step_copy_runI rfl _ _ (renI.t 22) (renI.t 22) rfl _ _ (by simp [Act.eval,Act.put]) (by simp [Act.eval,Act.put]) (hcp1 _ _ _) ?_)
  go_wp2_with (at_builtin; refine wpList_copy_runI _ rfl _ _ (renI.t 22) (renI.t 22) rfl _ _ rfl rfl (hcp2 _ (fun _=>rfl) (fun _=>rfl) _ _) ?_)
  go_ret
  first | exact ⟨rfl,rfl⟩ | exact ⟨rfl,by rw [hW1]⟩
end Go.Proofs.YtjdgofpcmcobnaaGreatDoor.AL
namespace Go.Proofs.YtjdgofpcmcobnaaGreatDoor.AL
open Go Go.Shelf Go.RowKit Go.Proofs
theorem os_open {c:Ctx} {dom:Nat→Prop} {ι:Nat→Option IB} {a:Act} {w:World} {σ:Nat→D} {st:Nat→Option Blk} (hr:Rel c dom ι a w σ st) {n:Nat} {x:Int} (hs:st n=some (.arr 1 [[.int .i64 x]])) {v:Value} (hv:Rep w (Fb c ι st) ι v (.os n 1 0 1)) :
    ∃ ib vs ty,ι n=some ib∧0 < ib.cap∧v=.slice (some ⟨ib.blk,0,none⟩) 1 ib.cap∧w.heap[ib.blk]? = some (.cells vs ty (0,0))∧vs.size=ib.cap∧vs[0]? = some (.int .i64 x):=by
  obtain ⟨ib,b1,b2,b3,b4,b5,b6,b7⟩:=hr.blk n _ hs
  simp only [List.length_cons,List.length_nil,Nat.zero_add] at b4 b5
  cases hv with
  | pure _ _ h=>cases h
  | os _ _ _ _ ib' _ hn hle h1 h =>
    obtain rfl:ib=ib':=Option.some.inj (b1.symm.trans hn)
    obtain ⟨A,cap,e1,e2,e3,e4,_⟩:=h (by omega)
    have hcap:0 < ib.cap:=by omega
    obtain ⟨e5,e6⟩:=e4 (by omega)
    obtain ⟨vs,ty,k1,k2,k3⟩:=b7 hcap
    have hb0:ib.base=0:=by omega
    refine ⟨ib,vs,ty,b1,hcap,?_,k1,by rw [k2,hb0]; simp,?_⟩
    · rw [e1,e6,hb0]
      have:cap=ib.cap:=by omega
      rw [this]; simp
    · have h9:=k3 0 (by simp) 0 (by simp) (by omega)
      rw [hb0] at h9 k2
      simp only [Nat.sub_self,Nat.zero_mul,Nat.zero_add,List.getElem_cons_zero] at h9
      have hsz:0 < vs.size:=by rw [k2]; simp; omega
      have e:vs.getD 0 undef=vs[0]:=by simp [hsz]
      rw [e] at h9
      rw [Array.getElem?_eq_getElem hsz,(Rep.pure (ι:=ι) _ _ h9).is_int]
theorem shape_cells {w:World} {b:Nat} {vs:Array Value} {ty:TypeId} (h:w.heap[b]? = some (.cells vs ty (0,0))):w.shape? b=some (ty,vs.size):=by unfold World.shape?; rw [h]
theorem frozen_cells {w:World} {b o:Nat} {vs:Array Value} {ty:TypeId} (h:w.heap[b]? = some (.cells vs ty (0,0))):w.frozen? ⟨b,o,none⟩=false:=by unfold World.frozen?; rw [h]; simp
def gone2 (st:Nat→Option Blk) (a b:Nat):Nat→Option Blk:=updL st [(a,none),(b,none)]
theorem gone2_some {st:Nat→Option Blk} {a b n:Nat} {x:Blk} (h:gone2 st a b n=some x):st n=some x∧n≠a∧n≠b:=by
  unfold gone2 updL updL updS at h
  by_cases e1:n=b
  · subst e1; simp [updL,updS] at h
  · by_cases e2:n=a
    · subst e2; simp [updL,updS,e1] at h
    · simp [updL,updS,e1,e2] at h
      exact ⟨h,e2,e1⟩
theorem gone2_own {ι:Nat→Option IB} {st:Nat→Option Blk} {a b:Nat} {x:Nat} (h:Own ι (gone2 st a b) x):∃ n ib,(st n).isSome=true∧ι n=some ib∧0 < ib.cap∧x=ib.blk∧n≠a∧n≠b:=by
  obtain ⟨n,ib,h1,h2,h3,h4⟩:=h
  cases hx:gone2 st a b n with
  | none=>rw [hx] at h1; cases h1
  | some y =>
    obtain ⟨e1,e2,e3⟩:=gone2_some hx
    exact ⟨n,ib,by rw [e1]; rfl,h2,h3,h4,e2,e3⟩
theorem pair_rep {w:World} {F:Nat→Prop} {b cap:Nat} (hc:2≤cap) (hF:¬ F b) (h0:w.cell? ⟨b,0,none⟩=some (.int .i64 2)) (h1:w.cell? ⟨b,1,none⟩=some (.int .i64 3)) (hz:(w.heap[b]?).isSome=true):RepP w F (.slice (some ⟨b,0,none⟩) 2 cap) (.sl [[.int .i64 2],[.int .i64 3]]):=by
  refine .sl b 0 1 cap [[.int .i64 2],[.int .i64 3]] (fun i j=>if i=0 then .int .i64 2 else .int .i64 3) hc hF (by simp) (fun i j hi hj=>?_) hz (fun i hi j hj=>?_)
  · obtain rfl:j=0:=by omega
    simp only [List.length_cons,List.length_nil] at hi
    have:i=0∨i=1:=by omega
    rcases this with rfl | rfl
    · exact h0
    · exact h1
  · simp only [List.length_cons,List.length_nil] at hi
    have:i=0∨i=1:=by omega
    rcases this with rfl | rfl
    · have:j=0:=by simp at hj; omega
      subst this; exact .int _ _
    · have:j=0:=by simp at hj; omega
      subst this; exact .int _ _
theorem sz_set (w:World) (a:Addr) (v:Value):(w.setCell a v).heap.size=w.heap.size:=by simp [World.setCell]
theorem sz_drew (w:World):w.drew.heap.size=w.heap.size:=rfl
theorem some_lt {w:World} {b:Nat} (h:b < w.heap.size):(w.heap[b]?).isSome=true:=by rw [Array.getElem?_eq_getElem h]; rfl
theorem insert_imp (a b nm:Nat) (hab:a≠b):Imp Tryz.prog G0 115 [.os a 1 0 1,.int .i64 0,.os b 1 0 1] [(a,.arr 1 [[.int .i64 3]]),(b,.arr 1 [[.int .i64 2]])] nm (.sl [[.int .i64 2],[.int .i64 3]]) [(a,none),(b,none)]:=by
  refine ⟨⟨Tryz.f115,Tryz.func115,by rfl,by rfl⟩,?_⟩
  intro c dom ι w st vs hP hG hr hg hnm hsz hv
  have hsa:=hg (a,.arr 1 [[.int .i64 3]]) (by simp)
  have hsb:=hg (b,.arr 1 [[.int .i64 2]]) (by simp)
  obtain ⟨ia,va,ta,a1,a2,a3,a4,a5,a6⟩:=os_open hr hsa (hv 0 (by simp))
  obtain ⟨ib,vb,tb,b1,b2,b3,b4,b5,b6⟩:=os_open hr hsb (hv 2 (by simp))
  have hi1:=(hv 1 (by simp)).is_int
  obtain ⟨hva,hna⟩:vs=#[.slice (some ⟨ia.blk,0,none⟩) 1 ia.cap,.int .i64 0,.slice (some ⟨ib.blk,0,none⟩) 1 ib.cap]∧True:=by
    refine ⟨?_,trivial⟩
    simp only [List.length_cons,List.length_nil] at hsz
    apply Array.ext (by simpa using hsz)
    intro i h1 h2
    have:i=0∨i=1∨i=2:=by omega
    rcases this with rfl | rfl | rfl
    · have:vs[0]=vs.getD 0 undef:=by simp [h1]
      rw [this,a3]; rfl
    · have:vs[1]=vs.getD 1 undef:=by simp [h1]
      rw [this,hi1]; rfl
    · have:vs[2]=vs.getD 2 undef:=by simp [h1]
      rw [this,b3]; rfl
  subst hva
  have hne:ia.blk≠ib.blk:=hr.inj a b (by rw [hsa]; rfl) (by rw [hsb]; rfl) hab ia ib a1 b1 a2 b2
  have ca:w.cell? ⟨ia.blk,0,none⟩=some (.int .i64 3):=by rw [cell_of_row w ia.blk 0 _ _ _ a4,a6]
  have cb:w.cell? ⟨ib.blk,0,none⟩=some (.int .i64 2):=by rw [cell_of_row w ib.blk 0 _ _ _ b4,b6]
  have hcs:∀ j v,([Value.int .i64 3]:List Value)[j]? = some v→w.cell? ⟨ia.blk,0+j,none⟩=some v:=by
    intro j v h
    cases j with
    | zero=>simp at h; subst h; exact ca
    | succ j=>simp at h
  have hvs:∀ j v,([Value.int .i64 2]:List Value)[j]? = some v→w.cell? ⟨ib.blk,0+j,none⟩=some v:=by
    intro j v h
    cases j with
    | zero=>simp at h; subst h; exact cb
    | succ j=>simp at h
  have h1c:∀ v∈([Value.int .i64 3]:List Value),v.oneCell'=true:=by intro v h; simp at h; subst h; rfl
  have h1v:∀ v∈([Value.int .i64 2]:List Value),v.oneCell'=true:=by intro v h; simp at h; subst h; rfl
  have hlt:ia.blk < w.heap.size:=(hr.own ia.blk ⟨a,ia,by rw [hsa]; rfl,a1,a2,rfl⟩).1
  have hFb:∀ x,Fb c.bare ι (gone2 st a b) x→Fb c ι st x∧x≠ia.blk:=by
    rintro x (hx | hx)
    · refine ⟨.inl hx,fun e=>?_⟩
      subst e
      exact (hr.own ia.blk ⟨a,ia,by rw [hsa]; rfl,a1,a2,rfl⟩).2.1 hx
    · obtain ⟨n,jb,e1,e2,e3,e4,e5,_⟩:=gone2_own hx
      refine ⟨.inr ⟨n,jb,e1,e2,e3,e4⟩,fun e=>?_⟩
      exact hr.inj n a e1 (by rw [hsa]; rfl) e5 jb ia e2 a1 e3 a2 (by rw [← e4,e])
  have fin:∀ (w':World),w'.os=w.os→w'.tape=w.tape→w'.output=w.output→w.heap.size≤w'.heap.size→(∀ x,x < w.heap.size→x≠ia.blk→w'.heap[x]? = w.heap[x]?) →
      Rel c.bare (fun n=>dom n∨n=nm) ι act0 w' any0 (gone2 st a b)∧∀ v d,Rep w (Fb c ι st) ι v d→Rep w' (Fb c ι (gone2 st a b)) ι v d:=by
    intro w' h1 h2 h3 h4 h5
    refine ⟨hr.world h1 h2 h3 h4 (fun x hx hO=>h5 x hx (fun e=>hO ⟨a,ia,by rw [hsa]; rfl,a1,a2,e⟩)) (Grows.refl _) (fun x hx=>?_) (fun n x hx=>?_) (fun n m e1 e2 e3=>?_) (fun n h=>.inl (hr.dom n h)),fun v d hvd=>hvd.mono (fun x hx hz=>⟨h5 x (isSome_lt hz) (fun e=>hx (.inr ⟨a,ia,by rw [hsa]; rfl,a1,a2,e⟩)),fun hF=>hx (hFb x hF).1⟩) (Grows.refl _)⟩
    · obtain ⟨n,jb,e1,e2,e3,e4,_⟩:=gone2_own hx
      have hO:Own ι st x:=⟨n,jb,e1,e2,e3,e4⟩
      exact ⟨by have:=(hr.own x hO).1; omega,.inl hO⟩
    · obtain ⟨e1,e2,e3⟩:=gone2_some hx
      refine .inl ⟨e1,rfl,fun jb e4 e5=>h5 _ (hr.own jb.blk ⟨n,jb,by rw [e1]; rfl,e4,e5,rfl⟩).1 (hr.inj n a (by rw [e1]; rfl) (by rw [hsa]; rfl) e2 jb ia e4 a1 e5 a2)⟩
    · cases f1:gone2 st a b n with
      | none=>rw [f1] at e1; cases e1
      | some y1=>cases f2:gone2 st a b m with
        | none=>rw [f2] at e2; cases e2
        | some y2=>exact hr.inj n m (by rw [(gone2_some f1).1]; rfl) (by rw [(gone2_some f2).1]; rfl) e3
  show Calls Tryz.prog 115 _ w _
  by_cases hcap:ia.cap=1
  · have hC:=Any2.slices_Insert_int_grow laysI ia.blk 0 1 ia.cap 0 ib.blk 0 1 ib.cap [.int .i64 3] [.int .i64 2] w (by decide) (by decide) (by omega) (by omega) (by decide) rfl rfl hcs hvs h1c h1v
    refine Calls.mono hC ?_
    rintro e w' ⟨rfl,rfl⟩
    have hge:=grownCap_ge w (1+1) ia.cap (renI.t 3)
    generalize grownCap w (1+1) ia.cap (renI.t 3)=G at *
    obtain ⟨ROW,hROW⟩:∃ ROW:Array Value,ROW=(([Value.int .i64 3]:List Value).take 0).toArray++Builtin.zeroCells (Value.int .i64 0).cells (1+1 - 0)++Builtin.zeroCells (Value.int .i64 0).cells (G - (1+1)):=⟨_,rfl⟩
    rw [← hROW]
    have hRs:2≤ROW.size:=by rw [hROW]; simp [Builtin.zeroCells,Value.cells]
    obtain ⟨w1,hw1⟩:∃ w1,w1=(w.alloc (.cells ROW (renI.t 3))).drew:=⟨_,rfl⟩
    rw [← hw1]
    have hb1:Below w.heap.size w w1:=by rw [hw1]; exact ((Below.refl _ _).alloc (Nat.le_refl _) _).drew
    have hx1:w1.heap[w.heap.size]? = some (.cells ROW (renI.t 3) (0,0)):=by rw [hw1]; show (w.heap.push _)[w.heap.size]? = _; simp
    simp only [List.drop_zero,World.setCells]
    have hb2:Below w.heap.size w ((w1.setCell ⟨w.heap.size,0,none⟩ (.int .i64 2)).drew.setCell ⟨w.heap.size,0+1,none⟩ (.int .i64 3)):=((hb1.setCell (Nat.le_refl _) _).drew).setCell (Nat.le_refl _) _
    have c0:(w1.cell? ⟨w.heap.size,0,none⟩).isSome=true:=by rw [cell_of_row w1 _ 0 _ _ _ hx1]; simp; omega
    have c1:(w1.cell? ⟨w.heap.size,1,none⟩).isSome=true:=by rw [cell_of_row w1 _ 1 _ _ _ hx1]; simp; omega
    obtain ⟨r1,r2⟩:=fin _ hb2.os hb2.tape hb2.output hb2.size (fun x hx _=>hb2.block x hx)
    refine ⟨_,ι,rfl,r1,.pure _ _ (pair_rep hge (fun hF=>?_) ?_ ?_ ?_),r2⟩
    · have h9:=(hFb _ hF).1
      rcases h9 with h9 | h9
      · have:=(hr.low _ h9).1; have:=hr.hsize; simp only [Ctx.bare] at *; omega
      · have:=(hr.own _ h9).1; omega
    · refine (World.cell?_setCell_other _ _ _ _ (fun e=>by simp at e)).trans ?_
      exact World.cell?_setCell_same' w1 _ _ c0
    · refine World.cell?_setCell_same' _ _ _ ?_
      show ((w1.setCell ⟨w.heap.size,0,none⟩ (.int .i64 2)).cell? ⟨w.heap.size,0+1,none⟩).isSome=true
      rw [show ((w1.setCell ⟨w.heap.size,0,none⟩ (.int .i64 2)).cell? ⟨w.heap.size,0+1,none⟩)=w1.cell? ⟨w.heap.size,0+1,none⟩ from World.cell?_setCell_other _ _ _ _ (fun e=>by simp at e)]
      exact c1
    · have:w.heap.size < w1.heap.size:=by rw [hw1]; show w.heap.size < (w.heap.push _).size; simp
      exact some_lt (by rw [sz_set,sz_drew,sz_set]; exact this)
  · have hC:=ins_shift ia.blk ia.cap ib.blk ib.cap (.int .i64 3) (.int .i64 2) w (by omega) (Ne.symm hne) ca (by rw [cell_of_row w _ 1 _ _ _ a4]; simp; omega) (fun j=>frozen_cells a4) cb rfl rfl tb ta vb.size va.size (shape_cells b4) (shape_cells a4) (by omega) (frozen_cells b4) (frozen_cells b4)
    refine Calls.mono hC ?_
    rintro e w' ⟨rfl,rfl⟩
    simp only [World.setCells]
    obtain ⟨r1,r2⟩:=fin ((w.drew.setCell ⟨ia.blk,1,none⟩ (.int .i64 3)).setCell ⟨ia.blk,0,none⟩ (.int .i64 2)) rfl rfl rfl (by rw [sz_set,sz_set,sz_drew]; exact Nat.le_refl _) (fun x hx hn=>by
      rw [Below.heap_setCell _ _ _ _ hn,Below.heap_setCell _ _ _ _ hn]; rfl)
    have c0:(w.cell? ⟨ia.blk,0,none⟩).isSome=true:=by rw [ca]; rfl
    have c1:(w.cell? ⟨ia.blk,1,none⟩).isSome=true:=by rw [cell_of_row w _ 1 _ _ _ a4]; simp; omega
    refine ⟨_,ι,rfl,r1,.pure _ _ (pair_rep (by omega) (fun hF=>(hFb _ hF).2 rfl) ?_ ?_ ?_),r2⟩
    · refine World.cell?_setCell_same' _ _ _ ?_
      rw [show ((w.drew.setCell ⟨ia.blk,1,none⟩ (.int .i64 3)).cell? ⟨ia.blk,0,none⟩)=w.drew.cell? ⟨ia.blk,0,none⟩ from World.cell?_setCell_other _ _ _ _ (fun e=>by simp at e)]
      exact c0
    · refine (World.cell?_setCell_other _ _ _ _ (fun e=>by simp at e)).trans ?_
      exact World.cell?_setCell_same' w.drew _ _ c1
    · exact some_lt (by rw [sz_set,sz_set,sz_drew]; exact hlt)
end Go.Proofs.YtjdgofpcmcobnaaGreatDoor.AL
namespace Go.Proofs.YtjdgofpcmcobnaaGreatDoor.AL
open Go Go.RowKit
theorem prov32_fact:Pure Tryz.prog G0 72 [.agg [.int .i64 0,.nils,.sl (intsD [3])],.int .i64 2] (.agg [.int .i64 0,.nils,.sl (intsD [2,3])]):=by
 refine entry Tryz.func72 rfl Tryz.ntmps72 ?_
 have hbs:=bs_pure [3] (by simp) 2
 rw [show bsF ([3]:List Int) 2 (([3]:List Int).length+1) 0 ([3]:List Int).length=0 from by decide] at hbs
 replace hbs:Pure Tryz.prog G0 114 [.sl (intsD [3]),.int .i64 2] (.tup [.int .i64 0,.bool false]):=hbs
 refine R0 ?_
 refine R2 [.p ⟨_,_,_,hbs⟩] (by simp; first|exact F3|exact F4) ?_
 refine R0 ?_
 refine fl_T ?_
 refine R [.b ⟨_,_,_,_,_,_,iclone_imp [3] (by decide) (by decide) 15⟩,.i ⟨_,_,_,_,_,_,insert_imp 15 18 19 (by decide)⟩] (by simp [intsD]; first|exact F3|exact F4) (by first|exact all_sc_i _|exact all_sc_b _|exact all_sc_l _|trivial|omega|(simp;done)|(simp;omega)) ?_
 refine R0 ?_
 refine awpL_ret ?_
 simp [intsD]
theorem prov32:Prov32:=prov32_fact
end Go.Proofs.YtjdgofpcmcobnaaGreatDoor.AL
namespace Go.Proofs.YtjdgofpcmcobnaaGreatDoor.AL
open Go Go.RowKit
theorem top_stuck (H:Prov32) (l:List Int):Pure Tryz.prog G0 4 [.sl (intsD l)] (.bool true):=by
  refine stuck_main l (fun hl=>?_)
  have hd:=newDk_ok l hl
  obtain ⟨c0,c1,c2,c3,c4,c5,hc,hN⟩:=bayN_shape (newDk l)
  obtain ⟨k,hD,hS⟩:=bay_shape (newDk l)
  have h6:(bayN (newDk l)).length=6:=by rw [hN]; rfl
  have hck:checkL (bayN (newDk l)) (bayD (newDk l))=0:=by rw [hN,hD]; exact net_check k hc
  obtain ⟨z,z1,z2,z3,z4⟩:=zone_shape (bayK (newDk l)) (bayN (newDk l)) h6
  rw [hD] at hck
  refine ⟨z,z1,z2,z3,z4,by rw [hD]; exact hck,h6,by rw [hD]; exact (net_len k).1,by rw [hD]; exact (net_len k).2,by rw [hD]; exact hS,bayK_ok hd,fun sd=>?_⟩
  rw [hD]
  exact stk_hyp H hck h6 ⟨by have:=(net_len k).1; omega,(net_len k).2⟩ (net_ok k) hS (net_ea k) z z4 sd
end Go.Proofs.YtjdgofpcmcobnaaGreatDoor.AL

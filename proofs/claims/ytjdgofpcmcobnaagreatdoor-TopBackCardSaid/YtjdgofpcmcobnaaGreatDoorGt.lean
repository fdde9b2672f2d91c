/-
  Contracts: the way back, locks that are taken off, a simulation from any ground.
-/
import Derived.Test.YtjdgofpcmcobnaaGreatDoorGa
import Derived.Test.YtjdgofpcmcobnaaGreatDoorGb
import Derived.Test.YtjdgofpcmcobnaaGreatDoorGj
import Derived.Test.YtjdgofpcmcobnaaGreatDoorGd
import Derived.Test.YtjdgofpcmcobnaaGreatDoorGl
import Derived.Test.YtjdgofpcmcobnaaGreatDoorGf
import Derived.Test.YtjdgofpcmcobnaaGreatDoorGo
import Derived.Test.YtjdgofpcmcobnaaGreatDoorGq
set_option maxRecDepth 100000
set_option maxHeartbeats 2000000
set_option linter.unusedVariables false
set_option linter.unusedSimpArgs false
namespace Go.Proofs.YtjdgofpcmcobnaaGreatDoor.AL
section
open Go Go.RowKit
def overL(rows0:List (List D))(lo:Nat)(rows:List (List D)):List (List D):=rows0.take lo++rows++rows0.drop (lo+rows.length)
theorem overL_len{rows0 rows:List (List D)}{lo:Nat}(h:lo+rows.length≤rows0.length):(overL rows0 lo rows).length=rows0.length:=by
 simp[overL];omega
theorem overL_get{rows0 rows:List (List D)}{lo k:Nat}(h:lo+rows.length≤rows0.length):(overL rows0 lo rows)[k]? = if k<lo then rows0[k]? else if k<lo+rows.length then rows[k - lo]? else rows0[k]? := by
 have hl:(rows0.take lo).length=lo:=by simp;omega
 unfold overL
 rw[List.append_assoc]
 by_cases h1:k<lo
 ·rw[if_pos h1,List.getElem?_append_left (by omega),List.getElem?_take,if_pos h1]
 ·rw[if_neg h1,List.getElem?_append_right (by omega),hl]
  by_cases h2:k<lo+rows.length
  ·rw[if_pos h2,List.getElem?_append_left (by omega)]
  ·rw[if_neg h2,List.getElem?_append_right (by omega),List.getElem?_drop]
   congr 1
   omega
theorem over_rel{c:Ctx}{dom:Nat→Prop}{ι:Nat→Option IB}{a:Act}{w:World}{σ:Nat→D}{st:Nat→Option Blk}(hr:Rel c dom ι a w σ st){n:Nat}{ib:IB}{es:Nat}{rows0:List (List D)}(hn:ι n=some ib)(hst:st n=some (.arr es rows0))(k2:ib.box=false)(k3:ib.es=es)(k4:ib.hl=rows0.length)(k5:rows0.length≤ib.cap)(k6:∀ r∈rows0,r.length=es)
  (hcb:0<ib.cap) {vs:Array Value} {ty:TypeId} (p1:w.heap[ib.blk]? = some (.cells vs ty (0,0))) (p2:vs.size=(ib.cap - ib.base)*es) (p3:∀ i (hi:i<rows0.length) j (hj:j<rows0[i].length),ib.base≤i→RepP w (Fb c ι st) (vs.getD ((i - ib.base)*es+j) undef) rows0[i][j])
  {lo:Nat} {rows:List (List D)} {news:List Value} (hlo:ib.base≤lo) (hfit:lo+rows.length≤rows0.length) (hes:∀ r∈rows,r.length=es) (hnl:news.length=rows.length*es) (h1:∀ v∈news,v.oneCell'=true) (hnews:∀ i (hi:i<rows.length) k (hk:k<rows[i].length),RepP w (Fb c ι st) (news.getD (i*es+k) undef) rows[i][k]) :
  Rel c (fun m=>dom m∨m=n) (updI ι n ib) a (w.setCells ib.blk ((lo - ib.base)*es) news) σ (updS st n (some (.arr es (overL rows0 lo rows)))):=by
 have hso:(st n).isSome=true:=by rw[hst];rfl
 have hmul:(lo - ib.base)*es+rows.length*es≤vs.size:=by rw[p2,← Nat.add_mul];exact Nat.mul_le_mul_right _ (by omega)
 rw[setCells_row p1 (by omega) h1]
 obtain⟨off,hoff⟩:∃ off,(lo - ib.base)*es=off:=⟨_,rfl⟩
 rw[hoff] at hmul ⊢
 generalize hnew:(vs.toList.take off++news++vs.toList.drop (off+news.length)).toArray=new
 have hnsz:new.size=vs.size:=by rw[← hnew];simp;omega
 have hget:∀ k,new.getD k undef=if k<off then vs.getD k undef else if k<off+news.length then news.getD (k - off) undef else vs.getD k undef:=by
  intro k
  have:=getD_mid vs news.toArray off k (by simp;omega)
  rw[← hnew,this]
  simp
 refine (hr.one (w':=w.setRow ib.blk new) n ib (.arr es (overL rows0 lo rows)) rfl rfl rfl (by simp)
  (fun b hb'=>by
   by_cases e:b=ib.blk
   ·exact .inr ⟨ib,hn,hso,hcb,e⟩
   ·exact .inl (setRow_other w _ _ _ e))
  (fun _=>⟨by simp;exact (hr.own ib.blk ⟨n,ib,hso,hn,hcb,rfl⟩).1,.inl ⟨ib,hn,hso,hcb,rfl⟩⟩)
  (fun ib2 h2=>.inl (Option.some.inj (hn.symm.trans h2)))
  (fun f1 f2=>⟨ib,by simp[updI],k2,k3,by rw[overL_len hfit];exact k4,by rw[overL_len hfit];exact k5,fun r hr'=>?_,fun _=>⟨new,ty,setRow_heap w _ vs _ ty _ p1,by rw[hnsz];exact p2,fun k hk jj hj hbk=>?_⟩⟩)).1
 ·rcases List.mem_append.1 hr' with h|h
  ·rcases List.mem_append.1 h with h|h
   ·exact k6 r (List.mem_of_mem_take h)
   ·exact hes r h
  ·exact k6 r (List.mem_of_mem_drop h)
 ·refine f2 _ _ ?_
  have hk0:k<rows0.length:=by rw[overL_len hfit] at hk;exact hk
  have hov:=overL_get (k:=k) hfit
  rw[List.getElem?_eq_getElem hk] at hov
  rw[hget]
  by_cases c1:k<lo
  ·rw[if_pos c1,List.getElem?_eq_getElem hk0] at hov
   have e:=Option.some.inj hov
   have hj':jj<rows0[k].length:=by rw[← e];exact hj
   have hjs:jj<es:=by rw[← k6 _ (List.getElem_mem hk0)];exact hj'
   rw[if_pos (by rw[← hoff];exact Yc (by omega) hjs)]
   have:=p3 k hk0 jj hj' hbk
   simpa only[e] using this
  ·rw[if_neg c1] at hov
   by_cases c2:k<lo+rows.length
   ·have hk1:k - lo<rows.length:=by omega
    rw[if_pos c2,List.getElem?_eq_getElem hk1] at hov
    have e:=Option.some.inj hov
    have hj':jj<rows[k - lo].length:=by rw[← e];exact hj
    have hjs:jj<es:=by rw[← hes _ (List.getElem_mem hk1)];exact hj'
    have hidx:(k - ib.base)*es+jj=off+((k - lo)*es+jj):=by
     rw[← hoff,← Nat.add_assoc,← Nat.add_mul]
     congr 2
     omega
    have hlt:(k - lo)*es+jj<news.length:=by rw[hnl];exact Yc hk1 hjs
    rw[hidx,if_neg (by omega),if_pos (by omega),show off+((k - lo)*es+jj) - off=(k - lo)*es+jj by omega]
    have:=hnews (k - lo) hk1 jj hj'
    simpa only[e] using this
   ·rw[if_neg c2,List.getElem?_eq_getElem hk0] at hov
    have e:=Option.some.inj hov
    have hj':jj<rows0[k].length:=by rw[← e];exact hj
    have hge:off+news.length≤(k - ib.base)*es+jj:=by
     rw[← hoff,hnl,← Nat.add_mul]
     exact Nat.le_trans (Nat.mul_le_mul_right _ (by omega)) (Nat.le_add_right _ _)
    rw[if_neg (by omega),if_neg (by omega)]
    have:=p3 k hk0 jj hj' hbk
    simpa only[e] using this
section
variable {P:Program} {G:Nat→Option (List D)} {Ty:Nat→Option TyI} {o:Oper} {ρ:Operand→D} {g:Nat→Option Blk} {nm:Nat}
theorem do_append_in(hty:TyOK P Ty){t tx e:Nat}{j jx:TyI}{ex:Nat}{x y:Operand}{n hl lo len es:Nat}{rows0 rows:List (List D)}(ho:o.op=Ym .append #[x,y] #[t,tx])(he:ZN Ty t=some (e,j))(hex:ZN Ty tx=some (ex,jx))(hx:ρ x=.os n hl lo len)(hgn:g n=some (.arr es rows0))(hlen:rows0.length=hl)(hese:es=j.size)(hy:Yq g (ρ y)=some rows)
  (hsz:(Zf j.zero).length=j.size) (hst:Z5 j.zero=true) (hes:∀ r∈rows,r.length=j.size) (hone:∀ r∈rows,onesD r=true) (hfit:lo+len+rows.length≤hl) :
  Do P G o ρ g nm (.os n hl lo (len+rows.length)) [(n,some (.arr es (overL rows0 (lo+len) rows)))]:=by
 intro c dom ι a w σ st K Q hP hG hr hρ hg hnm hd hK
 subst hG
 subst hese
 have hvx:=Zl hr x
 rw[hρ x (by rw[ho];simp[Ym,Op.operands,Call.operands]),hx] at hvx
 have hvy:=Zl hr y
 rw[hρ y (by rw[ho];simp[Ym,Op.operands,Call.operands])] at hvy
 obtain⟨u1,u2⟩:=ZL hty he
 obtain⟨u3,_⟩:=ZL hty hex
 obtain⟨z,z1,z1',⟨info,i1,i2,i3,i4⟩,z2,z3⟩:=YM (w:=w) (F:=Fb c ι st) hty u2 hsz hst
 obtain⟨news,hsrc,hnews⟩:=src_ok (P:=P) hr hg u3 hvy hy hes hone
 obtain⟨cs,hcs⟩:=YC (ev:=a.eval) ho
 obtain⟨ib,a',cap,hn,e',q1,q2,q3,k2,k3,k4,k5,k6,k7⟩:=YX hr hg hvx hgn hlen
 have hso:(st n).isSome=true:=by rw[hg n _ hgn];rfl
 have hdn:dom n:=hr.dom n (by rw[hn];rfl)
 unfold Oper.wp
 rw[hcs]
 simp only[List.map_toArray,List.map_cons,List.map_nil,e']
 by_cases h0:rows=[]
 ·subst h0
  have hn0:news=[]:=List.eq_nil_of_length_eq_zero (by have:=hsrc.newsLen;simpa using this)
  subst hn0
  rw[Yn (Xa w t tx o.type e info u1 i1 a' len cap q1 _ (by rw[i2];exact hsrc))]
  have hst':updL st [(n,some (.arr j.size (overL rows0 (lo+len) [])))]=st:=by
   funext m
   simp only[updL,updS,overL,List.append_nil,List.length_nil,Nat.add_zero,List.take_append_drop]
   by_cases e:m=n
   ·subst e;rw[if_pos rfl];exact (hg m _ hgn).symm
   ·rw[if_neg e]
  refine hK _ _ ι ?_
  rw[hst']
  refine (hr.put (.slice a' len cap) (.os n hl lo len) ?_ o.dst hd).weaken (fun _=>Le.refl _) (fun _ h=>.inl h)
  rw[← e'];exact hvx
 ·have hpos:0<rows.length:=List.length_pos_iff.2 h0
  have hnl:=hsrc.newsLen
  have hc0:0<cap:=by omega
  obtain⟨hbl,ea⟩:=q3 hc0
  subst ea
  have hcb:0<ib.cap:=by omega
  obtain⟨vs,ty,p1,p2,p3⟩:=k7 hcb
  have hoff:(lo - ib.base)*j.size+len*j.size=(lo+len - ib.base)*j.size:=by rw[← Nat.add_mul];congr 1;omega
  have hmul:(lo+len - ib.base)*j.size+rows.length*j.size≤vs.size:=by rw[p2,← Nat.add_mul];exact Nat.mul_le_mul_right _ (by omega)
  have hrun:=run_append_room_src (P:=P) w t tx o.type e info u1 i1 ib.blk ((lo - ib.base)*ib.es) len cap (a.eval y) rows.length news (by rw[i2];exact hsrc) (by omega)
   (fun k hk=>by rw[cell_of_row w ib.blk _ _ _ _ p1];rw[i2,k3];simp;omega) (fun k hk=>by simp[World.frozen?,p1])
  rw[Yn hrun]
  simp only[i2,k3]
  rw[hoff]
  have hrel:=over_rel hr hn (hg n _ hgn) k2 k3 k4 k5 k6 hcb p1 p2 p3 (lo:=lo+len) (rows:=rows) (by omega) (by omega) hes hnl hsrc.one hnews
  refine hK _ _ _ ((hrel.put _ (.os n hl lo (len+rows.length)) ?_ o.dst hd).weaken (fun _=>Le.refl _) (fun m hm=>.inl (hm.elim id (fun e=>e▸hdn))))
  exact .os n _ lo _ ib _ (by simp[updI]) (by omega) rfl (fun _=>⟨_,cap,rfl,by omega,q2,fun _=>⟨hbl,by rw[k3]⟩,fun _=>by rfl⟩)
theorem bounds3_run{P:Program}{w:World}{ev:Operand→Value}{lo:Option Operand}{bl:Option Nat}{bh bm:Nat}{x y:Value}{k1 k2:IntKind}(h1:bndV ev lo bl)(hx:x=.int k1 bh)(hy:y=.int k2 bm)(len cap:Nat)(hm:bm≤cap)(hh:bh≤bm)(hl:bl.getD 0≤bh) :
  (Instr.sliceBounds true len cap (lo.map ev) (some x) (some y)).run P w=.ok (bl.getD 0,bh,bm) w:=by
 subst hx hy
 unfold Instr.sliceBounds
 cases lo with
 | none =>
  cases bl with
  | some _=>cases h1
  | none=>simp[Instr.sliceBound,asIntOf,hm,hh]
 | some z =>
  cases bl with
  | none=>cases h1
  | some n =>
   obtain⟨k,e⟩:=h1
   have hn:n≤bh:=hl
   simp[e,Instr.sliceBound,asIntOf,hn,hm,hh]
theorem do_slice3_os(hty:TyOK P Ty){t e:Nat}{j:TyI}{x yh ym:Operand}{lo:Option Operand}{bl:Option Nat}{k1 k2:IntKind}{bh bm n hl l0 len es:Nat}{rows:List (List D)}(ho:o.op=.slice t x lo (some yh) (some ym))(he:ZN Ty t=some (e,j))(hx:ρ x=.os n hl l0 len)(hgn:g n=some (.arr es rows))(hlen:rows.length=hl)(h1:bndD ρ lo=some bl)(h2:ρ yh=.int k1 bh)(h3:ρ ym=.int k2 bm)(hm:bm≤len)(hh:bh≤bm)(hl':bl.getD 0≤bh) :
  Do P G o ρ g nm .any []:=by
 refine Xg (fun c dom ι a w σ st hP hG hr hρ hg=>?_)
 subst hG
 have hop:∀ y∈o.op.operands,Rep w (Fb c ι st) ι (a.eval y) (ρ y):=fun y hy=>by rw[← hρ y hy];exact Zl hr y
 have hv:=hop x (by rw[ho];simp[Op.operands])
 have hvh:=hop yh (by rw[ho];simp[Op.operands])
 have hvm:=hop ym (by rw[ho];simp[Op.operands])
 rw[hx] at hv
 rw[h2] at hvh
 rw[h3] at hvm
 have b1:=bnd_ok (ev:=a.eval) (fun y hy=>hop y (by rw[ho];simp[Op.operands,hy])) h1
 obtain⟨u1,u2⟩:=ZL hty he
 rw[show execOp a.eval o=(do pure (.value (← Instr.sliceAt t (a.eval x) (lo.map a.eval) (some (a.eval yh)) (some (a.eval ym))))) by unfold execOp;rw[ho];rfl]
 obtain⟨ib,a',cap,hn,e',q1,q2,q3,k2',k3,k4,_⟩:=YX hr hg hv hgn hlen
 have hb:=bounds3_run (P:=P) (w:=w) b1 hvh.is_int hvm.is_int len cap (by omega) hh hl'
 refine⟨.slice (if bm=bl.getD 0 then a' else a'.map (·.add (bl.getD 0*j.size))) (bh - bl.getD 0) (bm - bl.getD 0),?_,.pure _ _ (.any _)⟩
 simp only[Sem.run_bind,e',Instr.sliceAt,Instr.slice,run_underlying u1,Result.andThen_ok,hb,Yb hty u2]
 rfl
theorem do_clear_any(hty:TyOK P Ty){t e:Nat}{j:TyI}{x:Operand}{n hl lo len es:Nat}{rows:List (List D)}(ho:o.op=Ym .clear #[x] #[t])(he:ZN Ty t=some (e,j))(hsz:(Zf j.zero).length=j.size)(hst:Z5 j.zero=true)(hx:ρ x=.os n hl lo len)(hgn:g n=some (.arr es rows))(hese:es=j.size)(hlen:rows.length=hl)(hle:lo+len≤hl)(hpos:0<len)(hz1:onesD (Zf j.zero)=true) :
  Do P G o ρ g nm .any [(n,some (.arr es (overL rows lo (List.replicate len (List.replicate es .any)))))]:=by
 intro c dom ι a w σ st K Q hP hG hr hρ hg hnm hd hK
 subst hG
 subst hese
 have hvx:=Zl hr x
 rw[hρ x (by rw[ho];simp[Ym,Op.operands,Call.operands]),hx] at hvx
 obtain⟨u1,u2⟩:=ZL hty he
 obtain⟨z,z1,z1',_,z2,z3⟩:=YM (w:=w) (F:=Fb c ι st) hty u2 hsz hst
 obtain⟨cs,hcs⟩:=YC (ev:=a.eval) ho
 obtain⟨ib,a',cap,hn,e',q1,q2,q3,k2,k3,k4,k5,k6,k7⟩:=YX hr hg hvx hgn hlen
 have hdn:dom n:=hr.dom n (by rw[hn];rfl)
 obtain⟨hbl,ea⟩:=q3 (by omega)
 subst ea
 have hcb:0<ib.cap:=by omega
 obtain⟨vs,ty,p1,p2,p3⟩:=k7 hcb
 have hsz2:(Builtin.zeroCells z.cells len).size=len*j.size:=by rw[size_zeroCells,z2]
 have hmul:(lo - ib.base)*j.size+len*j.size≤vs.size:=by rw[p2,← Nat.add_mul];exact Nat.mul_le_mul_right _ (by omega)
 have hone:∀ v∈(Builtin.zeroCells z.cells len).toList,v.oneCell'=true:=by
  have hz:=cells_one (w:=w) (F:=Fb c ι st) (ι:=ι) (vs:=z.cells) (ds:=Zf j.zero) (by omega) (fun i hi=>.pure _ _ (z3 i hi)) hz1
  intro v hv
  unfold Builtin.zeroCells at hv
  rw[Array.toList_map] at hv
  obtain⟨i,hi,rfl⟩:=List.mem_map.1 hv
  have hi2:i<len*z.cells.size:=by simpa using hi
  have hzs:0<z.cells.size:=by
   rcases Nat.eq_zero_or_pos z.cells.size with h|h
   ·rw[h,Nat.mul_zero] at hi2;omega
   ·exact h
  have hm:=Nat.mod_lt i hzs
  rw[getElem!_pos z.cells (i % z.cells.size) hm]
  exact hz _ (by simp)
 have hst2:=run_storeCells_cells (P:=P) ib.blk ((lo - ib.base)*j.size) (Builtin.zeroCells z.cells len).toList 0 w (fun k hk=>by rw[Nat.add_zero,cell_of_row w ib.blk _ _ _ _ p1];simp at hk;simp;omega) (fun k hk=>by simp[World.frozen?,p1]) hone
 simp only[Nat.add_zero] at hst2
 have hrun:(Builtin.clear_ #[t] o.type #[.slice (some ⟨ib.blk,(lo - ib.base)*j.size,none⟩) len cap]).run P w=.ok (.tuple #[]) (w.setCells ib.blk ((lo - ib.base)*j.size) (Builtin.zeroCells z.cells len).toList):=by
  obtain⟨m,rfl⟩:∃ m,len=m+1:=⟨len - 1,by omega⟩
  simp[Builtin.clear_,run_underlying u1,z1',hst2]
 unfold Oper.wp
 rw[hcs]
 simp only[List.map_toArray,List.map_cons,List.map_nil,e']
 rw[k3,builtin_clearS hrun]
 have hrel:=over_rel hr hn (hg n _ hgn) k2 k3 k4 k5 k6 hcb p1 p2 p3 (lo:=lo) (rows:=List.replicate len (List.replicate j.size D.any)) (news:=(Builtin.zeroCells z.cells len).toList) hbl (by simp;omega) (fun r hr=>by rw[List.eq_of_mem_replicate hr];simp) (by simp[hsz2]) hone (fun i hi k hk=>by
  simp only[List.getElem_replicate]
  exact .any _)
 exact hK _ _ _ ((hrel.put (.tuple #[]) .any (.pure _ _ (.any _)) o.dst hd).weaken (fun _=>Le.refl _) (fun m hm=>.inl (hm.elim id (fun e=>e▸hdn))))
theorem do_slice_cap(hty:TyOK P Ty){t e:Nat}{j:TyI}{x:Operand}{lo hi:Option Operand}{bl bh:Option Nat}{n hl l0 len es:Nat}{rows:List (List D)}(ho:o.op=.slice t x lo hi none)(he:ZN Ty t=some (e,j))(hx:ρ x=.os n hl l0 len)(hgn:g n=some (.arr es rows))(hlen:rows.length=hl)(hes:es=j.size)(h1:bndD ρ lo=some bl)(h2:bndD ρ hi=some bh)(hh:bh.getD len≤hl - l0)(hh0:0<bh.getD len)(hl':bl.getD 0≤bh.getD len) :
  Do P G o ρ g nm (.os n hl (l0+bl.getD 0) (bh.getD len - bl.getD 0)) []:=by
 refine Xg (fun c dom ι a w σ st hP hG hr hρ hg=>?_)
 subst hG
 have hop:∀ y∈o.op.operands,Rep w (Fb c ι st) ι (a.eval y) (ρ y):=fun y hy=>by rw[← hρ y hy];exact Zl hr y
 have hv:=hop x (by rw[ho];simp[Op.operands])
 rw[hx] at hv
 have b1:=bnd_ok (ev:=a.eval) (fun y hy=>hop y (by rw[ho];simp[Op.operands,hy])) h1
 have b2:=bnd_ok (ev:=a.eval) (fun y hy=>hop y (by rw[ho];simp[Op.operands,hy])) h2
 obtain⟨u1,u2⟩:=ZL hty he
 rw[show execOp a.eval o=(do pure (.value (← Instr.sliceAt t (a.eval x) (lo.map a.eval) (hi.map a.eval) none))) by unfold execOp;rw[ho];rfl]
 simp only[Sem.run_bind,sliceAt_slice u1]
 generalize hL:bl.getD 0=L at *
 generalize hH:bh.getD len=H at *
 obtain⟨ib,a',cap,hn,e',q1,q2,q3,k2,k3,k4,k5,_,k7⟩:=YX hr hg hv hgn hlen
 clear k7
 have hcap:hl - l0≤cap:=by omega
 have hb:=bounds_run (P:=P) (w:=w) b1 b2 true len cap (by omega) (by omega)
 rw[hL,hH] at hb
 refine⟨.slice (if cap=L then a' else a'.map (·.add (L*j.size))) (H - L) (cap - L),?_,?_⟩
 ·simp only[e',Instr.slice,Sem.run_bind,run_underlying u1,Result.andThen_ok,hb,Yb hty u2]
  rfl
 ·refine .os n hl _ _ ib _ hn (by omega) rfl (fun _=>⟨_,cap - L,rfl,by omega,by omega,fun hc=>?_,fun h0=>by
   obtain⟨ib2,a2,cap2,z1,z2,z3⟩:=os_some hr hg hv hgn hlen
   obtain rfl:ib=ib2:=Option.some.inj (hn.symm.trans z1)
   have z4:=e'.symm.trans z2
   injection z4 with z4
   rw[z4]
   have z5:=z3 h0
   split
   ·exact z5
   ·simpa using z5⟩)
  obtain⟨hbl,ea⟩:=q3 (by omega)
  subst ea
  refine⟨by omega,?_⟩
  rw[if_neg (by omega)]
  simp only[Option.map_some,YO]
  rw[k3,hes,show l0+L - ib.base=(l0 - ib.base)+L by omega,Nat.add_mul]
end
end
section
open Go Go.RowKit
attribute [local simp] onesD oneD
section
variable {P:Program} {G:Nat→Option (List D)} {Ty:Nat→Option TyI}
theorem RW.app{N:Nat}{ops:List Oper}{nx:Nat}{l1 l2:List Oper}{i:Nat}{σ σ1 σ2:List (Nat×D)}{st st1 st2:List (Nat×Blk)}{log1 log2:List LogE}(h1:RW P G N ops nx l1 i σ st log1 σ1 st1)(h2:RW P G N ops nx l2 (i+l1.length) σ1 st1 log2 σ2 st2):RW P G N ops nx (l1++l2) i σ st (log1++log2) σ2 st2:=by
 induction h1 with
 | nil i σ st=>exact h2
 | skip o rest i σ st log σ' st' hw hd h ih=>exact .skip o _ i σ st _ _ _ hw hd (ih (by rw[List.length_cons,show i+(rest.length+1)=i+1+rest.length by omega] at h2;exact h2))
 | step o rest i σ st log σ' st' L v upd hw hd hdo h ih=>exact .step o _ i σ st _ _ _ L v upd hw hd hdo (ih (by rw[List.length_cons,show i+(rest.length+1)=i+1+rest.length by omega] at h2;exact h2))
theorem Do.val{o:Oper}{ρ:Operand→D}{g:Nat→Option Blk}{nm:Nat}{v v':D}{upd:List (Nat×Option Blk)}(e:v=v')(h:Do P G o ρ g nm v upd):Do P G o ρ g nm v' upd:=e▸h
theorem awpL_mid(hty:TyOK P Ty)(hm:P.follows .mixedOrders=true){id N nx nx':Nat}{cs:List Code}{Q:Post}{ops:Array Oper}{draw:Bool}{σ σ1 σ2:List (Nat×D)}{st st1 st2:List (Nat×Blk)}{log1 log2:List LogE}{s1:Prop}(n:Nat)(h1:YE (P:=P) G Ty N ops.toList nx (ops.toList.take n) 0 [] σ st=some (log1,σ1,st1,s1))(hs1:s1)
  {o:Oper} (ho:ops.toList[n]? = some o) (hw:Z0 ops.toList (gt σ1) o=some true) (hd:∀ t,o.dst=some t→t<N) (L:List Nat) (v:D) (upd:List (Nat×Option Blk)) (hdo:Do P G o (opD G (gt σ1)) (resN L (gs st1)) (nx+n) v upd)
  (r2:RW P G N ops.toList nx (ops.toList.drop (n+1)) (n+1) (setL σ1 o.dst v) (putS st1 upd) log2 σ2 st2) (hok:Ye draw ops.toList (log1++⟨ZP ops.toList o,L,o.dst,upd.map (·.1)⟩::log2)=true) (hn:nx+ops.size=nx') (hQ:awpL P G N cs Q nx' σ2 st2) :
  awpL P G N (.region id ops draw::cs) Q nx σ st:=by
 subst hn
 obtain⟨hnl,hno⟩:=List.getElem?_eq_some_iff.1 ho
 have e1:(ops.toList.take n).length=n:=by rw[List.length_take];omega
 have e2:ops.toList.take n++o::ops.toList.drop (n+1)=ops.toList:=by
  have:=List.take_append_drop n ops.toList
  rw[List.drop_eq_getElem_cons hnl,hno] at this
  exact this
 have r1:=absAll_ok hty _ _ _ _ _ _ _ _ _ h1 hs1
 have r3:=r1.app (l2:=o::ops.toList.drop (n+1)) (by rw[e1,Nat.zero_add];exact .step o _ n _ _ _ _ _ L v upd hw hd hdo r2)
 rw[e2] at r3
 exact awp_region hm r3 hok hQ
end
def delR(u:Lk)(l:List Lk):List (List D):=overL (overL ((u::l).map Zm) 0 (l.map Zm)) l.length [[.any,.any,.any]]
theorem del_imp(u:Lk)(l:List Lk)(m nm:Nat)(hnm:m≠nm):Imp Tryz.prog G0 160 [.os m (l.length+1) 0 (l.length+1),.int .i64 0,.int .i64 1] [(m,.arr 3 ((u::l).map Zm))] nm (.os m (l.length+1) 0 l.length) [(m,some (.arr 3 (delR u l)))]:=by
 refine ZC (gl:=[(m,.arr 3 ((u::l).map Zm))]) (nx1:=m+1) Tryz.func160 rfl Tryz.ntmps160 ?_
 refine R0 ?_
 refine awpL_mid Xb mixed 5 (by simp;first|exact F3|exact F4) (by first|trivial|omega|(simp;done)|(simp;omega)) rfl rfl (by simp) [m] .any [] (do_slice3_os (bl:=some 0) (k1:=.i64) (k2:=.i64) (bh:=1) (bm:=l.length+1) (n:=m) (hl:=l.length+1) (l0:=0) (len:=l.length+1) (es:=3) (rows:=(u::l).map Zm) Xb rfl rfl (by simp) (by simp) (by simp) (by simp[bndD]) (by simp) (by simp) (Nat.le_refl _) (by omega) (by simp)) (absAll_ok Xb _ _ [] _ _ _ _ _ _ (by simp;first|exact F3|exact F4) (by first|trivial|omega|(simp;done)|(simp;omega))) (by kernel_rfl) (by simp;rfl) ?_
 refine R0 ?_
 refine fl_F ?_
 refine R6 [] ?_
 refine awpL_mid Xb mixed 6 (by simp;first|exact F3|exact F4) (by first|trivial|omega|(simp;done)|(simp;omega)) rfl rfl (by simp) [m] (.os m (l.length+1) 0 l.length) [(m,some (.arr 3 (overL ((u::l).map Zm) 0 (l.map Zm))))] ?_ (absAll_ok Xb _ _ [] _ _ _ _ _ _ (by simp;first|exact F3|exact F4) (by first|trivial|omega|(simp;done)|(simp;omega))) (by kernel_rfl) (by simp;rfl) ?_
 ·exact Do.val (by simp) (do_append_in (t:=40) (tx:=40) (e:=62) (ex:=62) (n:=m) (hl:=l.length+1) (lo:=0) (len:=0) (es:=3) (rows0:=(u::l).map Zm) (rows:=l.map Zm) Xb rfl rfl rfl (by simp) (by simp) (by simp) rfl (by simp[Yq];omega) rfl rfl (by simp) (by simp) (by simp))
 have hol:(overL ((u::l).map Zm) 0 (l.map Zm)).length=l.length+1:=by rw[overL_len (by simp)];simp
 refine awpL_mid Xb mixed 4 (by simp;first|exact F3|exact F4) (by first|trivial|simp[hol]) rfl rfl (by simp) [m] (.os m (l.length+1) l.length 1) [] ?_ (.step _ _ _ _ _ _ _ _ [m] .any [(m,some (.arr 3 (delR u l)))] rfl (by simp) ?_ (.nil _ _ _)) (by kernel_rfl) (by simp;rfl) ?_
 ·exact Do.val (by simp) (do_slice_cap (e:=62) (bl:=some l.length) (bh:=some (l.length+1)) (n:=m) (hl:=l.length+1) (l0:=0) (len:=l.length) (es:=3) (rows:=overL ((u::l).map Zm) 0 (l.map Zm)) Xb rfl rfl (by simp) (by simp) hol rfl (by simp[bndD]) (by simp[bndD];omega) (by simp) (by simp) (by simp))
 ·exact do_clear_any (t:=40) (e:=62) (n:=m) (hl:=l.length+1) (lo:=l.length) (len:=1) (es:=3) (rows:=overL ((u::l).map Zm) 0 (l.map Zm)) Xb rfl rfl rfl rfl (by simp) (by simp) rfl hol (by omega) (by omega) rfl
 refine R0 ?_
 refine Za ?_
 refine⟨.inr rfl,m+1,?_⟩
 simp[hnm]
end
section
open Go Go.RowKit
attribute [local simp] onesD oneD
theorem len_empty(l:List Int):((l.length:Int)==0)=l.isEmpty:=by
 cases l with
 | nil=>rfl
 | cons a l=>simp;omega
def difP(s t:List Int)(v:Nat):Bool:=PO.at_ s v != PO.at_ t v
def eqB(t s:List Int):Bool:=(supN (difP s t) s.length).isEmpty
theorem eqB_iff{s t:List Int}(h:s.length=t.length):eqB t s=true↔s=t:=by
 unfold eqB
 rw[List.isEmpty_iff]
 constructor
 ·intro h1
  refine List.ext_getElem h (fun i h2 h3=>?_)
  by_cases e:s[i]=t[i]
  ·exact e
  ·have:(i:Int)∈supN (difP s t) s.length:=(Yt _ _ _).2 ⟨i,rfl,h2,by simp[difP,PO.at_,h2,h3,e]⟩
   rw[h1] at this
   cases this
 ·intro e
  subst e
  refine List.eq_nil_iff_forall_not_mem.2 (fun x hx=>?_)
  obtain⟨j,_,_,h4⟩:=(Yt _ _ _).1 hx
  simp[difP] at h4
theorem rints_pure(l:List Int)(hl:l.length≤1000000):Pure Tryz.prog G0 23 [.sl (Zb l),.sl (Zb l)] (.bool true):=by
 refine Zh Tryz.func23 rfl Tryz.ntmps23 ?_
 refine R0 ?_
 refine R0 ?_
 refine fl_F ?_
 refine R0 ?_
 refine Zd (fun K0_1 hK0_1=>?_)
 refine Zg (X:=Nat) [0,1] [] (fun x=>[(5,.int .i64 x)]) (fun x=>[]) (fun x=>x≤l.length) (fun x=>l.length - x) 0 (by simp) (by simp) ?_
 simp only[KN,keep,but,reduceIte,Nat.reduceEqDiff,Nat.reduceBEq]
 rintro k hlek KL2 hKL2
 refine R0 ?_
 refine fl_C (fun c4=>?_) (fun c4=>?_)
 ·have hlt:k<l.length:=by simpa using c4
  have hkk:l[k]? = some l[k]:=by simp[hlt]
  have hd:=Lib.hid (List.drop_eq_getElem_cons hlt)
  generalize l[k]=y at *
  refine Zd (fun K1_3 hK1_3=>?_)
  refine R2 [] (by simp[hkk];first|exact F3|exact F4) ?_
  refine fl_F ?_
  refine Zc (hK1_3 _ _ _ ?_)
  refine R2 [] (by simp[hkk];(try simp (disch:=omega) only[w64]);first|exact F3|exact F4) ?_
  exact hKL2 _ _ _ (k+1) (by omega) (by omega) (by simp)
 ·have hge:l.length≤k:=by simpa using c4
  have hke:k=l.length:=by have:k≤l.length:=hlek;omega
  have hdn:=Lib.hid (List.drop_of_length_le hge)
  refine Ze (show K0_1 _ _ _ from hK0_1 _ _ _ ?_)
  refine R0 ?_
  refine Za ?_
  simp
theorem Customers_pure(ns:List Node)(ds:List Dev)(hc:Zk ns ds=0)(hn:1≤ns.length)(st:List Int)(hs:StOK ds st):Pure Tryz.prog G0 22 [netD ns ds,.sl (Zb st)] (.tup [.int .i64 (custF ns (supL ns ds st)),.int .i64 0]):=by
 refine Zh Tryz.func22 rfl Tryz.ntmps22 ?_
 obtain⟨g1,g2,_⟩:=Zj hc
 have hsl:=Z3 (suppB ns ds st) ns.length
 have hsl2:(supL ns ds st).length≤1000:=by unfold supL;omega
 have htk:List.take (supL ns ds st).length (Zb (supL ns ds st))=Zb (supL ns ds st):=List.take_of_length_le (by simp)
 refine R0 ?_
 refine R [.b ⟨_,_,_,_,_,_,Supplied_imp ns ds hc hn st hs 5⟩] (by simp;first|exact F3|exact F4) (by first|exact Zs _|exact Zq _|exact Zt _|trivial|omega|(simp;done)|(simp;omega)) ?_
 refine R2 [.p ⟨_,_,_,customers_pure ns ds hc (supL ns ds st) hsl2 (supL_in ns ds st)⟩] (by simp[htk];first|exact F3|exact F4) ?_
 refine Za ?_
 simp
theorem diff_pure(s t:List Int)(hl:s.length≤1000)(ht:t.length=s.length):Pure Tryz.prog G0 90 [.sl (Zb s),.sl (Zb t)] (.sl (Zb (supN (difP s t) s.length))):=by
 refine Zh Tryz.func90 rfl Tryz.ntmps90 ?_
 refine R0 ?_
 refine R0 ?_
 refine R2 [] (by simp[ht];first|exact F3|exact F4) ?_
 refine Zd (fun K0_1 hK0_1=>?_)
 refine Yf 5 1 (by simp) ?_
 refine Zg (X:=Nat) [0,1,11] [8] (fun x=>[(12,.int .i64 x),(5,.os 8 (supN (difP s t) x).length 0 (supN (difP s t) x).length)]) (fun x=>[(8,.arr 1 (Zb (supN (difP s t) x)))]) (fun x=>x≤s.length) (fun x=>s.length - x) 0 (by simp) (by simp[supN,Zb]) ?_
 simp only[KN,keep,but,reduceIte,Nat.reduceEqDiff,Nat.reduceBEq]
 rintro k hlek KL2 hKL2
 refine R0 ?_
 refine fl_C (fun c3=>?_) (fun c3=>?_)
 ·have hlt:k<s.length:=by simpa using c3
  have hkk:s[k]? = some s[k]:=by simp[hlt]
  have hd:=Lib.hid (List.drop_eq_getElem_cons hlt)
  have hkt:k<t.length:=by omega
  have hdc:difP s t k=(s[k] != t[k]):=by simp[difP,PO.at_,hlt,hkt]
  have htt:t[k]? = some t[k]:=by simp[hkt]
  have hsl2:=Z3 (difP s t) k
  generalize t[k]=z at *
  generalize s[k]=y at *
  refine Zd (fun K1_3 hK1_3=>?_)
  refine R2 [] (by simp[hkk];first|exact F3|exact F4) ?_
  refine R2 [] (by simp[htt,hkk];first|exact F3|exact F4) ?_
  refine Zn (b:=y != z) (by simp) (fun c5=>?_) (fun c5=>?_)
  ·refine R2 [] (by simp[hkk];first|exact F3|exact F4) ?_
   refine Zc (hK1_3 _ _ _ ?_)
   refine R2 [] (by simp[hkk];(try simp (disch:=omega) only[w64]);first|exact F3|exact F4) ?_
   exact hKL2 _ _ _ (k+1) (by omega) (by omega) (by simp[supN,hdc,Yk,hkk,hd.out,c5])
  ·refine Zc (hK1_3 _ _ _ ?_)
   refine R2 [] (by simp[hkk];(try simp (disch:=omega) only[w64]);first|exact F3|exact F4) ?_
   exact hKL2 _ _ _ (k+1) (by omega) (by omega) (by simp[supN,hdc,Yk,hkk,hd.out,c5])
 ·have hge:s.length≤k:=by simpa using c3
  have hke:k=s.length:=by have:k≤s.length:=hlek;omega
  have hdn:=Lib.hid (List.drop_of_length_le hge)
  refine Ze (show K0_1 _ _ _ from hK0_1 _ _ _ ?_)
  refine R0 ?_
  refine Za ?_
  simp[hke]
theorem is_pure(t s:List Int)(hl:s.length≤1000)(ht:t.length=s.length):Pure Tryz.prog G0 53 [.sl (Zb t),.sl (Zb s)] (.tup [.int .i64 0,.bool (eqB t s)]):=by
 refine Zh Tryz.func53 rfl Tryz.ntmps53 ?_
 refine R0 ?_
 refine R6 [.p ⟨_,_,_,diff_pure s t hl ht⟩] ?_
 refine Za ?_
 simp[eqB,len_empty]
theorem rstates_pure(ns:List Node)(ds:List Dev)(hc:Zk ns ds=0)(s t:List Int)(hs:StOK ds s)(ht:StOK ds t):Pure Tryz.prog G0 46 [netD ns ds,.sl (Zb s),.sl (Zb t)] (.int .i64 0):=by
 refine Zh Tryz.func46 rfl Tryz.ntmps46 ?_
 refine R0 ?_
 refine R6 [.p ⟨_,_,_,Y3 ns ds s hc hs⟩] ?_
 refine R0 ?_
 refine fl_F ?_
 refine R6 [.p ⟨_,_,_,Y3 ns ds t hc ht⟩] ?_
 refine Za ?_
 simp
end
section
open Go Go.RowKit
attribute [local simp] onesD oneD
abbrev bckR(ns:List Node)(ds:List Dev)(pr st t:List Int):PO.RS:=reachR (ZS ns ds pr [5]) (eqB t) (fun _=>0) st (movs ds 0 [])
def bckP(ns:List Node)(ds:List Dev)(pr st t:List Int):List Opr:=(findP (ZS ns ds pr [5]) (eqB t) (fun _=>0) st (movs ds 0 [])).map fun p=>opA st (movs ds 0 []) p.1 p.2
theorem backS_pure(ns:List Node)(ds:List Dev)(hc:Zk ns ds=0)(hn:1≤ns.length)(st:List Int)(hs:StOK ds st)(hd:0<ds.length)(pr:List Int)(hg:GOK ns ds 0 [] pr st)(t:List Int)(ht:StOK ds t)(hf:0≤(bckR ns ds pr st t).depth):Pure Tryz.prog G0 25 [netD ns ds,.sl (Zb st),gndD 0 [] pr,.sl (Zb t)] (.tup [.sl ((bckP ns ds pr st t).map Yl),.int .i64 0]):=by
 refine Zh Tryz.func25 rfl Tryz.ntmps25 ?_
 have hsl:=hs.1
 obtain⟨_,g2,_⟩:=Zj hc
 have hpo:=pr_ok hc hg hs hd
 have hpm:∀ s,Val12 ds.length s→∀ d∈movs ds 0 [],_:=fun s hs d hd=>perm_pure ns ds hc hn 0 [] pr st hg [5] (by simp) s hs d hd
 have hgo:∀ s,Val12 ds.length s→Pure Tryz.prog G0 53 ([.sl (Zb t)]++.sl (Zb s)::[]) (.tup [.int .i64 ((fun _=>0) s),.bool (eqB t s)]):=fun s hv=>is_pure t s (by rw[hv.1];omega) (by rw[hv.1];exact ht.1)
 have hfd:=findS_pure ds.length st (movs ds 0 []) hpo 87 [] (prClo ns ds 0 [] pr [5]) ZH (prClo_clo _ _ _ _ _ _) (ZS ns ds pr [5]) hpm 53 [.sl (Zb t)] [] (by exact⟨fun g k=>by simp[mapO,Zy],fun n=>by simp[D.los,D.lo],by simp[ZB,ZA]⟩) ZH (eqB t) (fun _=>0) hgo hf
 have hpr:=problem_pure ns ds hc hn st hs 0 [] pr hg [5]
 have hbt:[[D.int .i64 5]]=Zb [5]:=rfl
 refine R0 ?_
 refine R6 [.p ⟨_,_,_,rstates_pure ns ds hc st t hs ht⟩] ?_
 refine R0 ?_
 refine fl_F ?_
 refine R [.p ⟨_,_,_,hpr⟩] (by simp[hbt];first|exact F3|exact F4) (by exact Le.refl _) ?_
 refine R0 ?_
 refine fl_F ?_
 refine R0 ?_
 refine R [.p ⟨_,_,_,hfd⟩] (by simp;first|exact F3|exact F4) (by exact Le.refl _) ?_
 refine R0 ?_
 refine fl_F ?_
 refine R0 ?_
 refine Za ?_
 simp[bckP]
theorem backN_pure(ns:List Node)(ds:List Dev)(hc:Zk ns ds=0)(hn:1≤ns.length)(st:List Int)(hs:StOK ds st)(hd:0<ds.length)(pr:List Int)(hg:GOK ns ds 0 [] pr st)(t:List Int)(ht:StOK ds t)(hf:(bckR ns ds pr st t).depth<0):Pure Tryz.prog G0 25 [netD ns ds,.sl (Zb st),gndD 0 [] pr,.sl (Zb t)] (.tup [.sl [],.int .i64 15]):=by
 refine Zh Tryz.func25 rfl Tryz.ntmps25 ?_
 have hsl:=hs.1
 obtain⟨_,g2,_⟩:=Zj hc
 have hpo:=pr_ok hc hg hs hd
 have hpm:∀ s,Val12 ds.length s→∀ d∈movs ds 0 [],_:=fun s hs d hd=>perm_pure ns ds hc hn 0 [] pr st hg [5] (by simp) s hs d hd
 have hgo:∀ s,Val12 ds.length s→Pure Tryz.prog G0 53 ([.sl (Zb t)]++.sl (Zb s)::[]) (.tup [.int .i64 ((fun _=>0) s),.bool (eqB t s)]):=fun s hv=>is_pure t s (by rw[hv.1];omega) (by rw[hv.1];exact ht.1)
 have hfd:=findN_pure ds.length st (movs ds 0 []) hpo 87 [] (prClo ns ds 0 [] pr [5]) ZH (prClo_clo _ _ _ _ _ _) (ZS ns ds pr [5]) hpm 53 [.sl (Zb t)] [] (by exact⟨fun g k=>by simp[mapO,Zy],fun n=>by simp[D.los,D.lo],by simp[ZB,ZA]⟩) ZH (eqB t) (fun _=>0) hgo hf
 have hpr:=problem_pure ns ds hc hn st hs 0 [] pr hg [5]
 have hbt:[[D.int .i64 5]]=Zb [5]:=rfl
 refine R0 ?_
 refine R6 [.p ⟨_,_,_,rstates_pure ns ds hc st t hs ht⟩] ?_
 refine R0 ?_
 refine fl_F ?_
 refine R [.p ⟨_,_,_,hpr⟩] (by simp[hbt];first|exact F3|exact F4) (by exact Le.refl _) ?_
 refine R0 ?_
 refine fl_F ?_
 refine R0 ?_
 refine R [.p ⟨_,_,_,hfd⟩] (by simp;first|exact F3|exact F4) (by exact Le.refl _) ?_
 refine R0 ?_
 refine fl_T ?_
 refine R0 ?_
 refine Za ?_
 simp;exact le_tup ⟨Le.nils,Le.refl _,trivial⟩
end
section
open Go Go.RowKit
attribute [local simp] onesD oneD
def unlS(l:List Lk):List Stp:=l.map fun u=>⟨4,u.dev,0,0,u.key⟩
theorem unlS_take(l:List Lk)(k:Nat)(u:Lk)(h:l[k]? = some u):unlS (l.take (k+1))=unlS (l.take k)++[⟨4,u.dev,0,0,u.key⟩]:=by
 unfold unlS
 rw[List.take_add_one,h]
 simp
@[simp] theorem unlS_len(l:List Lk):(unlS l).length=l.length:=by simp[unlS]
theorem bckP_len{ns:List Node}{ds:List Dev}{pr st:List Int}(hg:GOK ns ds 0 [] pr st)(t:List Int):(bckP ns ds pr st t).length≤2000:=by
 unfold bckP findP
 rw[List.length_map]
 have h1:=findF_len (reachR (ZS ns ds pr [5]) (eqB t) (fun _=>0) st (movs ds 0 [])) (PO.goodL (reachR (ZS ns ds pr [5]) (eqB t) (fun _=>0) st (movs ds 0 [])) (2 ^ (movs ds 0 []).length)) (2 ^ (movs ds 0 []).length+1) 0
 have h2:2 ^ (movs ds 0 []).length≤2 ^ 10:=Nat.pow_le_pow_right (by decide) hg.mv
 omega
theorem bckP_ops{ns:List Node}{ds:List Dev}{pr st:List Int}(hd:0<ds.length)(t:List Int)(o:Opr)(ho:o∈bckP ns ds pr st t):0≤o.dev∧o.dev<ds.length:=by
 unfold bckP at ho
 obtain⟨p,_,rfl⟩:=List.mem_map.1 ho
 have hm:(movs ds 0 []).getD p.2 0<ds.length:=by
  by_cases h:p.2<(movs ds 0 []).length
  ·simp only[List.getD_eq_getElem?_getD,List.getElem?_eq_getElem h,Option.getD_some];exact (Yv (List.getElem_mem h)).1
  ·simp only[List.getD_eq_getElem?_getD,List.getElem?_eq_none (Nat.le_of_not_lt h),Option.getD_none];exact hd
 exact⟨by show (0:Int)≤_;simp[opA],by show _<(ds.length:Int);simp only[opA];omega⟩
def nmR:ByteArray:=⟨#[82,69,83,84,79,82,69]⟩
theorem restoreN_pure(ns:List Node)(ds:List Dev)(hc:Zk ns ds=0)(hn:1≤ns.length)(st:List Int)(hs:StOK ds st)(hd:0<ds.length)(pr:List Int)(hg:GOK ns ds 0 [] pr st)(t:List Int)(ht:StOK ds t)(l:List Lk)(hl:ZF ns ds l=0)(hf:(bckR ns ds pr st t).depth<0):Pure Tryz.prog G0 21 [netD ns ds,.sl (Zb st),gndD 0 l pr,.sl (Zb t)] (.tup [.agg [.str ⟨#[]⟩,.nils],.int .i64 15]):=by
 refine Zh Tryz.func21 rfl Tryz.ntmps21 ?_
 have hgc:=gcheck_pure ns ds 0 l pr (by decide) hl (by have:=hg.pl;omega) hg.ri
 have hrs:=rstates_pure ns ds hc st t hs ht
 refine R0 ?_
 refine R6 [.p ⟨_,_,_,hrs⟩] ?_
 refine R0 ?_
 refine fl_T ?_
 refine R6 [.p ⟨_,_,_,hgc⟩] ?_
 refine R0 ?_
 refine fl_F ?_
 refine R [.p ⟨_,_,_,backN_pure ns ds hc hn st hs hd pr hg t ht hf⟩] (by simp;first|exact F3|exact F4) (by exact Xw ⟨Le.refl _,Le.nils,Le.refl _,trivial⟩) ?_
 refine R0 ?_
 refine fl_T ?_
 refine R0 ?_
 refine Za ?_
 simp
theorem restoreS_pure(ns:List Node)(ds:List Dev)(hc:Zk ns ds=0)(hn:1≤ns.length)(st:List Int)(hs:StOK ds st)(hd:0<ds.length)(pr:List Int)(hg:GOK ns ds 0 [] pr st)(t:List Int)(ht:StOK ds t)(l:List Lk)(hl:ZF ns ds l=0)(hf:0≤(bckR ns ds pr st t).depth)(h64:l.length+(ZD ds (bckP ns ds pr st t)).length≤64):Pure Tryz.prog G0 21 [netD ns ds,.sl (Zb st),gndD 0 l pr,.sl (Zb t)] (.tup [.agg [.str nmR,.sl ((unlS l++ZD ds (bckP ns ds pr st t)).map Zr)],.int .i64 0]):=by
 refine Zh Tryz.func21 rfl Tryz.ntmps21 ?_
 have hgc:=gcheck_pure ns ds 0 l pr (by decide) hl (by have:=hg.pl;omega) hg.ri
 have hrs:=rstates_pure ns ds hc st t hs ht
 have hbs:=backS_pure ns ds hc hn st hs hd pr hg t ht hf
 have hol:=bckP_len hg t
 have hop:=fun o ho=>bckP_ops (ns:=ns) (pr:=pr) (st:=st) hd t o ho
 generalize bckP ns ds pr st t=ops at *
 have h64b:decide ((64:Int)<(l.length:Int)+((ZD ds ops).length:Int))=false:=by simp;omega
 refine R0 ?_
 refine R6 [.p ⟨_,_,_,hrs⟩] ?_
 refine R0 ?_
 refine fl_T ?_
 refine R6 [.p ⟨_,_,_,hgc⟩] ?_
 refine R0 ?_
 refine fl_F ?_
 refine R [.p ⟨_,_,_,hbs⟩] (by simp;first|exact F3|exact F4) (by exact Xw ⟨Le.refl _,Le.nils,Le.refl _,trivial⟩) ?_
 refine R0 ?_
 refine fl_F ?_
 refine R0 ?_
 refine awpL_ownB 34 1 5 [.str ⟨#[82,69,83,84,79,82,69]⟩,.nils] (by simp) (by simp) ?_
 refine R0 ?_
 refine Zd (fun K0_1 hK0_1=>?_)
 refine Zg (X:=Nat) [4,8,11,12,46,47] [34,36] (fun x=>[(48,.int .i64 x)]) (fun x=>[(34,.box [.str ⟨#[82,69,83,84,79,82,69]⟩,.os 36 x 0 x]),(36,.arr 5 ((unlS (l.take x)).map Zr))]) (fun x=>x≤l.length) (fun x=>l.length - x) 0 (by simp) (by simp[unlS,nmR]) ?_
 simp only[KN,keep,but,reduceIte,Nat.reduceEqDiff,Nat.reduceBEq]
 rintro k hlek KL2 hKL2
 refine R0 ?_
 refine fl_C (fun c11=>?_) (fun c11=>?_)
 ·have hlt:k<l.length:=by simpa using c11
  have hkk:l[k]? = some l[k]:=by simp[hlt]
  have hd:=Lib.hid (List.drop_eq_getElem_cons hlt)
  have hlt2:=unlS_take l k l[k] (by simp[hlt])
  generalize l[k]=u at *
  refine Zd (fun K1_3 hK1_3=>?_)
  refine R2 [] (by simp[hkk];first|exact F3|exact F4) ?_
  refine R2 [] (by simp[hkk];first|exact F3|exact F4) ?_
  refine Zc (hK1_3 _ _ _ ?_)
  refine R2 [] (by simp[hkk];(try simp (disch:=omega) only[w64]);first|exact F3|exact F4) ?_
  exact hKL2 _ _ _ (k+1) (by omega) (by omega) (by simp[hlt2,hkk,hd.out])
 ·have hge:l.length≤k:=by simpa using c11
  have hke:k=l.length:=by have:k≤l.length:=hlek;omega
  have hdn:=Lib.hid (List.drop_of_length_le hge)
  subst hke
  have htk:List.take (l.length+(ZD ds ops).length) (List.map Zr (unlS l)++List.map Zr (ZD ds ops))=List.map Zr (unlS l)++List.map Zr (ZD ds ops):=List.take_of_length_le (by simp)
  refine Ze (show K0_1 _ _ _ from hK0_1 _ _ _ ?_)
  refine R [.b ⟨_,_,_,_,_,_,steps_imp ns ds hc ops hol hop 46⟩] (by simp;first|exact F3|exact F4) (by first|exact Zs _|exact Zq _|exact Zt _|trivial|omega|(simp;done)|(simp;omega)) ?_
  refine R2 [] (by simp[h64b];first|exact F3|exact F4) ?_
  refine fl_F ?_
  refine R0 ?_
  refine Za ?_
  simp[htk,nmR]
end
section
open Go Go.RowKit
def lqD(l:List Lk):D:=.sl (l.map Zm)
theorem le_lqD(l:List Lk):Le (lqD l) (.sl (l.map Zm)):=Le.refl _
theorem lk_lq(l:List Lk):Le (lkD l) (lqD l):=le_lkD l
abbrev gQ(c:Int)(l:List Lk)(pr:List Int):D:=.agg [.int .i64 c,lqD l,pvD pr]
theorem le_gQ(c:Int)(l:List Lk)(pr:List Int):Le (gQ c l pr) (gndD c l pr):=Xw ⟨Le.refl _,Le.refl _,le_pvD pr,trivial⟩
@[simp 5000] theorem viewE_lqD(g:Nat→Option Blk)(k:Nat)(l:List Lk):Zy g (k+1) (lqD l)=some (lqD l):=by cases l<;>simp[lqD,Zy]
@[simp 5000] theorem viewK_lqD(p:Nat→Bool)(g:Nat→Option Blk)(k:Nat)(l:List Lk):YJ p g (k+1) (lqD l)=some (lqD l):=by cases l<;>simp[lqD,YJ]
@[simp 5000] theorem viewKE_lqD(p:Nat→Bool)(g:Nat→Option Blk)(k:Nat)(l:List Lk):Z7 p g (k+1) (lqD l)=some (lqD l):=by cases l<;>simp[lqD,Z7]
@[simp 5000] theorem names_lqD(l:List Lk):ZA (lqD l)=[]:=by cases l<;>rfl
@[simp 5000] theorem lo_lqD(n:Nat)(l:List Lk):(lqD l).lo n=true:=by cases l<;>simp[lqD,D.lo]
@[simp 5000] theorem inn_lqD(p:Nat→Bool)(l:List Lk):(lqD l).inn p=true:=by cases l<;>simp[lqD,D.inn]
@[simp 5000] theorem ren_lqD(r:Nat→Nat)(l:List Lk):(lqD l).ren r=lqD l:=by cases l<;>simp[lqD,D.ren]
@[simp 5000] theorem storD_lqD(l:List Lk):Z5 (lqD l)=true:=by cases l<;>rfl
@[simp 5000] theorem cells_lqD(l:List Lk):Zf (lqD l)=[lqD l]:=by cases l<;>rfl
@[simp 5000] theorem one_lqD(l:List Lk):oneD (lqD l)=true:=by cases l<;>rfl
@[simp 5000] theorem nameOf_lqD(l:List Lk):Z2 (lqD l)=[]:=by cases l<;>rfl
attribute [simp] le_lqD
@[simp] theorem gQ_eq(c:Int)(l:List Lk)(pr:List Int):gQ c l pr=.agg [.int .i64 c,lqD l,pvD pr]:=rfl
@[simp] theorem le_gQ2(c:Int)(l:List Lk)(pr:List Int):Le (.agg [.int .i64 c,lqD l,pvD pr]) (.agg [.int .i64 c,.sl (l.map Zm),.sl (Zb pr)]):=le_gQ c l pr
@[simp] theorem le_gQ4(c:Int)(l:List Lk)(pr:List Int):Le (.agg [.int .i64 c,lqD l,.sl (Zb pr)]) (.agg [.int .i64 c,.sl (l.map Zm),.sl (Zb pr)]):=Xw ⟨Le.refl _,le_lqD l,Le.refl _,trivial⟩
theorem operatedG_pureQ(ns:List Node)(ds:List Dev)(c:Int)(l:List Lk)(pr:List Int)(i:Nat)(p:Int)(d:Dev)(hd:ds[i]? = some d):Pure Tryz.prog G0 70 [netD ns ds,gQ c l pr,.agg (Yl ⟨(i:Int),p⟩)] (gQ c l (if (p==2&&d.kind != 4)=true then [] else pr)):=by
 refine Zh Tryz.func70 rfl Tryz.ntmps70 ?_
 obtain⟨hil,hkd⟩:=List.getElem?_eq_some_iff.1 hd
 refine R0 ?_
 rcases bf_ (p==2) with h1_9|h1_9
 ·rcases bf_ (d.kind != 4) with h1_18|h1_18
  ·refine R2 [] (by simp[hil,hkd,hd,h1_9,h1_18];first|exact F3|exact F4) ?_
   refine fl_T ?_
   refine R0 ?_
   refine R0 ?_
   refine Za ?_
   have hdk:(d.kind==4)=!(d.kind != 4):=by simp[bne]
   simp[h1_9,h1_18]
  ·refine R2 [] (by simp[hil,hkd,hd,h1_9,h1_18];first|exact F3|exact F4) ?_
   refine fl_F ?_
   refine R0 ?_
   refine Za ?_
   have hdk:(d.kind==4)=!(d.kind != 4):=by simp[bne]
   simp[h1_9,h1_18]
 ·refine R2 [] (by simp[hil,hkd,hd,h1_9];first|exact F3|exact F4) ?_
  refine fl_F ?_
  refine R0 ?_
  refine Za ?_
  have hdk:(d.kind==4)=!(d.kind != 4):=by simp[bne]
  simp[h1_9]
end
section
open Go Go.RowKit
theorem step1_impQ(ns:List Node)(ds:List Dev)(hc:Zk ns ds=0)(hn:1≤ns.length)(st:List Int)(hs:StOK ds st)(c:Int)(l:List Lk)(pr:List Int)(hp:pr.length≤1000)(i:Nat)(d:Dev)(hd:ds[i]? = some d)(ho:HOK ds st c l ⟨(i:Int),1⟩ i)(m nm:Nat)(hnm:m≠nm):Imp Tryz.prog G0 40 [netD ns ds,.os m st.length 0 st.length,gQ c l pr,.agg (Zr ⟨1,(i:Int),0,0,0⟩)] [(m,.arr 1 (Zb st))] nm (.tup [.sl (Zb (hazL ns ds st pr i 1)),.os nm st.length 0 st.length,gQ c l (if ((1:Int)==2&&d.kind != 4)=true then [] else pr),.bool true]) [(m,none),(nm,some (.arr 1 (Zb (st.set i 1))))]:=by
 refine ZC (gl:=[(m,.arr 1 (Zb st))]) (nx1:=m+1) Tryz.func40 rfl Tryz.ntmps40 ?_
 obtain⟨g1,g2,_⟩:=Zj hc
 obtain⟨hil,hkd⟩:=List.getElem?_eq_some_iff.1 hd
 have hsl:=hs.1
 have hst0:st≠[]:=by intro e;subst e;simp at hsl;omega
 have hi2:i<st.length:=by omega
 refine YT [m] ?_
 refine R0 ?_
 refine R0 ?_
 refine Zd (fun K0_1 hK0_1=>?_)
 refine R0 ?_
 refine fl_T ?_
 refine fl_T ?_
 refine R6 [.p ⟨_,_,_,Xx ⟨(i:Int),1⟩ (by simp)⟩] ?_
 refine R2 [.p ⟨_,_,_,hIn_pure ns ds hc hn st hs c l pr hp ⟨(i:Int),1⟩ i ho⟩] (by simp[hst0];first|exact F3|exact F4) ?_
 refine R [.b ⟨_,_,_,_,_,_,Z4 st (by omega) hst0 (m+1+7+2+2+4+10+1)⟩] (by simp[hst0];first|exact F3|exact F4) (by first|exact Zs _|exact Zq _|exact Zt _|trivial|omega|(simp;done)|(simp;omega)) ?_
 refine R2 [] (by simp[hi2,setI];first|exact F3|exact F4) ?_
 refine R6 [.p ⟨_,_,_,operatedG_pureQ ns ds c l pr i 1 d hd⟩] ?_
 refine Za ?_
 refine⟨.inr rfl,(m+1+7+2+2+4+10+1),?_⟩
 simp[hnm]
theorem step2_impQ(ns:List Node)(ds:List Dev)(hc:Zk ns ds=0)(hn:1≤ns.length)(st:List Int)(hs:StOK ds st)(c:Int)(l:List Lk)(pr:List Int)(hp:pr.length≤1000)(i:Nat)(d:Dev)(hd:ds[i]? = some d)(ho:HOK ds st c l ⟨(i:Int),2⟩ i)(m nm:Nat)(hnm:m≠nm):Imp Tryz.prog G0 40 [netD ns ds,.os m st.length 0 st.length,gQ c l pr,.agg (Zr ⟨2,(i:Int),0,0,0⟩)] [(m,.arr 1 (Zb st))] nm (.tup [.sl (Zb (hazL ns ds st pr i 2)),.os nm st.length 0 st.length,gQ c l (if ((2:Int)==2&&d.kind != 4)=true then [] else pr),.bool true]) [(m,none),(nm,some (.arr 1 (Zb (st.set i 2))))]:=by
 refine ZC (gl:=[(m,.arr 1 (Zb st))]) (nx1:=m+1) Tryz.func40 rfl Tryz.ntmps40 ?_
 obtain⟨g1,g2,_⟩:=Zj hc
 obtain⟨hil,hkd⟩:=List.getElem?_eq_some_iff.1 hd
 have hsl:=hs.1
 have hst0:st≠[]:=by intro e;subst e;simp at hsl;omega
 have hi2:i<st.length:=by omega
 refine YT [m] ?_
 refine R0 ?_
 refine R0 ?_
 refine Zd (fun K0_1 hK0_1=>?_)
 refine R0 ?_
 refine fl_F ?_
 refine R0 ?_
 refine fl_T ?_
 refine R6 [.p ⟨_,_,_,Xx ⟨(i:Int),2⟩ (by simp)⟩] ?_
 refine R2 [.p ⟨_,_,_,hIn_pure ns ds hc hn st hs c l pr hp ⟨(i:Int),2⟩ i ho⟩] (by simp[hst0];first|exact F3|exact F4) ?_
 refine R [.b ⟨_,_,_,_,_,_,Z4 st (by omega) hst0 (m+1+7+2+2+2+4+10+1)⟩] (by simp[hst0];first|exact F3|exact F4) (by first|exact Zs _|exact Zq _|exact Zt _|trivial|omega|(simp;done)|(simp;omega)) ?_
 refine R2 [] (by simp[hi2,setI];first|exact F3|exact F4) ?_
 refine R6 [.p ⟨_,_,_,operatedG_pureQ ns ds c l pr i 2 d hd⟩] ?_
 refine Za ?_
 refine⟨.inr rfl,(m+1+7+2+2+2+4+10+1),?_⟩
 simp[hnm]
theorem step5_impQ(ns:List Node)(ds:List Dev)(hc:Zk ns ds=0)(hn:1≤ns.length)(st:List Int)(hs:StOK ds st)(c:Int)(l:List Lk)(pr:List Int)(pr2:List Int)(v:Nat)(hv:v<ns.length)(hd:liveO ((colF ns.length ds st).getD v 0)=false)(hpr:Pure Tryz.prog G0 72 [gQ c l pr,.int .i64 v] (gQ c l pr2))(m nm:Nat)(hnm:m≠nm):Imp Tryz.prog G0 40 [netD ns ds,.os m st.length 0 st.length,gQ c l pr,.agg (Zr ⟨5,0,(v:Int),0,0⟩)] [(m,.arr 1 (Zb st))] nm (.tup [.nils,.os m st.length 0 st.length,gQ c l pr2,.bool true]) [(m,some (.arr 1 (Zb st)))]:=by
 refine ZC (gl:=[(m,.arr 1 (Zb st))]) (nx1:=m+1) Tryz.func40 rfl Tryz.ntmps40 ?_
 have hsl:=hs.1
 obtain⟨g1,g2,_⟩:=Zj hc
 have hcl:=Y1 ns.length ds st
 have hvc:v<(colF ns.length ds st).length:=by omega
 obtain⟨x,hx⟩:∃ x,(colF ns.length ds st)[v]? = some x:=⟨_,List.getElem?_eq_getElem hvc⟩
 obtain⟨_,hxv⟩:=List.getElem?_eq_some_iff.1 hx
 have hgx:(colF ns.length ds st).getD v 0=x:=by simp[hx]
 have hrg:=colF_in (ZM hc) st x (List.mem_of_getElem? hx)
 have hba:bAnd .i64 x 1=0:=by rw[hgx] at hd;rcases hrg with rfl|rfl|rfl|rfl<;>first|decide|(simp[liveO] at hd)
 refine R0 ?_
 refine R0 ?_
 refine Zd (fun K0_1 hK0_1=>?_)
 refine R0 ?_
 refine fl_F ?_
 refine R0 ?_
 refine fl_F ?_
 refine R0 ?_
 refine fl_T ?_
 refine R [.b ⟨_,_,_,_,_,_,both_imp ns ds hc hn st hs (m+1+7+2+2+2+2+2)⟩] (by simp;first|exact F3|exact F4) (by first|exact Zs _|exact Zq _|exact Zt _|trivial|omega|(simp;done)|(simp;omega)) ?_
 refine R2 [] (by simp[hvc,hx,hxv,hcl,hv,hba];first|exact F3|exact F4) ?_
 refine fl_F ?_
 refine R6 [.p ⟨_,_,_,hpr⟩] ?_
 refine Za ?_
 refine⟨.inr rfl,m+1,?_⟩
 simp[hnm]
end
section
open Go Go.RowKit
theorem run1a_impQ(ns:List Node)(ds:List Dev)(st:List Int)(c:Int)(l:List Lk)(pr:List Int)(sk:List Int)(hsk:sk.length≤1000000)(fd:List Fnd)(hfd:fd.length≤1000)(k:Int)(s:Stp)(hk:(s.knd==1)=true)(hns:ins sk s.dev=false)(hz:List Int)(hhz:hz.length≤1000)(st2:List Int)(l2:List Lk)(pr2:List Int)(m nm:Nat)(hm:5≤m∧m≠24∧m≠25)(hnm:m≠nm)(hn2:5≤nm∧nm≠24∧nm≠25)(hst:∀ nm,m≠nm→Imp Tryz.prog G0 40 [netD ns ds,.os m st.length 0 st.length,gQ c l pr,.agg (Zr s)] [(m,.arr 1 (Zb st))] nm (.tup [.sl (Zb hz),.os nm st.length 0 st.length,gQ c l2 pr2,.bool true]) [(m,none),(nm,some (.arr 1 (Zb st2)))]):Imp Tryz.prog G0 38 [.int .i64 k,.agg (Zr s),.bp 4 0,.bp 0 0,.bp 1 0,.bp 2 0,.bp 24 0] [(0,.box [nsD ns,dsD ds]),(1,.box [.os m st.length 0 st.length]),(2,.box [.int .i64 c,lqD l,pvD pr]),(4,.box [.sl (Zb sk)]),(24,.box [.os 25 fd.length 0 fd.length]),(m,.arr 1 (Zb st)),(25,.arr 2 (fd.map fRow))] nm (.bool true) [(0,some (.box [nsD ns,dsD ds])),(1,some (.box [.os nm st.length 0 st.length])),(2,some (.box [.int .i64 c,lqD l2,pvD pr2])),(4,some (.box [.sl (Zb sk)])),(24,some (.box [.os 25 (fd++hz.map (Fnd.mk k)).length 0 (fd++hz.map (Fnd.mk k)).length])),(m,none),(nm,some (.arr 1 (Zb st2))),(25,some (.arr 2 ((fd++hz.map (Fnd.mk k)).map fRow)))]:=by
 refine ZC (gl:=[(0,.box [nsD ns,dsD ds]),(1,.box [.os m st.length 0 st.length]),(2,.box [.int .i64 c,lqD l,pvD pr]),(4,.box [.sl (Zb sk)]),(24,.box [.os 25 fd.length 0 fd.length]),(m,.arr 1 (Zb st)),(25,.arr 2 (fd.map fRow))]) (nx1:=m+26) (hgs:=by simp[show (m=0)=False from eq_false (by omega),show (0=m)=False from eq_false (by omega),show (m=1)=False from eq_false (by omega),show (1=m)=False from eq_false (by omega),show (m=2)=False from eq_false (by omega),show (2=m)=False from eq_false (by omega),show (m=4)=False from eq_false (by omega),show (4=m)=False from eq_false (by omega),show (m=24)=False from eq_false (by omega),show (24=m)=False from eq_false (by omega),show (m=25)=False from eq_false (by omega),show (25=m)=False from eq_false (by omega)]) Tryz.func38 rfl Tryz.ntmps38 ?_
 have hfd2:(fd.length:Int)≤1000:=by omega
 have na0:(m=0)=False:=eq_false (by omega)
 have nb0:(0=m)=False:=eq_false (by omega)
 have na1:(m=1)=False:=eq_false (by omega)
 have nb1:(1=m)=False:=eq_false (by omega)
 have na2:(m=2)=False:=eq_false (by omega)
 have nb2:(2=m)=False:=eq_false (by omega)
 have na4:(m=4)=False:=eq_false (by omega)
 have nb4:(4=m)=False:=eq_false (by omega)
 have na24:(m=24)=False:=eq_false (by omega)
 have nb24:(24=m)=False:=eq_false (by omega)
 have na25:(m=25)=False:=eq_false (by omega)
 have nb25:(25=m)=False:=eq_false (by omega)
 refine R2 [] (by simp[na0,nb0,na1,nb1,na2,nb2,na4,nb4,na24,nb24,na25,nb25];first|exact F3|exact F4) ?_
 refine R2 [] (by simp[na0,nb0,na1,nb1,na2,nb2,na4,nb4,na24,nb24,na25,nb25,hk];first|exact F3|exact F4) ?_
 refine R2 [.p ⟨_,_,_,ZG sk hsk s.dev⟩] (by simp[na0,nb0,na1,nb1,na2,nb2,na4,nb4,na24,nb24,na25,nb25,hns];first|exact F3|exact F4) ?_
 refine fl_F ?_
 refine R2 [.i ⟨_,_,_,_,_,_,hst (m+26+2+9+7+4) (by omega)⟩] (by simp[na0,nb0,na1,nb1,na2,nb2,na4,nb4,na24,nb24,na25,nb25];first|exact F3|exact F4) ?_
 refine R2 [] (by simp[na0,nb0,na1,nb1,na2,nb2,na4,nb4,na24,nb24,na25,nb25];first|exact F3|exact F4) ?_
 refine Zd (fun K0_1 hK0_1=>?_)
 refine Zg (X:=Nat) [0,4,5,6,12,13,14,42,43] [24,25] (fun x=>[(44,.int .i64 x)]) (fun x=>[(24,.box [.os 25 (fd.length+x) 0 (fd.length+x)]),(25,.arr 2 ((fd++(hz.take x).map (Fnd.mk k)).map fRow))]) (fun x=>x≤hz.length) (fun x=>hz.length - x) 0 (by simp) (by simp;omega) ?_
 simp only[KN,keep,but,reduceIte,Nat.reduceEqDiff,Nat.reduceBEq]
 rintro j hlej KL2 hKL2
 refine R2 [] (by simp[na0,nb0,na1,nb1,na2,nb2,na4,nb4,na24,nb24,na25,nb25];first|exact F3|exact F4) ?_
 refine fl_C (fun c6=>?_) (fun c6=>?_)
 ·have hlt:j<hz.length:=by simpa using c6
  have hkk:hz[j]? = some hz[j]:=by simp[hlt]
  have hd:=Lib.hid (List.drop_eq_getElem_cons hlt)
  have htk:List.take (j+1) (List.map (fRow ∘ Fnd.mk k) hz)=List.take j (List.map (fRow ∘ Fnd.mk k) hz)++[[.int .i64 k,.int .i64 hz[j]]]:=by rw[List.take_add_one];simp[hlt]
  generalize hz[j]=h at *
  refine Zd (fun K1_3 hK1_3=>?_)
  refine R2 [] (by simp[na0,nb0,na1,nb1,na2,nb2,na4,nb4,na24,nb24,na25,nb25,hkk];first|exact F3|exact F4) ?_
  refine R2 [] (by simp[na0,nb0,na1,nb1,na2,nb2,na4,nb4,na24,nb24,na25,nb25,hkk];first|exact F3|exact F4) ?_
  refine Zc (hK1_3 _ _ _ ?_)
  refine R2 [] (by simp[na0,nb0,na1,nb1,na2,nb2,na4,nb4,na24,nb24,na25,nb25,hkk];(try simp (disch:=omega) only[w64]);first|exact F3|exact F4) ?_
  exact hKL2 _ _ _ (j+1) (by omega) (by omega) (by simp[htk];omega)
 ·have hge:hz.length≤j:=by simpa using c6
  have hke:j=hz.length:=by have:j≤hz.length:=hlej;omega
  have hdn:=Lib.hid (List.drop_of_length_le hge)
  refine Ze (show K0_1 _ _ _ from hK0_1 _ _ _ ?_)
  refine R2 [] (by simp[na0,nb0,na1,nb1,na2,nb2,na4,nb4,na24,nb24,na25,nb25];first|exact F3|exact F4) ?_
  refine R2 [] (by simp[na0,nb0,na1,nb1,na2,nb2,na4,nb4,na24,nb24,na25,nb25];first|exact F3|exact F4) ?_
  refine Za ?_
  refine⟨.inr rfl,(m+26+2+9+7+4),?_⟩
  simp[hnm,show (nm=0)=False from eq_false (by omega),show (0=nm)=False from eq_false (by omega),show (nm=1)=False from eq_false (by omega),show (1=nm)=False from eq_false (by omega),show (nm=2)=False from eq_false (by omega),show (2=nm)=False from eq_false (by omega),show (nm=4)=False from eq_false (by omega),show (4=nm)=False from eq_false (by omega),show (nm=24)=False from eq_false (by omega),show (24=nm)=False from eq_false (by omega),show (nm=25)=False from eq_false (by omega),show (25=nm)=False from eq_false (by omega)]
  exact⟨hke,List.take_of_length_le (by simp;omega)⟩
theorem run1b_impQ(ns:List Node)(ds:List Dev)(st:List Int)(c:Int)(l:List Lk)(pr:List Int)(sk:List Int)(hsk:sk.length≤1000000)(fd:List Fnd)(hfd:fd.length≤1000)(k:Int)(s:Stp)(hk:(s.knd==1)=false)(hk2:(s.knd==2)=true)(hns:ins sk s.dev=false)(hz:List Int)(hhz:hz.length≤1000)(st2:List Int)(l2:List Lk)(pr2:List Int)(m nm:Nat)(hm:5≤m∧m≠24∧m≠25)(hnm:m≠nm)(hn2:5≤nm∧nm≠24∧nm≠25)(hst:∀ nm,m≠nm→Imp Tryz.prog G0 40 [netD ns ds,.os m st.length 0 st.length,gQ c l pr,.agg (Zr s)] [(m,.arr 1 (Zb st))] nm (.tup [.sl (Zb hz),.os nm st.length 0 st.length,gQ c l2 pr2,.bool true]) [(m,none),(nm,some (.arr 1 (Zb st2)))]):Imp Tryz.prog G0 38 [.int .i64 k,.agg (Zr s),.bp 4 0,.bp 0 0,.bp 1 0,.bp 2 0,.bp 24 0] [(0,.box [nsD ns,dsD ds]),(1,.box [.os m st.length 0 st.length]),(2,.box [.int .i64 c,lqD l,pvD pr]),(4,.box [.sl (Zb sk)]),(24,.box [.os 25 fd.length 0 fd.length]),(m,.arr 1 (Zb st)),(25,.arr 2 (fd.map fRow))] nm (.bool true) [(0,some (.box [nsD ns,dsD ds])),(1,some (.box [.os nm st.length 0 st.length])),(2,some (.box [.int .i64 c,lqD l2,pvD pr2])),(4,some (.box [.sl (Zb sk)])),(24,some (.box [.os 25 (fd++hz.map (Fnd.mk k)).length 0 (fd++hz.map (Fnd.mk k)).length])),(m,none),(nm,some (.arr 1 (Zb st2))),(25,some (.arr 2 ((fd++hz.map (Fnd.mk k)).map fRow)))]:=by
 refine ZC (gl:=[(0,.box [nsD ns,dsD ds]),(1,.box [.os m st.length 0 st.length]),(2,.box [.int .i64 c,lqD l,pvD pr]),(4,.box [.sl (Zb sk)]),(24,.box [.os 25 fd.length 0 fd.length]),(m,.arr 1 (Zb st)),(25,.arr 2 (fd.map fRow))]) (nx1:=m+26) (hgs:=by simp[show (m=0)=False from eq_false (by omega),show (0=m)=False from eq_false (by omega),show (m=1)=False from eq_false (by omega),show (1=m)=False from eq_false (by omega),show (m=2)=False from eq_false (by omega),show (2=m)=False from eq_false (by omega),show (m=4)=False from eq_false (by omega),show (4=m)=False from eq_false (by omega),show (m=24)=False from eq_false (by omega),show (24=m)=False from eq_false (by omega),show (m=25)=False from eq_false (by omega),show (25=m)=False from eq_false (by omega)]) Tryz.func38 rfl Tryz.ntmps38 ?_
 have hfd2:(fd.length:Int)≤1000:=by omega
 have na0:(m=0)=False:=eq_false (by omega)
 have nb0:(0=m)=False:=eq_false (by omega)
 have na1:(m=1)=False:=eq_false (by omega)
 have nb1:(1=m)=False:=eq_false (by omega)
 have na2:(m=2)=False:=eq_false (by omega)
 have nb2:(2=m)=False:=eq_false (by omega)
 have na4:(m=4)=False:=eq_false (by omega)
 have nb4:(4=m)=False:=eq_false (by omega)
 have na24:(m=24)=False:=eq_false (by omega)
 have nb24:(24=m)=False:=eq_false (by omega)
 have na25:(m=25)=False:=eq_false (by omega)
 have nb25:(25=m)=False:=eq_false (by omega)
 refine R2 [] (by simp[na0,nb0,na1,nb1,na2,nb2,na4,nb4,na24,nb24,na25,nb25];first|exact F3|exact F4) ?_
 refine R2 [] (by simp[na0,nb0,na1,nb1,na2,nb2,na4,nb4,na24,nb24,na25,nb25,hk,hk2];first|exact F3|exact F4) ?_
 refine R2 [.p ⟨_,_,_,ZG sk hsk s.dev⟩] (by simp[na0,nb0,na1,nb1,na2,nb2,na4,nb4,na24,nb24,na25,nb25,hns];first|exact F3|exact F4) ?_
 refine fl_F ?_
 refine R2 [.i ⟨_,_,_,_,_,_,hst (m+26+2+9+7+4) (by omega)⟩] (by simp[na0,nb0,na1,nb1,na2,nb2,na4,nb4,na24,nb24,na25,nb25];first|exact F3|exact F4) ?_
 refine R2 [] (by simp[na0,nb0,na1,nb1,na2,nb2,na4,nb4,na24,nb24,na25,nb25];first|exact F3|exact F4) ?_
 refine Zd (fun K0_1 hK0_1=>?_)
 refine Zg (X:=Nat) [0,4,5,6,12,13,14,42,43] [24,25] (fun x=>[(44,.int .i64 x)]) (fun x=>[(24,.box [.os 25 (fd.length+x) 0 (fd.length+x)]),(25,.arr 2 ((fd++(hz.take x).map (Fnd.mk k)).map fRow))]) (fun x=>x≤hz.length) (fun x=>hz.length - x) 0 (by simp) (by simp;omega) ?_
 simp only[KN,keep,but,reduceIte,Nat.reduceEqDiff,Nat.reduceBEq]
 rintro j hlej KL2 hKL2
 refine R2 [] (by simp[na0,nb0,na1,nb1,na2,nb2,na4,nb4,na24,nb24,na25,nb25];first|exact F3|exact F4) ?_
 refine fl_C (fun c6=>?_) (fun c6=>?_)
 ·have hlt:j<hz.length:=by simpa using c6
  have hkk:hz[j]? = some hz[j]:=by simp[hlt]
  have hd:=Lib.hid (List.drop_eq_getElem_cons hlt)
  have htk:List.take (j+1) (List.map (fRow ∘ Fnd.mk k) hz)=List.take j (List.map (fRow ∘ Fnd.mk k) hz)++[[.int .i64 k,.int .i64 hz[j]]]:=by rw[List.take_add_one];simp[hlt]
  generalize hz[j]=h at *
  refine Zd (fun K1_3 hK1_3=>?_)
  refine R2 [] (by simp[na0,nb0,na1,nb1,na2,nb2,na4,nb4,na24,nb24,na25,nb25,hkk];first|exact F3|exact F4) ?_
  refine R2 [] (by simp[na0,nb0,na1,nb1,na2,nb2,na4,nb4,na24,nb24,na25,nb25,hkk];first|exact F3|exact F4) ?_
  refine Zc (hK1_3 _ _ _ ?_)
  refine R2 [] (by simp[na0,nb0,na1,nb1,na2,nb2,na4,nb4,na24,nb24,na25,nb25,hkk];(try simp (disch:=omega) only[w64]);first|exact F3|exact F4) ?_
  exact hKL2 _ _ _ (j+1) (by omega) (by omega) (by simp[htk];omega)
 ·have hge:hz.length≤j:=by simpa using c6
  have hke:j=hz.length:=by have:j≤hz.length:=hlej;omega
  have hdn:=Lib.hid (List.drop_of_length_le hge)
  refine Ze (show K0_1 _ _ _ from hK0_1 _ _ _ ?_)
  refine R2 [] (by simp[na0,nb0,na1,nb1,na2,nb2,na4,nb4,na24,nb24,na25,nb25];first|exact F3|exact F4) ?_
  refine R2 [] (by simp[na0,nb0,na1,nb1,na2,nb2,na4,nb4,na24,nb24,na25,nb25];first|exact F3|exact F4) ?_
  refine Za ?_
  refine⟨.inr rfl,(m+26+2+9+7+4),?_⟩
  simp[hnm,show (nm=0)=False from eq_false (by omega),show (0=nm)=False from eq_false (by omega),show (nm=1)=False from eq_false (by omega),show (1=nm)=False from eq_false (by omega),show (nm=2)=False from eq_false (by omega),show (2=nm)=False from eq_false (by omega),show (nm=4)=False from eq_false (by omega),show (4=nm)=False from eq_false (by omega),show (nm=24)=False from eq_false (by omega),show (24=nm)=False from eq_false (by omega),show (nm=25)=False from eq_false (by omega),show (25=nm)=False from eq_false (by omega)]
  exact⟨hke,List.take_of_length_le (by simp;omega)⟩
theorem run1c_impQ(ns:List Node)(ds:List Dev)(st:List Int)(c:Int)(l:List Lk)(pr:List Int)(sk:List Int)(hsk:sk.length≤1000000)(fd:List Fnd)(hfd:fd.length≤1000)(k:Int)(s:Stp)(hk:(s.knd==1)=false)(hk2:(s.knd==2)=false)(l2:List Lk)(pr2:List Int)(m nm:Nat)(hm:5≤m∧m≠24∧m≠25)(hnm:m≠nm)(hn2:5≤nm∧nm≠24∧nm≠25)(hst:∀ nm,m≠nm→Imp Tryz.prog G0 40 [netD ns ds,.os m st.length 0 st.length,gQ c l pr,.agg (Zr s)] [(m,.arr 1 (Zb st))] nm (.tup [.nils,.os m st.length 0 st.length,gQ c l2 pr2,.bool true]) [(m,some (.arr 1 (Zb st)))]):Imp Tryz.prog G0 38 [.int .i64 k,.agg (Zr s),.bp 4 0,.bp 0 0,.bp 1 0,.bp 2 0,.bp 24 0] [(0,.box [nsD ns,dsD ds]),(1,.box [.os m st.length 0 st.length]),(2,.box [.int .i64 c,lqD l,pvD pr]),(4,.box [.sl (Zb sk)]),(24,.box [.os 25 fd.length 0 fd.length]),(m,.arr 1 (Zb st)),(25,.arr 2 (fd.map fRow))] nm (.bool true) [(0,some (.box [nsD ns,dsD ds])),(1,some (.box [.os m st.length 0 st.length])),(2,some (.box [.int .i64 c,lqD l2,pvD pr2])),(4,some (.box [.sl (Zb sk)])),(24,some (.box [.os 25 fd.length 0 fd.length])),(m,some (.arr 1 (Zb st))),(25,some (.arr 2 (fd.map fRow)))]:=by
 refine ZC (gl:=[(0,.box [nsD ns,dsD ds]),(1,.box [.os m st.length 0 st.length]),(2,.box [.int .i64 c,lqD l,pvD pr]),(4,.box [.sl (Zb sk)]),(24,.box [.os 25 fd.length 0 fd.length]),(m,.arr 1 (Zb st)),(25,.arr 2 (fd.map fRow))]) (nx1:=m+26) (hgs:=by simp[show (m=0)=False from eq_false (by omega),show (0=m)=False from eq_false (by omega),show (m=1)=False from eq_false (by omega),show (1=m)=False from eq_false (by omega),show (m=2)=False from eq_false (by omega),show (2=m)=False from eq_false (by omega),show (m=4)=False from eq_false (by omega),show (4=m)=False from eq_false (by omega),show (m=24)=False from eq_false (by omega),show (24=m)=False from eq_false (by omega),show (m=25)=False from eq_false (by omega),show (25=m)=False from eq_false (by omega)]) Tryz.func38 rfl Tryz.ntmps38 ?_
 have hfd2:(fd.length:Int)≤1000:=by omega
 have na0:(m=0)=False:=eq_false (by omega)
 have nb0:(0=m)=False:=eq_false (by omega)
 have na1:(m=1)=False:=eq_false (by omega)
 have nb1:(1=m)=False:=eq_false (by omega)
 have na2:(m=2)=False:=eq_false (by omega)
 have nb2:(2=m)=False:=eq_false (by omega)
 have na4:(m=4)=False:=eq_false (by omega)
 have nb4:(4=m)=False:=eq_false (by omega)
 have na24:(m=24)=False:=eq_false (by omega)
 have nb24:(24=m)=False:=eq_false (by omega)
 have na25:(m=25)=False:=eq_false (by omega)
 have nb25:(25=m)=False:=eq_false (by omega)
 refine R2 [] (by simp[na0,nb0,na1,nb1,na2,nb2,na4,nb4,na24,nb24,na25,nb25];first|exact F3|exact F4) ?_
 refine R2 [] (by simp[na0,nb0,na1,nb1,na2,nb2,na4,nb4,na24,nb24,na25,nb25,hk,hk2];first|exact F3|exact F4) ?_
 refine R2 [] (by simp[na0,nb0,na1,nb1,na2,nb2,na4,nb4,na24,nb24,na25,nb25];first|exact F3|exact F4) ?_
 refine fl_F ?_
 refine R2 [.i ⟨_,_,_,_,_,_,hst (m+26+2+9+7+4) (by omega)⟩] (by simp[na0,nb0,na1,nb1,na2,nb2,na4,nb4,na24,nb24,na25,nb25];first|exact F3|exact F4) ?_
 refine R2 [] (by simp[na0,nb0,na1,nb1,na2,nb2,na4,nb4,na24,nb24,na25,nb25];first|exact F3|exact F4) ?_
 refine Zd (fun K0_1 hK0_1=>?_)
 refine Zg (X:=Nat) [0,4,5,6,12,13,14,42,43] [] (fun x=>[(44,.int .i64 x)]) (fun x=>[]) (fun x=>x=0) (fun x=>0) 0 (rfl) (by simp;omega) ?_
 simp only[KN,keep,but,reduceIte,Nat.reduceEqDiff,Nat.reduceBEq]
 rintro j hj0 KL2 hKL2
 replace hj0:j=0:=hj0
 subst hj0
 refine R2 [] (by simp[na0,nb0,na1,nb1,na2,nb2,na4,nb4,na24,nb24,na25,nb25];first|exact F3|exact F4) ?_
 refine fl_F ?_
 refine Ze (show K0_1 _ _ _ from hK0_1 _ _ _ ?_)
 refine R2 [] (by simp[na0,nb0,na1,nb1,na2,nb2,na4,nb4,na24,nb24,na25,nb25];first|exact F3|exact F4) ?_
 refine R2 [] (by simp[na0,nb0,na1,nb1,na2,nb2,na4,nb4,na24,nb24,na25,nb25];first|exact F3|exact F4) ?_
 refine Za ?_
 refine⟨.inr rfl,m+26,?_⟩
 simp[hnm,na0,nb0,na1,nb1,na2,nb2,na4,nb4,na24,nb24,na25,nb25,show (nm=0)=False from eq_false (by omega),show (0=nm)=False from eq_false (by omega),show (nm=1)=False from eq_false (by omega),show (1=nm)=False from eq_false (by omega),show (nm=2)=False from eq_false (by omega),show (2=nm)=False from eq_false (by omega),show (nm=4)=False from eq_false (by omega),show (4=nm)=False from eq_false (by omega),show (nm=24)=False from eq_false (by omega),show (24=nm)=False from eq_false (by omega),show (nm=25)=False from eq_false (by omega),show (25=nm)=False from eq_false (by omega)]
end
section
open Go Go.RowKit
def StepAQ(ns:List Node)(ds:List Dev)(c:Int)(sk:List Int)(k:Nat)(s:Stp)(a b:RunSt):Prop :=
 ((s.knd==1)=true∨((s.knd==1)=false∧(s.knd==2)=true))∧ins sk s.dev=false∧b.st.length=a.st.length∧∃ hz:List Int,hz.length≤1000∧b.fd=a.fd++hz.map (Fnd.mk (k:Int)) ∧
  ∀ m nm,m≠nm→Imp Tryz.prog G0 40 [netD ns ds,.os m a.st.length 0 a.st.length,gQ c a.l a.pr,.agg (Zr s)] [(m,.arr 1 (Zb a.st))] nm (.tup [.sl (Zb hz),.os nm a.st.length 0 a.st.length,gQ c b.l b.pr,.bool true]) [(m,none),(nm,some (.arr 1 (Zb b.st)))]
def StepBQ(ns:List Node)(ds:List Dev)(c:Int)(s:Stp)(a b:RunSt):Prop :=
 (s.knd==1)=false∧(s.knd==2)=false∧b.st=a.st∧b.fd=a.fd ∧
  ∀ m nm,m≠nm→Imp Tryz.prog G0 40 [netD ns ds,.os m a.st.length 0 a.st.length,gQ c a.l a.pr,.agg (Zr s)] [(m,.arr 1 (Zb a.st))] nm (.tup [.nils,.os m a.st.length 0 a.st.length,gQ c b.l b.pr,.bool true]) [(m,some (.arr 1 (Zb a.st)))]
structure RunOKQ(ns:List Node)(ds:List Dev)(c:Int)(sk:List Int)(ss:List Stp)(T:Nat→RunSt):Prop where
 step:∀ k (h:k<ss.length),StepAQ ns ds c sk k ss[k] (T k) (T (k+1))∨StepBQ ns ds c ss[k] (T k) (T (k+1))
 fd:∀ k,k≤ss.length→(T k).fd.length≤1000
theorem RunOKQ.len{ns:List Node}{ds:List Dev}{c:Int}{sk:List Int}{ss:List Stp}{T:Nat→RunSt}(h:RunOKQ ns ds c sk ss T):∀ k,k≤ss.length→(T k).st.length=(T 0).st.length
 | 0,_=>rfl
 | k+1,hk=>by
  rw[← h.len k (by omega)]
  rcases h.step k (by omega) with h1|h1
  ·exact h1.2.2.1
  ·rw[h1.2.2.1]
end
section
open Go Go.RowKit
attribute [local simp] onesD oneD
theorem copy11(c:Int)(l:List Lk)(hl:l.length≤1000000)(h0:l≠[])(pr:List Int)(hp:pr.length≤1000000)(hp0:pr≠[]):Pure Tryz.prog G0 37 [.agg [.int .i64 c,.sl (l.map Zm),.sl (Zb pr)]] (.agg [.int .i64 c,.sl (l.map Zm),.sl (Zb pr)]):=by
 refine Zh Tryz.func37 rfl Tryz.ntmps37 ?_
 have hl3:List.take l.length (l.map Zm)=l.map Zm:=List.take_of_length_le (by simp)
 have hp3:List.take pr.length (Zb pr)=Zb pr:=List.take_of_length_le (by simp)
 have hll:l.length=0↔l=[]:=List.length_eq_zero_iff
 have hpl:pr.length=0↔pr=[]:=List.length_eq_zero_iff
 refine R0 ?_
 refine R [.b ⟨_,_,_,_,_,_,lclone_imp l hl h0 6⟩,.b ⟨_,_,_,_,_,_,Z4 pr hp hp0 9⟩] (by simp;first|exact F3|exact F4) (by first|exact Zs _|exact Zq _|exact Zt _|trivial|omega|(simp;done)|(simp;omega)) ?_
 refine Za ?_
 simp[hl3,hp3,h0,hp0]
theorem copy10(c:Int)(l:List Lk)(hl:l.length≤1000000)(h0:l≠[]):Pure Tryz.prog G0 37 [.agg [.int .i64 c,.sl (l.map Zm),.nils]] (.agg [.int .i64 c,.sl (l.map Zm),.nils]):=by
 refine Zh Tryz.func37 rfl Tryz.ntmps37 ?_
 have hl3:List.take l.length (l.map Zm)=l.map Zm:=List.take_of_length_le (by simp)
 refine R0 ?_
 refine R [.b ⟨_,_,_,_,_,_,lclone_imp l hl h0 6⟩,.p ⟨_,_,_,iclone_nil⟩] (by simp;first|exact F3|exact F4) (by first|exact Zs _|exact Zq _|exact Zt _|trivial|omega|(simp;done)|(simp;omega)) ?_
 refine Za ?_
 simp[hl3,h0]
theorem copy01(c:Int)(pr:List Int)(hp:pr.length≤1000000)(hp0:pr≠[]):Pure Tryz.prog G0 37 [.agg [.int .i64 c,.nils,.sl (Zb pr)]] (.agg [.int .i64 c,.nils,.sl (Zb pr)]):=by
 refine Zh Tryz.func37 rfl Tryz.ntmps37 ?_
 have hp3:List.take pr.length (Zb pr)=Zb pr:=List.take_of_length_le (by simp)
 refine R0 ?_
 refine R [.p ⟨_,_,_,lclone_nil⟩,.b ⟨_,_,_,_,_,_,Z4 pr hp hp0 9⟩] (by simp;first|exact F3|exact F4) (by first|exact Zs _|exact Zq _|exact Zt _|trivial|omega|(simp;done)|(simp;omega)) ?_
 refine Za ?_
 simp[hp3,hp0]
theorem copyQ_pure(c:Int)(l:List Lk)(hl:l.length≤1000000)(pr:List Int)(hp:pr.length≤1000000):Pure Tryz.prog G0 37 [gD c l pr] (gQ c l pr):=by
 refine Pure.resLe ?_ (Xw ⟨Le.refl _,lk_lq l,Le.refl _,trivial⟩:Le (gD c l pr) (gQ c l pr))
 unfold gD
 cases l with
 | nil =>
  cases pr with
  | nil=>exact copyN_pure c
  | cons x pr=>exact copy01 c (x::pr) hp (by simp)
 | cons y l =>
  cases pr with
  | nil=>exact copy10 c (y::l) hl (by simp)
  | cons x pr=>exact copy11 c (y::l) hl (by simp) (x::pr) hp (by simp)
end
section
open Go Go.RowKit
theorem run_impQ(ns:List Node)(ds:List Dev)(hc:Zk ns ds=0)(hn:1≤ns.length)(hd0:0<ds.length)(st:List Int)(hs:StOK ds st)(c:Int)(hc7:0≤c∧c≤7)(nm0:ByteArray)(h1:nm0.size≤65536)(h2:YP nm0=true)(ss:List Stp)(hsl:ss.length≤64)(hss:∀ s∈ss,StpOK ns.length ds.length s)(sk:List Int)(hsk:sk.length≤1000000)(l0:List Lk)(hl0:ZF ns ds l0=0)(pr0:List Int)(hp0:pr0.length≤1000)(hr0:risG ns.length (-1) pr0=true)(T:Nat→RunSt)(h0:T 0=⟨st,l0,pr0,[]⟩)(hT:RunOKQ ns ds c sk ss T)(nm:Nat):Imp Tryz.prog G0 13 [netD ns ds,.sl (Zb st),.agg [.int .i64 c,lkD l0,pvD pr0],.agg [.str nm0,.sl (ss.map Zr)],.sl (Zb sk)] [] nm (.tup [.sl ((T ss.length).fd.map fRow),.os nm st.length 0 st.length,gQ c (T ss.length).l (T ss.length).pr,.int .i64 ss.length,.int .i64 0]) [(nm,some (.arr 1 (Zb (T ss.length).st)))]:=by
 refine ZC (gl:=[]) (nx1:=0) Tryz.func13 rfl Tryz.ntmps13 ?_
 obtain⟨g1,g2,_⟩:=Zj hc
 have hsn:=hs.1
 have hst0:st≠[]:=by intro e;subst e;simp at hsn;omega
 have hll0:=(locks_0 hl0).2.1
 refine R0 ?_
 refine R6 [.p ⟨_,_,_,scheck_pure ns ds hc st hs c hc7 l0 hl0 pr0 (by omega) hr0 nm0 h1 h2 ss hsl hss⟩] ?_
 refine R0 ?_
 refine fl_F ?_
 refine R [.b ⟨_,_,_,_,_,_,Z4 st (by omega) hst0 19⟩,.p ⟨_,_,_,copyQ_pure c l0 (by omega) pr0 (by omega)⟩] (by simp;first|exact F3|exact F4) (by first|exact Zs _|exact Zq _|exact Zt _|trivial|omega|(simp;done)|(simp;omega)) ?_
 refine R0 ?_
 refine awpL_ownB 24 0 2 [.nils] (by simp) (by simp) ?_
 refine R0 ?_
 refine R0 ?_
 refine Zd (fun K0_1 hK0_1=>?_)
 refine fl_loopN (X:=Nat×Nat) (fun x=>[(18,.int .i64 x.1),(6,.bp 1 0),(7,.bp 2 0),(8,.bp 3 0),(12,.bp 7 0),(16,.bp 24 0),(17,.fn (.func 38) [] [.bp 4 0,.bp 0 0,.bp 1 0,.bp 2 0,.bp 24 0])]) (fun x=>[(0,.box [nsD ns,dsD ds]),(1,.box [.os x.2 st.length 0 st.length]),(2,.box [.int .i64 c,lqD (T x.1).l,pvD (T x.1).pr]),(3,.box [.str nm0,.sl (ss.map Zr)]),(4,.box [.sl (Zb sk)]),(7,.box [.int .i64 0,.nils,.nils]),(24,.box [.os 25 (T x.1).fd.length 0 (T x.1).fd.length]),(x.2,.arr 1 (Zb (T x.1).st)),(25,.arr 2 ((T x.1).fd.map fRow))]) (fun x=>x.1≤ss.length∧(5≤x.2∧x.2≠7∧x.2≠24∧x.2≠25)) (fun x=>ss.length - x.1) (fun x=>x.2+26) (fun x hx=>by have:=hx.2;omega) (0,19) ⟨Nat.zero_le _,by decide⟩ (by simp[h0]) ?_
 rintro (⟨k,m⟩) hJ KL2 hKL2
 ·obtain⟨hk,hm⟩:=hJ
  replace hk:k≤ss.length:=hk
  replace hm:5≤m∧m≠7∧m≠24∧m≠25:=hm
  have hlk:(T k).st.length=st.length:=by rw[hT.len k hk,h0]
  have hfk:=hT.fd k hk
  have na0:(m=0)=False:=eq_false (by omega)
  have nb0:(0=m)=False:=eq_false (by omega)
  have na1:(m=1)=False:=eq_false (by omega)
  have nb1:(1=m)=False:=eq_false (by omega)
  have na2:(m=2)=False:=eq_false (by omega)
  have nb2:(2=m)=False:=eq_false (by omega)
  have na3:(m=3)=False:=eq_false (by omega)
  have nb3:(3=m)=False:=eq_false (by omega)
  have na4:(m=4)=False:=eq_false (by omega)
  have nb4:(4=m)=False:=eq_false (by omega)
  have na7:(m=7)=False:=eq_false (by omega)
  have nb7:(7=m)=False:=eq_false (by omega)
  have na24:(m=24)=False:=eq_false (by omega)
  have nb24:(24=m)=False:=eq_false (by omega)
  have na25:(m=25)=False:=eq_false (by omega)
  have nb25:(25=m)=False:=eq_false (by omega)
  rcases bf_ (decide (k<ss.length)) with h8_37|h8_37
  ·have hlt:k<ss.length:=by have:=of_decide_eq_true h8_37;omega
   have hkk:ss[k]? = some ss[k]:=by simp[hlt]
   have hl1:(T (k+1)).st.length=st.length:=by rw[hT.len (k+1) (by omega),h0]
   rcases hT.step k hlt with⟨hk1|⟨hk1,hk2⟩,hns,hle,hz,hhz,hfd,hst⟩|⟨hk1,hk2,hse,hfd,hst⟩
   ·have hst2:∀ nm,m≠nm→_:=fun nm h=>hst m nm h
    refine R2 [.i ⟨_,_,_,_,_,_,run1a_impQ ns ds (T k).st c (T k).l (T k).pr sk hsk (T k).fd hfk k ss[k] hk1 hns hz hhz (T (k+1)).st (T (k+1)).l (T (k+1)).pr m (m+26+13) (by omega) (by omega) (by omega) hst2⟩] (by simp[hlk,na0,nb0,na1,nb1,na2,nb2,na3,nb3,na4,nb4,na7,nb7,na24,nb24,na25,nb25,h8_37,hkk,hlt];first|exact F3|exact F4) ?_
    refine fl_T ?_
    refine Zd (fun K1_3 hK1_3=>?_)
    refine R2 [] (by simp[hkk];(try simp (disch:=omega) only[w64]);first|exact F3|exact F4) ?_
    refine Zc (hK1_3 _ _ _ ?_)
    exact hKL2 _ _ _ (k+1,(m+26+13)) ⟨by show k+1≤_;omega,by show 5≤_∧_;omega⟩ (by show _<_;omega) (by simp[hl1,hfd];try omega)
   ·have hst2:∀ nm,m≠nm→_:=fun nm h=>hst m nm h
    refine R2 [.i ⟨_,_,_,_,_,_,run1b_impQ ns ds (T k).st c (T k).l (T k).pr sk hsk (T k).fd hfk k ss[k] hk1 hk2 hns hz hhz (T (k+1)).st (T (k+1)).l (T (k+1)).pr m (m+26+13) (by omega) (by omega) (by omega) hst2⟩] (by simp[hlk,na0,nb0,na1,nb1,na2,nb2,na3,nb3,na4,nb4,na7,nb7,na24,nb24,na25,nb25,h8_37,hkk,hlt];first|exact F3|exact F4) ?_
    refine fl_T ?_
    refine Zd (fun K1_4 hK1_4=>?_)
    refine R2 [] (by simp[hkk];(try simp (disch:=omega) only[w64]);first|exact F3|exact F4) ?_
    refine Zc (hK1_4 _ _ _ ?_)
    exact hKL2 _ _ _ (k+1,(m+26+13)) ⟨by show k+1≤_;omega,by show 5≤_∧_;omega⟩ (by show _<_;omega) (by simp[hl1,hfd];try omega)
   ·have hst2:∀ nm,m≠nm→_:=fun nm h=>hst m nm h
    refine R2 [.i ⟨_,_,_,_,_,_,run1c_impQ ns ds (T k).st c (T k).l (T k).pr sk hsk (T k).fd hfk k ss[k] hk1 hk2 (T (k+1)).l (T (k+1)).pr m (m+26+13) (by omega) (by omega) (by omega) hst2⟩] (by simp[hlk,na0,nb0,na1,nb1,na2,nb2,na3,nb3,na4,nb4,na7,nb7,na24,nb24,na25,nb25,h8_37,hkk,hlt];first|exact F3|exact F4) ?_
    refine fl_T ?_
    refine Zd (fun K1_5 hK1_5=>?_)
    refine R2 [] (by simp[hkk];(try simp (disch:=omega) only[w64]);first|exact F3|exact F4) ?_
    refine Zc (hK1_5 _ _ _ ?_)
    exact hKL2 _ _ _ (k+1,m) ⟨by show k+1≤_;omega,hm⟩ (by show _<_;omega) (by simp[hl1,hfd,hse,na0,nb0,na1,nb1,na2,nb2,na3,nb3,na4,nb4,na7,nb7,na24,nb24,na25,nb25];try omega)
  ·have hke:k=ss.length:=by have:=of_decide_eq_false h8_37;omega
   refine R2 [] (by simp[hlk,na0,nb0,na1,nb1,na2,nb2,na3,nb3,na4,nb4,na7,nb7,na24,nb24,na25,nb25,h8_37];first|exact F3|exact F4) ?_
   refine fl_F ?_
   refine Ze (show K0_1 _ _ _ from hK0_1 _ _ _ ?_)
   refine R0 ?_
   refine Za ?_
   refine⟨.inr rfl,m,?_⟩
   simp[hlk,na0,nb0,na1,nb1,na2,nb2,na3,nb3,na4,nb4,na7,nb7,na24,nb24,na25,nb25]
   simp[hke]
end
section
open Go Go.RowKit
attribute [local simp] onesD oneD
theorem delR_take(u:Lk)(l:List Lk):List.take l.length (delR u l)=l.map Zm:=by
 unfold delR overL
 simp
theorem lockedL_head(u:Lk)(l:List Lk):Zx u.dev (u::l)=(u.pos,true):=by simp[Zx]
theorem lkidx_head(u:Lk)(l:List Lk):lkidx (u::l) u 0=0:=by simp[lkidx,lkSame]
theorem delR_len(u:Lk)(l:List Lk):(delR u l).length=l.length+1:=by
 unfold delR
 rw[overL_len,overL_len]<;>simp[overL_len]
theorem removeU_pure(ns:List Node)(ds:List Dev)(u:Lk)(l:List Lk)(h:ZF ns ds (u::l)=0):Pure Tryz.prog G0 116 [netD ns ds,.sl ((u::l).map Zm),.int .i64 u.dev,.int .i64 u.key] (.tup [.sl (l.map Zm),.int .i64 0]):=by
 refine Zh Tryz.func116 rfl Tryz.ntmps116 ?_
 have hll:(u::l).length≤1000000:=by have:=(locks_0 h).2.1;omega
 have hdt:=delR_take u l
 have hdl:=delR_len u l
 have hlk:=lockedL_head u l
 have hix:=lkidx_head u l
 refine R0 ?_
 refine R6 [.p ⟨_,_,_,Y7 ns ds (u::l) h⟩] ?_
 refine R0 ?_
 refine fl_F ?_
 refine R2 [.p ⟨_,_,_,locked_pure (u::l) hll u.dev⟩] (by simp[hlk];first|exact F3|exact F4) ?_
 refine R6 [.p ⟨_,_,_,lindex_pure (u::l) hll u⟩] ?_
 refine R2 [] (by simp[hlk,hix];first|exact F3|exact F4) ?_
 refine fl_F ?_
 refine R [.b ⟨_,_,_,_,_,_,lclone_imp (u::l) hll (by simp) 31⟩,.i ⟨_,_,_,_,_,_,del_imp u l 31 35 (by decide)⟩] (by simp[hix];(try simp (disch:=omega) only[w64]);first|exact F3|exact F4) (by first|exact Zs _|exact Zq _|exact Zt _|trivial|omega|(simp;done)|(simp;omega)) ?_
 refine Za ?_
 simp[hdt,hdl]
end
section
open Go Go.RowKit
theorem glockedU_pure(ns:List Node)(ds:List Dev)(c:Int)(u:Lk)(l:List Lk)(h:ZF ns ds (u::l)=0)(pr:List Int)(nd ps:Int):Pure Tryz.prog G0 73 [netD ns ds,gQ c (u::l) pr,.agg (Zr ⟨4,u.dev,nd,ps,u.key⟩)] (.tup [gQ c l pr,.bool true]):=by
 refine Zh Tryz.func73 rfl Tryz.ntmps73 ?_
 have hrm:Pure Tryz.prog G0 116 [netD ns ds,lqD (u::l),.int .i64 u.dev,.int .i64 u.key] (.tup [.sl (l.map Zm),.int .i64 0]):=removeU_pure ns ds u l h
 refine R0 ?_
 refine R6 [.p ⟨_,_,_,hrm⟩] ?_
 refine R0 ?_
 refine fl_F ?_
 refine R0 ?_
 refine fl_F ?_
 refine R0 ?_
 refine R0 ?_
 refine Za ?_
 simp
 exact Le.refl _
theorem step4_impQ(ns:List Node)(ds:List Dev)(hc:Zk ns ds=0)(hn:1≤ns.length)(st:List Int)(hs:StOK ds st)(c:Int)(u:Lk)(l:List Lk)(h:ZF ns ds (u::l)=0)(pr:List Int)(m nm:Nat)(hnm:m≠nm):Imp Tryz.prog G0 40 [netD ns ds,.os m st.length 0 st.length,gQ c (u::l) pr,.agg (Zr ⟨4,u.dev,0,0,u.key⟩)] [(m,.arr 1 (Zb st))] nm (.tup [.nils,.os m st.length 0 st.length,gQ c l pr,.bool true]) [(m,some (.arr 1 (Zb st)))]:=by
 refine ZC (gl:=[(m,.arr 1 (Zb st))]) (nx1:=m+1) Tryz.func40 rfl Tryz.ntmps40 ?_
 have hsl:=hs.1
 obtain⟨g1,g2,_⟩:=Zj hc
 refine R0 ?_
 refine R0 ?_
 refine Zd (fun K0_1 hK0_1=>?_)
 refine R0 ?_
 refine fl_F ?_
 refine R0 ?_
 refine fl_F ?_
 refine R0 ?_
 refine fl_F ?_
 refine R0 ?_
 refine fl_F ?_
 refine R0 ?_
 refine fl_F ?_
 refine Zc (hK0_1 _ _ _ ?_)
 refine R6 [.p ⟨_,_,_,glockedU_pure ns ds c u l h pr 0 0⟩] ?_
 refine R0 ?_
 refine fl_F ?_
 refine R0 ?_
 refine Za ?_
 refine⟨.inr rfl,m+1,?_⟩
 simp[hnm]
end
section
open Go Go.RowKit
attribute [local simp] onesD oneD
theorem provQ0_2:Pure Tryz.prog G0 72 [.agg [.int .i64 0,.sl [],.nils],.int .i64 2] (.agg [.int .i64 0,.sl [],.sl [[.int .i64 2]]]):=ev1 (F:=[]) (fun p hp=>by cases hp) 3000 (by kernel_rfl)
theorem provQ0_3:Pure Tryz.prog G0 72 [.agg [.int .i64 0,.sl [],.nils],.int .i64 3] (.agg [.int .i64 0,.sl [],.sl [[.int .i64 3]]]):=ev1 (F:=[]) (fun p hp=>by cases hp) 3000 (by kernel_rfl)
theorem provQ2_2:Pure Tryz.prog G0 72 [.agg [.int .i64 0,.sl [],.sl [[.int .i64 2]]],.int .i64 2] (.agg [.int .i64 0,.sl [],.sl [[.int .i64 2]]]):=ev1 (F:=[]) (fun p hp=>by cases hp) 3000 (by kernel_rfl)
theorem provQ2_3:Pure Tryz.prog G0 72 [.agg [.int .i64 0,.sl [],.sl [[.int .i64 2]]],.int .i64 3] (.agg [.int .i64 0,.sl [],.sl [[.int .i64 2],[.int .i64 3]]]):=ev1 (F:=[]) (fun p hp=>by cases hp) 3000 (by kernel_rfl)
theorem provQ3_3:Pure Tryz.prog G0 72 [.agg [.int .i64 0,.sl [],.sl [[.int .i64 3]]],.int .i64 3] (.agg [.int .i64 0,.sl [],.sl [[.int .i64 3]]]):=ev1 (F:=[]) (fun p hp=>by cases hp) 3000 (by kernel_rfl)
theorem provQ23_2:Pure Tryz.prog G0 72 [.agg [.int .i64 0,.sl [],.sl [[.int .i64 2],[.int .i64 3]]],.int .i64 2] (.agg [.int .i64 0,.sl [],.sl [[.int .i64 2],[.int .i64 3]]]):=ev1 (F:=[]) (fun p hp=>by cases hp) 3000 (by kernel_rfl)
theorem provQ23_3:Pure Tryz.prog G0 72 [.agg [.int .i64 0,.sl [],.sl [[.int .i64 2],[.int .i64 3]]],.int .i64 3] (.agg [.int .i64 0,.sl [],.sl [[.int .i64 2],[.int .i64 3]]]):=ev1 (F:=[]) (fun p hp=>by cases hp) 3000 (by kernel_rfl)
end
section
open Go Go.RowKit
attribute [local simp] onesD oneD
theorem provQ32_fact:Pure Tryz.prog G0 72 [.agg [.int .i64 0,.sl [],.sl (Zb [3])],.int .i64 2] (.agg [.int .i64 0,.sl [],.sl (Zb [2,3])]):=by
 refine Zh Tryz.func72 rfl Tryz.ntmps72 ?_
 have hbs:=bs_pure [3] (by simp) 2
 rw[show bsF ([3]:List Int) 2 (([3]:List Int).length+1) 0 ([3]:List Int).length=0 from by decide] at hbs
 replace hbs:Pure Tryz.prog G0 114 [.sl (Zb [3]),.int .i64 2] (.tup [.int .i64 0,.bool false]):=hbs
 refine R0 ?_
 refine R6 [.p ⟨_,_,_,hbs⟩] ?_
 refine R0 ?_
 refine fl_T ?_
 refine R [.b ⟨_,_,_,_,_,_,Z4 [3] (by decide) (by decide) 15⟩,.i ⟨_,_,_,_,_,_,insert_imp 15 18 19 (by decide)⟩] (by simp[Zb];first|exact F3|exact F4) (by first|exact Zs _|exact Zq _|exact Zt _|trivial|omega|(simp;done)|(simp;omega)) ?_
 refine R0 ?_
 refine Za ?_
 simp[Zb]
end
end Go.Proofs.YtjdgofpcmcobnaaGreatDoor.AL

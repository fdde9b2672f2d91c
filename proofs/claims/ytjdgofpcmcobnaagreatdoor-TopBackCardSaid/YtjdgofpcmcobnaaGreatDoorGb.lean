/-
  What the operations do to data, second part; regions; functions.
-/
import Derived.Test.YtjdgofpcmcobnaaGreatDoorGa
import Derived.Orders
import Derived.Lib.SliceRun
import Derived.Conc.LoneCalls
import Derived.Conc.LoneSelectN
import Derived.Conc.SmallLaws
import Derived.Laws.StructEq
set_option maxRecDepth 100000
set_option maxHeartbeats 2000000
set_option linter.unusedVariables false
set_option linter.unusedSimpArgs false
namespace Go.Proofs.YtjdgofpcmcobnaaGreatDoor.AL
section
open Go Go.RowKit
section
variable {P:Program} {G:Nat→Option (List D)} {Ty:Nat→Option TyI} {o:Oper} {ρ:Operand→D} {g:Nat→Option Blk} {nm:Nat}
theorem do_makeSlice(hty:TyOK P Ty){t e:Nat}{j:TyI}{x y:Operand}{k1 k2:IntKind}{l c:Nat}(ho:o.op=.makeSlice t x y)(he:ZN Ty t=some (e,j))(hx:ρ x=.int k1 l)(hy:ρ y=.int k2 c)(hlc:l≤c)(hb:j.bytes*c≤281474976710656)(h63:c≤9223372036854775807)
  (hsz:(Zf j.zero).length=j.size) (hst:Z5 j.zero=true):Do P G o ρ g nm (.os nm l 0 l) [(nm,some (.arr j.size (List.replicate l (Zf j.zero))))]:=by
 intro cx dom ι a w σ st K Q hP hG hr hρ hg hnm hd hK
 subst hG
 have hvx:=Zl hr x
 rw[hρ x (by rw[ho];simp[Op.operands]),hx] at hvx
 have hvy:=Zl hr y
 rw[hρ y (by rw[ho];simp[Op.operands]),hy] at hvy
 obtain⟨u1,u2⟩:=ZL hty he
 obtain⟨z,z1,z1',⟨info,i1,i2,i3,i4⟩,z2,z3⟩:=YM (w:=w) (F:=Fb cx ι st) hty u2 hsz hst
 have hrun:(execOp a.eval o).run P w=.ok (.value (.slice (some ⟨w.heap.size,0,none⟩) l c)) (w.alloc (.cells (madeCells z.cells (c*j.size)) e)):=by
  rw[show execOp a.eval o=(do pure (.value (← Instr.makeSlice t (a.eval x) (a.eval y)))) by unfold execOp;rw[ho]]
  have hm:=run_make (P:=P) w t e info z u1 i1 i4 k1 k2 l c (by omega) (by omega) (by rw[i3,← Int.natCast_mul];omega) (by omega)
  simp only[Int.toNat_natCast,i2] at hm
  simp only[hvx.is_int,hvy.is_int,Sem.run_bind,hm,Result.andThen_ok]
  rfl
 have hcells:∀ i (hi:i<(List.replicate l (Zf j.zero)).length) k (hk:k<(List.replicate l (Zf j.zero))[i].length),RepP w (Fb cx ι st) ((madeCells z.cells (c*j.size)).getD (i*j.size+k) undef) (List.replicate l (Zf j.zero))[i][k]:=by
  intro i hi k hk
  have hi':i<l:=by simpa using hi
  have hk':k<(Zf j.zero).length:=by simpa using hk
  have hks:k<j.size:=by omega
  have hlt:=Yc (show i<c by omega) hks
  have hm:(i*j.size+k) % z.cells.size=k:=by rw[z2,Nat.mul_comm,Nat.mul_add_mod,Nat.mod_eq_of_lt hks]
  have h1:(Array.range (c*j.size))[i*j.size+k]? = some (i*j.size+k):=by simp[hlt]
  have e:(madeCells z.cells (c*j.size)).getD (i*j.size+k) undef=z.cells.getD k undef:=by
   unfold madeCells
   rw[Array.getD_eq_getD_getElem?,Array.getElem?_map,h1]
   simp only[Option.map_some,Option.getD_some,hm]
   have:k<z.cells.size:=by omega
   simp[this]
  have e2:(List.replicate l (Zf j.zero))[i][k]=(Zf j.zero)[k]:=by simp
  rw[e,e2]
  exact z3 k hk'
 obtain⟨r1,r2⟩:=hr.newArr hnm _ e j.size c (List.replicate l (Zf j.zero)) (by simp;exact hlc) (size_madeCells _ _) (fun r hr'=>by rw[List.eq_of_mem_replicate hr'];exact hsz) hcells
 unfold Oper.wp
 rw[hrun]
 refine hK _ _ _ (r1.put _ (.os nm l 0 l) ?_ o.dst hd)
 have:=Rep.newOs (w:=w.alloc (.cells (madeCells z.cells (c*j.size)) e)) (F:=Fb cx (updI ι nm ⟨false,w.heap.size,j.size,(List.replicate l (Zf j.zero)).length,c,0⟩) (updS st nm (some (.arr j.size (List.replicate l (Zf j.zero)))))) (ι:=updI ι nm ⟨false,w.heap.size,j.size,(List.replicate l (Zf j.zero)).length,c,0⟩) (nm:=nm) (blk:=w.heap.size) (es:=j.size) (n:=l) (cap:=c) (by simp[updI]) hlc
 exact this
theorem do_convert_int{s d:Nat}{x:Operand}{k:IntKind}{n:Int}{k':IntKind}{ds:TypeDesc}(ho:o.op=.convert s d x)(hs:P.underlying s=some ds)(hd:P.underlying d=some (.int k'))(hx:ρ x=.int k n):Do P G o ρ g nm (.int k' (k'.wrap n)) []:=by
 refine ZY (fun w F ι ev hev=>?_)
 have hv:=hev x (by rw[ho];simp[Op.operands])
 rw[hx] at hv
 refine⟨.int k' (k'.wrap n),?_,.pure _ _ (.int _ _)⟩
 rw[show execOp ev o=(do pure (.value (← convert s d (ev x)))) by unfold execOp;rw[ho]]
 simp[convert,hv.is_int,run_underlying hs,run_underlying hd,Conv.intToInt]
def bndD(ρ:Operand→D):Option Operand→Option (Option Nat)
 | none=>some none
 | some x=>match ρ x with|.int _ n=>if 0≤n then some (some n.toNat) else none|_=>none
def bndV(ev:Operand→Value)(x:Option Operand)(b:Option Nat):Prop :=
 match x,b with
 | none,none=>True
 | some y,some n=>∃ k,ev y=.int k n
 | _,_=>False
theorem bnd_ok{w:World}{F:Nat→Prop}{ι:Nat→Option IB}{ev:Operand→Value}{x:Option Operand}{b:Option Nat}(hev:∀ y,x=some y→Rep w F ι (ev y) (ρ y))(h:bndD ρ x=some b):bndV ev x b:=by
 cases x with
 | none=>simp only[bndD,Option.some.injEq] at h;subst h;trivial
 | some y =>
  simp only[bndD] at h
  split at h
  ·rename_i k n e
   split at h
   ·rename_i h0
    cases h
    have:=hev y rfl
    rw[e] at this
    exact⟨k,by rw[this.is_int];congr 1;omega⟩
   ·cases h
  ·cases h
theorem bounds_run{P:Program}{w:World}{ev:Operand→Value}{lo hi:Option Operand}{bl bh:Option Nat}(h1:bndV ev lo bl)(h2:bndV ev hi bh)(isS:Bool)(len cap:Nat)(hh:bh.getD len≤cap)(hl:bl.getD 0≤bh.getD len) :
  (Instr.sliceBounds isS len cap (lo.map ev) (hi.map ev) none).run P w=.ok (bl.getD 0,bh.getD len,cap) w:=by
 unfold Instr.sliceBounds
 cases hi with
 | none =>
  cases bh with
  | some _=>cases h2
  | none =>
   cases lo with
   | none =>
    cases bl with
    | some _=>cases h1
    | none=>rfl
   | some y =>
    cases bl with
    | none=>cases h1
    | some n =>
     obtain⟨k,e⟩:=h1
     have hn:n≤len:=hl
     simp[e,Instr.sliceBound,asIntOf,hn]
 | some x =>
  cases bh with
  | none=>cases h2
  | some m =>
   obtain⟨k2,e2⟩:=h2
   have hm:m≤cap:=hh
   cases lo with
   | none =>
    cases bl with
    | some _=>cases h1
    | none=>simp[e2,Instr.sliceBound,asIntOf,hm]
   | some y =>
    cases bl with
    | none=>cases h1
    | some n =>
     obtain⟨k,e⟩:=h1
     have hn:n≤m:=hl
     simp[e,e2,Instr.sliceBound,asIntOf,hn,hm]
theorem sliceAt_slice{P:Program}{w:World}{t e:Nat}{x:Value}{lo hi:Option Value}(hu:P.underlying t=some (.slice e)):(Instr.sliceAt t x lo hi none).run P w=(Instr.slice t x lo hi none).run P w:=by
 unfold Instr.sliceAt
 simp only[Sem.run_bind,run_underlying hu,Result.andThen_ok]
theorem do_slice_os(hty:TyOK P Ty){t e:Nat}{j:TyI}{x:Operand}{lo hi:Option Operand}{bl bh:Option Nat}{n hl l0 len es:Nat}{rows:List (List D)}(ho:o.op=.slice t x lo hi none)(he:ZN Ty t=some (e,j))(hx:ρ x=.os n hl l0 len)(hgn:g n=some (.arr es rows))(hlen:rows.length=hl)(hes:es=j.size)(h1:bndD ρ lo=some bl)(h2:bndD ρ hi=some bh)(hh:bh.getD len≤len)(hl':bl.getD 0≤bh.getD len) :
  Do P G o ρ g nm (.os n hl (l0+bl.getD 0) (bh.getD len - bl.getD 0)) []:=by
 refine Xg (fun c dom ι a w σ st hP hG hr hρ hg=>?_)
 subst hG
 have hop:∀ y∈o.op.operands,Rep w (Fb c ι st) ι (a.eval y) (ρ y):=fun y hy=>by rw[← hρ y hy];exact Zl hr y
 have hv:=hop x (by rw[ho];simp[Op.operands])
 rw[hx] at hv
 have b1:=bnd_ok (ev:=a.eval) (fun y hy=>hop y (by rw[ho];simp[Op.operands,hy])) h1
 have b2:=bnd_ok (ev:=a.eval) (fun y hy=>hop y (by rw[ho];simp[Op.operands,hy])) h2
 obtain⟨u1,u2⟩:=ZL hty he
 rw[show execOp a.eval o=(do pure (.value (← Instr.sliceAt t (a.eval x) (lo.map a.eval) (hi.map a.eval) none))) by unfold execOp;rw[ho];rfl]
 simp only[Sem.run_bind,sliceAt_slice u1]
 generalize hL:bl.getD 0=L at *
 generalize hH:bh.getD len=H at *
 obtain⟨ib,a',cap,hn,e',q1,q2,q3,k2,k3,k4,_⟩:=YX hr hg hv hgn hlen
 have hb:=bounds_run (P:=P) (w:=w) b1 b2 true len cap (by omega) (by omega)
 rw[hL,hH] at hb
 refine⟨.slice (if cap=L then a' else a'.map (·.add (L*j.size))) (H - L) (cap - L),?_,?_⟩
 ·simp only[e',Instr.slice,Sem.run_bind,run_underlying u1,Result.andThen_ok,hb,Yb hty u2]
  rfl
 ·refine .os n hl _ _ ib _ hn (by omega) rfl (fun _=>⟨_,cap - L,rfl,by omega,by omega,fun hc=>?_,fun h0=>by
   obtain⟨ib2,a2,cap2,z1,z2,z3⟩:=os_some hr hg hv hgn hlen
   obtain rfl:ib=ib2:=Option.some.inj (hn.symm.trans z1)
   have z4:=e'.symm.trans z2
   injection z4 with z4
   rw[z4]
   have z5:=z3 h0
   split
   ·exact z5
   ·simpa using z5⟩)
  obtain⟨hbl,ea⟩:=q3 (by omega)
  subst ea
  refine⟨by omega,?_⟩
  rw[if_neg (by omega)]
  simp only[Option.map_some,YO]
  rw[k3,hes,show l0+L - ib.base=(l0 - ib.base)+L by omega,Nat.add_mul]
theorem do_slice_sl(hty:TyOK P Ty){t e:Nat}{j:TyI}{x:Operand}{lo hi:Option Operand}{bl bh:Option Nat}{rows:List (List D)}(ho:o.op=.slice t x lo hi none)(he:ZN Ty t=some (e,j))(hx:ρ x=.sl rows)(hes:∀ r∈rows,r.length=j.size)(h1:bndD ρ lo=some bl)(h2:bndD ρ hi=some bh)(hh:bh.getD rows.length≤rows.length)(hl:bl.getD 0≤bh.getD rows.length) :
  Do P G o ρ g nm (.sl ((rows.drop (bl.getD 0)).take (bh.getD rows.length - bl.getD 0))) []:=by
 refine ZY (fun w F ι ev hev=>?_)
 have hv:=hev x (by rw[ho];simp[Op.operands])
 rw[hx] at hv
 have b1:=bnd_ok (ev:=ev) (fun y hy=>hev y (by rw[ho];simp[Op.operands,hy])) h1
 have b2:=bnd_ok (ev:=ev) (fun y hy=>hev y (by rw[ho];simp[Op.operands,hy])) h2
 obtain⟨u1,u2⟩:=ZL hty he
 rw[show execOp ev o=(do pure (.value (← Instr.sliceAt t (ev x) (lo.map ev) (hi.map ev) none))) by unfold execOp;rw[ho];rfl]
 simp only[Sem.run_bind,sliceAt_slice u1]
 generalize hL:bl.getD 0=L at *
 generalize hH:bh.getD rows.length=H at *
 have hlen:((rows.drop L).take (H - L)).length=H - L:=by simp;omega
 obtain⟨ad,cap,ev'⟩:=hv.sl_shape
 have hcap:rows.length≤cap:=by
  have:=hv.is_sl
  rw[ev'] at this
  generalize hq:rows.length=q at this
  cases this with
  | sl0 a cap=>omega
  | sl b off es cap rows vs hc hF hes' hm hz hr'=>omega
 have hnone:ad=none→cap=0:=by
  have:=hv.is_sl
  rw[ev'] at this
  generalize hq:rows.length=q at this
  cases this with
  | sl0 a cap h0=>exact h0
  | sl b off es cap rows vs hc hF hes' hm hz hr'=>intro h;cases h
 have hb:=bounds_run (P:=P) (w:=w) b1 b2 true rows.length cap (by omega) (by omega)
 rw[hL,hH] at hb
 refine⟨.slice (if cap=L then ad else ad.map (·.add (L*j.size))) (H - L) (cap - L),?_,?_⟩
 ·simp only[ev',Instr.slice,Sem.run_bind,run_underlying u1,Result.andThen_ok,hb,Yb hty u2]
  rfl
 ·by_cases h0:H - L=0
  ·have:(rows.drop L).take (H - L)=[]:=by rw[h0];rfl
   rw[this,h0]
   exact .pure _ _ (.sl0 _ _ (fun h=>by
    by_cases hcl:cap=L
    ·omega
    ·rw[if_neg hcl] at h
     have:=hnone (by simpa using h)
     omega))
  ·have hvs:=hv.is_sl
   rw[ev'] at hvs
   have hrl:0<rows.length:=by omega
   generalize hq:rows.length=q at hvs
   cases hvs with
   | sl0 a cap=>omega
   | sl b off es cap rows vs hc hF hes' hm hz hr' =>
    have hes2:es=j.size:=by
     rw[← hes' _ (List.getElem_mem hrl),hes _ (List.getElem_mem hrl)]
    subst hes2
    rw[if_neg (by omega)]
    simp only[Option.map_some,YO]
    have key:RepP w F (.slice (some ⟨b,off+L*j.size,none⟩) ((rows.drop L).take (H - L)).length (cap - L)) (.sl ((rows.drop L).take (H - L))):=?_
    ·rw[hlen] at key;exact .pure _ _ key
    refine (.sl b (off+L*j.size) j.size (cap - L) ((rows.drop L).take (H - L)) (fun i k=>vs (L+i) k) (by rw[hlen];omega) hF (fun r hr=>hes' r (List.mem_of_mem_drop (List.mem_of_mem_take hr))) (fun i k hi hk=>?_) hz (fun i hi k hk=>?_))
    ·rw[hlen] at hi
     have:=hm (L+i) k (by omega) hk
     rw[← this]
     congr 2
     rw[Nat.add_mul];omega
    ·have hi':i<H - L:=by rw[hlen] at hi;exact hi
     have e1:((rows.drop L).take (H - L))[i]=rows[L+i]'(by omega):=by simp
     have hk':k<(rows[L+i]'(by omega)).length:=by rw[← e1];exact hk
     have:=hr' (L+i) (by omega) k hk'
     simpa only[e1] using this
end
end
section
open Go Go.RowKit
def ZU(p:Nat→Bool):Nat→Nat
 | 0=>0
 | k+1=>if p k then k+1 else ZU p k
theorem ZW{p q:Nat→Bool}:∀ {n:Nat},(∀ j,j<n→p j=q j)→ZU p n=ZU q n
 | 0,_=>rfl
 | n+1,h=>by
  unfold ZU
  rw[h n (by omega),ZW (fun j hj=>h j (by omega))]
theorem lastF_skip{p:Nat→Bool}{i:Nat}:∀ {n:Nat},i≤n→(∀ j,i≤j→j<n→p j=false)→ZU p n=ZU p i
  | 0, hi, _ => by have : i = 0 := by omega
                   subst this;rfl
  | n+1,hi,h=>by
    by_cases e:i=n+1
    · subst e;rfl
    · have:ZU p (n+1)=ZU p n:=by
        show (if p n then n+1 else ZU p n)=_
        rw[h n (by omega) (by omega)]
        rfl
      rw[this]
      exact lastF_skip (by omega) (fun j h1 h2=>h j h1 (by omega))
theorem lastF_at{p:Nat→Bool}{i n:Nat}(hi:i<n)(hp:p i=true)(h:∀ j,i<j→j<n→p j=false):ZU p n=i+1:=by
 rw[lastF_skip (i:=i+1) (by omega) (fun j h1 h2=>h j (by omega) h2)]
 simp[ZU,hp]
def ZP(ops:List Oper)(o:Oper):List Nat :=
 (o.op.operands.toList.filterMap fun|.tmp t=>some t|_=>none)++(match o.guard with|some (g,_)=>((ops[g]?).bind (·.dst)).toList|none=>[])
structure LogE where
 rs:List Nat
 L:List Nat
 ws:Option Nat
 wn:List Nat
def ZE(o:Oper):List Nat:=(o.after.toList.filter (Region.binds .any ·)).map (·.on)
def preL:List Oper→List (List Nat)
 | ops=>ops.foldl (fun acc o=>acc++[(ZE o++((ZE o).filter (·<acc.length)).flatMap (fun e=>acc.getD e [])).eraseDups]) []
def Yr(a b:LogE):Bool :=
 (match a.ws with|some d=>b.rs.contains d||b.ws==some d|none=>false)||(match b.ws with|some d=>a.rs.contains d|none=>false)||a.wn.any (fun n=>b.L.contains n||b.wn.contains n)||b.wn.any (fun n=>a.L.contains n)
def okLog(ops:List Oper)(log:List LogE):Bool :=
 let pre:=preL ops
 (List.range ops.length).all fun j=>(List.range j).all fun i=>match log[i]?,log[j]? with
  | some a,some b=>!Yr a b||(pre.getD j []).contains i
  | _,_=>false
theorem preL_snoc(ops:List Oper)(o:Oper):preL (ops++[o])=preL ops++[(ZE o++((ZE o).filter (·<(preL ops).length)).flatMap (fun e=>(preL ops).getD e [])).eraseDups]:=by
 unfold preL
 rw[List.foldl_append]
 rfl
theorem revInd{α:Type}{C:List α→Prop}(nil:C [])(snoc:∀ l a,C l→C (l++[a]))(l:List α):C l:=by
 have key:∀ r:List α,C r.reverse:=by
  intro r
  induction r with
  | nil=>exact nil
  | cons a r ih=>rw[List.reverse_cons];exact snoc _ a ih
 have:=key l.reverse
 rwa [List.reverse_reverse] at this
theorem preL_length(ops:List Oper):(preL ops).length=ops.length:=by
 induction ops using revInd with
 | nil=>rfl
 | snoc ops o ih=>rw[preL_snoc];simp[ih]
theorem preL_ok(done:Nat→Prop)(ops:List Oper)(hd:∀ j o,ops[j]? = some o→done j→∀ e∈ZE o,done e) :
  ∀ j o,ops[j]? = some o→(∀ e∈ZE o,done e)→∀ i∈(preL ops).getD j [],done i:=by
 induction ops using revInd with
 | nil=>intro j o h;simp at h
 | snoc ops o ih =>
  intro j o' hj hall i hi
  rw[preL_snoc] at hi
  have hd':∀ j o,ops[j]? = some o→done j→∀ e∈ZE o,done e:=fun j o h=>hd j o (by
   rw[List.getElem?_append_left];exact h
   exact (List.getElem?_eq_some_iff.1 h).1)
  by_cases hlt:j<ops.length
  ·have h1:ops[j]? = some o':=by rw[List.getElem?_append_left hlt] at hj;exact hj
   have h2:(preL ops++[(ZE o++((ZE o).filter (·<(preL ops).length)).flatMap (fun e=>(preL ops).getD e [])).eraseDups]).getD j []=(preL ops).getD j []:=by
    simp[List.getElem?_append_left,preL_length,hlt]
   rw[h2] at hi
   exact ih hd' j o' h1 hall i hi
  ·have hje:j=ops.length:=by
    have:=(List.getElem?_eq_some_iff.1 hj).1
    simp at this;omega
   subst hje
   have ho:o=o':=by simpa using hj
   subst ho
   have h2:(preL ops++[(ZE o++((ZE o).filter (·<(preL ops).length)).flatMap (fun e=>(preL ops).getD e [])).eraseDups]).getD ops.length []=(ZE o++((ZE o).filter (·<(preL ops).length)).flatMap (fun e=>(preL ops).getD e [])).eraseDups:=by
    simp[preL_length]
   rw[h2,List.mem_eraseDups,List.mem_append] at hi
   rcases hi with hi|hi
   ·exact hall i hi
   ·obtain⟨e,he,hie⟩:=List.mem_flatMap.1 hi
    obtain⟨he1,he2⟩:=List.mem_filter.1 he
    have hel:e<ops.length:=by rw[preL_length] at he2;simpa using he2
    have hoe:ops[e]? = some ops[e]:=by simp[hel]
    have hde:=hall e he1
    exact ih hd' e ops[e] hoe (fun e' he'=>hd' e _ hoe hde e' he') i hie
def Z0(ops:List Oper)(σ:Nat→D)(o:Oper):Option Bool :=
 match o.guard with
 | none=>some true
 | some (j,want)=>match (ops[j]?).bind (·.dst) with
  | some d=>match σ d with|.bool b=>some (b==want)|.tup _=>some false|_=>none
  | none=>some false
def resN(L:List Nat)(g:Nat→Option Blk):Nat→Option Blk:=fun n=>if L.contains n then g n else none
def setL(σ:List (Nat×D)):Option Nat→D→List (Nat×D)
 | none,_=>σ
 | some d,v=>(d,v)::σ
def putS(st:List (Nat×Blk)):List (Nat×Option Blk)→List (Nat×Blk)
 | []=>st
 | (n,some b)::l=>putS ((n,b)::st.filter (fun p=>p.1 != n)) l
 | (n,none)::l=>putS (st.filter (fun p=>p.1 != n)) l
theorem gt_setL(σ:List (Nat×D))(d:Option Nat)(v:D):gt (setL σ d v)=setO (gt σ) d v:=by
 cases d with
 | none=>rfl
 | some d=>rfl
theorem gs_filter(st:List (Nat×Blk))(n m:Nat):gs (st.filter (fun p=>p.1 != n)) m=if m=n then none else gs st m:=by
 induction st with
 | nil=>simp[gs]
 | cons p st ih =>
  obtain⟨u,b⟩:=p
  by_cases hu:u=n
  ·subst hu
   simp only[List.filter_cons,bne_self_eq_false,Bool.false_eq_true,if_false,ih]
   by_cases hm:m=u
   ·simp[hm]
   ·simp[hm,gs]
  ·have:(u != n)=true:=by simpa using hu
   simp only[List.filter_cons,this,if_true,gs,ih]
   by_cases hm:m=u
   ·subst hm;simp[hu]
   ·simp[hm]
theorem Xq:∀ (l:List (Nat×Option Blk)) (st:List (Nat×Blk)),gs (putS st l)=updL (gs st) l
 | [],st=>rfl
 | (n,some b)::l,st=>by
  rw[putS,Xq l,updL]
  congr 1
  funext m
  simp only[gs,gs_filter,updS]
  by_cases hm:m=n<;>simp[hm]
 | (n,none)::l,st=>by
  rw[putS,Xq l,updL]
  congr 1
  funext m
  simp only[gs_filter,updS]
section
variable (P:Program) (G:Nat→Option (List D)) (N:Nat) (ops:List Oper) (nx:Nat)
inductive RW:List Oper→Nat→List (Nat×D)→List (Nat×Blk)→List LogE→List (Nat×D)→List (Nat×Blk)→Prop
 | nil (i σ st):RW [] i σ st [] σ st
 | skip (o rest i σ st log σ' st') (hw:Z0 ops (gt σ) o=some false) (hd:∀ t,o.dst=some t→t<N) (h:RW rest (i+1) (setL σ o.dst (.tup [])) st log σ' st'):RW (o::rest) i σ st (⟨ZP ops o,[],o.dst,[]⟩::log) σ' st'
 | step (o rest i σ st log σ' st') (L:List Nat) (v:D) (upd:List (Nat×Option Blk)) (hw:Z0 ops (gt σ) o=some true) (hd:∀ t,o.dst=some t→t<N) (hdo:Do P G o (opD G (gt σ)) (resN L (gs st)) (nx+i) v upd)
   (h:RW rest (i+1) (setL σ o.dst v) (putS st upd) log σ' st'):RW (o::rest) i σ st (⟨ZP ops o,L,o.dst,upd.map (·.1)⟩::log) σ' st'
end
section
variable {P:Program} {G:Nat→Option (List D)} {N:Nat} {ops:List Oper} {nx:Nat}
def TrStep(P:Program)(G:Nat→Option (List D))(N:Nat)(ops:List Oper)(nx i:Nat)(o:Oper)(s s':Nat→D)(m m':Nat→Option Blk)(E:LogE):Prop :=
  (∀ t,o.dst=some t→t<N) ∧
  ((Z0 ops s o=some false∧s'=setO s o.dst (.tup [])∧m'=m∧E=⟨ZP ops o,[],o.dst,[]⟩) ∨
   (Z0 ops s o=some true∧∃ L v upd,Do P G o (opD G s) (resN L m) (nx+i) v upd∧s'=setO s o.dst v∧m'=updL m upd∧E=⟨ZP ops o,L,o.dst,upd.map (·.1)⟩))
theorem RW.trace{rops:List Oper}{i:Nat}{σ σ':List (Nat×D)}{st st':List (Nat×Blk)}{log:List LogE}(h:RW P G N ops nx rops i σ st log σ' st') :
  ∃ (s:Nat→Nat→D) (m:Nat→Nat→Option Blk),s 0=gt σ∧m 0=gs st∧s rops.length=gt σ'∧m rops.length=gs st'∧log.length=rops.length∧∀ k o,rops[k]? = some o→∃ E,log[k]? = some E∧TrStep P G N ops nx (i+k) o (s k) (s (k+1)) (m k) (m (k+1)) E:=by
 induction h with
 | nil i σ st=>exact⟨fun _=>gt σ,fun _=>gs st,rfl,rfl,rfl,rfl,rfl,fun k o h=>by simp at h⟩
 | skip o rest i σ st log σ' st' hw hd h ih =>
  obtain⟨s,m,h1,h2,h3,h4,h5,h6⟩:=ih
  refine⟨fun k=>match k with|0=>gt σ|k+1=>s k,fun k=>match k with|0=>gs st|k+1=>m k,rfl,rfl,h3,h4,by simp[h5],fun k o' hk=>?_⟩
  cases k with
  | zero =>
   simp only[List.getElem?_cons_zero,Option.some.injEq] at hk
   subst hk
   exact⟨_,rfl,hd,.inl ⟨hw,h1.trans (gt_setL _ _ _),h2,rfl⟩⟩
  | succ k =>
   obtain⟨E,e1,e2⟩:=h6 k o' (by simpa using hk)
   exact⟨E,by simpa using e1,by rw[show i+(k+1)=i+1+k by omega];exact e2⟩
 | step o rest i σ st log σ' st' L v upd hw hd hdo h ih =>
  obtain⟨s,m,h1,h2,h3,h4,h5,h6⟩:=ih
  refine⟨fun k=>match k with|0=>gt σ|k+1=>s k,fun k=>match k with|0=>gs st|k+1=>m k,rfl,rfl,h3,h4,by simp[h5],fun k o' hk=>?_⟩
  cases k with
  | zero =>
   simp only[List.getElem?_cons_zero,Option.some.injEq] at hk
   subst hk
   exact⟨_,rfl,hd,.inr ⟨hw,L,v,upd,hdo,h1.trans (gt_setL _ _ _),h2.trans (Xq _ _),rfl⟩⟩
  | succ k =>
   obtain⟨E,e1,e2⟩:=h6 k o' (by simpa using hk)
   exact⟨E,by simpa using e1,by rw[show i+(k+1)=i+1+k by omega];exact e2⟩
end
theorem Yo:∀ {l:List (Nat×Option Blk)} {g:Nat→Option Blk} {n:Nat},n∉l.map (·.1)→updL g l n=g n
 | [],_,_,_=>rfl
 | (m,b)::l,g,n,h=>by
  simp only[List.map_cons,List.mem_cons,not_or] at h
  rw[updL,Yo h.2]
  simp[updS,h.1]
theorem updL_in:∀ {l:List (Nat×Option Blk)} {g g':Nat→Option Blk} {n:Nat},n∈l.map (·.1)→updL g l n=updL g' l n
 | [],_,_,_,h=>by cases h
 | (m,b)::l,g,g',n,h=>by
  simp only[updL]
  by_cases hn:n∈l.map (·.1)
  ·exact updL_in hn
  ·rw[Yo hn,Yo hn]
   simp only[List.map_cons,List.mem_cons] at h
   rcases h with h|h
   ·simp[updS,h]
   ·exact absurd h hn
section
variable {P:Program} {G:Nat→Option (List D)} {N:Nat} {ops:List Oper} {nx:Nat} {s:Nat→Nat→D} {m:Nat→Nat→Option Blk} {E:Nat→LogE}
structure Run(P:Program)(G:Nat→Option (List D))(N:Nat)(ops:List Oper)(nx:Nat)(s:Nat→Nat→D)(m:Nat→Nat→Option Blk)(E:Nat→LogE):Prop where
 st:∀ k o,ops[k]? = some o→TrStep P G N ops nx k o (s k) (s (k+1)) (m k) (m (k+1)) (E k)
def wsB(E:Nat→LogE)(t:Nat)(i:Nat):Bool:=(E i).ws==some t
def wnB(E:Nat→LogE)(n:Nat)(i:Nat):Bool:=(E i).wn.contains n
theorem Run.ws(h:Run P G N ops nx s m E){k:Nat}{o:Oper}(hk:ops[k]? = some o):(E k).ws=o.dst:=by
 rcases (h.st k o hk).2 with⟨_,_,_,e⟩|⟨_,L,v,upd,_,_,_,e⟩<;>rw[e]
theorem Run.s_step(h:Run P G N ops nx s m E){k:Nat}(hk:k<ops.length){t:Nat}(hw:wsB E t k=false):s (k+1) t=s k t:=by
 have ho:ops[k]? = some ops[k]:=by simp[hk]
 have hws:=h.ws ho
 unfold wsB at hw
 rw[hws] at hw
 have key:∀ v,setO (s k) ops[k].dst v t=s k t:=by
  intro v
  cases hd:ops[k].dst with
  | none=>rfl
  | some d =>
   rw[hd] at hw
   have:t≠d:=fun e=>by subst e;simp at hw
   simp[setO,this]
 rcases (h.st k _ ho).2 with⟨_,e,_,_⟩|⟨_,L,v,upd,_,e,_,_⟩<;>rw[e]<;>exact key _
theorem Run.m_step(h:Run P G N ops nx s m E){k:Nat}(hk:k<ops.length){n:Nat}(hw:wnB E n k=false):m (k+1) n=m k n:=by
 have ho:ops[k]? = some ops[k]:=by simp[hk]
 rcases (h.st k _ ho).2 with⟨_,_,e,e2⟩|⟨_,L,v,upd,_,_,e,e2⟩
 ·rw[e]
 ·rw[e]
  unfold wnB at hw
  rw[e2] at hw
  exact Yo (by simpa using hw)
theorem Run.s_last(h:Run P G N ops nx s m E)(t:Nat):∀ k,k≤ops.length→s k t=s (ZU (wsB E t) k) t
 | 0,_=>rfl
 | k+1,hk=>by
  by_cases hw:wsB E t k=true
  ·simp[ZU,hw]
  ·have hw':wsB E t k=false:=by simpa using hw
   rw[h.s_step (by omega) hw',h.s_last t k (by omega)]
   simp[ZU,hw']
theorem Run.m_last(h:Run P G N ops nx s m E)(n:Nat):∀ k,k≤ops.length→m k n=m (ZU (wnB E n) k) n
 | 0,_=>rfl
 | k+1,hk=>by
  by_cases hw:wnB E n k=true
  ·simp[ZU,hw]
  ·have hw':wnB E n k=false:=by simpa using hw
   rw[h.m_step (by omega) hw',h.m_last n k (by omega)]
   simp[ZU,hw']
def sD(ops:List Oper)(s:Nat→Nat→D)(E:Nat→LogE)(dn:Nat→Bool)(t:Nat):D:=s (ZU (fun i=>dn i&&wsB E t i) ops.length) t
def mD(ops:List Oper)(m:Nat→Nat→Option Blk)(E:Nat→LogE)(dn:Nat→Bool)(n:Nat):Option Blk:=m (ZU (fun i=>dn i&&wnB E n i) ops.length) n
def Closed(ops:List Oper)(dn:Nat→Bool):Prop:=∀ j o,ops[j]? = some o→dn j=true→∀ e∈ZE o,dn e=true
def Y4(ops:List Oper)(E:Nat→LogE):Prop:=∀ i j,i<j→j<ops.length→Yr (E i) (E j)=true→i∈(preL ops).getD j []
theorem Ys(hO:Y4 ops E){dn:Nat→Bool}(hc:Closed ops dn){i:Nat}{o:Oper}(ho:ops[i]? = some o)(hi:dn i=false)(hr:∀ e∈ZE o,dn e=true) :
  (∀ j,j<i→Yr (E j) (E i)=true→dn j=true)∧(∀ j,i<j→j<ops.length→Yr (E i) (E j)=true→dn j=false):=by
 have hil:=(List.getElem?_eq_some_iff.1 ho).1
 refine⟨fun j hj hm=>?_,fun j hj hjl hm=>?_⟩
 ·exact preL_ok (fun k=>dn k=true) ops hc i o ho hr j (hO j i hj hil hm)
 ·cases hd:dn j with
  | false=>rfl
  | true =>
   have hoj:ops[j]? = some ops[j]:=by simp[hjl]
   have:=preL_ok (fun k=>dn k=true) ops hc j _ hoj (hc j _ hoj hd) i (hO i j hj hjl hm)
   rw[hi] at this;cases this
end
section
variable {P:Program} {G:Nat→Option (List D)} {N:Nat} {ops:List Oper} {nx:Nat} {s:Nat→Nat→D} {m:Nat→Nat→Option Blk} {E:Nat→LogE}
theorem sD_ready(h:Run P G N ops nx s m E)(hO:Y4 ops E){dn:Nat→Bool}(hc:Closed ops dn){i:Nat}{o:Oper}(ho:ops[i]? = some o)(hi:dn i=false)(hr:∀ e∈ZE o,dn e=true){t:Nat}(ht:t∈(E i).rs∨(E i).ws=some t):sD ops s E dn t=s i t:=by
 have hil:=(List.getElem?_eq_some_iff.1 ho).1
 obtain⟨r1,r2⟩:=Ys hO hc ho hi hr
 have e1:ZU (fun j=>dn j&&wsB E t j) ops.length=ZU (wsB E t) i:=by
  rw[lastF_skip (i:=i) (by omega) (fun j h1 h2=>?_)]
  ·refine ZW (fun j hj=>?_)
   cases hw:wsB E t j with
   | false=>simp
   | true =>
    have hm:Yr (E j) (E i)=true:=by
     have hw':(E j).ws=some t:=by simpa[wsB] using hw
     unfold Yr
     rw[hw']
     rcases ht with ht|ht
     ·simp[ht]
     ·simp[ht]
    simp[r1 j hj hm]
  ·by_cases e:j=i
   ·subst e;simp[hi]
   ·cases hw:wsB E t j with
    | false=>simp
    | true =>
     have hm:Yr (E i) (E j)=true:=by
      have hw':(E j).ws=some t:=by simpa[wsB] using hw
      unfold Yr
      rcases ht with ht|ht
      ·rw[hw'];simp[ht]
      ·rw[hw',ht];simp
     simp[r2 j (by omega) h2 hm]
 unfold sD
 rw[e1,← h.s_last t i (by omega)]
theorem mD_ready(h:Run P G N ops nx s m E)(hO:Y4 ops E){dn:Nat→Bool}(hc:Closed ops dn){i:Nat}{o:Oper}(ho:ops[i]? = some o)(hi:dn i=false)(hr:∀ e∈ZE o,dn e=true){n:Nat}(ht:n∈(E i).L∨n∈(E i).wn):mD ops m E dn n=m i n:=by
 have hil:=(List.getElem?_eq_some_iff.1 ho).1
 obtain⟨r1,r2⟩:=Ys hO hc ho hi hr
 have e1:ZU (fun j=>dn j&&wnB E n j) ops.length=ZU (wnB E n) i:=by
  rw[lastF_skip (i:=i) (by omega) (fun j h1 h2=>?_)]
  ·refine ZW (fun j hj=>?_)
   cases hw:wnB E n j with
   | false=>simp
   | true =>
    have hm:Yr (E j) (E i)=true:=by
     have hw':n∈(E j).wn:=by simpa[wnB] using hw
     unfold Yr
     simp only[Bool.or_eq_true,List.any_eq_true]
     refine .inl (.inr ⟨n,hw',?_⟩)
     rcases ht with ht|ht<;>simp[ht]
    simp[r1 j hj hm]
  ·by_cases e:j=i
   ·subst e;simp[hi]
   ·cases hw:wnB E n j with
    | false=>simp
    | true =>
     have hm:Yr (E i) (E j)=true:=by
      have hw':n∈(E j).wn:=by simpa[wnB] using hw
      unfold Yr
      simp only[Bool.or_eq_true,List.any_eq_true]
      rcases ht with ht|ht
      ·exact .inr ⟨n,hw',by simpa using ht⟩
      ·exact .inl (.inr ⟨n,ht,by simp[hw']⟩)
     simp[r2 j (by omega) h2 hm]
 unfold mD
 rw[e1,← h.m_last n i (by omega)]
def Ya(dn:Nat→Bool)(i:Nat):Nat→Bool:=fun j=>dn j||decide (j=i)
theorem sD_next(h:Run P G N ops nx s m E)(hO:Y4 ops E){dn:Nat→Bool}(hc:Closed ops dn){i:Nat}{o:Oper}(ho:ops[i]? = some o)(hi:dn i=false)(hr:∀ e∈ZE o,dn e=true)(v:D)(hv:s (i+1)=setO (s i) o.dst v) :
  setO (sD ops s E dn) o.dst v=sD ops s E (Ya dn i):=by
 have hil:=(List.getElem?_eq_some_iff.1 ho).1
 obtain⟨r1,r2⟩:=Ys hO hc ho hi hr
 have hws:=h.ws ho
 have other:∀ t,o.dst≠some t→sD ops s E (Ya dn i) t=sD ops s E dn t:=by
  intro t ht
  unfold sD
  rw[ZW (fun j hj=>?_)]
  unfold Ya
  by_cases e:j=i
  ·subst e
   have:wsB E t j=false:=by unfold wsB;rw[hws];simpa using ht
   simp[this]
  ·simp[e]
 cases hd:o.dst with
 | none =>
  funext t
  rw[other t (by rw[hd];simp)]
  rfl
 | some d =>
  funext t
  by_cases ht:t=d
  ·subst ht
   have hw:wsB E t i=true:=by unfold wsB;rw[hws,hd];simp
   have:ZU (fun j=>Ya dn i j&&wsB E t j) ops.length=i+1:=by
    refine lastF_at hil (by simp[Ya,hw]) (fun j h1 h2=>?_)
    cases hw2:wsB E t j with
    | false=>simp
    | true =>
     have hm:Yr (E i) (E j)=true:=by
      have hw':(E j).ws=some t:=by simpa[wsB] using hw2
      unfold Yr
      rw[hws,hd,hw']
      simp
     simp[Ya,r2 j h1 h2 hm,show j≠i by omega]
   unfold sD
   rw[this,hv,hd]
   simp[setO]
  ·rw[other t (by rw[hd];simpa using fun e=>ht e.symm)]
   simp[setO,ht]
theorem mD_next(_h:Run P G N ops nx s m E)(hO:Y4 ops E){dn:Nat→Bool}(hc:Closed ops dn){i:Nat}{o:Oper}(ho:ops[i]? = some o)(hi:dn i=false)(hr:∀ e∈ZE o,dn e=true)(upd:List (Nat×Option Blk))(hE:(E i).wn=upd.map (·.1))(hv:m (i+1)=updL (m i) upd) :
  updL (mD ops m E dn) upd=mD ops m E (Ya dn i):=by
 have hil:=(List.getElem?_eq_some_iff.1 ho).1
 obtain⟨r1,r2⟩:=Ys hO hc ho hi hr
 funext n
 by_cases hn:n∈upd.map (·.1)
 ·rw[updL_in (g':=m i) hn]
  have hw:wnB E n i=true:=by unfold wnB;rw[hE];simpa using hn
  have:ZU (fun j=>Ya dn i j&&wnB E n j) ops.length=i+1:=by
   refine lastF_at hil (by simp[Ya,hw]) (fun j h1 h2=>?_)
   cases hw2:wnB E n j with
   | false=>simp
   | true =>
    have hm:Yr (E i) (E j)=true:=by
     have hw':n∈(E j).wn:=by simpa[wnB] using hw2
     unfold Yr
     simp only[Bool.or_eq_true,List.any_eq_true]
     exact .inl (.inr ⟨n,by rw[hE];exact hn,by simp[hw']⟩)
    simp[Ya,r2 j h1 h2 hm,show j≠i by omega]
  unfold mD
  rw[this,hv]
 ·rw[Yo hn]
  unfold mD
  rw[ZW (fun j hj=>?_)]
  unfold Ya
  by_cases e:j=i
  ·subst e
   have:wnB E n j=false:=by unfold wnB;rw[hE];simpa using hn
   simp[this]
  ·simp[e]
end
end
section
open Go Go.RowKit
theorem mem_ready'{ops:Array Oper}{listed:Array Bool}{i:Nat}:i∈Region.ready .any ops listed↔listed.getD i true=false∧∃ o,ops[i]? = some o∧∀ e∈ZE o,listed.getD e false=true:=by
 unfold Region.ready
 rw[List.mem_filter,List.mem_range]
 constructor
 ·rintro⟨h1,h2⟩
  simp only[Bool.and_eq_true,Bool.not_eq_true'] at h2
  obtain⟨h3,h4⟩:=h2
  have ho:ops[i]? = some ops[i]:=by simp[h1]
  rw[ho] at h4
  simp only[Option.map_some,Option.getD_some] at h4
  refine⟨h3,_,ho,fun e he=>?_⟩
  simp only[ZE,List.mem_map,List.mem_filter] at he
  obtain⟨x,⟨hx1,hx2⟩,rfl⟩:=he
  have:=Array.all_eq_true_iff_forall_mem.1 h4 x (by simpa using hx1)
  simpa[hx2] using this
 ·rintro⟨h1,o,h2,h3⟩
  refine⟨(Array.getElem?_eq_some_iff.1 h2).1,?_⟩
  simp only[h1,h2,Bool.not_false,Option.map_some,Option.getD_some,Bool.true_and]
  refine Array.all_eq_true_iff_forall_mem.2 (fun e he=>?_)
  cases hb:Region.binds .any e with
  | false=>simp
  | true =>
   simp only[Bool.not_true,Bool.false_or]
   exact h3 _ (List.mem_map.2 ⟨e,List.mem_filter.2 ⟨by simpa using he,hb⟩,rfl⟩)
def unl'(listed:Array Bool):Nat:=listed.toList.countP (fun b=>!b)
theorem unl'_set{listed:Array Bool}{i:Nat}(h:listed.getD i true=false):unl' (listed.setIfInBounds i true)+1=unl' listed:=by
 unfold unl'
 obtain⟨L⟩:=listed
 simp only[List.setIfInBounds_toArray] at *
 have h':L[i]? = some false:=by
  have:(L[i]?).getD true=false:=by simpa using h
  cases hx:L[i]? with
  | none=>rw[hx] at this;simp at this
  | some x=>rw[hx] at this;simp at this;rw[this]
 clear h
 induction L generalizing i with
 | nil=>simp at h'
 | cons y L ih =>
  cases i with
  | zero=>simp at h';subst h';simp
  | succ i =>
   have:=ih (i:=i) (by simpa using h')
   simp only[List.set_cons_succ,List.countP_cons] at this ⊢
   omega
theorem slot_mem{ops:List Oper}{o:Oper}{x:Operand}{t:Nat}(hx:x∈o.op.operands)(e:x=.tmp t):t∈ZP ops o:=by
 subst e
 unfold ZP
 exact List.mem_append_left _ (List.mem_filterMap.2 ⟨.tmp t,by simpa using hx,rfl⟩)
theorem opD_congr{G:Nat→Option (List D)}{σ τ:Nat→D}{x:Operand}(h:∀ t,x=.tmp t→σ t=τ t):opD G σ x=opD G τ x:=by
 cases x with
 | tmp t=>exact h t rfl
 | _=>rfl
theorem YS{c:Ctx}{dom:Nat→Prop}{ι:Nat→Option IB}{a:Act}{w:World}{σ:Nat→D}{st:Nat→Option Blk}(hr:Rel c dom ι a w σ st){ops:Array Oper}{o:Oper}{b:Bool}(h:Z0 ops.toList σ o=some b):Region.wanted o (yielded ops a.tmps)=b:=by
 unfold Z0 at h
 unfold Region.wanted
 cases hg:o.guard with
 | none=>rw[hg] at h;simpa using h
 | some p =>
  obtain⟨j,want⟩:=p
  rw[hg] at h
  simp only at h ⊢
  unfold yielded
  have e:(ops.toList[j]?).bind (·.dst)=(ops[j]?).bind (·.dst):=by simp
  rw[e] at h
  cases hd:(ops[j]?).bind (·.dst) with
  | none=>rw[hd] at h;simp at h;subst h;rfl
  | some d =>
   rw[hd] at h
   simp only at h
   have hrep:=hr.env d
   cases hσ:σ d with
   | bool bb =>
    rw[hσ] at h hrep
    simp only[Option.some.injEq] at h
    have e1:=hrep.is_bool
    have e2:a.tmps[d]? = some (.bool bb):=by
     cases hq:a.tmps[d]? with
     | none=>simp[hq,undef] at e1
     | some q=>simp[hq] at e1;rw[e1]
    simp[e2,← h]
   | tup ds =>
    rw[hσ] at h hrep
    simp only[Option.some.injEq] at h
    obtain⟨cs,e1,_⟩:=hrep.is_tup
    cases hq:a.tmps[d]? with
    | none=>simp[hq,← h]
    | some q =>
     have:q=.tuple cs:=by simpa[hq] using e1
     subst this
     simp[hq,← h]
   | _=>rw[hσ] at h;simp at h
section
variable {P:Program} {G:Nat→Option (List D)} {N:Nat} {ops:Array Oper} {nx:Nat} {s:Nat→Nat→D} {m:Nat→Nat→Option Blk} {E:Nat→LogE}
theorem al_any{c:Ctx}(hP:c.P=P)(hG:c.G=G)(hN:c.N=N)(h:Run P G N ops.toList nx s m E)(hO:Y4 ops.toList E)(hfwd:∀ i o,ops[i]? = some o→∀ e∈ZE o,e<i){Q:Exit→Act→World→Prop}
  (fin:∀ ι a w,Rel c (·<nx+ops.size) ι a w (s ops.size) (m ops.size)→Q .normal a w) :
  ∀ (fuel:Nat) (listed:Array Bool) (ι:Nat→Option IB) (a:Act) (w:World),listed.size=ops.size→unl' listed=fuel→Closed ops.toList (fun j=>listed.getD j false) →
   Rel c (fun n=>n<nx∨∃ j,listed.getD j false=true∧n=nx+j) ι a w (sD ops.toList s E (fun j=>listed.getD j false)) (mD ops.toList m E (fun j=>listed.getD j false))→wpAny P .any ops Q fuel listed a w:=by
 have hlen:ops.toList.length=ops.size:=by simp
 have finish:∀ (listed:Array Bool) ι a w,listed.size=ops.size→unl' listed=0→Rel c (fun n=>n<nx∨∃ j,listed.getD j false=true∧n=nx+j) ι a w (sD ops.toList s E (fun j=>listed.getD j false)) (mD ops.toList m E (fun j=>listed.getD j false))→Q .normal a w:=by
  intro listed ι a w hl h0 hr
  have hall:∀ j,j<ops.size→listed.getD j false=true:=by
   intro j hj
   have hj':j<listed.size:=by omega
   unfold unl' at h0
   have:=List.countP_eq_zero.1 h0 (listed[j]) (by simp)
   simpa[hj'] using this
  have e1:sD ops.toList s E (fun j=>listed.getD j false)=s ops.size:=by
   funext t
   unfold sD
   rw[hlen,ZW (q:=wsB E t) (fun j hj=>by show (listed.getD j false&&_)=_;rw[hall j hj,Bool.true_and])]
   rw[h.s_last t ops.size (by omega)]
  have e2:mD ops.toList m E (fun j=>listed.getD j false)=m ops.size:=by
   funext n
   unfold mD
   rw[hlen,ZW (q:=wnB E n) (fun j hj=>by show (listed.getD j false&&_)=_;rw[hall j hj,Bool.true_and])]
   rw[h.m_last n ops.size (by omega)]
  rw[e1,e2] at hr
  refine fin ι a w (hr.weaken (fun _=>Le.refl _) (fun n hn=>?_))
  rcases hn with hn|⟨j,hj,rfl⟩
  ·show n<nx+ops.size;omega
  ·have:j<listed.size:=by
    rcases Nat.lt_or_ge j listed.size with h|h
    ·exact h
    ·simp[Array.getElem?_eq_none h] at hj
   show nx+j<nx+ops.size;omega
 intro fuel
 induction fuel with
 | zero =>
  intro listed ι a w hl hu hc hr
  refine⟨List.eq_nil_iff_forall_not_mem.2 (fun j hj=>?_),finish listed ι a w hl hu hr⟩
  obtain⟨h1,o,h2,h3⟩:=mem_ready'.1 hj
  have hjl:j<listed.size:=by rw[hl];exact (Array.getElem?_eq_some_iff.1 h2).1
  unfold unl' at hu
  have:=List.countP_eq_zero.1 hu (listed[j]) (by simp)
  simp[hjl] at h1 this
  rw[h1] at this;cases this
 | succ fuel ih =>
  intro listed ι a w hl hu hc hr
  have hready:Region.ready .any ops listed≠[]:=by
   intro h0
   have key:∀ k,k<ops.size→listed.getD k true=false→False:=by
    intro k
    induction k using Nat.strongRecOn with
    | _ k ihk =>
     intro hk hun
     have ho:ops[k]? = some ops[k]:=by simp[hk]
     by_cases ha:∀ e∈ZE ops[k],listed.getD e false=true
     ·have:k∈Region.ready .any ops listed:=mem_ready'.2 ⟨hun,_,ho,ha⟩
      rw[h0] at this;cases this
     ·have:∃ e∈ZE ops[k],listed.getD e false≠true:=Classical.byContradiction fun hc=>ha fun e he=>Classical.byContradiction fun hn=>hc ⟨e,he,hn⟩
      obtain⟨e,he,hne⟩:=this
      have hlt:=hfwd k _ ho e he
      refine ihk e hlt (by omega) ?_
      have hin:e<listed.size:=by omega
      simp[hin] at hne ⊢
      exact hne
   have hz:unl' listed=0:=by
    unfold unl'
    rw[List.countP_eq_zero]
    intro b hb
    obtain⟨j,hj,rfl⟩:=List.getElem_of_mem hb
    have hjl:j<listed.size:=by simpa using hj
    have:¬ listed.getD j true=false:=fun h=>key j (by omega) h
    simp[hjl] at this ⊢
    exact this
   omega
  refine⟨fun h0=>absurd h0 hready,fun i hi=>?_⟩
  obtain⟨hun,o,ho,hal⟩:=mem_ready'.1 hi
  have hil:i<ops.size:=(Array.getElem?_eq_some_iff.1 ho).1
  have hill:i<listed.size:=by omega
  have ho':ops.toList[i]? = some o:=by simpa using ho
  have hi0:listed.getD i false=false:=by simp[hill] at hun ⊢;exact hun
  have hdn:∀ j,(listed.setIfInBounds i true).getD j false=Ya (fun j=>listed.getD j false) i j:=by
   intro j
   unfold Ya
   by_cases e:j=i
   ·subst e;simp[hill]
   ·simp[Ne.symm e,e]
  have hdnf:(fun j=>(listed.setIfInBounds i true).getD j false)=Ya (fun j=>listed.getD j false) i:=funext hdn
  have hc':Closed ops.toList (fun j=>(listed.setIfInBounds i true).getD j false):=by
   intro j oj hj hd e he
   have hd:(listed.setIfInBounds i true).getD j false=true:=hd
   show (listed.setIfInBounds i true).getD e false=true
   rw[hdn] at hd ⊢
   unfold Ya at hd ⊢
   by_cases hji:j=i
   ·subst hji
    obtain rfl:oj=o:=Option.some.inj (hj.symm.trans ho')
    simp[hal e he]
   ·have:listed.getD j false=true:=by simpa[hji] using hd
    simp[hc j oj hj this e he]
  have hu':unl' (listed.setIfInBounds i true)=fuel:=by have:=unl'_set hun;omega
  obtain⟨hN',hstep⟩:=h.st i o ho'
  have hsame:∀ t,t∈(E i).rs→sD ops.toList s E (fun j=>listed.getD j false) t=s i t:=fun t ht=>sD_ready h hO hc ho' hi0 hal (.inl ht)
  have next:∀ (ι':Nat→Option IB) (a':Act) (w':World) (v:D) (upd:List (Nat×Option Blk)),(E i).wn=upd.map (·.1)→s (i+1)=setO (s i) o.dst v→m (i+1)=updL (m i) upd →
    Rel c (fun n=>(n<nx∨∃ j,listed.getD j false=true∧n=nx+j)∨n=nx+i) ι' a' w' (setO (sD ops.toList s E (fun j=>listed.getD j false)) o.dst v) (updL (mD ops.toList m E (fun j=>listed.getD j false)) upd) →
    wpAny P .any ops Q fuel (listed.setIfInBounds i true) a' w':=by
   intro ι' a' w' v upd hE hs hm hr'
   refine ih _ ι' a' w' (by simpa using hl) hu' hc' ?_
   rw[hdnf,← sD_next h hO hc ho' hi0 hal v hs,← mD_next h hO hc ho' hi0 hal upd hE hm]
   refine hr'.weaken (fun _=>Le.refl _) (fun n hn=>?_)
   rcases hn with (hn|⟨j,hj,rfl⟩)|rfl
   ·exact .inl hn
   ·exact .inr ⟨j,(hdn j).trans (by unfold Ya;simp only[hj,Bool.true_or]),rfl⟩
   ·exact .inr ⟨i,(hdn i).trans (by simp[Ya]),rfl⟩
  unfold wpOp
  rw[ho]
  rcases hstep with⟨hw,hs,hm,hE⟩|⟨hw,L,v,upd,hdo,hs,hm,hE⟩
  ·have hw':Z0 ops.toList (sD ops.toList s E (fun j=>listed.getD j false)) o=some false:=by
    rw[← hw]
    unfold Z0
    cases hg:o.guard with
    | none=>rfl
    | some p =>
     obtain⟨j,want⟩:=p
     simp only
     cases hd:(ops.toList[j]?).bind (·.dst) with
     | none=>rfl
     | some d =>
      simp only
      rw[hsame d (by rw[hE];unfold ZP;simp only[hg,hd];simp)]
   have hwant:=YS hr hw'
   simp only[hwant,Bool.false_eq_true,if_false]
   refine next ι _ w (.tup []) [] (by rw[hE];rfl) hs (by rw[hm];rfl) ?_
   refine (hr.put undef (.tup []) (.pure _ _ (.tup #[] [] rfl (fun i hi=>absurd hi (Nat.not_lt_zero _)))) o.dst (by rw[hN];exact hN')).weaken (fun _=>Le.refl _) (fun n hn=>.inl hn)
  ·have hw':Z0 ops.toList (sD ops.toList s E (fun j=>listed.getD j false)) o=some true:=by
    rw[← hw]
    unfold Z0
    cases hg:o.guard with
    | none=>rfl
    | some p =>
     obtain⟨j,want⟩:=p
     simp only
     cases hd:(ops.toList[j]?).bind (·.dst) with
     | none=>rfl
     | some d =>
      simp only
      rw[hsame d (by rw[hE];unfold ZP;simp only[hg,hd];simp)]
   have hwant:=YS hr hw'
   simp only[hwant,if_true]
   left
   refine hdo c _ ι a w _ _ _ _ hP hG hr (fun x hx=>opD_congr (fun t ht=>hsame t (by rw[hE];exact slot_mem hx ht))) (fun n b hn=>?_) ?_ (by rw[hN];exact hN') (fun a' w' ι' hr'=>next ι' a' w' v upd (by rw[hE]) hs hm hr')
   ·unfold resN at hn
    by_cases hL:L.contains n=true
    ·rw[if_pos hL] at hn
     rw[mD_ready h hO hc ho' hi0 hal (.inl (by rw[hE];simpa using hL))]
     exact hn
    ·rw[if_neg hL] at hn;cases hn
   ·rintro (h1|⟨j,hj,h1⟩)
    ·omega
    ·have:j=i:=by omega
     subst this
     rw[hi0] at hj;cases hj
end
def fwdB(ops:List Oper):Bool:=(ops.zipIdx).all (fun p=>(ZE p.1).all (·<p.2))
def Ye(draw:Bool)(ops:List Oper)(log:List LogE):Bool:=!draw||(fwdB ops&&okLog ops log)
section
variable {P:Program} {G:Nat→Option (List D)} {N:Nat} {Q:Post} {nx:Nat} {σ σ':List (Nat×D)} {st st':List (Nat×Blk)}
theorem lex_ok{c:Ctx}(hP:c.P=P)(hG:c.G=G)(hN:c.N=N){ops:Array Oper}{s:Nat→Nat→D}{m:Nat→Nat→Option Blk}{E:Nat→LogE}(h:Run P G N ops.toList nx s m E){Q:Exit→Act→World→Prop}
  (fin:∀ ι a w,Rel c (·<nx+ops.size) ι a w (s ops.size) (m ops.size)→Q .normal a w) :
  ∀ (l:List Nat) (i:Nat),l=(List.range ops.size).drop i→i≤ops.size→∀ ι a w,Rel c (·<nx+i) ι a w (s i) (m i)→wpOps P ops Q l a w
 | [],i,hl,hi,ι,a,w,hr=>by
  have:i=ops.size:=by
   have:=congrArg List.length hl
   simp at this;omega
  subst this
  exact fin ι a w hr
 | j::l,i,hl,hi,ι,a,w,hr=>by
  have hlt:i<ops.size:=by
   have:=congrArg List.length hl
   simp at this;omega
  have hc:(List.range ops.size).drop i=i::(List.range ops.size).drop (i+1):=by
   rw[List.drop_eq_getElem_cons (by simpa using hlt)]
   simp
  rw[hc] at hl
  injection hl with h1 h2
  rw[h1]
  clear h1
  have ho:ops[i]? = some ops[i]:=by simp[hlt]
  rw[wpOps_cons]
  unfold wpOp
  rw[ho]
  have ho':ops.toList[i]? = some ops[i]:=by simp
  obtain⟨hN',hstep⟩:=h.st i _ ho'
  rcases hstep with⟨hw,hs,hm,hE⟩|⟨hw,L,v,upd,hdo,hs,hm,hE⟩
  ·have hwant:=YS hr hw
   simp only[hwant,Bool.false_eq_true,if_false]
   refine lex_ok hP hG hN h fin l (i+1) h2 (by omega) ι _ w ?_
   rw[hs,hm]
   exact (hr.put undef (.tup []) (.pure _ _ (.tup #[] [] rfl (fun i hi=>absurd hi (Nat.not_lt_zero _)))) _ (by rw[hN];exact hN')).weaken (fun _=>Le.refl _) (fun n hn=>by show n<nx+(i+1);have:n<nx+i:=hn;omega)
  ·have hwant:=YS hr hw
   simp only[hwant,if_true]
   left
   refine hdo c _ ι a w _ _ _ _ hP hG hr (fun x hx=>rfl) (fun n b hn=>?_) (Nat.lt_irrefl _) (by rw[hN];exact hN') (fun a' w' ι' hr'=>?_)
   ·unfold resN at hn
    by_cases hL:L.contains n=true
    ·rw[if_pos hL] at hn;exact hn
    ·rw[if_neg hL] at hn;cases hn
   ·refine lex_ok hP hG hN h fin l (i+1) h2 (by omega) ι' a' w' ?_
    rw[hs,hm]
    exact hr'.weaken (fun _=>Le.refl _) (fun n hn=>by
     show n<nx+(i+1)
     rcases hn with hn|hn
     ·have:n<nx+i:=hn;omega
     ·omega)
theorem awp_region(hm:P.follows .mixedOrders=true){id:Nat}{ops:Array Oper}{draw:Bool}{log:List LogE}(h:RW P G N ops.toList nx ops.toList 0 σ st log σ' st')(hok:Ye draw ops.toList log=true)(hQ:Q .normal (nx+ops.size) σ' st'):awp P G N (.region id ops draw) Q nx σ st:=by
 intro B w0 O df ι0 ι a w hr
 obtain⟨s,m,h1,h2,h3,h4,h5,h6⟩:=h.trace
 have hlen:ops.toList.length=ops.size:=by simp
 rw[hlen] at h3 h4
 have hrun:Run P G N ops.toList nx s m (fun k=>log.getD k ⟨[],[],none,[]⟩):=⟨fun k o hk=>by
  obtain⟨E,e1,e2⟩:=h6 k o hk
  rw[Nat.zero_add] at e2
  have:log.getD k ⟨[],[],none,[]⟩=E:=by simp[e1]
  rw[this];exact e2⟩
 cases draw with
 | false =>
  refine wp_region ?_
  refine lex_ok (c:=⟨P,G,N,B,w0,O,df,ι0⟩) rfl rfl rfl hrun (fun ι a w hr=>?_) _ 0 rfl (Nat.zero_le _) ι a w ?_
  ·rw[h3,h4] at hr;exact⟨_,ι,σ',st',hr,hQ⟩
  ·rw[h1,h2];exact hr
 | true =>
  simp only[Ye,Bool.not_true,Bool.false_or,Bool.and_eq_true] at hok
  obtain⟨hf,hok⟩:=hok
  have hfwd:∀ i o,ops[i]? = some o→∀ e∈ZE o,e<i:=by
   intro i o ho e he
   unfold fwdB at hf
   rw[List.all_eq_true] at hf
   have hmem:(o,i)∈ops.toList.zipIdx:=by
    rw[List.mem_iff_getElem?]
    exact⟨i,by rw[List.getElem?_zipIdx];simp[ho]⟩
   have:=hf _ hmem
   rw[List.all_eq_true] at this
   simpa using this e he
  have hO:Y4 ops.toList (fun k=>log.getD k ⟨[],[],none,[]⟩):=by
   intro i j hij hj hmeet
   unfold okLog at hok
   simp only[List.all_eq_true,List.mem_range] at hok
   have hh:=hok j hj i hij
   have li:log[i]? = some (log.getD i ⟨[],[],none,[]⟩):=by simp[show i<log.length by omega]
   have lj:log[j]? = some (log.getD j ⟨[],[],none,[]⟩):=by simp[show j<log.length by omega]
   rw[li,lj] at hh
   simp only[hmeet,Bool.not_true,Bool.false_or] at hh
   simpa using hh
  refine wp_region_any hm ?_
  refine al_any (c:=⟨P,G,N,B,w0,O,df,ι0⟩) rfl rfl rfl hrun hO hfwd (fun ι a w hr=>?_) _ _ ι a _ (by simp) (by unfold unl';simp[List.countP_replicate]) ?_ ?_
  ·rw[h3,h4] at hr;exact⟨_,ι,σ',st',hr,hQ⟩
  ·intro j o hj hd
   have:(Array.replicate ops.size false).getD j false=true:=hd
   rcases Nat.lt_or_ge j ops.size with h|h<;>simp[h] at this
  ·have hz:∀ j,(Array.replicate ops.size false).getD j false=false:=by
    intro j
    rcases Nat.lt_or_ge j ops.size with h|h<;>simp[h]
   have lz:∀ (q:Nat→Bool) n,ZU (fun i=>(Array.replicate ops.size false).getD i false&&q i) n=0:=by
    intro q n
    induction n with
    | zero=>rfl
    | succ n ih =>
     show (if ((Array.replicate ops.size false).getD n false&&q n)=true then n+1 else ZU _ n)=0
     rw[hz n,Bool.false_and,if_neg (by simp)]
     exact ih
   have e1:sD ops.toList s (fun k=>log.getD k ⟨[],[],none,[]⟩) (fun j=>(Array.replicate ops.size false).getD j false)=gt σ:=by
    funext t;unfold sD;rw[lz];rw[h1]
   have e2:mD ops.toList m (fun k=>log.getD k ⟨[],[],none,[]⟩) (fun j=>(Array.replicate ops.size false).getD j false)=gs st:=by
    funext t;unfold mD;rw[lz];rw[h2]
   rw[e1,e2]
   exact hr.drew.weaken (fun _=>Le.refl _) (fun n hn=>.inl hn)
end
end
section
open Go Go.RowKit
def mapO{α β:Type}(f:α→Option β):List α→Option (List β)
 | []=>some []
 | x::xs=>match f x,mapO f xs with|some y,some ys=>some (y::ys)|_,_=>none
theorem Xr{α β:Type}{f:α→Option β}:∀ {l:List α} {r:List β},mapO f l=some r→r.length=l.length∧∀ i (h1:i<l.length) (h2:i<r.length),f l[i]=some r[i]
 | [],r,h=>by cases h;exact⟨rfl,fun i h1=>absurd h1 (Nat.not_lt_zero _)⟩
 | x::xs,r,h=>by
  simp only[mapO] at h
  split at h
  ·rename_i y ys e1 e2
   cases h
   obtain⟨i1,i2⟩:=Xr e2
   refine⟨by simp[i1],fun i h1 h2=>?_⟩
   cases i with
   | zero=>exact e1
   | succ i=>exact i2 i (by simpa using h1) (by simpa using h2)
  ·cases h
def Zy(g:Nat→Option Blk):Nat→D→Option D
 | 0,_=>none
 | k+1,.agg cs=>(mapO (Zy g k) cs).map .agg
 | k+1,.tup cs=>(mapO (Zy g k) cs).map .tup
 | k+1,.fn f a b=>match mapO (Zy g k) a,mapO (Zy g k) b with|some a',some b'=>some (.fn f a' b')|_,_=>none
 | k+1,.ifc t d=>(Zy g k d).map (.ifc t)
 | k+1,.bp n off=>match g n with|some (.box cs)=>(mapO (Zy g k) (cs.drop off)).map .vp|_=>none
 | _+1,.ap n hl i off=>match g n with|some (.arr _ rows)=>if rows.length=hl then (rows[i]?).map (fun row=>.vp (row.drop off)) else none|_=>none
 | _+1,.os n hl lo len=>match g n with|some (.arr _ rows)=>if rows.length=hl∧lo+len≤hl then some (.sl ((rows.drop lo).take len)) else none|_=>none
 | _+1,.rf _ _=>none
 | _+1,d=>some d
theorem view_ok{c:Ctx}{dom:Nat→Prop}{ι:Nat→Option IB}{a:Act}{w:World}{σ:Nat→D}{st g:Nat→Option Blk}(hr:Rel c dom ι a w σ st)(hg:∀ n b,g n=some b→st n=some b)(F':Nat→Prop)
  (hF:∀ b,F' b→Fb c ι st b∧∀ n ib,(g n).isSome=true→ι n=some ib→0<ib.cap→b≠ib.blk):∀ (k:Nat) (v:Value) (d d':D),Rep w (Fb c ι st) ι v d→Zy g k d=some d'→RepP w F' v d':=by
 have mono:∀ {v d},RepP w (Fb c ι st) v d→RepP w F' v d:=fun h=>h.mono (fun b h1 _=>⟨rfl,fun h2=>h1 (hF b h2).1⟩)
 intro k
 induction k with
 | zero=>intro v d d' _ h;cases h
 | succ k ih =>
  have lst:∀ (cs:Array Value) (ds r:List D),cs.size=ds.length→(∀ i (hi:i<ds.length),Rep w (Fb c ι st) ι (cs.getD i undef) ds[i])→mapO (Zy g k) ds=some r→cs.size=r.length∧∀ i (hi:i<r.length),RepP w F' (cs.getD i undef) r[i]:=by
   intro cs ds r hl hrep hm
   obtain⟨m1,m2⟩:=Xr hm
   exact⟨by omega,fun i hi=>ih _ _ _ (hrep i (by omega)) (m2 i (by omega) hi)⟩
  intro v d d' hv h
  cases d with
  | agg cs =>
   simp only[Zy] at h
   cases hm:mapO (Zy g k) cs with
   | none=>rw[hm] at h;cases h
   | some r =>
    rw[hm] at h;cases h
    obtain⟨vs,rfl,hl,hrep⟩:=hv.is_agg
    obtain⟨l1,l2⟩:=lst vs cs r hl hrep hm
    exact .agg _ _ l1 l2
  | tup cs =>
   simp only[Zy] at h
   cases hm:mapO (Zy g k) cs with
   | none=>rw[hm] at h;cases h
   | some r =>
    rw[hm] at h;cases h
    obtain⟨vs,rfl,hl,hrep⟩:=hv.is_tup
    obtain⟨l1,l2⟩:=lst vs cs r hl hrep hm
    exact .tup _ _ l1 l2
  | fn f d1 d2 =>
   simp only[Zy] at h
   split at h
   ·rename_i a' b' e1 e2
    cases h
    obtain⟨c1,c2,rfl,h1,h2,r1,r2⟩:=hv.is_fn
    obtain⟨l1,l2⟩:=lst c1 d1 a' h1 r1 e1
    obtain⟨l3,l4⟩:=lst c2 d2 b' h2 r2 e2
    exact .fn _ _ _ _ _ l1 l3 l2 l4
   ·cases h
  | ifc t d =>
   simp only[Zy] at h
   cases hm:Zy g k d with
   | none=>rw[hm] at h;cases h
   | some r =>
    rw[hm] at h;cases h
    obtain⟨u,rfl,hu⟩:=hv.is_ifc
    exact .ifc _ _ _ (ih _ _ _ hu hm)
  | bp n off =>
   simp only[Zy] at h
   split at h
   ·rename_i cs hgn
    cases hm:mapO (Zy g k) (cs.drop off) with
    | none=>rw[hm] at h;cases h
    | some r =>
     rw[hm] at h;cases h
     cases hv with
     | pure _ _ h=>cases h
     | bp n off ib hn hb =>
      obtain⟨ib',vs,ty,h1,h2,h3,h4,h5,h6⟩:=hr.blk n _ (hg n _ hgn)
      obtain rfl:ib=ib':=Option.some.inj (hn.symm.trans h1)
      obtain⟨m1,m2⟩:=Xr hm
      refine .vp ib.blk off r (fun j=>vs.getD (off+j) undef) (fun hF'=>(hF _ hF').2 n ib (by rw[hgn];rfl) hn h3 rfl) (fun j hj=>?_) (by rw[h4];rfl) (fun j hj=>?_)
      ·have:off+j<vs.size:=by rw[m1] at hj;simp at hj;omega
       rw[cell_of_row w ib.blk _ _ _ _ h4];simp[this]
      ·have hjc:j<(cs.drop off).length:=by omega
       have hjc':off+j<cs.length:=by simpa[Nat.lt_sub_iff_add_lt'] using hjc
       refine ih _ _ _ ?_ (m2 j hjc hj)
       rw[List.getElem_drop]
       exact h6 (off+j) hjc'
   ·cases h
  | ap n hl i off =>
   simp only[Zy] at h
   split at h
   ·rename_i es rows hgn
    split at h
    ·rename_i hlen
     cases hri:rows[i]? with
     | none=>rw[hri] at h;cases h
     | some row =>
      rw[hri] at h;cases h
      obtain⟨hi,hrow⟩:=List.getElem?_eq_some_iff.1 hri
      cases hv with
      | pure _ _ h=>cases h
      | ap n hl i off ib v hn hle h1 hp =>
       obtain⟨ib',k1,k2,k3,k4,k5,k6,k7⟩:=hr.blk n _ (hg n _ hgn)
       obtain rfl:ib=ib':=Option.some.inj (hn.symm.trans k1)
       obtain⟨hbi,hv⟩:=hp (k4.trans hlen)
       have hcap:0<ib.cap:=by omega
       obtain⟨vs,ty,q1,q2,q3⟩:=k7 hcap
       subst hv
       have hrl:row.length=es:=by rw[← hrow];exact k6 _ (List.getElem_mem hi)
       refine .vp ib.blk _ _ (fun j=>vs.getD ((i - ib.base)*es+(off+j)) undef) (fun hF'=>(hF _ hF').2 n ib (by rw[hgn];rfl) hn hcap rfl) (fun j hj=>?_) (by rw[q1];rfl) (fun j hj=>?_)
       ·have hlt:off+j<es:=by rw[← hrl];simpa[Nat.lt_sub_iff_add_lt'] using hj
        have:=Yc (show i - ib.base<ib.cap - ib.base by omega) hlt
        rw[cell_of_row w ib.blk _ _ _ _ q1,k3,Nat.add_assoc]
        simp[show (i - ib.base)*es+(off+j)<vs.size by omega]
       ·have hlt:off+j<row.length:=by simpa[Nat.lt_sub_iff_add_lt'] using hj
        rw[List.getElem_drop]
        have:=q3 i hi (off+j) (by rw[hrow];exact hlt) hbi
        exact mono (by simpa only[hrow] using this)
    ·cases h
   ·cases h
  | os n hl lo len =>
   simp only[Zy] at h
   split at h
   ·rename_i es rows hgn
    split at h
    ·rename_i hcond
     obtain⟨c1,c2⟩:=hcond
     cases h
     obtain⟨ib,a',cap,hn,e,q1,q2,q3,k2,k3,k4,k5,k6,k7⟩:=YX hr hg hv hgn c1
     subst e
     have hlen:((rows.drop lo).take len).length=len:=by simp;omega
     rcases Nat.eq_zero_or_pos len with h0|h0
     ·subst h0
      exact .sl0 a' cap (fun h=>by
       rcases Nat.eq_zero_or_pos cap with h1|h1
       ·exact h1
       ·rw[(q3 h1).2] at h;cases h)
     ·have hcap:0<ib.cap:=by omega
      obtain⟨vs,ty,p1,p2,p3⟩:=k7 hcap
      obtain⟨hbl,ea⟩:=q3 (by omega)
      subst ea
      have key:RepP w F' (.slice (some ⟨ib.blk,(lo - ib.base)*ib.es,none⟩) ((rows.drop lo).take len).length cap) (.sl ((rows.drop lo).take len)):=by
       refine .sl ib.blk _ es cap _ (fun i j=>vs.getD ((lo+i - ib.base)*es+j) undef) (by omega) (fun hF'=>(hF _ hF').2 n ib (by rw[hgn];rfl) hn hcap rfl) (fun r hr'=>k6 r (List.mem_of_mem_drop (List.mem_of_mem_take hr'))) (fun i j hi hj=>?_) (by rw[p1];rfl) (fun i hi j hj=>?_)
       ·have:=Yc (show lo+i - ib.base<ib.cap - ib.base by omega) hj
        have e2:(lo - ib.base)*ib.es+i*es+j=(lo+i - ib.base)*es+j:=by rw[k3,show lo+i - ib.base=(lo - ib.base)+i by omega,Nat.add_mul]
        rw[cell_of_row w ib.blk _ _ _ _ p1,e2]
        simp[show (lo+i - ib.base)*es+j<vs.size by omega]
       ·have hi':lo+i<rows.length:=by omega
        have er:((rows.drop lo).take len)[i]=rows[lo+i]:=by simp
        have:=p3 (lo+i) hi' j (by rw[← er];exact hj) (by omega)
        exact mono (by simpa only[er] using this)
      rw[hlen] at key
      exact key
    ·cases h
   ·cases h
  | rf n ch=>cases h
  | _ =>
   cases h
   cases hv with
   | pure _ _ h=>exact mono h
end
section
open Go Go.RowKit
theorem Rep.ofNone{w:World}{F:Nat→Prop}{v:Value}{d:D}(h:Rep w F (fun _=>none) v d):RepP w F v d:=by
 induction h with
 | pure v d h=>exact h
 | agg cs ds hl h ih=>exact .agg cs ds hl ih
 | tup cs ds hl h ih=>exact .tup cs ds hl ih
 | fn f c1 c2 d1 d2 h1 h2 r1 r2 i1 i2=>exact .fn f c1 c2 d1 d2 h1 h2 i1 i2
 | ifc t v d h ih=>exact .ifc t v d ih
 | bp n off ib hn hb=>cases hn
 | ap n hl i off ib v hn _ _ _=>cases hn
 | os n hl lo len ib v hn _ _ _=>cases hn
 | rf n ch ib v hn _ _=>cases hn
theorem Le.toP{d d':D}(h:Le d d'){w:World}{F:Nat→Prop}{v:Value}(hv:RepP w F v d):RepP w F v d':=(h w F _ v (.pure _ _ hv)).ofNone
theorem Le.nils:Le .nils (.sl []):=fun w F ι v h=>by cases h.is_nils;exact .pure _ _ (.sl0 _ _ (fun _=>rfl))
def HasBody(P:Program)(k:Nat):Prop:=∃ fn,P.funcs[k]? = some fn∧fn.body.isSome=true∧(fn.name == "runtime.NumGoroutine")=false
def Les:List D→List D→Prop
 | [],[]=>True
 | a::as,b::bs=>Le a b∧Les as bs
 | _,_=>False
@[simp] theorem Les.refl:∀ l:List D,Les l l
 | []=>trivial
 | a::l=>⟨Le.refl a,Les.refl l⟩
theorem Les.at:∀ {as bs:List D},Les as bs→as.length=bs.length∧∀ i (h1:i<as.length) (h2:i<bs.length),Le as[i] bs[i]
 | [],[],_=>⟨rfl,fun i h=>absurd h (Nat.not_lt_zero _)⟩
 | a::as,b::bs,h=>by
  obtain⟨i1,i2⟩:=Les.at h.2
  refine⟨by simp[i1],fun i h1 h2=>?_⟩
  cases i with
  | zero=>exact h.1
  | succ i=>exact i2 i (by simpa using h1) (by simpa using h2)
 | [],_::_,h=>h.elim
 | _::_,[],h=>h.elim
structure Pure(P:Program)(G:Nat→Option (List D))(k:Nat)(args:List D)(R:D):Prop where
 body:HasBody P k
 calls:∀ (w:World) (F:Nat→Prop) (vs:Array Value),vs.size=args.length→(∀ i (hi:i<args.length),RepP w F (vs.getD i undef) args[i])→(∀ g row,G g=some row→RepP w F (.pointer (some ⟨g,0,none⟩)) (.vp row))→(∀ b,F b→b<w.heap.size) →
  Calls P k vs w (fun e w'=>∃ v,e=.returned v∧Below w.heap.size w w'∧RepP w' F v R)
def YA:D→Bool
 | .any|.bool _|.int _ _|.rng _ _ _|.strg _ _|.str _|.np|.nils|.nilf|.nili=>true
 | .agg cs|.tup cs=>cs.all fun d=>match d with|.any|.bool _|.int _ _|.rng _ _ _|.strg _ _|.str _|.np|.nils|.nilf|.nili=>true|_=>false
 | _=>false
theorem scalar_ok{w:World}{F F':Nat→Prop}{v:Value}{d:D}(h:RepP w F v d)(hs:YA d=true):RepP w F' v d:=by
 have atom:∀ {v:Value} {d:D},RepP w F v d→(match d with|.any|.bool _|.int _ _|.rng _ _ _|.strg _ _|.str _|.np|.nils|.nilf|.nili=>true|_=>false)=true→RepP w F' v d:=by
  intro v d h hs
  cases h<;>first|(cases hs;done)|(constructor<;>assumption)|constructor
 cases h with
 | agg cs ds hl h =>
  simp only[YA,List.all_eq_true] at hs
  exact .agg cs ds hl (fun i hi=>atom (h i hi) (hs _ (List.getElem_mem hi)))
 | tup cs ds hl h =>
  simp only[YA,List.all_eq_true] at hs
  exact .tup cs ds hl (fun i hi=>atom (h i hi) (hs _ (List.getElem_mem hi)))
 | any v=>exact .any v
 | bool b=>exact .bool b
 | int k n=>exact .int k n
 | rng k lo hi n h1 h2=>exact .rng k lo hi n h1 h2
 | str s=>exact .str s
 | strg p q s b h1 h2 h=>exact .strg p q s b h1 h2 h
 | np=>exact .np
 | nils=>exact .nils
 | nilf=>exact .nilf
 | nili=>exact .nili
 | sle=>cases hs
 | sl0=>cases hs
 | sl=>cases hs
 | vp=>cases hs
 | fn=>cases hs
 | ifc=>cases hs
section
variable {P:Program} {G:Nat→Option (List D)} {Ty:Nat→Option TyI} {o:Oper} {ρ:Operand→D} {g:Nat→Option Blk} {nm:Nat}
theorem call_run{k:Nat}{f:Operand}{args:Array Operand}{tys:Array TypeId}{ev:Operand→Value}{c1 c2:Array Value}{w:World}(ho:o.op=.call { callee:=.value f,args:=args,argTypes:=tys })(hf:ev f=.func (.func k) c1 c2)(hb:HasBody P k) :
  (execOp ev o).run P w=.ok (.enter k (c1++args.map ev++c2)) w:=by
 obtain⟨fn,h1,h2,h3⟩:=hb
 have h2':fn.body.isNone=false:=by cases hq:fn.body<;>simp[hq] at h2 ⊢
 unfold execOp
 rw[ho]
 simp only[resolve,hf,Deferred.ofValue,Sem.run_bind,Sem.run_pure,Result.andThen_ok,invoke,callFunc,run_program,h1,h3,h2',Bool.false_eq_true,if_false]
theorem args_rep{w:World}{F:Nat→Prop}{ι:Nat→Option IB}{c1 c2:Array Value}{d1 d2:List D}{args:Array Operand}{ev:Operand→Value}(h1:c1.size=d1.length)(h2:c2.size=d2.length)(r1:∀ i (hi:i<d1.length),Rep w F ι (c1.getD i undef) d1[i])(r2:∀ i (hi:i<d2.length),Rep w F ι (c2.getD i undef) d2[i])
  (ha:∀ x∈args,Rep w F ι (ev x) (ρ x)):(c1++args.map ev++c2).size=(d1++args.toList.map ρ++d2).length∧∀ i (hi:i<(d1++args.toList.map ρ++d2).length),Rep w F ι ((c1++args.map ev++c2).getD i undef) (d1++args.toList.map ρ++d2)[i]:=by
 refine⟨by simp[h1,h2],fun i hi=>?_⟩
 simp only[List.length_append,List.length_map,Array.length_toList] at hi
 by_cases k1:i<d1.length
 ·have e1:(c1++args.map ev++c2).getD i undef=c1.getD i undef:=by
   simp[Array.getElem?_append,h1,k1]
  have e2:(d1++args.toList.map ρ++d2)[i]'(by simp;omega)=d1[i]:=by
   simp[k1]
  rw[e1,e2];exact r1 i k1
 ·by_cases k2:i<d1.length+args.size
  ·have k3:i - d1.length<args.size:=by omega
   have e1:(c1++args.map ev++c2).getD i undef=ev args[i - d1.length]:=by
    simp[Array.getElem?_append,h1,k1,k3]
   have e2:(d1++args.toList.map ρ++d2)[i]'(by simp;omega)=ρ args[i - d1.length]:=by
    simp[List.getElem_append,k1,k3]
   rw[e1,e2];exact ha _ (Array.getElem_mem k3)
  ·have k3:i - (d1.length+args.size)<d2.length:=by omega
   have e1:(c1++args.map ev++c2).getD i undef=c2.getD (i - (d1.length+args.size)) undef:=by
    simp[Array.getElem?_append,h1,k1,show ¬ i - d1.length<args.size by omega,Nat.sub_sub]
   have e2:(d1++args.toList.map ρ++d2)[i]'(by simp;omega)=d2[i - (d1.length+args.size)]:=by
    simp[List.getElem_append,k1,show ¬ i - d1.length<args.size by omega,Nat.sub_sub]
   rw[e1,e2];exact r2 _ k3
theorem YD:∀ (L:List Nat) (st:Nat→Option Blk) (n:Nat),updL st (L.map (fun n=>(n,none))) n=if n∈L then none else st n
 | [],st,n=>by simp[updL]
 | m::L,st,n=>by
  simp only[List.map_cons,updL,YD L,updS,List.mem_cons]
  by_cases h1:n∈L<;>by_cases h2:n=m<;>simp[h1,h2]
theorem do_call{k:Nat}{f:Operand}{args:Array Operand}{tys:Array TypeId}{d1 d2 A A':List D}{R:D}{L:List Nat}(ho:o.op=.call { callee:=.value f,args:=args,argTypes:=tys })(hf:ρ f=.fn (.func k) d1 d2)(hv:mapO (Zy g 9) (d1++args.toList.map ρ++d2)=some A)(hle:Les A A')(hp:Pure P G k A' R)
  (hs:(YA R=true∧L=[])∨∀ n,(g n).isSome=true→n∈L):Do P G o ρ g nm R (L.map (fun n=>(n,none))):=by
 intro c dom ι a w σ st K Q hP hG hr hρ hg hnm hd hK
 subst hG
 have hop:∀ x∈args,x∈o.op.operands:=fun x hx=>by rw[ho];simp[Op.operands,Call.operands,hx]
 have hvf:=Zl hr f
 rw[hρ f (by rw[ho];simp[Op.operands,Call.operands]),hf] at hvf
 obtain⟨c1,c2,ef,h1,h2,r1,r2⟩:=hvf.is_fn
 obtain⟨a1,a2⟩:=args_rep (ρ:=ρ) (ev:=a.eval) h1 h2 r1 r2 (fun x hx=>by rw[← hρ x (hop x hx)];exact Zl hr x)
 obtain⟨m1,m2⟩:=Xr hv
 obtain⟨l1,l2⟩:=hle.at
 have hlow:∀ b,Fb c ι st b→b<w.heap.size:=fun b hb=>by
  rcases hb with hb|hb
  ·have:=(hr.low b hb).1;have:=hr.hsize;omega
  ·exact (hr.own b hb).1
 unfold Oper.wp
 rw[call_run ho ef hp.body]
 rcases hs with⟨hs,rfl⟩|hs
 ·-- the result leads to no memory
  let F':Nat→Prop:=fun b=>Fb c ι st b∧∀ n ib,(g n).isSome=true→ι n=some ib→0<ib.cap→b≠ib.blk
  refine (hp.calls w F' (c1++args.map a.eval++c2) (by omega) (fun i hi=>?_) (fun gg row hgr=>?_) (fun b hb=>hlow b hb.1)).mono ?_
  ·exact (l2 i (by omega) hi).toP (view_ok hr hg F' (fun b hb=>hb) 9 _ _ _ (a2 i (by omega)) (m2 i (by omega) (by omega)))
  ·exact (hr.glob gg row hgr).mono (fun b hb _=>⟨rfl,fun h=>hb h.1⟩)
  ·rintro e w' ⟨v,rfl,hbel,hrep⟩
   refine hK _ _ ι ?_
   exact ((hr.below hbel).put v R (.pure _ _ (scalar_ok hrep hs)) o.dst hd).weaken (fun _=>Le.refl _) (fun n hn=>.inl hn)
 ·let F':Nat→Prop:=fun b=>Fb c ι st b∧∀ n ib,(g n).isSome=true→ι n=some ib→0<ib.cap→b≠ib.blk
  refine (hp.calls w F' (c1++args.map a.eval++c2) (by omega) (fun i hi=>?_) (fun gg row hgr=>?_) (fun b hb=>hlow b hb.1)).mono ?_
  ·exact (l2 i (by omega) hi).toP (view_ok hr hg F' (fun b hb=>hb) 9 _ _ _ (a2 i (by omega)) (m2 i (by omega) (by omega)))
  ·exact (hr.glob gg row hgr).mono (fun b hb _=>⟨rfl,fun h=>hb h.1⟩)
  ·rintro e w' ⟨v,rfl,hbel,hrep⟩
   refine hK _ _ ι ?_
   have hst:∀ n b,updL st (L.map (fun n=>(n,none))) n=some b→st n=some b:=by
    intro n b hn
    rw[YD] at hn
    by_cases h:n∈L
    ·rw[if_pos h] at hn;cases hn
    ·rw[if_neg h] at hn;exact hn
   have hr2:=(hr.below hbel).drop hst
   refine (hr2.put v R (.pure _ _ (hrep.mono (fun b hb hz=>⟨rfl,fun hF=>hb ?_⟩))) o.dst hd).weaken (fun _=>Le.refl _) (fun n hn=>.inl hn)
   rcases hF with hF|⟨n,ib,q1,q2,q3,q4⟩
   ·refine⟨.inl hF,fun n ib p1 p2 p3 e=>?_⟩
    subst e
    exact (hr.own ib.blk ⟨n,ib,by
     cases hgn:g n with
     | none=>rw[hgn] at p1;cases p1
     | some bb=>rw[hg n bb hgn];rfl,p2,p3,rfl⟩).2.1 hF
   ·have hn:n∉L∧(st n).isSome=true:=by
     rw[YD] at q1
     by_cases h:n∈L
     ·rw[if_pos h] at q1;cases q1
     ·rw[if_neg h] at q1;exact⟨h,q1⟩
    refine⟨.inr ⟨n,ib,hn.2,q2,q3,q4⟩,fun n2 ib2 p1 p2 p3 e=>?_⟩
    have hne:n≠n2:=fun e2=>hn.1 (e2▸hs n2 p1)
    have hs2:(st n2).isSome=true:=by
     cases hgn:g n2 with
     | none=>rw[hgn] at p1;cases p1
     | some bb=>rw[hg n2 bb hgn];rfl
    exact hr.inj n n2 hn.2 hs2 hne ib ib2 q2 p2 q3 p3 (by rw[← q4,e])
end
def resOne(Ty:Nat→Option TyI)(σ:List (Nat×D))(st:List (Nat×Blk)):ResultVar→Option D
 | .tmp t=>some (gt σ t)
 | .cell p t=>match YU (gs st) (gt σ p) with|some cs=>if cs.isEmpty then none else loadD Ty t cs|none=>none
def resV(tmps:Array Value):ResultVar→Sem Value
 | .tmp t=>pure (tmps.getD t undef)
 | .cell p t=>do loadVar t (← asAddr (tmps.getD p undef))
theorem results_eq(fn:Func)(tmps:Array Value):results fn tmps=(do let vs ← fn.results.mapM (resV tmps);pure (if h:vs.size=1 then vs[0] else .tuple vs)):=by
 unfold results
 congr 1
def resD(Ty:Nat→Option TyI)(rs:List ResultVar)(σ:List (Nat×D))(st:List (Nat×Blk)):Option D :=
 match mapO (resOne Ty σ st) rs with
 | some [d]=>Zy (gs st) 9 d
 | some ds=>Zy (gs st) 9 (.tup ds)
 | none=>none
section
variable {P:Program} {G:Nat→Option (List D)} {Ty:Nat→Option TyI} {N:Nat}
theorem results_run(hty:TyOK P Ty){c:Ctx}{dom:Nat→Prop}{ι:Nat→Option IB}{a:Act}{w:World}{σ:List (Nat×D)}{st:List (Nat×Blk)}(hr:Rel c dom ι a w (gt σ) (gs st)):∀ (rs:List ResultVar) (ds:List D),
  mapO (resOne Ty σ st) rs=some ds→∃ vs:List Value,(rs.mapM (resV a.tmps)).run P w=.ok vs w∧vs.length=ds.length∧∀ i (h1:i<vs.length) (h2:i<ds.length),Rep w (Fb c ι (gs st)) ι vs[i] ds[i]
 | [],ds,h=>by cases h;exact⟨[],rfl,rfl,fun i h1=>absurd h1 (Nat.not_lt_zero _)⟩
 | r::rs,ds,h=>by
  simp only[mapO] at h
  split at h
  ·rename_i y ys e1 e2
   cases h
   obtain⟨vs,v1,v2,v3⟩:=results_run hty hr rs ys e2
   obtain⟨v,k1,k2⟩:∃ v,(resV a.tmps r).run P w=.ok v w∧Rep w (Fb c ι (gs st)) ι v y:=by
    cases r with
    | tmp t=>cases e1;exact⟨_,rfl,hr.env t⟩
    | cell p t =>
     simp only[resOne] at e1
     split at e1
     ·rename_i cs hc
      split at e1
      ·cases e1
      ·rename_i hne
       obtain⟨b,off,f,e,hcs⟩:=cellsAt_ok hr (fun n b h=>h) (hr.env p) hc (by intro h;subst h;simp at hne)
       obtain⟨v,q1,q2⟩:=loadD_ok hty e1 hcs
       exact⟨v,by simp only[resV,e,asAddr,Sem.run_bind,Sem.run_pure,Result.andThen_ok,q1],q2⟩
     ·cases e1
   refine⟨v::vs,?_,by simp[v2],fun i h1 h2=>?_⟩
   ·simp only[List.mapM_cons,Sem.run_bind,k1,Result.andThen_ok,v1]
    rfl
   ·cases i with
    | zero=>exact k2
    | succ i=>exact v3 i (by simpa using h1) (by simpa using h2)
  ·cases h
def argsL(args:List D):List (Nat×D):=args.zipIdx.map (fun p=>(p.2,p.1))
theorem gt_argsL(args:List D)(t:Nat):gt (argsL args) t=args.getD t .any:=by
 have key:∀ (l:List D) (s t:Nat),gt ((l.zipIdx s).map (fun p=>(p.2,p.1))) t=if t<s then .any else l.getD (t - s) .any:=by
  intro l
  induction l with
  | nil=>intro s t;by_cases h:t<s<;>simp[gt,h]
  | cons d l ih =>
   intro s t
   simp only[List.zipIdx_cons,List.map_cons,gt,ih]
   by_cases h1:t=s
   ·subst h1;simp
   ·by_cases h2:t<s
    ·simp[h1,h2,show t<s+1 by omega]
    ·simp only[h1,if_false,show ¬ t<s+1 by omega,h2]
     rw[show t - s=(t - (s+1))+1 by omega]
     simp
 have:=key args 0 t
 simpa[argsL] using this
theorem pure_of(hty:TyOK P Ty){k:Nat}{fn:Func}{code:Code}{args:List D}{R:D}(hf:P.funcs[k]? = some fn)(hb:fn.body=some code){N:Nat}(hNt:fn.ntmps=N)(hn:(fn.name == "runtime.NumGoroutine")=false)(hN:args.length≤N)
  (h:awp P G N code (fun e _ σ st=>(e=.normal∨e=.ret)∧∃ R',resD Ty fn.results.toList σ st=some R'∧Le R' R) 0 (argsL args) []):Pure P G k args R:=by
 subst hNt
 refine⟨⟨fn,hf,by rw[hb];rfl,hn⟩,fun w F vs hsz hrep hglob hlow=>?_⟩
 refine calls_of_wp hf hb ?_
 have hO:∀ b,Own (fun _=>none) (gs []) b→False:=fun b ⟨n,ib,h1,_⟩=>by simp[gs] at h1
 have hr:Rel ⟨P,G,fn.ntmps,F,w,fun _=>False,[],fun _=>none⟩ (·<0) (fun _=>none) { tmps:=vs++Array.replicate (fn.ntmps - vs.size) undef,defers:=[] } w (gt (argsL args)) (gs []):=by
  refine⟨by simp;omega,rfl,fun t=>?_,fun n b h=>by simp[gs] at h,fun n m h=>by simp[gs] at h,fun n h=>by simp at h,rfl,rfl,rfl,Nat.le_refl _,fun b _ _=>rfl,fun b hb=>⟨hlow b hb,id⟩,fun b hb=>(hO b hb).elim,fun g row hg=>?_,fun n ib h=>by cases h⟩
  ·rw[gt_argsL]
   by_cases ht:t<args.length
   ·have e1:(vs++Array.replicate (fn.ntmps - vs.size) undef).getD t undef=vs.getD t undef:=by
     simp[Array.getElem?_append,hsz,ht]
    have e2:args.getD t .any=args[t]:=by simp[ht]
    rw[e1,e2]
    exact .pure _ _ ((hrep t ht).mono (fun b hb _=>⟨rfl,fun hF=>hF.elim hb (fun h=>hO b h)⟩))
   ·have e2:args.getD t .any=.any:=by simp[show args.length≤t by omega]
    rw[e2];exact .pure _ _ (.any _)
  ·exact (hglob g row hg).mono (fun b hb _=>⟨rfl,fun hF=>hF.elim hb (fun h=>hO b h)⟩)
 refine wp_mono (h F w (fun _=>False) [] (fun _=>none) _ _ _ hr) ?_
 rintro e a' w' ⟨nx',ι',σ',st',hr',he,R',hR,hle⟩
 have key:a'.defers=[]∧∃ v,(results fn a'.tmps).run P w'=.ok v w'∧(∃ v',Ending.returned v=.returned v'∧Below w.heap.size w w'∧RepP w' F v' R):=by
  refine⟨hr'.defers,?_⟩
  unfold resD at hR
  cases hm:mapO (resOne Ty σ' st') fn.results.toList with
  | none=>rw[hm] at hR;cases hR
  | some ds =>
   rw[hm] at hR
   obtain⟨vs',v1,v2,v3⟩:=results_run hty hr' _ ds hm
   have hbel:Below w.heap.size w w':=⟨hr'.os,hr'.tape,hr'.output,hr'.hsize,fun b hb=>hr'.keep b hb id⟩
   have hrun:∀ v,(if h:vs'.toArray.size=1 then vs'.toArray[0] else .tuple vs'.toArray)=v→(results fn a'.tmps).run P w'=.ok v w':=by
    intro v hv
    rw[results_eq,Array.mapM_eq_mapM_toList]
    simp only[Sem.run_bind,Sem.run_map,v1,Result.andThen_ok]
    rw[← hv];rfl
   have hvw:∀ v d,Rep w' (Fb ⟨P,G,fn.ntmps,F,w,fun _=>False,[],fun _=>none⟩ ι' (gs st')) ι' v d→Zy (gs st') 9 d=some R'→RepP w' F v R:=by
    intro v d hv hd
    refine hle.toP (view_ok hr' (fun n b h=>h) F (fun b hb=>⟨.inl hb,fun n ib p1 p2 p3 e=>?_⟩) 9 v d R' hv hd)
    subst e
    exact (hr'.own ib.blk ⟨n,ib,p1,p2,p3,rfl⟩).2.1 hb
   match ds,vs',v2,v3,hrun,hR with
   | [d],[v],_,v3,hrun,hR=>exact⟨v,hrun v rfl,v,rfl,hbel,hvw v d (v3 0 (by simp) (by simp)) hR⟩
   | [],[],_,v3,hrun,hR =>
    exact⟨.tuple #[],hrun _ rfl,_,rfl,hbel,hvw _ _ (.tup #[] [] rfl (fun i hi=>absurd hi (Nat.not_lt_zero _))) hR⟩
   | d1::d2::ds,v1::v2'::vs',v2,v3,hrun,hR =>
    refine⟨.tuple (v1::v2'::vs').toArray,hrun _ (by simp),_,rfl,hbel,hvw _ _ (.tup _ _ (by simpa using v2) (fun i hi=>?_)) hR⟩
    have hi2:i<(v1::v2'::vs').length:=by omega
    have e:(v1::v2'::vs').toArray.getD i undef=(v1::v2'::vs')[i]:=by
     rw[Array.getD_eq_getD_getElem?,List.getElem?_toArray,List.getElem?_eq_getElem hi2];rfl
    rw[e];exact v3 i hi2 hi
 rcases he with rfl|rfl
 ·exact key
 ·exact key
end
end
section
open Go Go.RowKit
mutual
def D.ren(f:Nat→Nat):D→D
 | .bp n off=>.bp (f n) off
 | .ap n hl i off=>.ap (f n) hl i off
 | .os n hl lo len=>.os (f n) hl lo len
 | .rf n ch=>.rf (f n) ch
 | .agg cs=>.agg (D.rens f cs)
 | .tup cs=>.tup (D.rens f cs)
 | .fn g a b=>.fn g (D.rens f a) (D.rens f b)
 | .ifc t d=>.ifc t (D.ren f d)
 | d=>d
def D.rens(f:Nat→Nat):List D→List D
 | []=>[]
 | d::ds=>D.ren f d::D.rens f ds
end
mutual
def D.inn(p:Nat→Bool):D→Bool
 | .bp n _|.ap n _ _ _|.os n _ _ _|.rf n _=>p n
 | .agg cs|.tup cs=>D.inns p cs
 | .fn _ a b=>D.inns p a&&D.inns p b
 | .ifc _ d=>D.inn p d
 | _=>true
def D.inns(p:Nat→Bool):List D→Bool
 | []=>true
 | d::ds=>D.inn p d&&D.inns p ds
end
theorem D.inns_at{p:Nat→Bool}:∀ {ds:List D},D.inns p ds=true→∀ i (hi:i<ds.length),D.inn p ds[i]=true
 | [],_,i,hi=>absurd hi (Nat.not_lt_zero _)
 | d::ds,h,i,hi=>by
  simp only[D.inns,Bool.and_eq_true] at h
  cases i with
  | zero=>exact h.1
  | succ i=>exact D.inns_at h.2 i (by simpa using hi)
theorem D.rens_length(f:Nat→Nat):∀ ds:List D,(D.rens f ds).length=ds.length
 | []=>rfl
 | d::ds=>by simp[D.rens,D.rens_length f ds]
theorem D.rens_at(f:Nat→Nat):∀ (ds:List D) (i:Nat) (h1:i<(D.rens f ds).length) (h2:i<ds.length),(D.rens f ds)[i]=D.ren f ds[i]
 | [],i,h1,h2=>absurd h2 (Nat.not_lt_zero _)
 | d::ds,0,_,_=>rfl
 | d::ds,i+1,h1,h2=>by
  simp only[D.rens,List.getElem_cons_succ]
  exact D.rens_at f ds i (by simpa[D.rens] using h1) (by simpa using h2)
theorem RepP.ren{w:World}{F:Nat→Prop}{f:Nat→Nat}{v:Value}{d:D}(h:RepP w F v d):RepP w F v (d.ren f):=by
 induction h with
 | agg cs ds hl h ih=>exact .agg _ _ (by rw[D.rens_length];exact hl) (fun i hi=>by rw[D.rens_at f ds i hi (by rw[D.rens_length] at hi;exact hi)];exact ih i _)
 | tup cs ds hl h ih=>exact .tup _ _ (by rw[D.rens_length];exact hl) (fun i hi=>by rw[D.rens_at f ds i hi (by rw[D.rens_length] at hi;exact hi)];exact ih i _)
 | fn g c1 c2 d1 d2 h1 h2 r1 r2 i1 i2=>exact .fn _ _ _ _ _ (by rw[D.rens_length];exact h1) (by rw[D.rens_length];exact h2) (fun i hi=>by rw[D.rens_at f d1 i hi (by rw[D.rens_length] at hi;exact hi)];exact i1 i _) (fun i hi=>by rw[D.rens_at f d2 i hi (by rw[D.rens_length] at hi;exact hi)];exact i2 i _)
 | ifc t v d h ih=>exact .ifc _ _ _ ih
 | any v=>exact .any v
 | bool b=>exact .bool b
 | int k n=>exact .int k n
 | rng k lo hi n h1 h2=>exact .rng k lo hi n h1 h2
 | str s=>exact .str s
 | strg p q s b h1 h2 h=>exact .strg p q s b h1 h2 h
 | np=>exact .np
 | nils=>exact .nils
 | nilf=>exact .nilf
 | nili=>exact .nili
 | sle a cap=>exact .sle a cap
 | sl0 a cap h0=>exact .sl0 a cap h0
 | sl b off es cap rows vs hc hF hes hm hz hr ih=>exact .sl b off es cap rows vs hc hF hes hm hz hr
 | vp b off row vs hF hm hz hr ih=>exact .vp b off row vs hF hm hz hr
theorem Rep.ren{w:World}{F:Nat→Prop}{ι ι':Nat→Option IB}{f:Nat→Nat}{p:Nat→Bool}{v:Value}{d:D}(h:Rep w F ι v d)(hi:d.inn p=true)(hf:∀ n ib,p n=true→ι n=some ib→ι' (f n)=some ib):Rep w F ι' v (d.ren f):=by
 induction h with
 | pure v d h=>exact .pure _ _ h.ren
 | agg cs ds hl h ih=>exact .agg _ _ (by rw[D.rens_length];exact hl) (fun i h1=>by
   have h2:i<ds.length:=by rw[D.rens_length] at h1;exact h1
   rw[D.rens_at f ds i h1 h2];exact ih i h2 (D.inns_at (by simpa only[D.inn] using hi) i h2))
 | tup cs ds hl h ih=>exact .tup _ _ (by rw[D.rens_length];exact hl) (fun i h1=>by
   have h2:i<ds.length:=by rw[D.rens_length] at h1;exact h1
   rw[D.rens_at f ds i h1 h2];exact ih i h2 (D.inns_at (by simpa only[D.inn] using hi) i h2))
 | fn g c1 c2 d1 d2 h1 h2 r1 r2 i1 i2 =>
  simp only[D.inn,Bool.and_eq_true] at hi
  exact .fn _ _ _ _ _ (by rw[D.rens_length];exact h1) (by rw[D.rens_length];exact h2) (fun i k1=>by
   have k2:i<d1.length:=by rw[D.rens_length] at k1;exact k1
   rw[D.rens_at f d1 i k1 k2];exact i1 i k2 (D.inns_at hi.1 i k2)) (fun i k1=>by
   have k2:i<d2.length:=by rw[D.rens_length] at k1;exact k1
   rw[D.rens_at f d2 i k1 k2];exact i2 i k2 (D.inns_at hi.2 i k2))
 | ifc t v d h ih=>exact .ifc _ _ _ (ih (by simpa only[D.inn] using hi))
 | bp n off ib hn hb=>exact .bp _ _ ib (hf n ib (by simpa only[D.inn] using hi) hn) hb
 | ap n hl i off ib v hn hle h1 h=>exact .ap _ _ _ _ ib _ (hf n ib (by simpa only[D.inn] using hi) hn) hle h1 h
 | os n hl lo len ib v hn hle h1 h=>exact .os _ _ _ _ ib _ (hf n ib (by simpa only[D.inn] using hi) hn) hle h1 h
 | rf n ch ib v hn hb hv=>exact .rf _ _ ib _ (hf n ib (by simpa only[D.inn] using hi) hn) hb hv
def Blk.ren(f:Nat→Nat):Blk→Blk
 | .box cs=>.box (D.rens f cs)
 | .mp ks cs=>.mp ks (D.rens f cs)
 | b=>b
def Blk.inn(p:Nat→Bool):Blk→Bool
 | .box cs=>D.inns p cs
 | .mp _ cs=>D.inns p cs
 | .arr _ _|.obj _|.deck _=>true
theorem BlkRep.ren{w:World}{F:Nat→Prop}{ι ι':Nat→Option IB}{f:Nat→Nat}{p:Nat→Bool}{n:Nat}{b:Blk}(h:BlkRep w F ι n b)(hi:b.inn p=true)(hn:p n=true)(hf:∀ n ib,p n=true→ι n=some ib→ι' (f n)=some ib):BlkRep w F ι' (f n) (b.ren f):=by
 cases b with
 | box cs =>
  obtain⟨ib,vs,ty,h1,h2,h3,h4,h5,h6⟩:=h
  refine⟨ib,vs,ty,hf n ib hn h1,h2,h3,h4,by rw[D.rens_length];exact h5,fun i k1=>?_⟩
  have k2:i<cs.length:=by rw[D.rens_length] at k1;exact k1
  rw[D.rens_at f cs i k1 k2]
  exact (h6 i k2).ren (D.inns_at hi i k2) hf
 | arr es rows =>
  obtain⟨ib,h1,h2⟩:=h
  exact⟨ib,hf n ib hn h1,h2⟩
 | obj q =>
  obtain⟨ib,o,h1,h2⟩:=h
  exact⟨ib,o,hf n ib hn h1,h2⟩
 | mp ks cs =>
  obtain⟨ib,es,ck,h1,h2,h3,h4,h5,h6,hB,h8⟩:=h
  refine⟨ib,es,ck,hf n ib hn h1,h2,h3,h4,by rw[D.rens_length];exact h5,h6,hB,fun i k1=>?_⟩
  have k2:i<cs.length:=by rw[D.rens_length] at k1;exact k1
  rw[D.rens_at f cs i k1 k2]
  exact (h8 i k2).ren (D.inns_at hi i k2) hf
 | deck sc =>
  obtain⟨ib,v0,ty,xs,i,s,h1,h2⟩:=h
  exact⟨ib,v0,ty,xs,i,s,hf n ib hn h1,h2⟩
def act0:Act:={ tmps:=#[],defers:=[] }
def any0:Nat→D:=fun _=>.any
def Ctx.bare(c:Ctx):Ctx:={ c with N:=0,df:=[] }
theorem Rel.bare{c:Ctx}{dom:Nat→Prop}{ι:Nat→Option IB}{a:Act}{w:World}{σ:Nat→D}{st:Nat→Option Blk}(h:Rel c dom ι a w σ st):Rel c.bare dom ι act0 w any0 st :=
 ⟨rfl,rfl,fun _t=>.pure _ _ (.any _),h.blk,h.inj,h.dom,h.os,h.tape,h.output,h.hsize,h.keep,h.low,h.own,h.glob,h.grow⟩
theorem Rel.dress{c:Ctx}{dom dom':Nat→Prop}{ι ι':Nat→Option IB}{a:Act}{w w':World}{σ:Nat→D}{st st':Nat→Option Blk}(h:Rel c dom ι a w σ st)(h':Rel c.bare dom' ι' act0 w' any0 st')(hm:∀ v d,Rep w (Fb c ι st) ι v d→Rep w' (Fb c ι' st') ι' v d):Rel c dom' ι' a w' σ st' :=
 ⟨h.size,h.defers,fun t=>hm _ _ (h.env t),h'.blk,h'.inj,h'.dom,h'.os,h'.tape,h'.output,h'.hsize,h'.keep,h'.low,h'.own,h'.glob,h'.grow⟩
structure Imp(P:Program)(G:Nat→Option (List D))(k:Nat)(args:List D)(gl:List (Nat×Blk))(nm:Nat)(R:D)(upd:List (Nat×Option Blk)):Prop where
 body:HasBody P k
 calls:∀ (c:Ctx) (dom:Nat→Prop) (ι:Nat→Option IB) (w:World) (st:Nat→Option Blk) (vs:Array Value),c.P=P→c.G=G→Rel c.bare dom ι act0 w any0 st→(∀ p∈gl,st p.1=some p.2)→¬ dom nm→vs.size=args.length→(∀ i (hi:i<args.length),Rep w (Fb c ι st) ι (vs.getD i undef) args[i]) →
  Calls P k vs w (fun e w'=>∃ v ι',e=.returned v∧Rel c.bare (fun n=>dom n∨n=nm) ι' act0 w' any0 (updL st upd)∧Rep w' (Fb c ι' (updL st upd)) ι' v R∧∀ v d,Rep w (Fb c ι st) ι v d→Rep w' (Fb c ι' (updL st upd)) ι' v d)
section
variable {P:Program} {G:Nat→Option (List D)} {o:Oper} {ρ:Operand→D} {g:Nat→Option Blk} {nm:Nat}
theorem do_callI{k:Nat}{f:Operand}{args:Array Operand}{tys:Array TypeId}{d1 d2:List D}{R:D}{gl:List (Nat×Blk)}{upd:List (Nat×Option Blk)}(ho:o.op=.call { callee:=.value f,args:=args,argTypes:=tys })(hf:ρ f=.fn (.func k) d1 d2)
  (hp:Imp P G k (d1++args.toList.map ρ++d2) gl nm R upd) (hgl:∀ p∈gl,g p.1=some p.2):Do P G o ρ g nm R upd:=by
 intro c dom ι a w σ st K Q hP hG hr hρ hg hnm hd hK
 have hG':=hG
 subst hG
 have hop:∀ x∈args,x∈o.op.operands:=fun x hx=>by rw[ho];simp[Op.operands,Call.operands,hx]
 have hvf:=Zl hr f
 rw[hρ f (by rw[ho];simp[Op.operands,Call.operands]),hf] at hvf
 obtain⟨c1,c2,ef,h1,h2,r1,r2⟩:=hvf.is_fn
 obtain⟨a1,a2⟩:=args_rep (ρ:=ρ) (ev:=a.eval) h1 h2 r1 r2 (fun x hx=>by rw[← hρ x (hop x hx)];exact Zl hr x)
 unfold Oper.wp
 rw[call_run ho ef hp.body]
 refine (hp.calls c dom ι w st _ hP hG' hr.bare (fun p hp'=>hg _ _ (hgl p hp')) hnm a1 a2).mono ?_
 rintro e w' ⟨v,ι',rfl,hr',hv,hm⟩
 exact hK _ _ ι' ((hr.dress hr' hm).put v R hv o.dst hd)
end
end
section
open Go Go.RowKit
def YJ(p:Nat→Bool)(g:Nat→Option Blk):Nat→D→Option D
 | 0,_=>none
 | k+1,.agg cs=>(mapO (YJ p g k) cs).map .agg
 | k+1,.tup cs=>(mapO (YJ p g k) cs).map .tup
 | k+1,.fn f a b=>match mapO (YJ p g k) a,mapO (YJ p g k) b with|some a',some b'=>some (.fn f a' b')|_,_=>none
 | k+1,.ifc t d=>(YJ p g k d).map (.ifc t)
 | k+1,.bp n off=>if p n then some (.bp n off) else Zy g (k+1) (.bp n off)
 | k+1,.ap n hl i off=>if p n then some (.ap n hl i off) else Zy g (k+1) (.ap n hl i off)
 | k+1,.os n hl lo len=>if p n then some (.os n hl lo len) else Zy g (k+1) (.os n hl lo len)
 | _+1,.rf n ch=>if p n then some (.rf n ch) else none
 | _+1,d=>some d
theorem viewK_ok{c:Ctx}{dom:Nat→Prop}{ι:Nat→Option IB}{a:Act}{w:World}{σ:Nat→D}{st g:Nat→Option Blk}(hr:Rel c dom ι a w σ st)(hg:∀ n b,g n=some b→st n=some b)(p:Nat→Bool)(_hgp:∀ n,p n=true→g n=none)(F':Nat→Prop)
  (hF:∀ b,F' b→Fb c ι st b∧∀ n ib,(g n).isSome=true→ι n=some ib→0<ib.cap→b≠ib.blk):∀ (k:Nat) (v:Value) (d d':D),Rep w (Fb c ι st) ι v d→YJ p g k d=some d'→Rep w F' ι v d':=by
 intro k
 induction k with
 | zero=>intro v d d' _ h;cases h
 | succ k ih =>
  have lst:∀ (cs:Array Value) (ds r:List D),cs.size=ds.length→(∀ i (hi:i<ds.length),Rep w (Fb c ι st) ι (cs.getD i undef) ds[i])→mapO (YJ p g k) ds=some r→cs.size=r.length∧∀ i (hi:i<r.length),Rep w F' ι (cs.getD i undef) r[i]:=by
   intro cs ds r hl hrep hm
   obtain⟨m1,m2⟩:=Xr hm
   exact⟨by omega,fun i hi=>ih _ _ _ (hrep i (by omega)) (m2 i (by omega) hi)⟩
  intro v d d' hv h
  have seen:∀ {d d':D},Rep w (Fb c ι st) ι v d→Zy g (k+1) d=some d'→Rep w F' ι v d':=fun hv h=>.pure _ _ (view_ok hr hg F' hF (k+1) _ _ _ hv h)
  cases d with
  | agg cs =>
   simp only[YJ] at h
   cases hm:mapO (YJ p g k) cs with
   | none=>rw[hm] at h;cases h
   | some r =>
    rw[hm] at h;cases h
    obtain⟨vs,rfl,hl,hrep⟩:=hv.is_agg
    obtain⟨l1,l2⟩:=lst vs cs r hl hrep hm
    exact .agg _ _ l1 l2
  | tup cs =>
   simp only[YJ] at h
   cases hm:mapO (YJ p g k) cs with
   | none=>rw[hm] at h;cases h
   | some r =>
    rw[hm] at h;cases h
    obtain⟨vs,rfl,hl,hrep⟩:=hv.is_tup
    obtain⟨l1,l2⟩:=lst vs cs r hl hrep hm
    exact .tup _ _ l1 l2
  | fn f d1 d2 =>
   simp only[YJ] at h
   split at h
   ·rename_i a' b' e1 e2
    cases h
    obtain⟨c1,c2,rfl,h1,h2,r1,r2⟩:=hv.is_fn
    obtain⟨l1,l2⟩:=lst c1 d1 a' h1 r1 e1
    obtain⟨l3,l4⟩:=lst c2 d2 b' h2 r2 e2
    exact .fn _ _ _ _ _ l1 l3 l2 l4
   ·cases h
  | ifc t d =>
   simp only[YJ] at h
   cases hm:YJ p g k d with
   | none=>rw[hm] at h;cases h
   | some r =>
    rw[hm] at h;cases h
    obtain⟨u,rfl,hu⟩:=hv.is_ifc
    exact .ifc _ _ _ (ih _ _ _ hu hm)
  | bp n off =>
   simp only[YJ] at h
   split at h
   ·cases h
    cases hv with
    | pure _ _ h=>cases h
    | bp n off ib hn hb=>exact .bp n off ib hn hb
   ·exact seen hv h
  | ap n hl i off =>
   simp only[YJ] at h
   split at h
   ·cases h
    cases hv with
    | pure _ _ h=>cases h
    | ap n hl i off ib v hn hle h1 h=>exact .ap n hl i off ib v hn hle h1 h
   ·exact seen hv h
  | os n hl lo len =>
   simp only[YJ] at h
   split at h
   ·cases h
    cases hv with
    | pure _ _ h=>cases h
    | os n hl lo len ib v hn hle h1 h=>exact .os n hl lo len ib v hn hle h1 h
   ·exact seen hv h
  | rf n ch =>
   simp only[YJ] at h
   split at h
   ·cases h
    cases hv with
    | pure _ _ h=>cases h
    | rf n ch ib v hn hb hv=>exact .rf n ch ib v hn hb hv
   ·cases h
  | _ =>
   cases h
   cases hv with
   | pure _ _ h=>exact .pure _ _ (h.mono (fun b h1 _=>⟨rfl,fun h2=>h1 (hF b h2).1⟩))
def resR(Ty:Nat→Option TyI)(rs:List ResultVar)(σ:List (Nat×D))(st:List (Nat×Blk)):Option D :=
 match mapO (resOne Ty σ st) rs with
 | some [d]=>some d
 | some ds=>some (.tup ds)
 | none=>none
def hasB(gl:List (Nat×Blk))(n:Nat):Bool:=gl.any (fun p=>p.1==n)
def renN(n1 nm:Nat):Nat→Nat:=fun n=>if n=n1 then nm else n
def ImpPost(Ty:Nat→Option TyI)(rs:List ResultVar)(gl:List (Nat×Blk))(nx1 nm n1:Nat)(R:D)(upd:List (Nat×Option Blk))(σ:List (Nat×D))(st:List (Nat×Blk)):Prop :=
 ∃ R0 R1,resR Ty rs σ st=some R0∧YJ (fun n=>hasB gl n||n==n1) (fun n=>if hasB gl n||n==n1 then none else gs st n) 9 R0=some R1∧nx1≤n1∧R1.inn (fun n=>hasB gl n||n==n1)=true∧R1.ren (renN n1 nm)=R ∧
  ∀ q∈upd,∀ b,q.2=some b→(if q.1=nm then ∃ b1,gs st n1=some b1∧b1.inn (fun n=>hasB gl n||n==n1)=true∧b1.ren (renN n1 nm)=b else ∃ b1,gs st q.1=some b1∧b1.inn (fun n=>hasB gl n||n==n1)=true∧b1.ren (renN n1 nm)=b)
theorem Rep.res{w:World}{F:Nat→Prop}{ι ι':Nat→Option IB}{p:Nat→Bool}{v:Value}{d:D}(h:Rep w F ι v d)(hi:d.inn p=true)(hf:∀ n ib,p n=true→ι n=some ib→ι' n=some ib):Rep w F ι' v d:=by
 induction h with
 | pure v d h=>exact .pure _ _ h
 | agg cs ds hl h ih=>exact .agg _ _ hl (fun i h1=>ih i h1 (D.inns_at (by simpa only[D.inn] using hi) i h1))
 | tup cs ds hl h ih=>exact .tup _ _ hl (fun i h1=>ih i h1 (D.inns_at (by simpa only[D.inn] using hi) i h1))
 | fn g c1 c2 d1 d2 h1 h2 r1 r2 i1 i2 =>
  simp only[D.inn,Bool.and_eq_true] at hi
  exact .fn _ _ _ _ _ h1 h2 (fun i k1=>i1 i k1 (D.inns_at hi.1 i k1)) (fun i k1=>i2 i k1 (D.inns_at hi.2 i k1))
 | ifc t v d h ih=>exact .ifc _ _ _ (ih (by simpa only[D.inn] using hi))
 | bp n off ib hn hb=>exact .bp _ _ ib (hf n ib (by simpa only[D.inn] using hi) hn) hb
 | ap n hl i off ib v hn hle h1 h=>exact .ap _ _ _ _ ib _ (hf n ib (by simpa only[D.inn] using hi) hn) hle h1 h
 | os n hl lo len ib v hn hle h1 h=>exact .os _ _ _ _ ib _ (hf n ib (by simpa only[D.inn] using hi) hn) hle h1 h
 | rf n ch ib v hn hb hv=>exact .rf _ _ ib _ (hf n ib (by simpa only[D.inn] using hi) hn) hb hv
theorem BlkRep.res{w:World}{F:Nat→Prop}{ι ι':Nat→Option IB}{p:Nat→Bool}{n:Nat}{b:Blk}(h:BlkRep w F ι n b)(hi:b.inn p=true)(hn:p n=true)(hf:∀ n ib,p n=true→ι n=some ib→ι' n=some ib):BlkRep w F ι' n b:=by
 cases b with
 | box cs =>
  obtain⟨ib,vs,ty,h1,h2,h3,h4,h5,h6⟩:=h
  exact⟨ib,vs,ty,hf n ib hn h1,h2,h3,h4,h5,fun i k1=>(h6 i k1).res (D.inns_at hi i k1) hf⟩
 | arr es rows =>
  obtain⟨ib,h1,h2⟩:=h
  exact⟨ib,hf n ib hn h1,h2⟩
 | obj q =>
  obtain⟨ib,o,h1,h2⟩:=h
  exact⟨ib,o,hf n ib hn h1,h2⟩
 | mp ks cs =>
  obtain⟨ib,es,ck,h1,h2,h3,h4,h5,h6,hB,h8⟩:=h
  exact⟨ib,es,ck,hf n ib hn h1,h2,h3,h4,h5,h6,hB,fun i k1=>(h8 i k1).res (D.inns_at hi i k1) hf⟩
 | deck sc =>
  obtain⟨ib,v0,ty,xs,i,s,h1,h2⟩:=h
  exact⟨ib,v0,ty,xs,i,s,hf n ib hn h1,h2⟩
theorem BlkRep.forb{w:World}{F F':Nat→Prop}{ι:Nat→Option IB}{n:Nat}{b:Blk}(h:BlkRep w F ι n b)(hF:∀ b,F' b→F b):BlkRep w F' ι n b :=
 h.mono (fun b h1 _=>⟨rfl,fun h2=>h1 (hF b h2)⟩) (Grows.refl _) rfl (fun _ _ _=>rfl)
theorem hasB_iff{gl:List (Nat×Blk)}{n:Nat}:hasB gl n=true↔∃ b,(n,b)∈gl:=by
 unfold hasB
 rw[List.any_eq_true]
 constructor
 ·rintro⟨⟨m,b⟩,h1,h2⟩
  have:m=n:=by simpa using h2
  subst this;exact⟨b,h1⟩
 ·rintro⟨b,h⟩;exact⟨(n,b),h,by simp⟩
theorem updL_mem:∀ {l:List (Nat×Option Blk)} {st:Nat→Option Blk} {n:Nat},n∈l.map (·.1)→∃ ob,(n,ob)∈l∧updL st l n=ob
 | [],_,_,h=>by cases h
 | (m,b)::l,st,n,h=>by
  by_cases hn:n∈l.map (·.1)
  ·obtain⟨ob,h1,h2⟩:=updL_mem (st:=updS st m b) hn
   exact⟨ob,List.mem_cons_of_mem _ h1,h2⟩
  ·simp only[List.map_cons,List.mem_cons] at h
   rcases h with h|h
   ·subst h
    exact⟨b,by simp,by rw[updL,Yo hn];simp[updS]⟩
   ·exact absurd h hn
section
variable {P:Program} {G:Nat→Option (List D)} {Ty:Nat→Option TyI}
theorem results_all(hty:TyOK P Ty){c:Ctx}{dom:Nat→Prop}{ι:Nat→Option IB}{a:Act}{w:World}{σ:List (Nat×D)}{st:List (Nat×Blk)}(hr:Rel c dom ι a w (gt σ) (gs st)){fn:Func}{R:D}(h:resR Ty fn.results.toList σ st=some R) :
  ∃ v,(results fn a.tmps).run P w=.ok v w∧Rep w (Fb c ι (gs st)) ι v R:=by
 unfold resR at h
 cases hm:mapO (resOne Ty σ st) fn.results.toList with
 | none=>rw[hm] at h;cases h
 | some ds =>
  rw[hm] at h
  obtain⟨vs,v1,v2,v3⟩:=results_run hty hr _ ds hm
  have hrun:∀ v,(if h:vs.toArray.size=1 then vs.toArray[0] else .tuple vs.toArray)=v→(results fn a.tmps).run P w=.ok v w:=by
   intro v hv
   rw[results_eq,Array.mapM_eq_mapM_toList]
   simp only[Sem.run_bind,Sem.run_map,v1,Result.andThen_ok]
   rw[← hv];rfl
  match ds,vs,v2,v3,hrun,h with
  | [d],[v],_,v3,hrun,h=>cases h;exact⟨v,hrun v rfl,v3 0 (by simp) (by simp)⟩
  | [],[],_,v3,hrun,h=>cases h;exact⟨.tuple #[],hrun _ rfl,.tup #[] [] rfl (fun i hi=>absurd hi (Nat.not_lt_zero _))⟩
  | d1::d2::ds,v1::v2'::vs',v2,v3,hrun,h =>
   cases h
   refine⟨.tuple (v1::v2'::vs').toArray,hrun _ (by simp),.tup _ _ (by simpa using v2) (fun i hi=>?_)⟩
   have hi2:i<(v1::v2'::vs').length:=by omega
   have e:(v1::v2'::vs').toArray.getD i undef=(v1::v2'::vs')[i]:=by
    rw[Array.getD_eq_getD_getElem?,List.getElem?_toArray,List.getElem?_eq_getElem hi2];rfl
   rw[e];exact v3 i hi2 hi
theorem imp_of(hty:TyOK P Ty){k:Nat}{fn:Func}{code:Code}{args:List D}{gl:List (Nat×Blk)}{nm nx1 N:Nat}{R:D}{upd:List (Nat×Option Blk)}(hf:P.funcs[k]? = some fn)(hb:fn.body=some code)(hNt:fn.ntmps=N)(hn:(fn.name == "runtime.NumGoroutine")=false)(hN:args.length≤N)
  (hlt:∀ p∈gl,p.1<nx1) (hargs:D.inns (hasB gl) args=true) (hgin:∀ p∈gl,p.2.inn (hasB gl)=true) (hgs:∀ p∈gl,gs gl p.1=some p.2) (hcov:∀ p∈gl,p.1∈upd.map (·.1)) (hupd:∀ q∈upd,q.1=nm∨hasB gl q.1=true)
  (h:awp P G N code (fun e _ σ st=>(e=.normal∨e=.ret)∧∃ n1,ImpPost Ty fn.results.toList gl nx1 nm n1 R upd σ st) nx1 (argsL args) gl):Imp P G k args gl nm R upd:=by
 subst hNt
 refine⟨⟨fn,hf,by rw[hb];rfl,hn⟩,fun c dom ι w st vs hP hG hr hst hnm hsz hrep=>?_⟩
 subst hP;subst hG
 refine calls_of_wp hf hb ?_
 have hsome:∀ n,hasB gl n=true→∃ b,gs gl n=some b∧st n=some b:=fun n hn'=>by
  obtain⟨b,hb'⟩:=hasB_iff.1 hn'
  exact⟨b,hgs _ hb',hst _ hb'⟩
 have hgssome:∀ n b,gs gl n=some b→hasB gl n=true∧st n=some b:=fun n b hn'=>by
  have hm:=gs_mem hn'
  exact⟨hasB_iff.2 ⟨b,hm⟩,hst _ hm⟩
 obtain⟨ι1,hι1⟩:∃ ι1:Nat→Option IB,ι1=fun n=>if hasB gl n then ι n else none:=⟨_,rfl⟩
 have i1:∀ n,hasB gl n=true→ι1 n=ι n:=fun n hn'=>by rw[hι1];simp[hn']
 have i0:∀ n,hasB gl n=false→ι1 n=none:=fun n hn'=>by rw[hι1];simp[hn']
 obtain⟨B1,hB1⟩:∃ B1:Nat→Prop,B1=fun b=>c.B b∨∃ n ib,(st n).isSome=true∧hasB gl n=false∧ι n=some ib∧0<ib.cap∧b=ib.blk:=⟨_,rfl⟩
 obtain⟨O1,hO1⟩:∃ O1:Nat→Prop,O1=fun b=>∃ n ib,hasB gl n=true∧ι n=some ib∧0<ib.cap∧b=ib.blk:=⟨_,rfl⟩
 let c1:Ctx:=⟨c.P,c.G,fn.ntmps,B1,w,O1,[],ι1⟩
 have ownO:∀ b,Own ι1 (gs gl) b↔O1 b:=by
  intro b
  rw[hO1]
  constructor
  ·rintro⟨n,ib,h1,h2,h3,h4⟩
   cases hg:gs gl n with
   | none=>rw[hg] at h1;cases h1
   | some bb =>
    have:=(hgssome n bb hg).1
    exact⟨n,ib,this,by rw[← i1 n this];exact h2,h3,h4⟩
  ·rintro⟨n,ib,h1,h2,h3,h4⟩
   obtain⟨b,e1,e2⟩:=hsome n h1
   exact⟨n,ib,by rw[e1];rfl,by rw[i1 n h1];exact h2,h3,h4⟩
 have oOwn:∀ b,O1 b→Own ι st b:=by
  intro b hb'
  rw[hO1] at hb'
  obtain⟨n,ib,h1,h2,h3,h4⟩:=hb'
  obtain⟨bb,e1,e2⟩:=hsome n h1
  exact⟨n,ib,by rw[e2];rfl,h2,h3,h4⟩
 have FF:∀ b,Fb c1 ι1 (gs gl) b↔Fb c ι st b:=by
  intro b
  show B1 b∨Own ι1 (gs gl) b↔c.B b∨Own ι st b
  rw[ownO,hB1]
  constructor
  ·rintro ((h1|⟨n,ib,h1,_,h2,h3,h4⟩)|h1)
   ·exact .inl h1
   ·exact .inr ⟨n,ib,h1,h2,h3,h4⟩
   ·exact .inr (oOwn b h1)
  ·rintro (h1|⟨n,ib,h1,h2,h3,h4⟩)
   ·exact .inl (.inl h1)
   ·cases hh:hasB gl n with
    | true=>right;rw[hO1];exact⟨n,ib,hh,h2,h3,h4⟩
    | false=>exact .inl (.inr ⟨n,ib,h1,hh,h2,h3,h4⟩)
 have FFe:Fb c1 ι1 (gs gl)=Fb c ι st:=funext fun b=>propext (FF b)
 have disj:∀ b,B1 b→¬ O1 b:=by
  intro b hb1 hb2
  have ho:=oOwn b hb2
  rw[hB1] at hb1
  rw[hO1] at hb2
  rcases hb1 with hb1|⟨n,ib,h1,h2,h3,h4,h5⟩
  ·exact (hr.own b ho).2.1 hb1
  ·obtain⟨m,ib',k1,k2,k3,k4⟩:=hb2
   obtain⟨bb,e1,e2⟩:=hsome m k1
   have hne:n≠m:=fun e=>by rw[e,k1] at h2;cases h2
   exact hr.inj n m h1 (by rw[e2];rfl) hne ib ib' h3 k2 h4 k3 (by rw[← h5,k4])
 have lowF:∀ b,Fb c ι st b→b<w.heap.size:=fun b hb'=>by
  rcases hb' with hb'|hb'
  ·have:=(hr.low b hb').1;have:=hr.hsize;show b<w.heap.size;exact Nat.lt_of_lt_of_le (hr.low b hb').1 hr.hsize
  ·exact (hr.own b hb').1
 have hr1:Rel c1 (·<nx1) ι1 { tmps:=vs++Array.replicate (fn.ntmps - vs.size) undef,defers:=[] } w (gt (argsL args)) (gs gl):=by
  refine⟨by simp[c1];omega,rfl,fun t=>?_,fun n b hnb=>?_,fun n m h1 h2 hne ib ib' k1 k2=>?_,fun n hn'=>?_,rfl,rfl,rfl,Nat.le_refl _,fun b _ _=>rfl,fun b hb'=>?_,fun b hb'=>?_,fun g row hg=>?_,Grows.refl _⟩
  ·rw[gt_argsL,FFe]
   by_cases ht:t<args.length
   ·have e1:(vs++Array.replicate (fn.ntmps - vs.size) undef).getD t undef=vs.getD t undef:=by
     simp[Array.getElem?_append,hsz,ht]
    have e2:args.getD t .any=args[t]:=by simp[ht]
    rw[e1,e2]
    exact (hrep t ht).res (D.inns_at hargs t ht) (fun n ib hp hi=>by rw[i1 n hp];exact hi)
   ·have e2:args.getD t .any=.any:=by simp[show args.length≤t by omega]
    rw[e2];exact .pure _ _ (.any _)
  ·obtain⟨e1,e2⟩:=hgssome n b hnb
   rw[FFe]
   exact (hr.blk n b e2).res (hgin _ (gs_mem hnb)) e1 (fun n ib hp hi=>by rw[i1 n hp];exact hi)
  ·cases hg1:gs gl n with
   | none=>rw[hg1] at h1;cases h1
   | some b1 =>
    cases hg2:gs gl m with
    | none=>rw[hg2] at h2;cases h2
    | some b2 =>
     obtain⟨e1,e2⟩:=hgssome n b1 hg1
     obtain⟨e3,e4⟩:=hgssome m b2 hg2
     exact hr.inj n m (by rw[e2];rfl) (by rw[e4];rfl) hne ib ib' (by rw[← i1 n e1];exact k1) (by rw[← i1 m e3];exact k2)
  ·cases hh:hasB gl n with
   | false=>rw[i0 n hh] at hn';cases hn'
   | true =>
    obtain⟨b,hb'⟩:=hasB_iff.1 hh
    exact hlt _ hb'
  ·refine⟨?_,disj b hb'⟩
   have:Fb c1 ι1 (gs gl) b:=.inl hb'
   exact lowF b ((FF b).1 this)
  ·have ho:=(ownO b).1 hb'
   exact⟨lowF b (.inr (oOwn b ho)),fun hb1=>disj b hb1 ho,.inl ho⟩
  ·rw[FFe];exact hr.glob g row hg
 refine wp_mono (h B1 w O1 [] ι1 _ _ _ hr1) ?_
 rintro e a' w' ⟨nx',ι2,σ',st',hr2,he,n1,R0,R1,q1,q2,q3,q4,q5,q6⟩
 obtain⟨v,v1,v2⟩:=results_all hty hr2 q1
 have hn1:hasB gl n1=false:=by
  cases hh:hasB gl n1 with
  | false=>rfl
  | true=>obtain⟨b,hb'⟩:=hasB_iff.1 hh;have:=hlt _ hb';simp at this;omega
 have hnmh:hasB gl nm=false:=by
  cases hh:hasB gl nm with
  | false=>rfl
  | true =>
   obtain⟨b,e1,e2⟩:=hsome nm hh
   have:=(hr.none_of hnm).2
   rw[e2] at this;cases this
 obtain⟨ι',hι'⟩:∃ ι':Nat→Option IB,ι'=fun n=>if n=nm then ι2 n1 else if hasB gl n then ι2 n else ι n:=⟨_,rfl⟩
 have j0:ι' nm=ι2 n1:=by rw[hι'];simp
 have j1:∀ n,hasB gl n=true→ι' n=ι2 n:=fun n hn'=>by
  have:n≠nm:=fun e=>by rw[e,hnmh] at hn';cases hn'
  rw[hι'];simp[this,hn']
 have j2:∀ n,n≠nm→hasB gl n=false→ι' n=ι n:=fun n h1 h2=>by rw[hι'];simp[h1,h2]
 have hren:∀ n ib,(hasB gl n||n==n1)=true→ι2 n=some ib→ι' (renN n1 nm n)=some ib:=by
  intro n ib hp hi
  unfold renN
  by_cases e:n=n1
  ·subst e;rw[if_pos rfl,j0];exact hi
  ·rw[if_neg e]
   have:hasB gl n=true:=by simpa[e] using hp
   rw[j1 n this];exact hi
 have hnone:=hr.none_of hnm
 have notin:∀ n,n∉upd.map (·.1)→updL st upd n=st n∧hasB gl n=false:=fun n hn'=>by
  refine⟨Yo hn',?_⟩
  cases hh:hasB gl n with
  | false=>rfl
  | true=>obtain⟨b,hb'⟩:=hasB_iff.1 hh;exact absurd (hcov _ hb') hn'
 have isin:∀ n b,n∈upd.map (·.1)→updL st upd n=some b→∃ n0 b1,(hasB gl n0||n0==n1)=true∧renN n1 nm n0=n∧gs st' n0=some b1∧b1.inn (fun n=>hasB gl n||n==n1)=true∧b1.ren (renN n1 nm)=b∧ι' n=ι2 n0:=fun n b hn' hb'=>by
  obtain⟨ob,m1,m2⟩:=updL_mem (st:=st) hn'
  rw[m2] at hb'
  have:=q6 _ m1 b hb'
  by_cases e:n=nm
  ·simp only[e,if_true] at this
   obtain⟨b1,k1,k2,k3⟩:=this
   exact⟨n1,b1,by simp,by simp[renN,e],k1,k2,k3,by rw[e,j0]⟩
  ·simp only[e,if_false] at this
   obtain⟨b1,k1,k2,k3⟩:=this
   have hh:hasB gl n=true:=by
    rcases hupd _ m1 with h|h
    ·exact absurd h e
    ·exact h
   have hne:n≠n1:=fun e=>by rw[e,hn1] at hh;cases hh
   exact⟨n,b1,by simp[hh],by simp[renN,hne],k1,k2,k3,j1 n hh⟩
 have own2:∀ b,Own ι' (updL st upd) b→(∃ n ib,(st n).isSome=true∧hasB gl n=false∧ι n=some ib∧0<ib.cap∧b=ib.blk)∨(∃ n0 ib,(hasB gl n0||n0==n1)=true∧(gs st' n0).isSome=true∧ι2 n0=some ib∧0<ib.cap∧b=ib.blk):=by
  rintro b ⟨n,ib,h1,h2,h3,h4⟩
  by_cases hk:n∈upd.map (·.1)
  ·cases hu:updL st upd n with
   | none=>rw[hu] at h1;cases h1
   | some bb =>
    obtain⟨n0,b1,k1,k2,k3,_,_,k6⟩:=isin n bb hk hu
    exact .inr ⟨n0,ib,k1,by rw[k3];rfl,by rw[← k6];exact h2,h3,h4⟩
  ·obtain⟨e1,e2⟩:=notin n hk
   rw[e1] at h1
   have hne:n≠nm:=fun e=>by rw[e,hnone.2] at h1;cases h1
   exact .inl ⟨n,ib,h1,e2,by rw[← j2 n hne e2];exact h2,h3,h4⟩
 have own2':∀ b,(∃ n0 ib,(hasB gl n0||n0==n1)=true∧(gs st' n0).isSome=true∧ι2 n0=some ib∧0<ib.cap∧b=ib.blk)→b<w'.heap.size∧¬ B1 b∧(O1 b∨w.heap.size≤b):=by
  rintro b ⟨n0,ib,_,h2,h3,h4,h5⟩
  exact hr2.own b ⟨n0,ib,h2,h3,h4,h5⟩
 have sub1:∀ b,Fb c ι' (updL st upd) b→Fb c1 ι2 (gs st') b∧∀ n ib,((fun n=>if hasB gl n||n==n1 then none else gs st' n) n).isSome=true→ι2 n=some ib→0<ib.cap→b≠ib.blk:=by
  intro b hb'
  have dropped:∀ n ib,((fun n=>if hasB gl n||n==n1 then none else gs st' n) n).isSome=true→ι2 n=some ib→0<ib.cap→Own ι2 (gs st') ib.blk∧(hasB gl n||n==n1)=false∧(gs st' n).isSome=true:=by
   intro n ib h1 h2 h3
   cases hp:(hasB gl n||n==n1) with
   | true=>simp[hp] at h1
   | false =>
    simp only[hp,Bool.false_eq_true,if_false] at h1
    exact⟨⟨n,ib,h1,h2,h3,rfl⟩,rfl,h1⟩
  have inB:B1 b→Fb c1 ι2 (gs st') b∧∀ n ib,((fun n=>if hasB gl n||n==n1 then none else gs st' n) n).isSome=true→ι2 n=some ib→0<ib.cap→b≠ib.blk:=fun hb1 =>
   ⟨.inl hb1,fun n ib h1 h2 h3 e=>by subst e;exact (hr2.own _ (dropped n ib h1 h2 h3).1).2.1 hb1⟩
  rcases hb' with hb'|hb'
  ·exact inB (by rw[hB1];exact .inl hb')
  ·rcases own2 b hb' with hh|hh
   ·exact inB (by rw[hB1];exact .inr hh)
   ·obtain⟨n0,ib0,k1,k2,k3,k4,k5⟩:=hh
    refine⟨.inr ⟨n0,ib0,k2,k3,k4,k5⟩,fun n ib h1 h2 h3 e=>?_⟩
    obtain⟨_,d2,d3⟩:=dropped n ib h1 h2 h3
    have hne:n0≠n:=fun e=>by rw[e,d2] at k1;cases k1
    exact hr2.inj n0 n k2 d3 hne ib0 ib k3 h2 k4 h3 (by rw[← k5,e])
 have keep2:∀ b,b<w.heap.size→¬ O1 b→w'.heap[b]? = w.heap[b]? := fun b h1 h2=>hr2.keep b h1 h2
 have hgrow:Grows ι ι':=by
  intro n ib hi
  have hne:n≠nm:=fun e=>by rw[e,hnone.1] at hi;cases hi
  cases hh:hasB gl n with
  | true =>
   obtain⟨ib',g1,g2⟩:=hr2.grow n ib (by show ι1 n=some ib;rw[i1 n hh];exact hi)
   exact⟨ib',by rw[j1 n hh];exact g1,g2⟩
  | false=>exact⟨ib,by rw[j2 n hne hh];exact hi,.inl rfl⟩
 have hmb:∀ b,¬ Fb c ι st b→(w.heap[b]?).isSome=true→w'.heap[b]? = w.heap[b]? ∧ ¬ Fb c ι' (updL st upd) b:=by
  intro b hF hz
  have hlt:=isSome_lt hz
  refine⟨keep2 b hlt (fun ho=>hF (.inr (oOwn b ho))),fun hF'=>?_⟩
  rcases hF' with hF'|hF'
  ·exact hF (.inl hF')
  ·rcases own2 b hF' with⟨n,ib,k1,_,k3,k4,k5⟩|hh
   ·exact hF (.inr ⟨n,ib,k1,k3,k4,k5⟩)
   ·obtain⟨_,_,o⟩:=own2' b hh
    rcases o with o|o
    ·exact hF (.inr (oOwn b o))
    ·omega
 have key:a'.defers=[]∧∃ v,(results fn a'.tmps).run c.P w'=.ok v w'∧(∃ v' ι',Ending.returned v=.returned v'∧Rel c.bare (fun n=>dom n∨n=nm) ι' act0 w' any0 (updL st upd)∧Rep w' (Fb c ι' (updL st upd)) ι' v' R∧∀ v d,Rep w (Fb c ι st) ι v d→Rep w' (Fb c ι' (updL st upd)) ι' v d):=by
  refine⟨hr2.defers,v,v1,v,ι',rfl,?_,?_,fun v d hv=>hv.mono hmb hgrow⟩
  ·refine⟨rfl,rfl,fun t=>.pure _ _ (.any _),fun n b hnb=>?_,fun n m h1 h2 hne ib ib' k1 k2 k3 k4=>?_,fun n hn'=>?_,hr2.os.trans hr.os,hr2.tape.trans hr.tape,hr2.output.trans hr.output,Nat.le_trans hr.hsize hr2.hsize,fun b h1 h2=>?_,hr.low,fun b hb'=>?_,fun g row hg=>(hr.glob g row hg).mono hmb,hr.grow.trans hgrow⟩
   ·by_cases hk:n∈upd.map (·.1)
    ·obtain⟨n0,b1,k1,k2,k3,k4,k5,k6⟩:=isin n b hk hnb
     have:=((hr2.blk n0 b1 k3).forb (F':=Fb c ι' (updL st upd)) (fun b hb'=>(sub1 b hb').1)).ren k4 k1 hren
     rw[k2,k5] at this
     exact this
    ·obtain⟨e1,e2⟩:=notin n hk
     rw[e1] at hnb
     have hne:n≠nm:=fun e=>by rw[e,hnone.2] at hnb;cases hnb
     refine (hr.blk n b hnb).mono hmb hgrow (j2 n hne e2) (fun ib hi hc=>?_)
     have ho:Own ι st ib.blk:=⟨n,ib,by rw[hnb];rfl,hi,hc,rfl⟩
     exact keep2 _ (hr.own _ ho).1 (disj _ (by rw[hB1];exact .inr ⟨n,ib,by rw[hnb];rfl,e2,hi,hc,rfl⟩))
   ·have cls:∀ n ib,(updL st upd n).isSome=true→ι' n=some ib→0<ib.cap→((st n).isSome=true∧hasB gl n=false∧ι n=some ib∧n≠nm)∨(∃ n0,(hasB gl n0||n0==n1)=true∧renN n1 nm n0=n∧(gs st' n0).isSome=true∧ι2 n0=some ib):=by
     intro n ib h1 h2 h3
     by_cases hk:n∈upd.map (·.1)
     ·cases hu:updL st upd n with
      | none=>rw[hu] at h1;cases h1
      | some bb =>
       obtain⟨n0,b1,k1,k2,k3,_,_,k6⟩:=isin n bb hk hu
       exact .inr ⟨n0,k1,k2,by rw[k3];rfl,by rw[← k6];exact h2⟩
     ·obtain⟨e1,e2⟩:=notin n hk
      rw[e1] at h1
      have hne:n≠nm:=fun e=>by rw[e,hnone.2] at h1;cases h1
      exact .inl ⟨h1,e2,by rw[← j2 n hne e2];exact h2,hne⟩
    rcases cls n ib h1 k1 k3 with⟨a1,a2,a3,a4⟩|⟨n0,a1,a2,a3,a4⟩<;>rcases cls m ib' h2 k2 k4 with⟨b1,b2,b3,b4⟩|⟨m0,b1,b2,b3,b4⟩
    ·exact hr.inj n m a1 b1 hne ib ib' a3 b3 k3 k4
    ·intro e
     have h3:B1 ib.blk:=by rw[hB1];exact .inr ⟨n,ib,a1,a2,a3,k3,rfl⟩
     exact (own2' ib'.blk ⟨m0,ib',b1,b3,b4,k4,rfl⟩).2.1 (e▸h3)
    ·intro e
     have h3:B1 ib'.blk:=by rw[hB1];exact .inr ⟨m,ib',b1,b2,b3,k4,rfl⟩
     exact (own2' ib.blk ⟨n0,ib,a1,a3,a4,k3,rfl⟩).2.1 (e▸h3)
    ·exact hr2.inj n0 m0 a3 b3 (fun e=>hne (by rw[← a2,← b2,e])) ib ib' a4 b4 k3 k4
   ·by_cases e:n=nm
    ·exact .inr e
    ·left
     cases hh:hasB gl n with
     | false=>exact hr.dom n (by rw[← j2 n e hh];exact hn')
     | true =>
      obtain⟨b,e1,e2⟩:=hsome n hh
      have hbr:=hr.blk n b e2
      cases b with
      | box cs=>obtain⟨ib,_,_,k1,_⟩:=hbr;exact hr.dom n (by rw[k1];rfl)
      | arr es rows=>obtain⟨ib,k1,_⟩:=hbr;exact hr.dom n (by rw[k1];rfl)
      | obj q=>obtain⟨ib,o,k1,_⟩:=hbr;exact hr.dom n (by rw[k1];rfl)
      | mp ks cs=>obtain⟨ib,es,ck,k1,_⟩:=hbr;exact hr.dom n (by rw[k1];rfl)
      | deck sc=>obtain⟨ib,v0,ty,xs,i,s,k1,_⟩:=hbr;exact hr.dom n (by rw[k1];rfl)
   ·have hsz0:c.w0.heap.size≤w.heap.size:=hr.hsize
    have h1':b<c.w0.heap.size:=h1
    rw[keep2 b (by omega) (fun ho=>by
     have:=(hr.own b (oOwn b ho)).2.2
     rcases this with h|h
     ·exact h2 h
     ·exact absurd h1' (Nat.not_lt.2 h))]
    exact hr.keep b h1 h2
   ·rcases own2 b hb' with⟨n,ib,k1,_,k3,k4,k5⟩|hh
    ·obtain⟨o1,o2⟩:=hr.own b ⟨n,ib,k1,k3,k4,k5⟩
     exact⟨Nat.lt_of_lt_of_le o1 hr2.hsize,o2⟩
    ·obtain⟨o1,o2,o3⟩:=own2' b hh
     refine⟨o1,fun hcB=>o2 (by rw[hB1];exact .inl hcB),?_⟩
     rcases o3 with o|o
     ·exact (hr.own b (oOwn b o)).2.2
     ·exact .inr (Nat.le_trans hr.hsize o)
  ·have hk:=viewK_ok hr2 (g:=fun n=>if hasB gl n||n==n1 then none else gs st' n) (fun n b hb'=>by
    cases hp:(hasB gl n||n==n1) with
    | true=>simp[hp] at hb'
    | false=>simpa[hp] using hb') (fun n=>hasB gl n||n==n1) (fun n hp=>by simp[hp]) (Fb c ι' (updL st upd)) (fun b hb'=>sub1 b hb') 9 v R0 R1 v2 q2
   have:=hk.ren (f:=renN n1 nm) q4 hren
   rw[q5] at this
   exact this
 rcases he with rfl|rfl
 ·exact key
 ·exact key
end
end
section
open Go Go.RowKit
open Go.Maps (Keyed)
def mapK(Ty:Nat→Option TyI)(t:Nat):Option (Nat×Nat×Bool) :=
 match Ty t with
 | some i=>match i.k with
  | .map k e=>match Ty k,Ty e with
   | some ik,some ie=>match ik.k,ie.k,ie.zero with
    | .int .i64,.int .i64,.int .i64 z=>if z=0 then some (k,e,true) else none
    | .str,.bool,.bool b=>if b=false then some (k,e,false) else none
    | _,_,_=>none
   | _,_=>none
  | _=>none
 | none=>none
section
variable {P:Program} {G:Nat→Option (List D)} {Ty:Nat→Option TyI} {o:Oper} {ρ:Operand→D} {g:Nat→Option Blk} {nm:Nat}
theorem kB_map{d:TypeDesc}{k e:Nat}(h:kB P d (.map k e)=true):d=.map k e:=by
 cases d<;>simp[kB] at h
 obtain⟨rfl,rfl⟩:=h;rfl
theorem kB_int{d:TypeDesc}{k:IntKind}(h:kB P d (.int k)=true):d=.int k:=by
 cases d<;>simp[kB] at h
 subst h;rfl
theorem kB_str{d:TypeDesc}(h:kB P d .str=true):d=.string:=by
 cases d<;>simp[kB] at h
 rfl
theorem kB_bool{d:TypeDesc}(h:kB P d .bool=true):d=.bool:=by
 cases d<;>simp[kB] at h
 rfl
theorem zero_run{e:Nat}{info:TypeInfo}{z:Value}(h1:P.info? e=some info)(h2:info.zero=some z)(w:World):(zeroValue e).run P w=.ok z w:=by
 simp[zeroValue,typeInfo,h1,h2]
theorem mapK_ok(hty:TyOK P Ty){t k e:Nat}{b:Bool}(h:mapK Ty t=some (k,e,b)):P.underlying t=some (.map k e) ∧
  (b=true→P.underlying k=some (.int .i64)∧P.underlying e=some (.int .i64)∧∀ w,(zeroValue e).run P w=.ok (.int .i64 0) w) ∧
  (b=false→P.underlying k=some .string∧P.underlying e=some .bool∧∀ w,(zeroValue e).run P w=.ok (.bool false) w):=by
 unfold mapK at h
 split at h
 ·rename_i i hi
  split at h
  ·rename_i k' e' hk
   split at h
   ·rename_i ik ie hik hie
    obtain⟨_,d1,_,_,u1,_,_,k1,_,_⟩:=hty.get hi
    obtain⟨_,d2,_,_,u2,_,_,k2,_,_⟩:=hty.get hik
    obtain⟨inf,d3,z3,f3,u3,_,_,k3,y3,q3⟩:=hty.get hie
    rw[hk] at k1
    split at h
    ·rename_i z e1 e2 e3
     split at h
     ·rename_i hz
      cases h
      rw[e1] at k2;rw[e2] at k3;rw[e3] at q3
      rw[u1,u2,u3,kB_map k1,kB_int k2,kB_int k3]
      refine⟨rfl,fun _=>⟨rfl,rfl,fun w=>?_⟩,fun h=>(by cases h)⟩
      rw[zero_run f3 y3]
      have:z3=.int .i64 0:=by
       subst hz
       cases z3<;>simp[zB,zA] at q3
       obtain⟨rfl,rfl⟩:=q3;rfl
      rw[this]
     ·cases h
    ·rename_i bb e1 e2 e3
     split at h
     ·rename_i hz
      cases h
      rw[e1] at k2;rw[e2] at k3;rw[e3] at q3
      rw[u1,u2,u3,kB_map k1,kB_str k2,kB_bool k3]
      refine⟨rfl,fun h=>(by cases h),fun _=>⟨rfl,rfl,fun w=>?_⟩⟩
      rw[zero_run f3 y3]
      have:z3=.bool false:=by
       subst hz
       cases z3<;>simp[zB,zA] at q3
       subst q3;rfl
      rw[this]
     ·cases h
    ·cases h
   ·cases h
  ·cases h
 ·cases h
theorem do_makeMap{t k e:Nat}{b:Bool}(ho:o.op=.makeMap t none) :
  Do P G o ρ g nm (.rf nm false) [(nm,some (.obj (if b then .mapII P k e 0 (fun _=>0) else .mapSB P k e 0 (fun _=>false))))]:=by
 intro c dom ι a w σ st K Q hP hG hr hρ hg hnm hd hK
 subst hG
 have hrun:(execOp a.eval o).run P w=.ok (.value (.map (some w.heap.size))) (w.alloc (.map #[] 0)):=by
  rw[show execOp a.eval o=(do pure (.value (← Instr.makeMap t none))) by unfold execOp;rw[ho];rfl]
  simp[run_makeMap]
 unfold Oper.wp
 rw[hrun]
 obtain⟨h1,h2⟩:=hr.none_of hnm
 obtain⟨r1,r2⟩:=hr.one (w':=w.alloc (.map #[] 0)) nm ⟨true,w.heap.size,0,0,1,0⟩ (.obj (if b then .mapII P k e 0 (fun _=>0) else .mapSB P k e 0 (fun _=>false))) rfl rfl rfl (by simp) (fun b hb=>.inl (Below.heap_alloc w _ b hb)) (fun _=>⟨by simp,.inr (Nat.le_refl _)⟩)
  (fun ib hib=>by rw[h1] at hib;cases hib) (fun f1 f2=>by
   refine⟨⟨true,w.heap.size,0,0,1,0⟩,.map #[] 0,by simp[updI],rfl,Nat.one_pos,Xp _ _,?_⟩
   cases b
   ·exact⟨w.alloc (.map #[] 0),w.heap.size,Xp _ _,SMap.made⟩
   ·exact⟨w.alloc (.map #[] 0),w.heap.size,Xp _ _,IMap.made⟩)
 exact hK _ _ _ (r1.put _ (.rf nm false) (.rf nm false ⟨true,w.heap.size,0,0,1,0⟩ _ (by simp[updI]) rfl rfl) o.dst hd)
theorem lt_maxLen{n:Nat}(h:n≤65536):n<maxLen:=Nat.lt_of_le_of_lt h (by decide)
theorem rf_map{c:Ctx}{dom:Nat→Prop}{ι:Nat→Option IB}{a:Act}{w:World}{σ:Nat→D}{st:Nat→Option Blk}(hr:Rel c dom ι a w σ st){m:Nat}{ch:Bool}{q:ObjD}{v:Value}(h1:Rep w (Fb c ι st) ι v (.rf m ch))(hs:st m=some (.obj q)) :
  ∃ ib ob,ι m=some ib∧ib.box=true∧0<ib.cap∧w.heap[ib.blk]? = some ob∧q.ok ob∧v=if ch then .chan (some ib.blk) else .map (some ib.blk):=by
 obtain⟨ib,ob,b1,b2,b3,b4,b5⟩:=hr.blk m _ hs
 cases h1 with
 | pure _ _ h=>cases h
 | rf n ch ib' v hn hb hv =>
  obtain rfl:ib'=ib:=Option.some.inj (hn.symm.trans b1)
  exact⟨ib',ob,hn,hb,b3,b4,b5,hv⟩
theorem rep_int{w:World}{F:Nat→Prop}{ι:Nat→Option IB}{v:Value}{k:IntKind}{p:Int}(h:Rep w F ι v (.int k p)):v=.int k p:=by
 cases h with|pure _ _ h=>cases h;rfl
theorem rep_str{w:World}{F:Nat→Prop}{ι:Nat→Option IB}{v:Value}{s:ByteArray}(h:Rep w F ι v (.str s)):v=.string s:=by
 cases h with|pure _ _ h=>cases h;rfl
theorem rep_bool{w:World}{F:Nat→Prop}{ι:Nat→Option IB}{v:Value}{b:Bool}(h:Rep w F ι v (.bool b)):v=.bool b:=by
 cases h with|pure _ _ h=>cases h;rfl
theorem do_lookII{t k e n m:Nat}{x y:Operand}{p:Int}{f:Int→Int}(hty:TyOK P Ty)(ho:o.op=.lookup t x y false)(ht:mapK Ty t=some (k,e,true))(hx:ρ x=.rf m false)(hy:ρ y=.int .i64 p)(hg0:g m=some (.obj (.mapII P k e n f)))
  (hp : -9223372036854775808≤p∧p≤9223372036854775807):Do P G o ρ g nm (.int .i64 (f p)) []:=by
 obtain⟨t1,t2,_⟩:=mapK_ok hty ht
 obtain⟨t2,t3,t4⟩:=t2 rfl
 refine Xg (fun c dom ι a w σ st hP hG hr hρ hg=>?_)
 subst hG
 have h1:=Zl hr x
 rw[hρ x (by rw[ho];simp[Op.operands]),hx] at h1
 have h2:=Zl hr y
 rw[hρ y (by rw[ho];simp[Op.operands]),hy] at h2
 obtain⟨ib,ob,b1,b2,b3,b4,⟨w0,b0,b5,b6⟩,ex⟩:=rf_map hr h1 (hg m _ hg0)
 refine⟨.int .i64 (f p),?_,.pure _ _ (.int _ _)⟩
 rw[show execOp a.eval o=(do pure (.value (← Instr.lookup t (a.eval x) (a.eval y) false))) by unfold execOp;rw[ho]]
 rw[ex,rep_int h2]
 simp[(b6.at b5 b4).look t1 t2 t3 (t4 w) (WalkArith.wf_i64 (by omega))]
theorem do_lookSB{t k e n m:Nat}{x y:Operand}{p:ByteArray}{f:List UInt8→Bool}(hty:TyOK P Ty)(ho:o.op=.lookup t x y false)(ht:mapK Ty t=some (k,e,false))(hx:ρ x=.rf m false)(hy:ρ y=.str p)(hg0:g m=some (.obj (.mapSB P k e n f)))
  (hp:p.size≤65536):Do P G o ρ g nm (.bool (f p.data.toList)) []:=by
 obtain⟨t1,_,t2⟩:=mapK_ok hty ht
 obtain⟨t2,t3,t4⟩:=t2 rfl
 refine Xg (fun c dom ι a w σ st hP hG hr hρ hg=>?_)
 subst hG
 have h1:=Zl hr x
 rw[hρ x (by rw[ho];simp[Op.operands]),hx] at h1
 have h2:=Zl hr y
 rw[hρ y (by rw[ho];simp[Op.operands]),hy] at h2
 obtain⟨ib,ob,b1,b2,b3,b4,⟨w0,b0,b5,b6⟩,ex⟩:=rf_map hr h1 (hg m _ hg0)
 refine⟨.bool (f p.data.toList),?_,.pure _ _ (.bool _)⟩
 rw[show execOp a.eval o=(do pure (.value (← Instr.lookup t (a.eval x) (a.eval y) false))) by unfold execOp;rw[ho]]
 rw[ex,rep_str h2]
 simp[(b6.at b5 b4).look t1 t2 t3 (t4 w) (s:=p) (Nat.le_of_lt (lt_maxLen (by assumption)))]
theorem do_turn{m:Nat}{q:ObjD}{q':ObjD}(hg0:g m=some (.obj q))
  (h:∀ c dom ι a w σ st ib ob,c.P=P→c.G=G→Rel c dom ι a w σ st→(∀ x,x∈o.op.operands→opD G σ x=ρ x)→ι m=some ib→w.heap[ib.blk]? = some ob→q.ok ob→st m=some (.obj q) →
   ∃ w' ob',(execOp a.eval o).run P w=.ok .skip w'∧w.grownBy w' (some ib.blk)∧w'.heap[ib.blk]? = some ob'∧q'.ok ob') :
  Do P G o ρ g nm .any [(m,some (.obj q'))]:=by
 intro c dom ι a w σ st K Q hP hG hr hρ hg hnm hd hK
 have hs:=hg m _ hg0
 obtain⟨ib,ob,b1,b2,b3,b4,b5⟩:=hr.blk m _ hs
 obtain⟨w',ob',h1,h2,h3,h4⟩:=h c dom ι a w σ st ib ob hP hG hr hρ b1 b4 b5 hs
 unfold Oper.wp
 rw[h1]
 have hlt:=(hr.own ib.blk ⟨m,ib,by rw[hs];rfl,b1,b3,rfl⟩).1
 obtain⟨r1,r2⟩:=hr.one (w':=w') m ib (.obj q') h2.os h2.tape h2.output h2.size
   (fun b hb'=>by
    by_cases e:b=ib.blk
    ·exact .inr ⟨ib,b1,by rw[hs];rfl,b3,e⟩
    ·exact .inl (h2.block b hb' (fun hh=>e (Option.some.inj hh))))
   (fun _=>⟨Nat.lt_of_lt_of_le hlt h2.size,.inl ⟨ib,b1,by rw[hs];rfl,b3,rfl⟩⟩)
   (fun ib2 h2=>.inl (Option.some.inj (b1.symm.trans h2)))
   (fun f1 f2=>⟨ib,ob',by simp[updI],b2,b3,h3,h4⟩)
 exact hK _ _ _ ((r1.put undef .any (.pure _ _ (.any _)) o.dst hd).weaken (fun _=>Le.refl _) (fun m' hm=>.inl (hm.elim id (fun e=>e▸hr.dom m (by rw[b1];rfl)))))
theorem do_putII{t k e n m:Nat}{x y z:Operand}{p u:Int}{f:Int→Int}(hty:TyOK P Ty)(ho:o.op=.mapUpdate t x y z)(ht:mapK Ty t=some (k,e,true))(hx:ρ x=.rf m false)(hy:ρ y=.int .i64 p)(hz:ρ z=.int .i64 u)
  (hg0:g m=some (.obj (.mapII P k e n f))) (hp : -9223372036854775808≤p∧p≤9223372036854775807) (hu : -9223372036854775808≤u∧u≤9223372036854775807) (hn:n≤65536) :
  Do P G o ρ g nm .any [(m,some (.obj (.mapII P k e (n+1) (fun q=>if q=p then u else f q))))]:=by
 obtain⟨t1,t2,_⟩:=mapK_ok hty ht
 obtain⟨t2,t3,t4⟩:=t2 rfl
 refine do_turn hg0 (fun c dom ι a w σ st ib ob hP hG hr hρ b1 b4 b5 hs=>?_)
 subst hG
 have h1:=Zl hr x
 rw[hρ x (by rw[ho];simp[Op.operands]),hx] at h1
 have h2:=Zl hr y
 rw[hρ y (by rw[ho];simp[Op.operands]),hy] at h2
 have h3:=Zl hr z
 rw[hρ z (by rw[ho];simp[Op.operands]),hz] at h3
 obtain⟨ib',ob',c1,_,_,_,_,ex⟩:=rf_map hr h1 hs
 obtain rfl:ib'=ib:=Option.some.inj (c1.symm.trans b1)
 obtain⟨w0,b0,d5,d6⟩:=b5
 obtain⟨w',hrun,e1,e2⟩:=(d6.at d5 b4).put t1 t2 t3 (lt_maxLen (by assumption)) (p:=p) (x:=u) (WalkArith.wf_i64 (by omega)) (WalkArith.wf_i64 (by omega))
 obtain⟨Dt,⟨es,clock,f1,f2⟩,f3⟩:=e1
 refine⟨w',.map es clock,?_,e2,f1,w',ib'.blk,f1,Dt,⟨es,clock,f1,f2⟩,f3⟩
 rw[show execOp a.eval o=(do Instr.mapUpdate t (a.eval x) (a.eval y) (a.eval z);pure .skip) by unfold execOp;rw[ho]]
 rw[ex,rep_int h2,rep_int h3]
 simp[hrun]
theorem do_putSB{t k e n m:Nat}{x y z:Operand}{p:ByteArray}{u:Bool}{f:List UInt8→Bool}(hty:TyOK P Ty)(ho:o.op=.mapUpdate t x y z)(ht:mapK Ty t=some (k,e,false))(hx:ρ x=.rf m false)(hy:ρ y=.str p)(hz:ρ z=.bool u)
  (hg0:g m=some (.obj (.mapSB P k e n f))) (hp:p.size≤65536) (hn:n≤65536) :
  Do P G o ρ g nm .any [(m,some (.obj (.mapSB P k e (n+1) (fun q=>if q=p.data.toList then u else f q))))]:=by
 obtain⟨t1,_,t2⟩:=mapK_ok hty ht
 obtain⟨t2,t3,t4⟩:=t2 rfl
 refine do_turn hg0 (fun c dom ι a w σ st ib ob hP hG hr hρ b1 b4 b5 hs=>?_)
 subst hG
 have h1:=Zl hr x
 rw[hρ x (by rw[ho];simp[Op.operands]),hx] at h1
 have h2:=Zl hr y
 rw[hρ y (by rw[ho];simp[Op.operands]),hy] at h2
 have h3:=Zl hr z
 rw[hρ z (by rw[ho];simp[Op.operands]),hz] at h3
 obtain⟨ib',ob',c1,_,_,_,_,ex⟩:=rf_map hr h1 hs
 obtain rfl:ib'=ib:=Option.some.inj (c1.symm.trans b1)
 obtain⟨w0,b0,d5,d6⟩:=b5
 obtain⟨w',hrun,e1,e2⟩:=(d6.at d5 b4).put t1 t2 t3 (lt_maxLen (by assumption)) (s:=p) (Nat.le_of_lt (lt_maxLen (by assumption))) u
 obtain⟨Dt,⟨es,clock,f1,f2⟩,f3⟩:=e1
 refine⟨w',.map es clock,?_,e2,f1,w',ib'.blk,f1,Dt,⟨es,clock,f1,f2⟩,f3⟩
 rw[show execOp a.eval o=(do Instr.mapUpdate t (a.eval x) (a.eval y) (a.eval z);pure .skip) by unfold execOp;rw[ho]]
 rw[ex,rep_str h2,rep_bool h3]
 simp[hrun]
end
end
section
open Go Go.RowKit
def freshA(nm:Nat):D→Bool
 | .os m _ _ _=>m==nm
 | d=>YA d
def freshD(nm:Nat):D→Bool
 | .tup cs=>cs.all (freshA nm)
 | d=>freshA nm d
def atomD:D→Bool
 | .any|.bool _|.int _ _|.rng _ _ _|.strg _ _|.str _|.np|.nils|.nilf|.nili=>true
 | _=>false
theorem atomD_of{d:D}(h:(match d with|.any|.bool _|.int _ _|.rng _ _ _|.strg _ _|.str _|.np|.nils|.nilf|.nili=>true|_=>false)=true):atomD d=true:=by cases d<;>first|rfl|cases h
theorem atom_rep{w w':World}{F F':Nat→Prop}{ι:Nat→Option IB}{v:Value}{d:D}(h:Rep w F ι v d)(hs:atomD d=true):RepP w' F' v d:=by
 cases h with
 | pure _ _ h=>cases h<;>first|(cases hs;done)|(constructor<;>assumption)|constructor
 | _=>cases hs
theorem scalar_rep{w w':World}{F F':Nat→Prop}{ι:Nat→Option IB}{v:Value}{d:D}(h:Rep w F ι v d)(hs:YA d=true):RepP w' F' v d:=by
 cases d with
 | agg cs =>
  obtain⟨vs,rfl,hl,hrep⟩:=h.is_agg
  simp only[YA,List.all_eq_true] at hs
  exact .agg _ _ hl (fun i hi=>atom_rep (hrep i hi) (atomD_of (hs _ (List.getElem_mem hi))))
 | tup cs =>
  obtain⟨vs,rfl,hl,hrep⟩:=h.is_tup
  simp only[YA,List.all_eq_true] at hs
  exact .tup _ _ hl (fun i hi=>atom_rep (hrep i hi) (atomD_of (hs _ (List.getElem_mem hi))))
 | _=>exact atom_rep h hs
theorem freshA_rep{w w':World}{F F':Nat→Prop}{ι ι':Nat→Option IB}{nm:Nat}{v:Value}{d:D}(h:Rep w F ι v d)(hf:freshA nm d=true)(hi:∀ ib,ι nm=some ib→ι' nm=some ib):Rep w' F' ι' v d:=by
 cases d with
 | os m hl lo len =>
  have e:m=nm:=by simpa[freshA] using hf
  subst e
  cases h with
  | pure _ _ h=>cases h
  | os _ _ _ _ ib _ hn hle h1 h=>exact .os _ _ _ _ ib _ (hi ib hn) hle h1 h
 | _=>exact .pure _ _ (scalar_rep h hf)
theorem freshD_rep{w w':World}{F F':Nat→Prop}{ι ι':Nat→Option IB}{nm:Nat}{v:Value}{d:D}(h:Rep w F ι v d)(hf:freshD nm d=true)(hi:∀ ib,ι nm=some ib→ι' nm=some ib):Rep w' F' ι' v d:=by
 cases d with
 | tup cs =>
  obtain⟨vs,rfl,hl,hrep⟩:=h.is_tup
  simp only[freshD,List.all_eq_true] at hf
  exact .tup _ _ hl (fun i hi'=>freshA_rep (hrep i hi') (hf _ (List.getElem_mem hi')) hi)
 | _=>exact freshA_rep h hf hi
section
variable {P:Program} {G:Nat→Option (List D)} {o:Oper} {ρ:Operand→D} {g:Nat→Option Blk} {nm:Nat}
theorem do_callB{k:Nat}{f:Operand}{args:Array Operand}{tys:Array TypeId}{d1 d2 A A':List D}{R:D}{es:Nat}{rows:List (List D)}(ho:o.op=.call { callee:=.value f,args:=args,argTypes:=tys })(hf:ρ f=.fn (.func k) d1 d2)(hv:mapO (Zy g 9) (d1++args.toList.map ρ++d2)=some A)(hle:Les A A')
  (hp:Imp P G k A' [] nm R [(nm,some (.arr es rows))]) (hR:freshD nm R=true) (hrows:∀ r∈rows,r.all YA=true):Do P G o ρ g nm R [(nm,some (.arr es rows))]:=by
 intro c dom ι a w σ st K Q hP hG hr hρ hg hnm hd hK
 subst hG
 have hop:∀ x∈args,x∈o.op.operands:=fun x hx=>by rw[ho];simp[Op.operands,Call.operands,hx]
 have hvf:=Zl hr f
 rw[hρ f (by rw[ho];simp[Op.operands,Call.operands]),hf] at hvf
 obtain⟨c1,c2,ef,h1,h2,r1,r2⟩:=hvf.is_fn
 obtain⟨a1,a2⟩:=args_rep (ρ:=ρ) (ev:=a.eval) h1 h2 r1 r2 (fun x hx=>by rw[← hρ x (hop x hx)];exact Zl hr x)
 obtain⟨m1,m2⟩:=Xr hv
 obtain⟨l1,l2⟩:=hle.at
 have hlow:∀ b,Fb c ι st b→b<w.heap.size:=fun b hb=>by
  rcases hb with hb|hb
  ·have:=(hr.low b hb).1;have:=hr.hsize;omega
  ·exact (hr.own b hb).1
 have hno:ι nm=none∧st nm=none:=by
  refine⟨?_,?_⟩
  ·cases hx:ι nm with
   | none=>rfl
   | some ib=>exact absurd (hr.dom nm (by rw[hx];rfl)) hnm
  ·cases hx:st nm with
   | none=>rfl
   | some b =>
    have hb:=hr.blk nm b hx
    have:(ι nm).isSome=true:=by
     cases b with
     | box cs=>obtain⟨ib,_,_,h,_⟩:=hb;rw[h];rfl
     | arr es rows=>obtain⟨ib,h,_⟩:=hb;rw[h];rfl
     | obj p=>obtain⟨ib,_,h,_⟩:=hb;rw[h];rfl
     | mp ks cs=>obtain⟨ib,_,_,h,_⟩:=hb;rw[h];rfl
     | deck sc=>obtain⟨ib,_,_,_,_,_,h,_⟩:=hb;rw[h];rfl
    exact absurd (hr.dom nm this) hnm
 let F':Nat→Prop:=fun b=>Fb c ι st b∧∀ n ib,(g n).isSome=true→ι n=some ib→0<ib.cap→b≠ib.blk
 let c':Ctx:=⟨c.P,c.G,0,F',w,fun _=>False,[],ι⟩
 have hfb:∀ b,Fb c' ι (fun _=>none) b→F' b:=by
  rintro b (h|⟨n,ib,h,_⟩)
  ·exact h
  ·cases h
 have hr0:Rel c'.bare dom ι act0 w any0 (fun _=>none):=by
  refine⟨rfl,rfl,fun t=>.pure _ _ (.any _),fun n b h=>(by cases h),fun n m h _ _ _ _ _ _ _ _=>(by cases h),hr.dom,rfl,rfl,rfl,Nat.le_refl _,fun b _ _=>rfl,fun b hb=>⟨hlow b hb.1,fun h=>h⟩,?_,fun gg row hgr=>?_,Grows.refl ι⟩
  ·rintro b ⟨n,ib,h,_⟩;cases h
  ·exact (hr.glob gg row hgr).mono (fun b hb _=>⟨rfl,fun h=>hb (hfb b h).1⟩)
 unfold Oper.wp
 rw[call_run ho ef hp.body]
 refine (hp.calls c' dom ι w (fun _=>none) (c1++args.map a.eval++c2) hP rfl hr0 (fun p hp'=>by cases hp') hnm (by omega) (fun i hi=>?_)).mono ?_
 ·exact .pure _ _ (((l2 i (by omega) hi).toP (view_ok hr hg F' (fun b hb=>hb) 9 _ _ _ (a2 i (by omega)) (m2 i (by omega) (by omega)))).mono (fun b hb _=>⟨rfl,fun h=>hb (hfb b h)⟩))
 ·rintro e w' ⟨v,ι',rfl,hr',hv',-⟩
  have hb:=hr'.blk nm (.arr es rows) (by simp[updL,updS])
  obtain⟨ib,b1,b2,b3,b4,b5,b6,b7⟩:=hb
  have hownn:0<ib.cap→ib.blk<w'.heap.size∧w.heap.size≤ib.blk:=by
   intro hc
   obtain⟨q1,q2,q3⟩:=hr'.own ib.blk ⟨nm,ib,by simp[updL,updS],b1,hc,rfl⟩
   rcases q3 with q3|q3
   ·exact absurd q3 (fun h=>h)
   ·exact⟨q1,q3⟩
  obtain⟨k1,k2⟩:=hr.one (w':=w') nm ib (.arr es rows) hr'.os hr'.tape hr'.output hr'.hsize (fun b hlt=>.inl (hr'.keep b hlt (fun h=>h))) (fun hc=>⟨(hownn hc).1,.inr (hownn hc).2⟩) (fun ib' h=>by rw[hno.1] at h;cases h)
   (fun _ _=>⟨ib,by simp[updI],b2,b3,b4,b5,b6,fun hc=>by
    obtain⟨vs,ty,e1,e2,e3⟩:=b7 hc
    exact⟨vs,ty,e1,e2,fun i hi j hj h0=>scalar_ok (e3 i hi j hj h0) (List.all_eq_true.1 (hrows _ (List.getElem_mem hi)) _ (List.getElem_mem hj))⟩⟩)
  refine hK _ _ (updI ι nm ib) ?_
  have hv2:Rep w' (Fb c (updI ι nm ib) (updS st nm (some (.arr es rows)))) (updI ι nm ib) v R:=freshD_rep hv' hR (fun ib' h=>by rw[b1] at h;cases h;simp[updI])
  have:=k1.put v R hv2 o.dst hd
  exact this.weaken (fun _=>Le.refl _) (fun n hn=>hn)
end
end
section
open Go Go.RowKit
section
variable {P:Program} {G:Nat→Option (List D)} {Ty:Nat→Option TyI} {o:Oper} {ρ:Operand→D} {g:Nat→Option Blk} {nm:Nat}
theorem builtin_clearS{cs:Array Bool}{tys:Array TypeId}{ty:Nat}{args:Array Value}{w w':World}{v:Value}(h:(Builtin.clear_ tys ty args).run P w=.ok v w'):(builtin .clear tys ty cs args).run P w=.ok (.value v) w':=by
 simp only[builtin,Sem.run_bind,h,Result.andThen_ok];rfl
theorem do_clearS(hty:TyOK P Ty){t e:Nat}{j:TyI}{x:Operand}{n hl lo len:Nat}{rows:List (List D)}(ho:o.op=Ym .clear #[x] #[t])(he:ZN Ty t=some (e,j))(hz:j.zero=.int .i64 0)(hx:ρ x=.os n hl lo len)(hgn:g n=some (.arr 1 rows))(hlen:rows.length=hl)(hle:lo+len≤hl) :
  Do P G o ρ g nm .any [(n,some (.arr 1 (rows.take lo++List.replicate len [.int .i64 0]++rows.drop (lo+len))))]:=by
 intro c dom ι a w σ st K Q hP hG hr hρ hg hnm hd hK
 subst hG
 have hvx:=Zl hr x
 rw[hρ x (by rw[ho];simp[Ym,Op.operands,Call.operands]),hx] at hvx
 obtain⟨u1,u2⟩:=ZL hty he
 obtain⟨info,de,z,z1,z2,z3,z4,z5,z6,z7⟩:=hty.get u2
 have hzv:z=.int .i64 0:=by
  rw[hz] at z7
  have h0:RepP w (fun _=>False) z (.int .i64 0):=zB_rep z7
  cases h0;rfl
 subst hzv
 have hzr:∀ w,(zeroValue e).run P w=.ok (.int .i64 0) w:=fun w=>by simp[zeroValue,typeInfo,z1,z6]
 obtain⟨cs,hcs⟩:=YC (ev:=a.eval) ho
 obtain⟨ib,a',cap,hn,e',q1,q2,q3,k2,k3,k4,k5,k6,k7⟩:=YX hr hg hvx hgn hlen
 have hso:(st n).isSome=true:=by rw[hg n _ hgn];rfl
 have hdn:dom n:=hr.dom n (by rw[hn];rfl)
 unfold Oper.wp
 rw[hcs]
 simp only[List.map_toArray,List.map_cons,List.map_nil,e']
 by_cases h0:len=0
 ·subst h0
  have hrun:(Builtin.clear_ #[t] o.type #[.slice a' 0 cap]).run P w=.ok (.tuple #[]) w:=by
   cases a'<;>simp[Builtin.clear_,run_underlying u1]
  rw[builtin_clearS hrun]
  have hst':updL st [(n,some (.arr 1 (rows.take lo++List.replicate 0 [.int .i64 0]++rows.drop (lo+0))))]=st:=by
   funext m
   simp only[updL,updS,List.replicate_zero,List.append_nil,Nat.add_zero,List.take_append_drop]
   by_cases e:m=n
   ·subst e;rw[if_pos rfl];exact (hg m _ hgn).symm
   ·rw[if_neg e]
  refine hK _ _ ι ?_
  rw[hst']
  exact (hr.put (.tuple #[]) .any (.pure _ _ (.any _)) o.dst hd).weaken (fun _=>Le.refl _) (fun _ h=>.inl h)
 ·have hpos:0<len:=by omega
  have hc0:0<cap:=by omega
  obtain⟨hbl,ea⟩:=q3 hc0
  subst ea
  have hcb:0<ib.cap:=by omega
  obtain⟨vs,ty,p1,p2,p3⟩:=k7 hcb
  rw[k3,Nat.mul_one]
  have hfit:lo - ib.base+len≤vs.size:=by omega
  have hrun:=Lib.run_clear_slice (P:=P) w t e o.type (.int .i64 0) u1 hzr rfl rfl ib.blk (lo - ib.base) len cap hpos (fun j hj=>by rw[cell_of_row w ib.blk _ _ _ _ p1];simp;omega) (fun j hj=>by simp[World.frozen?,p1])
  rw[builtin_clearS hrun,setCells_row p1 (by simpa using hfit) (fun v hv=>by rw[List.eq_of_mem_replicate hv];rfl)]
  generalize hnew:(vs.toList.take (lo - ib.base)++List.replicate len (Value.int .i64 0)++vs.toList.drop (lo - ib.base+(List.replicate len (Value.int .i64 0)).length)).toArray=new
  have hnsz:new.size=vs.size:=by rw[← hnew];simp;omega
  have hget:∀ k,new.getD k undef=if k<lo - ib.base then vs.getD k undef else if k<lo - ib.base+len then .int .i64 0 else vs.getD k undef:=by
   intro k
   have:=getD_mid vs (List.replicate len (Value.int .i64 0)).toArray (lo - ib.base) k (by simpa using hfit)
   simp only[List.size_toArray,List.length_replicate] at this
   rw[← hnew]
   simp only[List.length_replicate]
   rw[this]
   by_cases c1:k<lo - ib.base
   ·rw[if_pos c1,if_pos c1]
   ·rw[if_neg c1,if_neg c1]
    by_cases c2:k<lo - ib.base+len
    ·rw[if_pos c2,if_pos c2];simp[show k - (lo - ib.base)<len by omega]
    ·rw[if_neg c2,if_neg c2]
  have hone:=hr.one (w':=w.setRow ib.blk new) n ib (.arr 1 (rows.take lo++List.replicate len [.int .i64 0]++rows.drop (lo+len))) rfl rfl rfl (by simp)
   (fun b hb'=>by
    by_cases e:b=ib.blk
    ·exact .inr ⟨ib,hn,hso,hcb,e⟩
    ·exact .inl (setRow_other w _ _ _ e))
   (fun _=>⟨by simp;exact (hr.own ib.blk ⟨n,ib,hso,hn,hcb,rfl⟩).1,.inl ⟨ib,hn,hso,hcb,rfl⟩⟩)
   (fun ib2 h2=>.inl (Option.some.inj (hn.symm.trans h2)))
   (fun f1 f2=>⟨ib,by simp[updI],k2,k3,by simp;omega,by simp;omega,fun r hr'=>by
     rcases List.mem_append.1 hr' with h|h
     ·rcases List.mem_append.1 h with h|h
      ·exact k6 r (List.mem_of_mem_take h)
      ·rw[List.eq_of_mem_replicate h];rfl
     ·exact k6 r (List.mem_of_mem_drop h),fun _=>⟨new,ty,setRow_heap w _ vs _ ty _ p1,by omega,fun k hk jj hj hbk=>?_⟩⟩)
  ·obtain⟨r1,r2⟩:=hone
   exact hK _ _ _ ((r1.put (.tuple #[]) .any (.pure _ _ (.any _)) o.dst hd).weaken (fun _=>Le.refl _) (fun m hm=>.inl (hm.elim id (fun e=>e▸hdn))))
  ·have hk':k<rows.length:=by have:=hk;simp at this;omega
   have hsame:∀ (_:(rows.take lo++List.replicate len [.int .i64 0]++rows.drop (lo+len))[k]=rows[k]),RepP w (Fb c ι st) (vs.getD ((k - ib.base)*1+jj) undef) ((rows.take lo++List.replicate len [.int .i64 0]++rows.drop (lo+len))[k][jj]):=by
    intro e
    have hj':jj<rows[k].length:=by rw[← e];exact hj
    have:=p3 k hk' jj hj' hbk
    simp only[e]
    exact this
   have hj1:jj=0:=by
    have:(rows.take lo++List.replicate len [.int .i64 0]++rows.drop (lo+len))[k].length=1:=by
     have hm:=List.getElem_mem hk
     rcases List.mem_append.1 hm with h|h
     ·rcases List.mem_append.1 h with h|h
      ·exact k6 _ (List.mem_of_mem_take h)
      ·rw[List.eq_of_mem_replicate h];rfl
     ·exact k6 _ (List.mem_of_mem_drop h)
    omega
   subst hj1
   refine f2 _ _ ?_
   rw[hget]
   by_cases c1:k<lo
   ·rw[if_pos (by omega)]
    exact hsame (Option.some.inj (by rw[← List.getElem?_eq_getElem,← List.getElem?_eq_getElem,List.append_assoc,List.getElem?_append_left (by simp;omega),List.getElem?_take];simp[c1]))
   ·rw[if_neg (by omega)]
    by_cases c2:k<lo+len
    ·rw[if_pos (by omega)]
     have e:(rows.take lo++List.replicate len [.int .i64 0]++rows.drop (lo+len))[k]=[.int .i64 0]:=by
      rw[List.getElem_append_left (by simp;omega),List.getElem_append_right (by simp;omega)];simp
     simp only[e]
     exact .int _ _
    ·rw[if_neg (by omega)]
     exact hsame (Option.some.inj (by rw[← List.getElem?_eq_getElem,← List.getElem?_eq_getElem,List.getElem?_append_right (by simp;omega),List.getElem?_drop];congr 1;simp;omega))
end
end
section
open Go Go.Conc Go.RowKit
def RegTo(P:Program)(ops:Array Oper)(Q:Exit→Act→World→Prop)(l:List Nat)(a:Act)(w:World):Prop :=
 ∀ (b:Frame) (k:List Item) (cs:List Frame),∃ e a' w',Q e a' w'∧Arrives P (lone (b.at a (.inRegion ops l::k)) cs w) b k cs e a' w'
section
variable {P:Program} {ops:Array Oper} {Q:Exit→Act→World→Prop} {l rest:List Nat} {i:Nat} {o:Oper} {a:Act} {w w':World}
theorem regTo_ops(h:wpOps P ops Q l a w):RegTo P ops Q l a w:=wp_ops l a w h
theorem wp_region_to{id:Nat}(h:RegTo P ops Q (List.range ops.size) a w):(Code.region id ops false).wp P Q a w :=
 fun b k cs=>let ⟨e,a',w',q,r⟩:=h b k cs;⟨e,a',w',q,.of_steps (.one step_region) r⟩
theorem fin_at(b:Frame)(k:List Item)(ho:ops[i]? = some o)(v:Value):(b.at a (.inRegion ops (i::rest)::k)).finish v=b.at (a.put o.dst v) (.inRegion ops rest::k):=by
 rw[Frame.finish_at,ho];rfl
theorem regTo_op{v:Value}(ho:ops[i]? = some o)(hw:Region.wanted o (yielded ops a.tmps)=true)(hr:(execOp a.eval o).run P w=.ok (.value v) w')
  (h:RegTo P ops Q rest (a.put o.dst v) w'):RegTo P ops Q (i::rest) a w:=by
 intro b k cs
 obtain⟨e,a',w'',hq,harr⟩:=h b k cs
 have hg:=stepG_op (P:=P) (b:=b) (k:=k) (cs:=cs) (w:=w) (rest:=rest) ho hw
 refine⟨e,a',w'',hq,.of_steps (.one (step_lone_go ?_)) harr⟩
 rw[hg,← fin_at b k ho];simp[stepG.apply,hr]
theorem comm_op{cases:Array CommCase}{shape:CommShape}(ho:ops[i]? = some o)(hw:Region.wanted o (yielded ops a.tmps)=true)(hr:(execOp a.eval o).run P w=.ok (.comm cases true shape) w')
  (b:Frame) (k:List Item) (cs:List Frame) :
  ∃ es,stepG P true (G (b.at a (.inRegion ops (i::rest)::k)) cs) w=.comm (G (b.at a (.inRegion ops (i::rest)::k)) cs) cases true shape w' es:=by
 rw[stepG_oper ho hw]
 by_cases hk:(b.kind==CallKind.early)=true
 ·simp[stepG.apply,hr,G,Frame.at,hk,GStep.after]
 ·simp[stepG.apply,hr,G,Frame.at,hk,GStep.after]
theorem regTo_send{c cap s r:Nat}{buf:Array Value}{v z':Value}{tm:Bool}(ho:ops[i]? = some o)(hw:Region.wanted o (yielded ops a.tmps)=true)
  (hr:(execOp a.eval o).run P w=.ok (.comm #[scase c v z'] true .send) w') (hc:w'.heap[c]? = some (.chan cap buf false s r tm)) (hroom:buf.size<cap)
  (h:RegTo P ops Q rest (a.put o.dst undef) (w'.setChan c cap (buf.push v) false (s+1) r tm)):RegTo P ops Q (i::rest) a w:=by
 intro b k cs
 obtain⟨e,a',w'',hq,harr⟩:=h b k cs
 obtain⟨es,hg⟩:=comm_op (rest:=rest) ho hw hr b k cs
 refine⟨e,a',w'',hq,.of_steps (.one ?_) harr⟩
 rw[← fin_at b k ho]
 exact step_lone_send_room hg hc hroom
theorem regTo_recv{c cap s r:Nat}{buf:Array Value}{z:Value}{tm closed:Bool}(ok:Bool)(ho:ops[i]? = some o)(hw:Region.wanted o (yielded ops a.tmps)=true)
  (hr:(execOp a.eval o).run P w=.ok (.comm #[rcase c z] true (.recv ok)) w') (hc:w'.heap[c]? = some (.chan cap buf closed s r tm)) (hsome:0<buf.size)
  (h:RegTo P ops Q rest (a.put o.dst (got ok (buf.getD 0 undef) true)) (w'.setChan c cap (buf.extract 1 buf.size) closed s (r+1) tm)):RegTo P ops Q (i::rest) a w:=by
 intro b k cs
 obtain⟨e,a',w'',hq,harr⟩:=h b k cs
 obtain⟨es,hg⟩:=comm_op (rest:=rest) ho hw hr b k cs
 refine⟨e,a',w'',hq,.of_steps (.one ?_) harr⟩
 rw[← fin_at b k ho]
 exact step_lone_recv_buf ok hg hc hsome
end
section
variable {P:Program} {G:Nat→Option (List D)} {Ty:Nat→Option TyI} {o:Oper} {ρ:Operand→D} {g:Nat→Option Blk} {nm:Nat}
theorem chan_of(hty:TyOK P Ty){t e:Nat}{i:TyI}(ht:Ty t=some i)(hk:i.k=.chan e):∃ dir,P.underlying t=some (.chan dir e)∧(P.info? e).isSome=true:=by
 obtain⟨info,de,z,h1,h2,_,_,h5,_⟩:=hty.get ht
 rw[hk] at h5
 cases de<;>simp only[kB,Bool.and_eq_true,beq_iff_eq,Bool.false_eq_true] at h5
 rename_i dir e'
 obtain⟨rfl,h6⟩:=h5
 exact⟨dir,h2,h6⟩
theorem do_makeChan(hty:TyOK P Ty){t e n:Nat}{i j:TyI}{k:IntKind}{x:Operand}(ho:o.op=.makeChan t x)(ht:Ty t=some i)(hk:i.k=.chan e)(he:Ty e=some j)(hx:ρ x=.int k n)(hn:n≤1000000)(hb:j.bytes≤1000000) :
  Do P G o ρ g nm (.rf nm true) [(nm,some (.obj (.chanI n [])))]:=by
 intro c dom ι a w σ st K Q hP hG hr hρ hg hnm hd hK
 subst hG
 obtain⟨dir,h1,_⟩:=chan_of hty ht hk
 obtain⟨info,de,z,e1,e2,_,e4,_⟩:=hty.get he
 have hv:=Zl hr x
 rw[hρ x (by rw[ho];simp[Op.operands]),hx] at hv
 have hbn:(info.bytes:Int)*n≤281474976710544:=by
  rw[e4]
  have:j.bytes*n≤1000000*1000000:=Nat.mul_le_mul hb hn
  have h3:((j.bytes*n:Nat):Int)≤((1000000*1000000:Nat):Int):=Int.ofNat_le.2 this
  rw[Int.natCast_mul] at h3
  omega
 have hrun:(execOp a.eval o).run P w=.ok (.value (.chan (some w.heap.size))) (w.alloc (.chan n #[] false 0 0 false)):=by
  rw[show execOp a.eval o=(do pure (.value (← Instr.makeChan t (a.eval x)))) by unfold execOp;rw[ho]]
  rw[hv.is_int,Sem.run_bind,run_makeChan h1 e1 k n (by omega) hbn]
  rfl
 unfold Oper.wp
 rw[hrun]
 obtain⟨h1,h2⟩:=hr.none_of hnm
 obtain⟨r1,r2⟩:=hr.one (w':=w.alloc (.chan n #[] false 0 0 false)) nm ⟨true,w.heap.size,0,0,1,0⟩ (.obj (.chanI n [])) rfl rfl rfl (by simp) (fun b hb=>.inl (Below.heap_alloc w _ b hb)) (fun _=>⟨by simp,.inr (Nat.le_refl _)⟩)
  (fun ib hib=>by rw[h1] at hib;cases hib) (fun f1 f2=>⟨⟨true,w.heap.size,0,0,1,0⟩,.chan n #[] false 0 0 false,by simp[updI],rfl,Nat.one_pos,Xp _ _,0,0,rfl⟩)
 exact hK _ _ _ (r1.put _ (.rf nm true) (.rf nm true ⟨true,w.heap.size,0,0,1,0⟩ _ (by simp[updI]) rfl rfl) o.dst hd)
theorem do_len_chan(hty:TyOK P Ty){t e m cap:Nat}{i:TyI}{x:Operand}{xs:List Int}(ho:o.op=Ym .len #[x] #[t])(ht:Ty t=some i)(hk:i.k=.chan e)(hx:ρ x=.rf m true)(hgn:g m=some (.obj (.chanI cap xs))):Do P G o ρ g nm (.int .i64 xs.length) []:=by
 refine Xg (fun c dom ι a w σ st hP hG hr hρ hg=>?_)
 subst hG
 have hv:=Zl hr x
 rw[hρ x (by rw[ho];simp[Ym,Op.operands,Call.operands]),hx] at hv
 obtain⟨cs,hcs⟩:=YC (ev:=a.eval) ho
 obtain⟨dir,h1,_⟩:=chan_of hty ht hk
 obtain⟨ib,ob,b1,b2,b3,b4,⟨s,r,b5⟩,ex⟩:=rf_map hr hv (hg m _ hgn)
 rw[hcs]
 refine⟨.int .i64 xs.length,?_,.pure _ _ (.int _ _)⟩
 rw[b5] at b4
 simp[builtin,Builtin.len_,ex,run_underlying h1,run_getObj_chan _ _ b4,goInt]
end
end
section
open Go Go.RowKit
inductive AK where|b|i|s
 deriving DecidableEq
def atomEq:AK→D→D→Option Bool
 | .b,.bool a,.bool b=>some (a==b)
 | .i,.int k a,.int k' b=>if k=k' then some (a==b) else none
 | .s,.str a,.str b=>some (a.toList==b.toList)
 | _,_,_=>none
def Z1:List AK→List D→List D→Option Bool
 | [],[],[]=>some true
 | k::ks,a::as,b::bs=>match atomEq k a b,Z1 ks as bs with
  | some p,some q=>some (p&&q)
  | _,_=>none
 | _,_,_=>none
theorem atomsEq_len:∀ {ks:List AK} {as bs:List D} {r:Bool},Z1 ks as bs=some r→as.length=ks.length∧bs.length=ks.length
 | [],[],[],_,_=>⟨rfl,rfl⟩
 | k::ks,a::as,b::bs,r,h=>by
  simp only[Z1] at h
  split at h
  ·rename_i p q h1 h2
   obtain⟨e1,e2⟩:=atomsEq_len h2
   simp[e1,e2]
  ·cases h
 | [],_::_,_,_,h=>by simp[Z1] at h
 | [],[],_::_,_,h=>by simp[Z1] at h
 | _::_,[],_,_,h=>by simp[Z1] at h
 | _::_,_::_,[],_,h=>by simp[Z1] at h
theorem atomsEq_app:∀ {ks ks':List AK} {as bs:List D} {r:Bool},Z1 (ks++ks') as bs=some r→∃ p q,Z1 ks (as.take ks.length) (bs.take ks.length)=some p∧Z1 ks' (as.drop ks.length) (bs.drop ks.length)=some q∧r=(p&&q)
 | [],ks',as,bs,r,h=>⟨true,r,by simp[Z1],by simpa using h,by simp⟩
 | k::ks,ks',[],bs,r,h=>by simp[Z1] at h
 | k::ks,ks',_::_,[],r,h=>by simp[Z1] at h
 | k::ks,ks',a::as,b::bs,r,h=>by
  simp only[List.cons_append,Z1] at h
  split at h
  ·rename_i p q h1 h2
   obtain⟨p',q',e1,e2,e3⟩:=atomsEq_app h2
   refine⟨p&&p',q',by simp[Z1,h1,e1],by simpa using e2,?_⟩
   cases h;rw[e3,Bool.and_assoc]
  ·cases h
mutual
def flatT(P:Program):Nat→Nat→Option (List AK)
 | 0,_=>none
 | d+1,t=>match P.underlying t with
  | some .bool=>some [.b]
  | some (.int _)=>some [.i]
  | some .string=>some [.s]
  | some (.struct fs)=>if P.stoodInHeld t=false then flatF P d fs.toList 0 else none
  | _=>none
def flatF(P:Program):Nat→List Field→Nat→Option (List AK)
 | 0,_,_=>none
 | _+1,[],_=>some []
 | d+1,f::fs,acc=>if f.name ≠ "_" ∧ f.offset=acc then (match flatT P d f.type with
  | some ks=>if ((P.info? f.type).map (·.size))=some ks.length∧0<ks.length then (flatF P d fs (acc+ks.length)).map (ks++·) else none
  | none=>none) else none
end
def isStr(P:Program)(t:Nat):Bool:=match P.underlying t with|some (.struct _)=>true|_=>false
section
variable {P:Program}
theorem eqAtom{d t:Nat}{w:World}{k:AK}{a b:D}{va vb:Value}{F:Nat→Prop}{ι:Nat→Option IB}{r:Bool}(hk:k=.b→P.underlying t=some .bool)(hi:k=.i→∃ k,P.underlying t=some (.int k))(hs:k=.s→P.underlying t=some .string)(h1:Rep w F ι va a)(h2:Rep w F ι vb b)(h:atomEq k a b=some r) :
  (Op.equalIn (d+1) t va vb).run P w=.ok r w:=by
 unfold atomEq at h
 split at h
 ·cases h1.is_bool;cases h2.is_bool;cases h
  exact run_equalIn_bool' w d t _ _ (hk rfl)
 ·split at h
  ·rename_i e;subst e
   cases h1.is_int;cases h2.is_int;cases h
   obtain⟨k',hk'⟩:=hi rfl
   exact run_equalIn_int w d t _ _ _ _ hk'
  ·cases h
 ·cases h1.is_str;cases h2.is_str;cases h
  exact run_equalIn_string w d t _ _ (hs rfl)
 ·cases h
def EqS(P:Program)(mm t:Nat)(ks:List AK):Prop:=∀ w F ι xs ys (as bs:List D) r,xs.size=as.length→ys.size=bs.length→(∀ i (hi:i<as.length),Rep w F ι (xs.getD i undef) as[i])→(∀ i (hi:i<bs.length),Rep w F ι (ys.getD i undef) bs[i])→Z1 ks as bs=some r→(Op.equalIn mm t (.agg xs) (.agg ys)).run P w=.ok r w
def EqA(P:Program)(mm t:Nat)(ks:List AK):Prop:=∃ k,ks=[k]∧∀ w F ι a b va vb r,Rep w F ι va a→Rep w F ι vb b→atomEq k a b=some r→(Op.equalIn mm t va vb).run P w=.ok r w
theorem isStr_agg{t:Nat}{de:TypeDesc}(hu:P.underlying t=some de)(ks:List AK)(d:Nat)(h:flatT P d t=some ks):isAggT de=isStr P t:=by
 unfold isStr
 rw[hu]
 cases d with
 | zero=>simp[flatT] at h
 | succ d =>
  unfold flatT at h
  rw[hu] at h
  cases de<;>first|rfl|(simp at h)
mutual
theorem flatT_ok:∀ (d t:Nat) (ks:List AK),flatT P d t=some ks→∀ mm,d≤mm→(isStr P t=true→EqS P mm t ks)∧(isStr P t=false→EqA P mm t ks)
 | 0,t,ks,h,mm,_=>by simp[flatT] at h
 | d+1,t,ks,h,mm,hD=>by
  obtain⟨mm,rfl⟩:∃ m',mm=m'+1:=⟨mm - 1,by omega⟩
  unfold flatT at h
  split at h
  ·rename_i hu
   cases h
   refine⟨fun h=>by simp[isStr,hu] at h,fun _=>⟨.b,rfl,fun w F ι a b va vb r h1 h2 h=>eqAtom (fun _=>hu) (fun h=>by cases h) (fun h=>by cases h) h1 h2 h⟩⟩
  ·rename_i k hu
   cases h
   refine⟨fun h=>by simp[isStr,hu] at h,fun _=>⟨.i,rfl,fun w F ι a b va vb r h1 h2 h=>eqAtom (fun h=>by cases h) (fun _=>⟨k,hu⟩) (fun h=>by cases h) h1 h2 h⟩⟩
  ·rename_i hu
   cases h
   refine⟨fun h=>by simp[isStr,hu] at h,fun _=>⟨.s,rfl,fun w F ι a b va vb r h1 h2 h=>eqAtom (fun h=>by cases h) (fun h=>by cases h) (fun _=>hu) h1 h2 h⟩⟩
  ·rename_i fs hu
   split at h
   ·rename_i hp
    have hfs:P.fieldsOf t=fs:=by simp[Program.fieldsOf,hu]
    refine⟨fun _ w F ι xs ys as bs r l1 l2 r1 r2 he=>?_,fun h=>by simp[isStr,hu] at h⟩
    rw[run_equalIn_struct w mm t xs ys (by rw[hfs];exact hu) hp,hfs]
    exact flatF_ok d fs.toList 0 ks h mm (by omega) w F ι xs ys as bs r l1 l2 r1 r2 (by simpa using he)
   ·cases h
  ·cases h
theorem flatF_ok:∀ (d:Nat) (fs:List Field) (acc:Nat) (ks:List AK),flatF P d fs acc=some ks→∀ mm,d≤mm→∀ w F ι xs ys (as bs:List D) r,xs.size=as.length→ys.size=bs.length→(∀ i (hi:i<as.length),Rep w F ι (xs.getD i undef) as[i])→(∀ i (hi:i<bs.length),Rep w F ι (ys.getD i undef) bs[i])→Z1 ks (as.drop acc) (bs.drop acc)=some r→(Op.eqFields mm xs ys fs).run P w=.ok r w
 | 0,fs,acc,ks,h,_,_,_,_,_,_,_,_,_,_,_,_,_,_,_=>by simp[flatF] at h
 | d+1,[],acc,ks,h,mm,hD,w,F,ι,xs,ys,as,bs,r,l1,l2,r1,r2,he=>by
  simp only[flatF,Option.some.injEq] at h
  subst h
  have hn:r=true:=by
   cases h1:as.drop acc<;>cases h2:bs.drop acc<;>rw[h1,h2] at he<;>simp[Z1] at he
   exact he
  subst hn
  simp[Op.eqFields]
 | d+1,f::fs,acc,ks,h,mm,hD,w,F,ι,xs,ys,as,bs,r,l1,l2,r1,r2,he=>by
  simp only[flatF] at h
  split at h
  ·rename_i hc
   obtain⟨hname,hoff⟩:=hc
   split at h
   ·rename_i ks1 hks1
    split at h
    ·rename_i hsz0
     obtain⟨hsz,hpos⟩:=hsz0
     cases hf:flatF P d fs (acc+ks1.length) with
     | none=>rw[hf] at h;cases h
     | some ks2 =>
      rw[hf] at h
      cases h
      obtain⟨p,q,e1,e2,e3⟩:=atomsEq_app he
      obtain⟨n1,n2⟩:=atomsEq_len e1
      simp only[List.length_take,List.length_drop] at n1 n2
      cases hi:P.info? f.type with
      | none=>rw[hi] at hsz;cases hsz
      | some info =>
       rw[hi] at hsz
       simp only[Option.map_some,Option.some.injEq] at hsz
       have hu:∃ de,P.underlying f.type=some de:=by
        cases d with
        | zero=>simp[flatT] at hks1
        | succ d =>
         unfold flatT at hks1
         cases hq:P.underlying f.type with
         | none=>rw[hq] at hks1;cases hks1
         | some de=>exact⟨de,rfl⟩
       obtain⟨de,hu⟩:=hu
       have hag:=isStr_agg hu ks1 d hks1
       obtain⟨k1,k2⟩:=flatT_ok d f.type ks1 hks1 mm (by omega)
       have rest:=flatF_ok d fs (acc+ks1.length) ks2 hf mm (by omega) w F ι xs ys as bs q l1 l2 r1 r2 (by simpa[List.drop_drop] using e2)
       have fin:∀ va vb,(part f.type xs f.offset).run P w=.ok va w→(part f.type ys f.offset).run P w=.ok vb w→(Op.equalIn mm f.type va vb).run P w=.ok p w→(Op.eqFields mm xs ys (f::fs)).run P w=.ok r w:=by
        intro va vb q1 q2 q3
        simp only[Op.eqFields,if_pos hname,Sem.run_bind,q1,q2,q3,Result.andThen_ok]
        cases p
        ·simp[e3]
        ·simp[e3,rest]
       rw[hoff] at fin
       cases hst:isStr P f.type with
       | true =>
        rw[hst] at hag
        have g1:partD true acc ks1.length as=some (.agg ((as.drop acc).take ks1.length)):=by simp[partD];omega
        have g2:partD true acc ks1.length bs=some (.agg ((bs.drop acc).take ks1.length)):=by simp[partD];omega
        obtain⟨va,a1,a2⟩:=partD_ok (P:=P) hi hsz hu hag g1 l1 r1
        obtain⟨vb,b1,b2⟩:=partD_ok (P:=P) hi hsz hu hag g2 l2 r2
        obtain⟨cs1,rfl,c1,c2⟩:=a2.is_agg
        obtain⟨cs2,rfl,c3,c4⟩:=b2.is_agg
        exact fin _ _ a1 b1 (k1 hst w F ι cs1 cs2 _ _ p c1 c3 c2 c4 e1)
       | false =>
        rw[hst] at hag
        obtain⟨k,rfl,k3⟩:=k2 hst
        have ha:acc<as.length:=by simp at n1;omega
        have hb:acc<bs.length:=by simp at n2;omega
        have g1:partD false acc 1 as=some as[acc]:=by simp[partD,ha]
        have g2:partD false acc 1 bs=some bs[acc]:=by simp[partD,hb]
        obtain⟨va,a1,a2⟩:=partD_ok (P:=P) hi hsz hu hag g1 l1 r1
        obtain⟨vb,b1,b2⟩:=partD_ok (P:=P) hi hsz hu hag g2 l2 r2
        have t1:(as.drop acc).take 1=[as[acc]]:=by rw[List.drop_eq_getElem_cons ha];rfl
        have t2:(bs.drop acc).take 1=[bs[acc]]:=by rw[List.drop_eq_getElem_cons hb];rfl
        simp only[List.length_cons,List.length_nil,Nat.zero_add,t1,t2,Z1] at e1
        cases hh:atomEq k as[acc] bs[acc] with
        | none=>rw[hh] at e1;cases e1
        | some p' =>
         rw[hh] at e1
         simp at e1
         subst e1
         exact fin _ _ a1 b1 (k3 w F ι _ _ _ _ _ a2 b2 hh)
    ·cases h
   ·cases h
  ·cases h
end
end
section
variable {P:Program} {G:Nat→Option (List D)} {Ty:Nat→Option TyI} {o:Oper} {ρ:Operand→D} {g:Nat→Option Blk} {nm:Nat}
theorem do_bin0{op:BinOp}{t yt:Nat}{x y:Operand}{d:D}(ho:o.op=.binOp op t x y yt)(hd:atomB d=true)(h:∀ w F ι vx vy,Rep w F ι vx (ρ x)→Rep w F ι vy (ρ y)→(binOp op t vx vy).run P w=.ok (dV d) w∧(eqGuard op t x y vx vy).run P w=.ok () w):Do P G o ρ g nm d []:=by
 refine ZY (fun w F ι ev hev=>?_)
 have hx:=hev x (by rw[ho];simp[Op.operands])
 have hy:=hev y (by rw[ho];simp[Op.operands])
 obtain⟨h1,h2⟩:=h w F ι _ _ hx hy
 refine⟨dV d,?_,dV_rep hd⟩
 unfold execOp
 rw[ho]
 simp only[Sem.run_bind,h2,h1,Result.andThen_ok]
 rfl
theorem rep_pair{w:World}{F:Nat→Prop}{ι:Nat→Option IB}{v u:Value}{d e:D}(h:Rep w F ι v d)(k:Rep w F ι u e):Rep w F ι (.tuple #[v,u]) (.tup [d,e]):=by
 refine .tup _ _ rfl (fun i hi=>?_)
 match i,hi with
 | 0,_=>exact h
 | 1,_=>exact k
theorem rep_bl{w:World}{F:Nat→Prop}{ι:Nat→Option IB}(b:Bool):Rep w F ι (.bool b) (.bool b):=.pure _ _ (.bool b)
theorem do_typeAssert(hty:TyOK P Ty){x:Operand}{xt a:Nat}{ok:Bool}{i:TyI}{t:Nat}{d:D}(ho:o.op=.typeAssert x xt a ok)(ha:Ty a=some i)(hi:∀ b,i.k≠.ifc b)(hx:ρ x=.ifc t d)(hok:t=a∨ok=true) :
  Do P G o ρ g nm (if t=a then (if ok=true then .tup [d,.bool true] else d) else .tup [i.zero,.bool false]) []:=by
 refine ZY (fun w F ι ev hev=>?_)
 have hv:=hev x (by rw[ho];simp[Op.operands])
 rw[hx] at hv
 obtain⟨u,hu,hd⟩:=hv.is_ifc
 obtain⟨info,de,z,h1,h2,_,_,h5,h6,h7⟩:=hty.get ha
 have hz:Rep w F ι z i.zero:=.pure _ _ (zB_rep h7)
 have hno:∀ ms,de≠.interface ms:=fun ms e=>by
  subst e
  cases hk:i.k<;>rw[hk] at h5<;>first|(simp[kB] at h5;done)|exact hi _ hk
 have hrun:∀ v,(Instr.typeAssert (.iface t u) xt a ok).run P w=.ok v w→(execOp ev o).run P w=.ok (.value v) w:=fun v h=>by
  unfold execOp
  rw[ho]
  show (do pure (Next.value (← Instr.typeAssert (ev x) xt a ok)):Sem Next).run P w=_
  rw[hu,Sem.run_bind,h]
  rfl
 by_cases e:t=a
 ·rw[if_pos e]
  subst e
  refine⟨if ok=true then .tuple #[u,.bool true] else u,hrun _ ?_,?_⟩
  ·unfold Instr.typeAssert
   simp only[Sem.run_bind,run_underlying h2,Result.andThen_ok]
   cases de<;>first
    | exact absurd rfl (hno _)
    | (simp;done)
  ·cases ok with
   | true=>exact rep_pair hd (rep_bl true)
   | false=>exact hd
 ·rw[if_neg e]
  have hk:ok=true:=hok.resolve_left e
  subst hk
  refine⟨.tuple #[z,.bool false],hrun _ ?_,rep_pair hz (rep_bl false)⟩
  unfold Instr.typeAssert
  simp only[Sem.run_bind,run_underlying h2,Result.andThen_ok]
  cases de<;>first
   | exact absurd rfl (hno _)
   | (simp[e,zeroValue,typeInfo,h1,h6];done)
def kindsA:List D→List AK
 | []=>[]
 | .bool _::ds=>.b::kindsA ds
 | .int _ _::ds=>.i::kindsA ds
 | .str _::ds=>.s::kindsA ds
 | _::_=>[]
def SameOK(P:Program)(t:Nat)(ks:List AK):Prop:=flatT P 100 t=some ks∧isStr P t=true∧P.eqGuardType P.depth t=false
def eqAgg(P:Program)(op:BinOp)(t:Nat)(as bs:List D):Option (D×Prop) :=
 match Z1 (kindsA as) as bs with
 | some r=>match op with
  | .eql=>some (.bool r,SameOK P t (kindsA as))
  | .neq=>some (.bool (!r),SameOK P t (kindsA as))
  | _=>none
 | none=>none
theorem do_eqAgg{op:BinOp}{t yt:Nat}{x y:Operand}{as bs:List D}{d:D}{s:Prop}(ho:o.op=.binOp op t x y yt)(ex:ρ x=.agg as)(ey:ρ y=.agg bs)(h:eqAgg P op t as bs=some (d,s))(hs:s):Do P G o ρ g nm d []:=by
 unfold eqAgg at h
 split at h
 ·rename_i r hr
  split at h
  ·cases h
   obtain⟨e1,e2,e3⟩:=hs
   obtain⟨k1,_⟩:=flatT_ok 100 t _ e1 10000 (by omega)
   refine do_bin0 ho rfl (fun w F ι vx vy hx hy=>?_)
   rw[ex] at hx;rw[ey] at hy
   obtain⟨cs1,rfl,l1,r1⟩:=hx.is_agg
   obtain⟨cs2,rfl,l2,r2⟩:=hy.is_agg
   have:=k1 e2 w F ι cs1 cs2 as bs r l1 l2 r1 r2 hr
   exact⟨by rw[run_eql_struct,this];rfl,run_eqGuard_agg w _ _ _ _ _ _ e3⟩
  ·cases h
   obtain⟨e1,e2,e3⟩:=hs
   obtain⟨k1,_⟩:=flatT_ok 100 t _ e1 10000 (by omega)
   refine do_bin0 ho rfl (fun w F ι vx vy hx hy=>?_)
   rw[ex] at hx;rw[ey] at hy
   obtain⟨cs1,rfl,l1,r1⟩:=hx.is_agg
   obtain⟨cs2,rfl,l2,r2⟩:=hy.is_agg
   have:=k1 e2 w F ι cs1 cs2 as bs r l1 l2 r1 r2 hr
   exact⟨by rw[run_neq_struct,this];rfl,run_eqGuard_agg w _ _ _ _ _ _ e3⟩
  ·cases h
 ·cases h
end
end
section
open Go Go.RowKit
structure Out where
 v:D
 upd:List (Nat×Option Blk)
 L:List Nat
 side:Prop
def Z2:D→List Nat
 | .bp n _|.ap n _ _ _|.os n _ _ _|.rf n _=>[n]
 | _=>[]
mutual
def ZA:D→List Nat
 | .bp n _|.ap n _ _ _|.os n _ _ _|.rf n _=>[n]
 | .agg cs|.tup cs=>ZB cs
 | .fn _ a b=>ZB a++ZB b
 | .ifc _ d=>ZA d
 | _=>[]
def ZB:List D→List Nat
 | []=>[]
 | d::ds=>ZA d++ZB ds
end
def namesB(g:Nat→Option Blk)(n:Nat):List Nat:=match g n with|some (.box cs)=>ZB cs|some (.mp _ cs)=>ZB cs|_=>[]
def reachL(g:Nat→Option Blk)(ds:List D):List Nat :=
 let a:=ZB ds
 let b:=a++a.flatMap (namesB g)
 (b++b.flatMap (namesB g)).eraseDups
structure PC(P:Program)(G:Nat→Option (List D)) where
 k:Nat
 args:List D
 R:D
 pf:Pure P G k args R
structure IC(P:Program)(G:Nat→Option (List D)) where
 k:Nat
 args:List D
 gl:List (Nat×Blk)
 nm:Nat
 R:D
 upd:List (Nat×Option Blk)
 pf:Imp P G k args gl nm R upd
inductive PX(P:Program)(G:Nat→Option (List D)) where
 | p (c:PC P G)
 | i (c:IC P G)
 | b (c:IC P G)
section
variable {P:Program} (G:Nat→Option (List D)) (Ty:Nat→Option TyI)
def isI0:D→Bool
 | .int .i64 n=>decide (n=0)
 | _=>false
def ok(v:D):Option Out:=some ⟨v,[],[],True⟩
def absMem(P:Program)(o:Oper)(ρ:Operand→D)(g:Nat→Option Blk)(nm:Nat):Option Out :=
 match o.op with
 | .alloc t=>match Ty t with|some i=>if Z5 i.zero then some ⟨.bp nm 0,[(nm,some (.box (Zf i.zero)))],[],True⟩ else none|none=>none
 | .box _ x=>if Z5 (ρ x) then some ⟨.bp nm 0,[(nm,some (.box (Zf (ρ x))))],[],True⟩ else none
 | .load t x=>match YU (resN (Z2 (ρ x)) g) (ρ x) with|some (c::cs)=>(loadD Ty t (c::cs)).map (⟨·,[],Z2 (ρ x),True⟩)|_=>none
 | .store t x y=>match Ty t,ρ x with
  | some i,.bp n off=>match resN [n] g n with
   | some (.box cs)=>if Z5 (ρ y)∧(Zf (ρ y)).length=i.size∧onesD (Zf (ρ y))=true∧off+(Zf (ρ y)).length≤cs.length then some ⟨.any,[(n,some (.box (putL cs off (Zf (ρ y)))))],[n],True⟩ else none
   | _=>none
  | some i,.ap n hl ix off=>match resN [n] g n with
   | some (.arr es rows)=>match rows[ix]? with
    | some row=>if Z5 (ρ y)∧(ρ y).lo 0=true∧(Zf (ρ y)).length=i.size∧onesD (Zf (ρ y))=true then some ⟨.any,[(n,some (.arr es (rows.set ix (putL row off (Zf (ρ y))))))],[n],rows.length=hl∧off+(Zf (ρ y)).length≤row.length⟩ else none
    | none=>none
   | _=>none
  | _,_=>none
 | .fieldAddr s x f=>match fieldOf Ty s f with|some (off,size,_)=>if size≠0 then (padd (resN (Z2 (ρ x)) g) off (ρ x)).map (⟨·,[],Z2 (ρ x),True⟩) else none|none=>none
 | .indexAddr t x ix=>(Yx Ty (resN (Z2 (ρ x)) g) t (ρ x) (ρ ix)).map (⟨·,[],Z2 (ρ x),True⟩)
 | .buildSlice t len parts=>match ZN Ty t with
  | some (_,j)=>if (Zf j.zero).length=j.size∧Z5 j.zero=true∧len*j.size≤16777216 then
    match fillD (fun k=>some (k*j.size,j.size)) (YL len (Zf j.zero)) (parts.toList.map (fun p=>(p.1,ρ p.2))) with
    | some out=>if D.los 0 out=true∧out.length=len*j.size then some ⟨.os nm len 0 len,[(nm,some (.arr j.size (Z9 len j.size out)))],[],True⟩ else none
    | none=>none
   else none
  | none=>none
 | .makeSlice t x y=>match ZN Ty t,ρ x,ρ y with
  | some (_,j),.int _ l,.int _ c=>if (Zf j.zero).length=j.size∧Z5 j.zero=true then
    some ⟨.os nm l.toNat 0 l.toNat,[(nm,some (.arr j.size (List.replicate l.toNat (Zf j.zero))))],[],0≤l∧l≤c∧j.bytes*c.toNat≤281474976710656∧c.toNat≤9223372036854775807⟩ else none
  | _,_,_=>none
 | .slice t x lo hi none=>match ρ x with
  | .os n hl l0 len=>(match resN [n] g n,ZN Ty t,bndD ρ lo,bndD ρ hi with
   | some (.arr es rows),some (_,j),some bl,some bh=>if es=j.size then some ⟨.os n hl (l0+bl.getD 0) (bh.getD len - bl.getD 0),[],[n],rows.length=hl∧bh.getD len≤len∧bl.getD 0≤bh.getD len⟩ else none
   | _,_,_,_=>none)
  | _=>none
 | .makeChan t x=>match Ty t,ρ x with
  | some i,.int _ n=>(match i.k with
   | .chan e=>(match Ty e with
    | some j=>if j.bytes≤1000000 then some ⟨.rf nm true,[(nm,some (.obj (.chanI n.toNat [])))],[],0≤n∧n≤1000000⟩ else none
    | none=>none)
   | _=>none)
  | _,_=>none
 | .makeMap t none=>match mapK Ty t with
  | some (k,e,true)=>some ⟨.rf nm false,[(nm,some (.obj (.mapII P k e 0 (fun _=>0))))],[],True⟩
  | some (k,e,false)=>some ⟨.rf nm false,[(nm,some (.obj (.mapSB P k e 0 (fun _=>false))))],[],True⟩
  | none=>none
 | .lookup t x y false=>match mapK Ty t,ρ x,ρ y with
  | some (k,e,true),.rf m false,.int .i64 p=>match resN [m] g m with
   | some (.obj (.mapII P' k' e' _ f))=>some ⟨.int .i64 (f p),[],[m],P'=P∧k'=k∧e'=e ∧ -9223372036854775808≤p∧p≤9223372036854775807⟩
   | _=>none
  | some (k,e,false),.rf m false,.str p=>match resN [m] g m with
   | some (.obj (.mapSB P' k' e' _ f))=>some ⟨.bool (f p.data.toList),[],[m],P'=P∧k'=k∧e'=e∧p.size≤65536⟩
   | _=>none
  | _,_,_=>none
 | .mapUpdate t x y z=>match mapK Ty t,ρ x,ρ y,ρ z with
  | some (k,e,true),.rf m false,.int .i64 p,.int .i64 u=>match resN [m] g m with
   | some (.obj (.mapII P' k' e' n f))=>some ⟨.any,[(m,some (.obj (.mapII P k e (n+1) (fun q=>if q=p then u else f q))))],[m],P'=P∧k'=k∧e'=e∧(-9223372036854775808≤p∧p≤9223372036854775807)∧(-9223372036854775808≤u∧u≤9223372036854775807)∧n≤65536⟩
   | _=>none
  | some (k,e,false),.rf m false,.str p,.bool u=>match resN [m] g m with
   | some (.obj (.mapSB P' k' e' n f))=>some ⟨.any,[(m,some (.obj (.mapSB P k e (n+1) (fun q=>if q=p.data.toList then u else f q))))],[m],P'=P∧k'=k∧e'=e∧p.size≤65536∧n≤65536⟩
   | _=>none
  | _,_,_,_=>none
 | .binOp op t x y _=>match ρ x,ρ y with
  | .agg as,.agg bs=>(match eqAgg P op t as bs with|some (d,s)=>some ⟨d,[],[],s⟩|none=>none)
  | _,_=>none
 | .typeAssert x _ a ok=>match Ty a,ρ x with
  | some i,.ifc t d=>(match i.k with
   | .ifc _=>none
   | _=>some ⟨if t=a then (if ok=true then .tup [d,.bool true] else d) else .tup [i.zero,.bool false],[],[],t=a∨ok=true⟩)
  | _,_=>none
 | _=>none
def absVal(o:Oper)(ρ:Operand→D):Option Out :=
 match o.op with
 | .move x|.assign x=>ok (ρ x)
 | .pick c a b=>(pickD (ρ c) (ρ a) (ρ b)).bind ok
 | .binOp op t x y _=>(binD Ty op t (ρ x) (ρ y)).bind ok
 | .unOp op _ x=>(unD op (ρ x)).bind ok
 | .extract x ix=>match ρ x with|.tup ds=>(ds[ix]?).bind ok|_=>none
 | .makeInterface t x=>match Ty t with|some i=>(match i.k with|.ifc _=>none|_=>ok (.ifc t (ρ x)))|none=>none
 | .makeFunc f a b=>ok (.fn f (a.toList.map ρ) (b.toList.map ρ))
 | .nilCheck x=>if nilOKD (ρ x) then ok (ρ x) else none
 | .field s x f=>match fieldOf Ty s f,ρ x with|some (off,size,ag),.agg ds=>(partD ag off size ds).bind ok|_,_=>none
 | .index t x ix=>match ρ x with
  | .agg _=>(indexD Ty t (ρ x) (ρ ix)).bind ok
  | .str _=>match Ty t with|some i=>(match i.k with|.str=>(indexD Ty t (ρ x) (ρ ix)).bind ok|_=>none)|none=>none
  | _=>none
 | .build t parts=>match Ty t,placeOf Ty t with
  | some i,some pl=>(match i.zero with|.agg zs=>(fillD pl zs (parts.toList.map (fun p=>(p.1,ρ p.2)))).bind (fun out=>ok (.agg out))|_=>none)
  | _,_=>none
 | .convert s d x=>match Ty s,Ty d,ρ x with
  | some _,some j,.int _ n=>(match j.k with|.int k'=>ok (.int k' (k'.wrap n))|_=>none)
  | _,_,_=>none
 | .slice t x lo hi none=>match ρ x,ZN Ty t,bndD ρ lo,bndD ρ hi with
  | .sl rows,some (_,j),some bl,some bh=>some ⟨.sl ((rows.drop (bl.getD 0)).take (bh.getD rows.length - bl.getD 0)),[],[],(∀ r∈rows,r.length=j.size)∧bh.getD rows.length≤rows.length∧bl.getD 0≤bh.getD rows.length⟩
  | _,_,_,_=>none
 | _=>none
def absBuiltin(b:Builtin)(args:List Operand)(tys:List TypeId)(ρ:Operand→D)(g:Nat→Option Blk)(nm:Nat):Option Out :=
 match b,args,tys with
 | .len,[x],[t]=>match Ty t with
  | some i=>match ρ x with
   | .os n hl _lo len=>(match resN [n] g n with|some (.arr _ rows)=>if isSlK i.k then some ⟨.int .i64 len,[],[n],rows.length=hl⟩ else none|_=>none)
   | .rf m true=>(match resN [m] g m,i.k with|some (.obj (.chanI _ xs)),.chan _=>some ⟨.int .i64 xs.length,[],[m],True⟩|_,_=>none)
   | d=>if lenK d i.k then (lenD d).bind (fun n=>ok (.int .i64 n)) else none
  | none=>none
 | .append,[x,y],[t,tx]=>match ZN Ty t,ZN Ty tx with
  | some (_,j),some _=>if (Zf j.zero).length=j.size∧Z5 j.zero=true then
    match ρ x with
    | .nils=>(match Yq (resN (Z2 (ρ y)) g) (ρ y) with
     | some rows=>some ⟨.os nm rows.length 0 rows.length,[(nm,some (.arr j.size rows))],Z2 (ρ y),(∀ r∈rows,r.length=j.size)∧(∀ r∈rows,onesD r=true)∧rows.length*j.bytes≤1000000000000∧rows.length≤1000000000000⟩
     | none=>none)
    | .os n hl lo len=>(match resN (n::Z2 (ρ y)) g n,Yq (resN (n::Z2 (ρ y)) g) (ρ y) with
     | some (.arr es rows0),some rows=>if es=j.size then some ⟨.os n (hl+rows.length) lo (len+rows.length),[(n,some (.arr es (rows0++rows)))],n::Z2 (ρ y),lo+len=hl∧rows0.length=hl∧(∀ r∈rows,r.length=j.size)∧(∀ r∈rows,onesD r=true)∧(hl+rows.length)*j.bytes≤1000000000000∧hl+rows.length≤1000000000000⟩ else none
     | _,_=>none)
    | _=>none
   else none
  | _,_=>none
 | .min,[x,y],_=>match ρ x,ρ y with
  | .int k a,.int k' b=>if k=k' then ok (.int k (if b<a then b else a)) else none
  | _,_=>none
 | .clear,[x],[t]=>match ZN Ty t,ρ x with
  | some (_,j),.os n hl lo len=>(match resN [n] g n with
   | some (.arr es rows)=>if es=1∧isI0 j.zero=true then some ⟨.any,[(n,some (.arr 1 (rows.take lo++List.replicate len [.int .i64 0]++rows.drop (lo+len))))],[n],rows.length=hl∧lo+len≤hl⟩ else none
   | _=>none)
  | _,_=>none
 | _,_,_=>none
def absCallB(ic:IC P G)(f:Operand)(args:List Operand)(ρ:Operand→D)(g:Nat→Option Blk)(nm:Nat):Option Out :=
 match ρ f with
 | .fn (.func k) d1 d2 =>
  match mapO (Zy (resN (reachL g (d1++args.map ρ++d2)) g) 9) (d1++args.map ρ++d2) with
  | some A=>match ic.gl,ic.upd with
   | [],[(m,some (.arr es rows))]=>if k=ic.k∧ic.nm=nm∧m=nm∧freshD nm ic.R=true then some ⟨ic.R,[(nm,some (.arr es rows))],reachL g (d1++args.map ρ++d2),Les A ic.args∧∀ r∈rows,r.all YA=true⟩ else none
   | _,_=>none
  | none=>none
 | _=>none
def absCall(pc:PC P G)(f:Operand)(args:List Operand)(ρ:Operand→D)(g:Nat→Option Blk):Option Out :=
 match ρ f with
 | .fn (.func k) d1 d2 =>
  let ds:=d1++args.map ρ++d2
  let L:=reachL g ds
  match mapO (Zy (resN L g) 9) ds with
  | some A=>if k=pc.k then some ⟨pc.R,if YA pc.R then [] else L.map (fun n=>(n,none)),L,Les A pc.args⟩ else none
  | none=>none
 | _=>none
def absCallI(ic:IC P G)(f:Operand)(args:List Operand)(ρ:Operand→D)(g:Nat→Option Blk)(nm:Nat):Option Out :=
 match ρ f with
 | .fn (.func k) d1 d2=>if k=ic.k∧ic.nm=nm then some ⟨ic.R,ic.upd,ic.gl.map (·.1),d1++args.map ρ++d2=ic.args∧∀ p∈ic.gl,resN (ic.gl.map (·.1)) g p.1=some p.2⟩ else none
 | _=>none
end
def gtO(σ:List (Nat×D)):Option Nat→Option D
 | some d=>some (gt σ d)
 | none=>none
def wantH(want:Bool):Option D→Option Bool
 | some (.bool b)=>some (b==want)
 | some (.tup _)=>some false
 | some _=>none
 | none=>some false
def wantedL(ops:List Oper)(σ:List (Nat×D))(o:Oper):Option Bool :=
 match o.guard with
 | none=>some true
 | some (j,want)=>wantH want (gtO σ ((ops[j]?).bind (·.dst)))
theorem wantedL_eq(ops:List Oper)(σ:List (Nat×D))(o:Oper):wantedL ops σ o=Z0 ops (gt σ) o:=by
 unfold Z0 wantedL
 cases o.guard with
 | none=>rfl
 | some p =>
  obtain⟨j,want⟩:=p
  show wantH want (gtO σ ((ops[j]?).bind (·.dst)))=(match (ops[j]?).bind (·.dst) with|some d=>(match gt σ d with|.bool b=>some (b==want)|.tup _=>some false|_=>none)|none=>some false)
  generalize (ops[j]?).bind (·.dst)=od
  cases od with
  | none=>rfl
  | some d =>
   show wantH want (some (gt σ d))=_
   show _=(match gt σ d with|.bool b=>some (b==want)|.tup _=>some false|_=>none)
   generalize gt σ d=x
   cases x<;>rfl
theorem gtO_some(σ:List (Nat×D))(d:Nat):gtO σ (some d)=some (gt σ d):=rfl
theorem wantH_bool(want b:Bool):wantH want (some (.bool b))=some (b==want):=rfl
theorem wantH_tup(want:Bool)(l:List D):wantH want (some (.tup l))=some false:=rfl
theorem wantH_none(want:Bool):wantH want none=some false:=rfl
def YE{P:Program}(G:Nat→Option (List D))(Ty:Nat→Option TyI)(N:Nat)(ops:List Oper)(nx:Nat):List Oper→Nat→List (PX P G)→List (Nat×D)→List (Nat×Blk)→Option (List LogE×List (Nat×D)×List (Nat×Blk)×Prop)
 | [],_,_,σ,st=>some ([],σ,st,True)
 | o::rest,i,pcs,σ,st =>
  match wantedL ops σ o with
  | none=>none
  | some false=>match YE G Ty N ops nx rest (i+1) pcs (setL σ o.dst (.tup [])) st with
   | some (log,σ',st',s)=>some (⟨ZP ops o,[],o.dst,[]⟩::log,σ',st',(∀ t,o.dst=some t→t<N)∧s)
   | none=>none
  | some true =>
   let (r,pcs'):Option Out×List (PX P G):=match o.op with
    | .call { callee:=.builtin b,args,argTypes }=>(absBuiltin Ty b args.toList argTypes.toList (opD G (gt σ)) (gs st) (nx+i),pcs)
    | .call { callee:=.value f,args,.. }=>(match pcs with|.p pc::pcs'=>(absCall G pc f args.toList (opD G (gt σ)) (gs st),pcs')|.i ic::pcs'=>(absCallI G ic f args.toList (opD G (gt σ)) (gs st) (nx+i),pcs')|.b bc::pcs'=>(absCallB G bc f args.toList (opD G (gt σ)) (gs st) (nx+i),pcs')|[]=>(none,[]))
    | _=>(match absVal Ty o (opD G (gt σ)) with|some r=>some r|none=>absMem Ty P o (opD G (gt σ)) (gs st) (nx+i),pcs)
   match r with
   | none=>none
   | some r=>match YE G Ty N ops nx rest (i+1) pcs' (setL σ o.dst r.v) (putS st r.upd) with
    | some (log,σ',st',s)=>some (⟨ZP ops o,r.L,o.dst,r.upd.map (·.1)⟩::log,σ',st',(∀ t,o.dst=some t→t<N)∧r.side∧s)
    | none=>none
end
section
open Go Go.RowKit
section
variable {P:Program} {G:Nat→Option (List D)} {Ty:Nat→Option TyI} {o:Oper} {ρ:Operand→D} {g:Nat→Option Blk} {nm:Nat} {r:Out}
theorem ok_eq{v:D}(h:ok v=some r):r=⟨v,[],[],True⟩:=by cases h;rfl
theorem bind_ok{x:Option D}(h:x.bind ok=some r):∃ v,x=some v∧r=⟨v,[],[],True⟩:=by
 cases x with
 | none=>cases h
 | some v=>exact⟨v,rfl,ok_eq h⟩
theorem absVal_ok(hty:TyOK P Ty)(h:absVal Ty o ρ=some r)(hs:r.side):Do P G o ρ (resN r.L g) nm r.v r.upd:=by
 unfold absVal at h
 split at h
 ·rename_i x ho;obtain rfl:=ok_eq h;exact do_move (.inl ho)
 ·rename_i x ho;obtain rfl:=ok_eq h;exact do_move (.inr ho)
 ·rename_i c a b ho;obtain⟨v,hv,rfl⟩:=bind_ok h;exact do_pick ho hv
 ·rename_i op t x y yt ho;obtain⟨v,hv,rfl⟩:=bind_ok h;exact do_binOp hty ho hv
 ·rename_i op t x ho;obtain⟨v,hv,rfl⟩:=bind_ok h;exact do_unOp ho hv
 ·rename_i x ix ho
  split at h
  ·rename_i ds hx;obtain⟨v,hv,rfl⟩:=bind_ok h;exact do_extract ho hx hv
  ·cases h
 ·rename_i t x ho
  split at h
  ·rename_i i hi
   split at h
   ·cases h
   ·rename_i hk;obtain rfl:=ok_eq h;exact do_makeInterface hty ho hi (fun b e=>hk b e)
  ·cases h
 ·rename_i f a b ho;obtain rfl:=ok_eq h;exact do_makeFunc ho
 ·rename_i x ho
  split at h
  ·rename_i hn;obtain rfl:=ok_eq h;exact do_nilCheck ho hn
  ·cases h
 ·rename_i s x f ho
  split at h
  ·rename_i off size ag ds hf hx;obtain⟨v,hv,rfl⟩:=bind_ok h;exact do_field hty ho hf hx hv
  ·cases h
 ·rename_i t x ix ho
  split at h
  ·rename_i ds hx;obtain⟨v,hv,rfl⟩:=bind_ok h
   exact do_index hty ho (fun s e=>by rw[hx] at e;cases e) hv
  ·rename_i s hx
   split at h
   ·rename_i i hi
    split at h
    ·rename_i hk;obtain⟨v,hv,rfl⟩:=bind_ok h
     obtain⟨info,d,z,h1,h2,_,_,h5,_⟩:=hty.get hi
     refine do_index hty ho (fun s e=>?_) hv
     rw[hk] at h5
     cases d<;>simp only[kB,Bool.false_eq_true] at h5
     exact h2
    ·cases h
   ·cases h
  ·cases h
 ·rename_i t parts ho
  split at h
  ·rename_i i pl hi hpl
   split at h
   ·rename_i zs hz
    cases hf:fillD pl zs (parts.toList.map (fun p=>(p.1,ρ p.2))) with
    | none=>rw[hf] at h;cases h
    | some out=>rw[hf] at h;obtain rfl:=ok_eq h;exact do_build hty ho hi hz hpl hf
   ·cases h
  ·cases h
 ·rename_i s d x ho
  split at h
  ·rename_i i j k n hi hj hx
   split at h
   ·rename_i k' hk;obtain rfl:=ok_eq h
    obtain⟨_,ds,_,_,h2,_⟩:=hty.get hi
    obtain⟨_,dd,_,_,h2',_,_,h5,_⟩:=hty.get hj
    rw[hk] at h5
    cases dd<;>simp only[kB,Bool.false_eq_true,beq_iff_eq] at h5
    subst h5
    exact do_convert_int ho h2 h2' hx
   ·cases h
  ·cases h
 ·rename_i t x lo hi ho
  split at h
  ·rename_i rows j bl bh hx he h1 h2
   cases h
   obtain⟨s1,s2,s3⟩:=hs
   exact do_slice_sl hty ho he hx s1 h1 h2 s2 s3
  ·cases h
 ·cases h
theorem absMem_ok(hty:TyOK P Ty)(h:absMem Ty P o ρ g nm=some r)(hs:r.side):Do P G o ρ (resN r.L g) nm r.v r.upd:=by
 unfold absMem at h
 split at h
 ·rename_i t ho
  split at h
  ·rename_i i hi
   split at h
   ·rename_i hst;cases h;exact do_alloc hty ho hi hst
   ·cases h
  ·cases h
 ·rename_i t x ho
  split at h
  ·rename_i hst;cases h;exact do_box ho hst
  ·cases h
 ·rename_i t x ho
  split at h
  ·rename_i c cs hc
   cases hl:loadD Ty t (c::cs) with
   | none=>rw[hl] at h;cases h
   | some d=>rw[hl] at h;cases h;exact do_load hty ho hc (by simp) hl
  ·cases h
 ·rename_i t x y ho
  split at h
  ·rename_i i n off hi hx
   split at h
   ·rename_i cs hc
    split at h
    ·rename_i hcond
     obtain⟨c1,c2,c3,c4⟩:=hcond
     cases h
     exact do_store_box hty ho hi hx hc c1 c2 c3 c4
    ·cases h
   ·cases h
  ·rename_i i n hl ix off hi hx
   split at h
   ·rename_i es rows hc
    split at h
    ·rename_i row hrow
     split at h
     ·rename_i hcond
      obtain⟨c1,c2,c3,c4⟩:=hcond
      cases h
      obtain⟨s1,s2⟩:=hs
      exact do_store_arr hty ho hi hx hc s1 hrow c1 c2 c3 c4 s2
     ·cases h
    ·cases h
   ·cases h
  ·cases h
 ·rename_i s x f ho
  split at h
  ·rename_i off size ag hf
   split at h
   ·rename_i hne
    cases hp:padd (resN (Z2 (ρ x)) g) off (ρ x) with
    | none=>rw[hp] at h;cases h
    | some d=>rw[hp] at h;cases h;exact do_fieldAddr hty ho hf hne hp
   ·cases h
  ·cases h
 ·rename_i t x ix ho
  cases hp:Yx Ty (resN (Z2 (ρ x)) g) t (ρ x) (ρ ix) with
  | none=>rw[hp] at h;cases h
  | some d=>rw[hp] at h;cases h;exact do_indexAddr hty ho hp
 ·rename_i t len parts ho
  split at h
  ·rename_i e j he
   split at h
   ·rename_i hcond
    obtain⟨c1,c2,c3⟩:=hcond
    split at h
    ·rename_i out hf
     split at h
     ·rename_i hc2;cases h;exact do_buildSlice hty ho he c1 c2 c3 hf hc2.1 hc2.2
     ·cases h
    ·cases h
   ·cases h
  ·cases h
 ·rename_i t x y ho
  split at h
  ·rename_i e j k1 l k2 c he hx hy
   split at h
   ·rename_i hcond
    cases h
    obtain⟨s1,s2,s3,s4⟩:=hs
    have el:l=(l.toNat:Int):=by omega
    have ec:c=(c.toNat:Int):=by omega
    exact do_makeSlice hty ho he (by rw[hx,← el]) (by rw[hy,← ec]) (by omega) s3 s4 hcond.1 hcond.2
   ·cases h
  ·cases h
 ·rename_i t x lo hi ho
  split at h
  ·rename_i n hl l0 len hx
   split at h
   ·rename_i es rows e j bl bh hgn he h1 h2
    split at h
    ·rename_i hes
     cases h
     obtain⟨s1,s2,s3⟩:=hs
     refine do_slice_os hty ho he hx ?_ s1 hes h1 h2 s2 s3
     exact hgn
    ·cases h
   ·cases h
  ·cases h
 ·rename_i t x ho
  split at h
  ·rename_i i k n ht hx
   split at h
   ·rename_i e hk
    split at h
    ·rename_i j he
     split at h
     ·rename_i hb
      cases h
      exact do_makeChan hty ho ht hk he (n:=n.toNat) (by rw[hx];congr 1;have:=hs.1;omega) (by have:=hs.2;omega) hb
     ·cases h
    ·cases h
   ·cases h
  ·cases h
 ·rename_i t ho
  split at h
  ·rename_i k e ht;cases h;exact do_makeMap (b:=true) ho
  ·rename_i k e ht;cases h;exact do_makeMap (b:=false) ho
  ·cases h
 ·rename_i t x y ho
  split at h
  ·rename_i k e m p ht hx hy
   split at h
   ·rename_i P' k' e' n f hb
    cases h
    obtain⟨rfl,rfl,rfl,h1⟩:=hs
    exact do_lookII hty ho ht hx hy hb h1
   ·cases h
  ·rename_i k e m p ht hx hy
   split at h
   ·rename_i P' k' e' n f hb
    cases h
    obtain⟨rfl,rfl,rfl,h1⟩:=hs
    exact do_lookSB hty ho ht hx hy hb h1
   ·cases h
  ·cases h
 ·rename_i t x y z ho
  split at h
  ·rename_i k e m p u ht hx hy hz
   split at h
   ·rename_i P' k' e' n f hb
    cases h
    obtain⟨rfl,rfl,rfl,h1,h2,h3⟩:=hs
    exact do_putII hty ho ht hx hy hz hb h1 h2 h3
   ·cases h
  ·rename_i k e m p u ht hx hy hz
   split at h
   ·rename_i P' k' e' n f hb
    cases h
    obtain⟨rfl,rfl,rfl,h1,h2⟩:=hs
    exact do_putSB hty ho ht hx hy hz hb h1 h2
   ·cases h
  ·cases h
 ·rename_i op t x y yt ho
  split at h
  ·rename_i as bs hx hy
   split at h
   ·rename_i d s he
    cases h
    exact do_eqAgg ho hx hy he hs
   ·cases h
  ·cases h
 ·rename_i x xt a ok ho
  split at h
  ·rename_i i t d ha hx
   split at h
   ·cases h
   ·rename_i hk
    cases h
    exact do_typeAssert hty ho ha (fun b e=>hk b e) hx hs
  ·cases h
 ·cases h
theorem do_minI{x y:Operand}{tys:Array TypeId}{k:IntKind}{p q:Int}(ho:o.op=Ym .min #[x,y] tys)(hx:ρ x=.int k p)(hy:ρ y=.int k q):Do P G o ρ g nm (.int k (if q<p then q else p)) []:=by
 refine ZY (fun w F ι ev hev=>?_)
 have h1:=hev x (by rw[ho];simp[Ym,Op.operands,Call.operands])
 have h2:=hev y (by rw[ho];simp[Ym,Op.operands,Call.operands])
 rw[hx] at h1;rw[hy] at h2
 obtain⟨cs,hcs⟩:=YC (ev:=ev) ho
 rw[hcs]
 exact⟨_,by simp[builtin,Builtin.min_,Builtin.min2,h1.is_int,h2.is_int],.pure _ _ (.int _ _)⟩
theorem absBuiltin_ok(hty:TyOK P Ty){b:Builtin}{args:Array Operand}{tys:Array TypeId}(ho:o.op=Ym b args tys)(h:absBuiltin Ty b args.toList tys.toList ρ g nm=some r)(hs:r.side):Do P G o ρ (resN r.L g) nm r.v r.upd:=by
 unfold absBuiltin at h
 split at h
 ·rename_i x t ha ht
  obtain rfl:args=#[x]:=by cases args;simp at ha;rw[ha]
  obtain rfl:tys=#[t]:=by cases tys;simp at ht;rw[ht]
  split at h
  ·rename_i i hi
   split at h
   ·rename_i n hl lo len hx
    split at h
    ·rename_i es rows hc
     split at h
     ·rename_i hk;cases h;exact do_len_os hty ho hi hk hx hc hs
     ·cases h
    ·cases h
   ·rename_i m hx
    split at h
    ·rename_i cap xs e hc hk;cases h;exact do_len_chan hty ho hi hk hx hc
    ·cases h
   ·split at h
    ·rename_i hk
     cases hd:lenD (ρ x) with
     | none=>rw[hd] at h;cases h
     | some n=>rw[hd] at h;obtain rfl:=ok_eq h;exact do_len hty ho hi hk hd
    ·cases h
  ·cases h
 ·rename_i x y t tx ha ht
  obtain rfl:args=#[x,y]:=by cases args;simp at ha;rw[ha]
  obtain rfl:tys=#[t,tx]:=by cases tys;simp at ht;rw[ht]
  split at h
  ·rename_i e j pex he hex
   obtain⟨ex,jx⟩:=pex
   split at h
   ·rename_i hcond
    split at h
    ·rename_i hx
     split at h
     ·rename_i rows hy
      cases h
      obtain⟨s1,s2,s3,s4⟩:=hs
      exact do_append_nil hty ho he hex hx hy hcond.1 hcond.2 s1 s2 s3 s4
     ·cases h
    ·rename_i n hl lo len hx
     split at h
     ·rename_i es rows0 rows hc hy
      split at h
      ·rename_i hc2
       cases h
       obtain⟨s0,s1,s2,s3,s4,s5⟩:=hs
       exact do_append_os hty ho he hex hx s0 hc s1 hc2 hy hcond.1 hcond.2 s2 s3 s4 s5
      ·cases h
     ·cases h
    ·cases h
   ·cases h
  ·cases h
 ·rename_i x y ha
  obtain rfl:args=#[x,y]:=by cases args;simp at ha;rw[ha]
  split at h
  ·rename_i k a k' b hx hy
   split at h
   ·rename_i e;subst e;obtain rfl:=ok_eq h;exact do_minI ho hx hy
   ·cases h
  ·cases h
 ·rename_i x t ha ht
  obtain rfl:args=#[x]:=by cases args;simp at ha;rw[ha]
  obtain rfl:tys=#[t]:=by cases tys;simp at ht;rw[ht]
  split at h
  ·rename_i e j n hl lo len he hx
   split at h
   ·rename_i es rows hc
    split at h
    ·rename_i hk
     cases h
     obtain⟨k1,k2⟩:=hk
     subst k1
     have hz:j.zero=.int .i64 0:=by
      revert k2
      unfold isI0
      split
      ·rename_i n hn;intro h;rw[hn,of_decide_eq_true h]
      ·intro h;cases h
     exact do_clearS hty ho he hz hx hc hs.1 hs.2
    ·cases h
   ·cases h
  ·cases h
 ·cases h
theorem absCallB_ok{ic:IC P G}{f:Operand}{args:Array Operand}{tys:Array TypeId}(ho:o.op=.call { callee:=.value f,args:=args,argTypes:=tys })(h:absCallB G ic f args.toList ρ g nm=some r)(hs:r.side):Do P G o ρ (resN r.L g) nm r.v r.upd:=by
 unfold absCallB at h
 split at h
 ·rename_i k d1 d2 hf
  split at h
  ·rename_i A hA
   split at h
   ·rename_i m es rows hgl hupd
    split at h
    ·rename_i hk
     cases h
     obtain⟨k1,k2,k3,k4⟩:=hk
     obtain⟨s1,s2⟩:=hs
     have hp:=ic.pf
     rw[hgl,hupd,k3,k2,← k1] at hp
     exact do_callB ho hf hA s1 hp k4 s2
    ·cases h
   ·cases h
  ·cases h
 ·cases h
theorem absCall_ok{pc:PC P G}{f:Operand}{args:Array Operand}{tys:Array TypeId}(ho:o.op=.call { callee:=.value f,args:=args,argTypes:=tys })(h:absCall G pc f args.toList ρ g=some r)(hs:r.side):Do P G o ρ (resN r.L g) nm r.v r.upd:=by
 unfold absCall at h
 split at h
 ·rename_i k d1 d2 hf
  simp only at h
  split at h
  ·rename_i A hA
   split at h
   ·rename_i hk
    cases h
    by_cases hsc:YA pc.R=true
    ·simp only[hsc,if_true]
     have:=do_call (nm:=nm) (L:=[]) ho hf hA hs (hk▸pc.pf) (.inl ⟨hsc,rfl⟩)
     exact this
    ·simp only[hsc,Bool.false_eq_true,if_false]
     exact do_call ho hf hA hs (hk▸pc.pf) (.inr (fun n hn=>by
      unfold resN at hn
      split at hn
      ·rename_i hL;simpa using hL
      ·cases hn))
   ·cases h
  ·cases h
 ·cases h
theorem absCallI_ok{ic:IC P G}{f:Operand}{args:Array Operand}{tys:Array TypeId}(ho:o.op=.call { callee:=.value f,args:=args,argTypes:=tys })(h:absCallI G ic f args.toList ρ g nm=some r)(hs:r.side):Do P G o ρ (resN r.L g) nm r.v r.upd:=by
 unfold absCallI at h
 split at h
 ·rename_i k d1 d2 hf
  split at h
  ·rename_i hk
   cases h
   obtain⟨s1,s2⟩:=hs
   obtain⟨k1,k2⟩:=hk
   have:=ic.pf
   rw[← s1,k2,← k1] at this
   exact do_callI ho hf this s2
  ·cases h
 ·cases h
end
theorem absAll_ok{P:Program}{G:Nat→Option (List D)}{Ty:Nat→Option TyI}(hty:TyOK P Ty){N:Nat}{ops:List Oper}{nx:Nat}:∀ (rops:List Oper) (i:Nat) (pcs:List (PX P G)) (σ σ':List (Nat×D)) (st st':List (Nat×Blk)) (log:List LogE) (s:Prop),
  YE G Ty N ops nx rops i pcs σ st=some (log,σ',st',s)→s→RW P G N ops nx rops i σ st log σ' st'
 | [],i,pcs,σ,σ',st,st',log,s,h,hs=>by cases h;exact .nil _ _ _
 | o::rest,i,pcs,σ,σ',st,st',log,s,h,hs=>by
  simp only[YE] at h
  split at h
  ·cases h
  ·rename_i hw
   split at h
   ·rename_i log1 σ1 st1 s1 hrec
    cases h
    exact .skip _ _ _ _ _ _ _ _ (by rw[← wantedL_eq];exact hw) hs.1 (absAll_ok hty rest _ _ _ _ _ _ _ _ hrec hs.2)
   ·cases h
  ·rename_i hw
   split at h
   ·cases h
   ·rename_i r hr
    split at h
    ·rename_i log1 σ1 st1 s1 hrec
     cases h
     obtain⟨hs1,hs2,hs3⟩:=hs
     refine .step _ _ _ _ _ _ _ _ r.L r.v r.upd (by rw[← wantedL_eq];exact hw) hs1 ?_ (absAll_ok hty rest _ _ _ _ _ _ _ _ hrec hs3)
     split at hr
     ·rename_i b args tys ho
      exact absBuiltin_ok hty ho hr hs2
     ·rename_i f args tys ho
      split at hr
      ·exact absCall_ok ho hr hs2
      ·exact absCallI_ok ho hr hs2
      ·exact absCallB_ok ho hr hs2
      ·cases hr
     ·simp only at hr
      split at hr
      ·rename_i r' hr'
       cases hr
       exact absVal_ok hty hr' hs2
      ·exact absMem_ok hty hr hs2
    ·cases h
end
end Go.Proofs.YtjdgofpcmcobnaaGreatDoor.AL

/-
  Data read off memory; what the operations do to them, first part.
-/
import Derived.WalkKit
import Derived.Maps.OwnSet
import Derived.Deep.Draws
import Derived.Below
import Derived.Laws.Entries
import Derived.Laws.Cells
import Derived.Laws.Rows
import Derived.Laws.Tables
import Derived.Laws.IdiomCopy
import Derived.Deep.AppendSrc
import Derived.Laws.CopyRow
import Derived.Laws.MakeOwn
set_option maxRecDepth 100000
set_option maxHeartbeats 2000000
set_option linter.unusedVariables false
set_option linter.unusedSimpArgs false
namespace Go.Proofs.YtjdgofpcmcobnaaGreatDoor.AL
section
open Go Go.RowKit
open Go.Maps (Keyed)
def IMap(P:Program)(k e:Nat)(w:World)(b n:Nat)(f:Int→Int):Prop :=
 ∃ D:DataW Unit,w.ownsMap P k (plainElem P e) b n D∧∀ p:Int,D.atKey (.int .i64 p) (.lit (.int .i64 0))=.lit (.int .i64 (f p))
def SMap(P:Program)(k e:Nat)(w:World)(b n:Nat)(f:List UInt8→Bool):Prop :=
 ∃ D:DataW Unit,w.ownsMap P k (plainElem P e) b n D∧∀ s:List UInt8,D.atKey (.string s) (.lit (.bool false))=.lit (.bool (f s))
inductive ObjD where
 | mapII (P:Program) (k e n:Nat) (f:Int→Int)
 | mapSB (P:Program) (k e n:Nat) (f:List UInt8→Bool)
 | chanI (cap:Nat) (xs:List Int)
 | raw (o:Obj)
def ObjD.ok:ObjD→Obj→Prop
 | .mapII P k e n f,o=>∃ w b,w.heap[b]? = some o∧IMap P k e w b n f
 | .mapSB P k e n f,o=>∃ w b,w.heap[b]? = some o∧SMap P k e w b n f
 | .chanI cap xs,o=>∃ s r,o=.chan cap (xs.map (.int .i64)).toArray false s r false
 | .raw o',o=>o=o'
theorem ownsMap_at{P:Program}{k:TypeId}{R:Value→Option (DataW Unit×List MemPlace)}{w w':World}{b b' n:Nat}{D:DataW Unit}{o:Obj}(h:w.ownsMap P k R b n D)(h1:w.heap[b]? = some o)(h2:w'.heap[b']? = some o):w'.ownsMap P k R b' n D:=by
 obtain⟨es,clock,e1,F,hs,e⟩:=h
 obtain rfl:o=.map es clock:=Option.some.inj (h1.symm.trans e1)
 exact⟨es,clock,h2,F,hs,e⟩
section
variable {P:Program} {k e t:Nat} {w w':World} {b b' n:Nat}
theorem IMap.at{f:Int→Int}{o:Obj}(h:IMap P k e w b n f)(h1:w.heap[b]? = some o)(h2:w'.heap[b']? = some o):IMap P k e w' b' n f:=by
 obtain⟨D,h,hD⟩:=h;exact⟨D,ownsMap_at h h1 h2,hD⟩
theorem SMap.at{f:List UInt8→Bool}{o:Obj}(h:SMap P k e w b n f)(h1:w.heap[b]? = some o)(h2:w'.heap[b']? = some o):SMap P k e w' b' n f:=by
 obtain⟨D,h,hD⟩:=h;exact⟨D,ownsMap_at h h1 h2,hD⟩
theorem IMap.made:IMap P k e (w.alloc (.map #[] 0)) w.heap.size 0 (fun _=>0):=⟨_,World.ownsMap_made w _ _ _,fun _=>rfl⟩
theorem SMap.made:SMap P k e (w.alloc (.map #[] 0)) w.heap.size 0 (fun _=>false):=⟨_,World.ownsMap_made w _ _ _,fun _s=>rfl⟩
theorem IMap.look{f:Int→Int}(h:IMap P k e w b n f)(ht:P.underlying t=some (.map k e))(hk:P.underlying k=some (.int .i64))(he:P.underlying e=some (.int .i64))(hz:(zeroValue e).run P w=.ok (.int .i64 0) w){p:Int}(hp:(Lit.int .i64 p).wf=true) :
  (Instr.lookup t (.map (some b)) (.int .i64 p) false).run P w=.ok (.int .i64 (f p)) w:=by
 obtain⟨D,h,hD⟩:=h
 obtain⟨c,hrun,hat,_⟩:=h.lookup_int (Maps.int_keyed hk) ht he hz (Maps.keyOf_int_mk hk hp)
 rw[hD p] at hat
 injection hat with hat
 injection hat with _ hat
 rw[hrun,hat]
theorem IMap.put{f:Int→Int}(h:IMap P k e w b n f)(ht:P.underlying t=some (.map k e))(hk:P.underlying k=some (.int .i64))(he:P.underlying e=some (.int .i64))(hn:n<maxLen){p x:Int}(hp:(Lit.int .i64 p).wf=true)(hx:(Lit.int .i64 x).wf=true) :
  ∃ w',(Instr.mapUpdate t (.map (some b)) (.int .i64 p) (.int .i64 x)).run P w=.ok () w'∧IMap P k e w' b (n+1) (fun q=>if q=p then x else f q)∧w.grownBy w' (some b):=by
 obtain⟨D,h,hD⟩:=h
 obtain⟨w',hrun,h1,hg⟩:=h.update (Maps.int_keyed hk) ht hn (Maps.keyOf_int_mk hk hp) (plainElem_int he hx)
 refine⟨w',hrun,⟨_,h1,fun q=>?_⟩,hg⟩
 by_cases e:q=p
 ·subst e
  rw[Maps.atKey_put_same h.isMap (by trivial)]
  simp
 ·rw[Maps.atKey_put_other (fun h=>e (by injection h)),hD q]
  simp[e]
theorem SMap.look{f:List UInt8→Bool}(h:SMap P k e w b n f)(ht:P.underlying t=some (.map k e))(hk:P.underlying k=some .string)(he:P.underlying e=some .bool)(hz:(zeroValue e).run P w=.ok (.bool false) w){s:ByteArray}(hs:s.size≤maxLen) :
  (Instr.lookup t (.map (some b)) (.string s) false).run P w=.ok (.bool (f s.data.toList)) w:=by
 obtain⟨D,h,hD⟩:=h
 obtain⟨v,ps,hrun,hv⟩:=h.lookup (Maps.string_keyed hk) ht hz (plainElem_bool he false) (WideMaps.keyOf_string_mk hk hs)
 rw[hD s.data.toList] at hv
 rw[hrun]
 unfold plainElem at hv
 rw[he] at hv
 cases v<;>simp at hv
 rw[hv.1]
theorem SMap.put{f:List UInt8→Bool}(h:SMap P k e w b n f)(ht:P.underlying t=some (.map k e))(hk:P.underlying k=some .string)(he:P.underlying e=some .bool)(hn:n<maxLen){s:ByteArray}(hs:s.size≤maxLen)(x:Bool) :
  ∃ w',(Instr.mapUpdate t (.map (some b)) (.string s) (.bool x)).run P w=.ok () w'∧SMap P k e w' b (n+1) (fun q=>if q=s.data.toList then x else f q)∧w.grownBy w' (some b):=by
 obtain⟨D,h,hD⟩:=h
 obtain⟨w',hrun,h1,hg⟩:=h.update (Maps.string_keyed hk) ht hn (WideMaps.keyOf_string_mk hk hs) (plainElem_bool he x)
 refine⟨w',hrun,⟨_,h1,fun q=>?_⟩,hg⟩
 by_cases e:q=s.data.toList
 ·subst e
  rw[Maps.atKey_put_same h.isMap (by trivial)]
  simp
 ·rw[Maps.atKey_put_other (fun h=>e (by injection h with h)),hD q]
  simp[e]
end
end
section
open Go Go.RowKit
inductive D where
 | any
 | bool (b:Bool)|int (k:IntKind) (n:Int)|str (s:ByteArray)
 | rng (k:IntKind) (lo hi:Int)
 | strg (p q:ByteArray)
 | np|nils|nilf|nili|sle
 | sl (rows:List (List D))
 | vp (row:List D)
 | agg (cs:List D)|tup (cs:List D)
 | fn (f:Fn) (first cap:List D)
 | ifc (t:TypeId) (d:D)
 | bp (n off:Nat)
 | ap (n hl i off:Nat)
 | os (n hl lo len:Nat)
 | rf (n:Nat) (ch:Bool)
 deriving Inhabited
inductive RepP(w:World)(F:Nat→Prop):Value→D→Prop
 | any (v):RepP w F v .any
 | bool (b):RepP w F (.bool b) (.bool b)
 | int (k n):RepP w F (.int k n) (.int k n)
 | rng (k:IntKind) (lo hi n:Int) (h1:lo≤n) (h2:n≤hi):RepP w F (.int k n) (.rng k lo hi)
 | str (s):RepP w F (.string s) (.str s)
 | strg (p q s:ByteArray) (b:UInt8) (h1:49≤b.toNat) (h2:b.toNat≤57) (h:s.data.toList=p.data.toList++b::q.data.toList):RepP w F (.string s) (.strg p q)
 | np:RepP w F (.pointer none) .np
 | nils:RepP w F (.slice none 0 0) .nils
 | nilf:RepP w F .nilFunc .nilf
 | nili:RepP w F .nilIface .nili
 | sle (a cap):RepP w F (.slice (some a) 0 cap) .sle
 | sl0 (a cap) (h0:a=none→cap=0):RepP w F (.slice a 0 cap) (.sl [])
 | sl (b off es cap:Nat) (rows:List (List D)) (vs:Nat→Nat→Value) (hc:rows.length≤cap) (hF:¬ F b) (hes:∀ r∈rows,r.length=es)
   (hm:∀ i j,i<rows.length→j<es→w.cell? ⟨b,off+i*es+j,none⟩=some (vs i j)) (hz:(w.heap[b]?).isSome=true)
   (hr:∀ i (hi:i<rows.length) j (hj:j<rows[i].length),RepP w F (vs i j) rows[i][j]):RepP w F (.slice (some ⟨b,off,none⟩) rows.length cap) (.sl rows)
 | vp (b off:Nat) (row:List D) (vs:Nat→Value) (hF:¬ F b) (hm:∀ j,j<row.length→w.cell? ⟨b,off+j,none⟩=some (vs j)) (hz:(w.heap[b]?).isSome=true)
   (hr:∀ j (hj:j<row.length),RepP w F (vs j) row[j]):RepP w F (.pointer (some ⟨b,off,none⟩)) (.vp row)
 | agg (cs:Array Value) (ds:List D) (hl:cs.size=ds.length) (h:∀ i (hi:i<ds.length),RepP w F (cs.getD i undef) ds[i]):RepP w F (.agg cs) (.agg ds)
 | tup (cs:Array Value) (ds:List D) (hl:cs.size=ds.length) (h:∀ i (hi:i<ds.length),RepP w F (cs.getD i undef) ds[i]):RepP w F (.tuple cs) (.tup ds)
 | fn (f:Fn) (c1 c2:Array Value) (d1 d2:List D) (h1:c1.size=d1.length) (h2:c2.size=d2.length) (r1:∀ i (hi:i<d1.length),RepP w F (c1.getD i undef) d1[i]) (r2:∀ i (hi:i<d2.length),RepP w F (c2.getD i undef) d2[i]) :
   RepP w F (.func f c1 c2) (.fn f d1 d2)
 | ifc (t) (v d) (h:RepP w F v d):RepP w F (.iface t v) (.ifc t d)
theorem RepP.mono{w w':World}{F F':Nat→Prop}{v:Value}{d:D}(h:RepP w F v d)(hb:∀ b,¬ F b→(w.heap[b]?).isSome=true→w'.heap[b]? = w.heap[b]? ∧ ¬ F' b):RepP w' F' v d:=by
 have cell:∀ (b o:Nat) v,¬ F b→w.cell? ⟨b,o,none⟩=some v→w'.cell? ⟨b,o,none⟩=some v:=by
  intro b o v hF hc
  have hz:(w.heap[b]?).isSome=true:=by
   unfold World.cell? at hc
   cases hx:w.heap[b]? with
   | none=>simp[hx] at hc
   | some x=>rfl
  rw[← hc]
  exact World.cell?_of_block (w:=w) (hb b hF hz).1
 induction h with
 | any v=>exact .any v
 | bool b=>exact .bool b
 | int k n=>exact .int k n
 | rng k lo hi n h1 h2=>exact .rng k lo hi n h1 h2
 | str s=>exact .str s
 | strg p q s b h1 h2 h=>exact .strg p q s b h1 h2 h
 | np=>exact .np
 | nils=>exact .nils
 | nilf=>exact .nilf
 | nili=>exact .nili
 | sle a cap=>exact .sle a cap
 | sl0 a cap h0=>exact .sl0 a cap h0
 | sl b off es cap rows vs hc hF hes hm hz hr ih =>
  exact .sl b off es cap rows vs hc (hb b hF hz).2 hes (fun i j hi hj=>cell _ _ _ hF (hm i j hi hj)) (by rw[(hb b hF hz).1];exact hz) ih
 | vp b off row vs hF hm hz hr ih=>exact .vp b off row vs (hb b hF hz).2 (fun j hj=>cell _ _ _ hF (hm j hj)) (by rw[(hb b hF hz).1];exact hz) ih
 | agg cs ds hl h ih=>exact .agg cs ds hl ih
 | tup cs ds hl h ih=>exact .tup cs ds hl ih
 | fn f c1 c2 d1 d2 h1 h2 r1 r2 i1 i2=>exact .fn f c1 c2 d1 d2 h1 h2 i1 i2
 | ifc t v d h ih=>exact .ifc t v d ih
structure IB where
 box:Bool
 blk:Nat
 es:Nat
 hl:Nat
 cap:Nat
 base:Nat
def osV(ib:IB)(lo len:Nat)(v:Value):Prop:=∃ a cap,v=.slice a len cap∧len≤cap∧cap+lo=ib.cap∧(0<cap→ib.base≤lo∧a=some ⟨ib.blk,(lo - ib.base)*ib.es,none⟩)∧(0<ib.cap→a.isSome=true)
inductive Rep(w:World)(F:Nat→Prop)(ι:Nat→Option IB):Value→D→Prop
 | pure (v d) (h:RepP w F v d):Rep w F ι v d
 | agg (cs:Array Value) (ds:List D) (hl:cs.size=ds.length) (h:∀ i (hi:i<ds.length),Rep w F ι (cs.getD i undef) ds[i]):Rep w F ι (.agg cs) (.agg ds)
 | tup (cs:Array Value) (ds:List D) (hl:cs.size=ds.length) (h:∀ i (hi:i<ds.length),Rep w F ι (cs.getD i undef) ds[i]):Rep w F ι (.tuple cs) (.tup ds)
 | fn (f:Fn) (c1 c2:Array Value) (d1 d2:List D) (h1:c1.size=d1.length) (h2:c2.size=d2.length) (r1:∀ i (hi:i<d1.length),Rep w F ι (c1.getD i undef) d1[i]) (r2:∀ i (hi:i<d2.length),Rep w F ι (c2.getD i undef) d2[i]) :
   Rep w F ι (.func f c1 c2) (.fn f d1 d2)
 | ifc (t) (v d) (h:Rep w F ι v d):Rep w F ι (.iface t v) (.ifc t d)
 | bp (n off:Nat) (ib:IB) (hn:ι n=some ib) (hb:ib.box=true):Rep w F ι (.pointer (some ⟨ib.blk,off,none⟩)) (.bp n off)
 | ap (n hl i off:Nat) (ib:IB) (v:Value) (hn:ι n=some ib) (hle:hl≤ib.hl) (h1:v.oneCell'=true) (h:ib.hl=hl→ib.base≤i∧v=.pointer (some ⟨ib.blk,(i - ib.base)*ib.es+off,none⟩)):Rep w F ι v (.ap n hl i off)
 | os (n hl lo len:Nat) (ib:IB) (v:Value) (hn:ι n=some ib) (hle:hl≤ib.hl) (h1:v.oneCell'=true) (h:ib.hl=hl→osV ib lo len v):Rep w F ι v (.os n hl lo len)
 | rf (n:Nat) (ch:Bool) (ib:IB) (v:Value) (hn:ι n=some ib) (hb:ib.box=true) (hv:v=if ch then .chan (some ib.blk) else .map (some ib.blk)):Rep w F ι v (.rf n ch)
def Grows(ι ι':Nat→Option IB):Prop:=∀ n ib,ι n=some ib→∃ ib',ι' n=some ib'∧(ib'=ib∨(ib.box=false∧ib.hl<ib'.hl))
theorem Rep.mono{w w':World}{F F':Nat→Prop}{ι ι':Nat→Option IB}{v:Value}{d:D}(h:Rep w F ι v d)(hb:∀ b,¬ F b→(w.heap[b]?).isSome=true→w'.heap[b]? = w.heap[b]? ∧ ¬ F' b)(hg:Grows ι ι'):Rep w' F' ι' v d:=by
 induction h with
 | pure v d h=>exact .pure _ _ (h.mono hb)
 | agg cs ds hl h ih=>exact .agg cs ds hl ih
 | tup cs ds hl h ih=>exact .tup cs ds hl ih
 | fn f c1 c2 d1 d2 h1 h2 r1 r2 i1 i2=>exact .fn f c1 c2 d1 d2 h1 h2 i1 i2
 | ifc t v d h ih=>exact .ifc t v d ih
 | bp n off ib hn hx =>
  obtain⟨ib',h1,h2⟩:=hg n ib hn
  rcases h2 with rfl|⟨h2,_⟩
  ·exact .bp n off ib' h1 hx
  ·rw[hx] at h2;cases h2
 | ap n hl i off ib v hn hle hv h =>
  obtain⟨ib',h1,h2⟩:=hg n ib hn
  rcases h2 with rfl|⟨_,h2⟩
  ·exact .ap n hl i off ib' v h1 hle hv h
  ·exact .ap n hl i off ib' v h1 (by omega) hv (fun e=>by omega)
 | os n hl lo len ib v hn hle hv h =>
  obtain⟨ib',h1,h2⟩:=hg n ib hn
  rcases h2 with rfl|⟨_,h2⟩
  ·exact .os n hl lo len ib' v h1 hle hv h
  ·exact .os n hl lo len ib' v h1 (by omega) hv (fun e=>by omega)
 | rf n ch ib v hn hx hv =>
  obtain⟨ib',h1,h2⟩:=hg n ib hn
  rcases h2 with rfl|⟨h2,_⟩
  ·exact .rf n ch ib' v h1 hx hv
  ·rw[hx] at h2;cases h2
theorem Grows.trans{a b c:Nat→Option IB}(h:Grows a b)(k:Grows b c):Grows a c:=by
 intro n ib hn
 obtain⟨ib',h1,h2⟩:=h n ib hn
 obtain⟨ib'',k1,k2⟩:=k n ib' h1
 refine⟨ib'',k1,?_⟩
 rcases h2 with rfl|⟨h2,h3⟩
 ·exact k2
 ·rcases k2 with rfl|⟨k2,k3⟩
  ·exact .inr ⟨h2,h3⟩
  ·exact .inr ⟨h2,by omega⟩
theorem Grows.refl(ι:Nat→Option IB):Grows ι ι:=fun _ ib h=>⟨ib,h,.inl rfl⟩
inductive MK where
 | s (l:List UInt8)
 | i (k:IntKind) (n:Int)
 deriving Inhabited
def MK.val:MK→Value
 | .s l=>.string ⟨l.toArray⟩
 | .i k n=>.int k n
def deckI(xs:List Int)(i:Nat):Nat:=if i<xs.length then i+1 else i
def deckS(xs:List Int)(i:Nat)(s:Int):Int:=IntKind.u64.wrap (IntKind.u64.wrap (IntKind.u64.wrap (s*6364136223846793005)+(if i<xs.length then IntKind.u64.wrap (xs.getD i 0) else 0))+1442695040888963407)
def deckV(s a:Int):Int:=(s / 8589934592) % a
def SOK(xs:List Int):Nat→Int→List (Int×Int×Int)→Prop
 | _,_,[]=>True
 | i,s,(a,lo,hi)::sc=>lo≤deckV (deckS xs i s) a∧deckV (deckS xs i s) a≤hi∧SOK xs (deckI xs i) (deckS xs i s) sc
def intRows(xs:List Int):List (List D):=xs.map fun x=>[.int .i64 x]
inductive Blk where
 | box (cs:List D)
 | arr (es:Nat) (rows:List (List D))
 | obj (p:ObjD)
 | mp (ks:List MK) (cs:List D)
 | deck (sc:List (Int×Int×Int))
 deriving Inhabited
def Births(es:Array MapEntry)(ck:Nat):Prop:=ck=es.size∧es.toList.map (·.born)=List.range es.size
def BlkRep(w:World)(F:Nat→Prop)(ι:Nat→Option IB)(n:Nat):Blk→Prop
 | .box cs=>∃ ib vs ty,ι n=some ib∧ib.box=true∧0<ib.cap∧w.heap[ib.blk]? = some (.cells vs ty (0,0))∧vs.size=cs.length∧∀ i (hi:i<cs.length),Rep w F ι (vs.getD i undef) cs[i]
 | .arr es rows=>∃ ib,ι n=some ib∧ib.box=false∧ib.es=es∧ib.hl=rows.length∧rows.length≤ib.cap∧(∀ r∈rows,r.length=es) ∧
   (0<ib.cap→∃ vs ty,w.heap[ib.blk]? = some (.cells vs ty (0,0))∧vs.size=(ib.cap - ib.base)*es∧∀ i (hi:i<rows.length) j (hj:j<rows[i].length),ib.base≤i→RepP w F (vs.getD ((i - ib.base)*es+j) undef) rows[i][j])
 | .obj p=>∃ ib o,ι n=some ib∧ib.box=true∧0<ib.cap∧w.heap[ib.blk]? = some o∧p.ok o
 | .mp ks cs=>∃ ib es ck,ι n=some ib∧ib.box=true∧0<ib.cap∧w.heap[ib.blk]? = some (.map es ck)∧es.size=cs.length∧es.toList.map (·.key)=ks.map MK.val∧Births es ck∧∀ i (hi:i<cs.length),Rep w F ι (es.getD i default).val cs[i]
 | .deck sc=>∃ ib v0 ty,∃ (xs:List Int) (i:Nat) (s:Int),ι n=some ib∧ib.box=true∧0<ib.cap∧w.heap[ib.blk]? = some (.cells #[v0,.int .i64 i,.int .u64 s] ty (0,0))∧RepP w F v0 (.sl (intRows xs))∧i≤xs.length∧xs.length≤400∧0≤s∧s<18446744073709551616∧SOK xs i s sc
structure Ctx where
 P:Program
 G:Nat→Option (List D)
 N:Nat
 B:Nat→Prop
 w0:World
 O:Nat→Prop
 df:List Deferred
 ι0:Nat→Option IB
def Own(ι:Nat→Option IB)(st:Nat→Option Blk)(b:Nat):Prop:=∃ n ib,(st n).isSome=true∧ι n=some ib∧0<ib.cap∧b=ib.blk
def Fb(c:Ctx)(ι:Nat→Option IB)(st:Nat→Option Blk)(b:Nat):Prop:=c.B b∨Own ι st b
structure Rel(c:Ctx)(dom:Nat→Prop)(ι:Nat→Option IB)(a:Act)(w:World)(σ:Nat→D)(st:Nat→Option Blk):Prop where
 size:a.tmps.size=c.N
 defers:a.defers=c.df
 env:∀ t,Rep w (Fb c ι st) ι (a.tmps.getD t undef) (σ t)
 blk:∀ n b,st n=some b→BlkRep w (Fb c ι st) ι n b
 inj:∀ n m,(st n).isSome=true→(st m).isSome=true→n≠m→∀ ib ib',ι n=some ib→ι m=some ib'→0<ib.cap→0<ib'.cap→ib.blk≠ib'.blk
 dom:∀ n,(ι n).isSome=true→dom n
 os:w.os=c.w0.os
 tape:w.tape=c.w0.tape
 output:w.output=c.w0.output
 hsize:c.w0.heap.size≤w.heap.size
 keep:∀ b,b<c.w0.heap.size→¬ c.O b→w.heap[b]? = c.w0.heap[b]?
 low:∀ b,c.B b→b<c.w0.heap.size∧¬ c.O b
 own:∀ b,Own ι st b→b<w.heap.size∧¬ c.B b∧(c.O b∨c.w0.heap.size≤b)
 glob:∀ g row,c.G g=some row→RepP w (Fb c ι st) (.pointer (some ⟨g,0,none⟩)) (.vp row)
 grow:Grows c.ι0 ι
theorem isSome_lt{w:World}{b:Nat}(h:(w.heap[b]?).isSome=true):b<w.heap.size:=by
 rcases Nat.lt_or_ge b w.heap.size with h'|h'
 ·exact h'
 ·rw[Array.getElem?_eq_none h'] at h;cases h
theorem BlkRep.mono{w w':World}{F F':Nat→Prop}{ι ι':Nat→Option IB}{n:Nat}{b:Blk}(h:BlkRep w F ι n b)(hb:∀ b,¬ F b→(w.heap[b]?).isSome=true→w'.heap[b]? = w.heap[b]? ∧ ¬ F' b)(hg:Grows ι ι')
  (hn:ι' n=ι n) (hs:∀ ib,ι n=some ib→0<ib.cap→w'.heap[ib.blk]? = w.heap[ib.blk]?):BlkRep w' F' ι' n b:=by
 cases b with
 | box cs =>
  obtain⟨ib,vs,ty,h1,h2,h3,h4,h5,h6⟩:=h
  exact⟨ib,vs,ty,hn.trans h1,h2,h3,(hs ib h1 h3).trans h4,h5,fun i hi=>(h6 i hi).mono hb hg⟩
 | arr es rows =>
  obtain⟨ib,h1,h2,h3,h4,h5,h6,h7⟩:=h
  refine⟨ib,hn.trans h1,h2,h3,h4,h5,h6,fun hc=>?_⟩
  obtain⟨vs,ty,k1,k2,k3⟩:=h7 hc
  exact⟨vs,ty,(hs ib h1 hc).trans k1,k2,fun i hi j hj h0=>(k3 i hi j hj h0).mono hb⟩
 | obj p =>
  obtain⟨ib,o,h1,h2,h3,h4,h5⟩:=h
  exact⟨ib,o,hn.trans h1,h2,h3,(hs ib h1 h3).trans h4,h5⟩
 | mp ks cs =>
  obtain⟨ib,es,ck,h1,h2,h3,h4,h5,h6,hB,h8⟩:=h
  exact⟨ib,es,ck,hn.trans h1,h2,h3,(hs ib h1 h3).trans h4,h5,h6,hB,fun i hi=>(h8 i hi).mono hb hg⟩
 | deck sc =>
  obtain⟨ib,v0,ty,xs,i,s,h1,h2,h3,h4,h5,h6⟩:=h
  exact⟨ib,v0,ty,xs,i,s,hn.trans h1,h2,h3,(hs ib h1 h3).trans h4,h5.mono hb,h6⟩
theorem Rel.world{c:Ctx}{dom dom':Nat→Prop}{ι ι':Nat→Option IB}{a:Act}{w w':World}{σ:Nat→D}{st st':Nat→Option Blk}(h:Rel c dom ι a w σ st)
  (hos:w'.os=w.os) (htape:w'.tape=w.tape) (hout:w'.output=w.output) (hsz:w.heap.size≤w'.heap.size)
  (hsame:∀ b,b<w.heap.size→¬ Own ι st b→w'.heap[b]? = w.heap[b]?)
  (hgrow:Grows ι ι') (hown:∀ b,Own ι' st' b→b<w'.heap.size∧(Own ι st b∨w.heap.size≤b))
  (hblk:∀ n b,st' n=some b→(st n=some b∧ι' n=ι n∧(∀ ib,ι n=some ib→0<ib.cap→w'.heap[ib.blk]? = w.heap[ib.blk]?))∨BlkRep w' (Fb c ι' st') ι' n b)
  (hinj:∀ n m,(st' n).isSome=true→(st' m).isSome=true→n≠m→∀ ib ib',ι' n=some ib→ι' m=some ib'→0<ib.cap→0<ib'.cap→ib.blk≠ib'.blk)
  (hdom:∀ n,(ι' n).isSome=true→dom' n):Rel c dom' ι' a w' σ st':=by
 have hb:∀ b,¬ Fb c ι st b→(w.heap[b]?).isSome=true→w'.heap[b]? = w.heap[b]? ∧ ¬ Fb c ι' st' b:=by
  intro b hF hz
  have hlt:=isSome_lt hz
  refine⟨hsame b hlt (fun h=>hF (.inr h)),fun hF'=>?_⟩
  rcases hF' with hF'|hF'
  ·exact hF (.inl hF')
  ·rcases (hown b hF').2 with h|h
   ·exact hF (.inr h)
   ·omega
 refine⟨h.size,h.defers,fun t=>(h.env t).mono hb hgrow,fun n b hn=>?_,hinj,hdom,hos.trans h.os,htape.trans h.tape,hout.trans h.output,Nat.le_trans h.hsize hsz,fun b hlt hO=>?_,h.low,fun b ho=>?_,fun g row hg=>(h.glob g row hg).mono hb,h.grow.trans hgrow⟩
 ·rcases hblk n b hn with⟨h1,h2,h3⟩|h1
  ·exact (h.blk n b h1).mono hb hgrow h2 h3
  ·exact h1
 ·rw[hsame b (by have:=h.hsize;omega) (fun ho=>?_)]
  ·exact h.keep b hlt hO
  ·have:=(h.own b ho).2.2
   rcases this with h|h
   ·exact hO h
   ·omega
 ·obtain⟨h1,h2⟩:=hown b ho
  rcases h2 with h2|h2
  ·exact⟨h1,(h.own b h2).2⟩
  ·exact⟨h1,fun hB=>by have:=(h.low b hB).1;have:=h.hsize;omega,.inr (by have:=h.hsize;omega)⟩
def setO(σ:Nat→D):Option Nat→D→Nat→D
 | none,_=>σ
 | some d,v=>fun t=>if t=d then v else σ t
theorem Rel.put{c:Ctx}{dom:Nat→Prop}{ι:Nat→Option IB}{a:Act}{w:World}{σ:Nat→D}{st:Nat→Option Blk}(h:Rel c dom ι a w σ st)(v:Value)(d:D)(hv:Rep w (Fb c ι st) ι v d)
  (dst:Option Nat) (hd:∀ t,dst=some t→t<c.N):Rel c dom ι (a.put dst v) w (setO σ dst d) st:=by
 cases dst with
 | none=>exact h
 | some t =>
  have ht:=hd t rfl
  refine⟨by simp[Act.put,h.size],h.defers,fun u=>?_,h.blk,h.inj,h.dom,h.os,h.tape,h.output,h.hsize,h.keep,h.low,h.own,h.glob,h.grow⟩
  simp only[setO,Act.put]
  by_cases hu:u=t
  ·subst hu
   simp[h.size,ht]
   exact hv
  ·have e:(a.tmps.setIfInBounds t v).getD u undef=a.tmps.getD u undef:=by
    simp[Ne.symm hu]
   rw[e,if_neg hu]
   exact h.env u
theorem Rel.same{c:Ctx}{dom:Nat→Prop}{ι:Nat→Option IB}{a:Act}{w w':World}{σ:Nat→D}{st:Nat→Option Blk}(h:Rel c dom ι a w σ st)
  (hos:w'.os=w.os) (htape:w'.tape=w.tape) (hout:w'.output=w.output) (hh:w'.heap=w.heap):Rel c dom ι a w' σ st :=
 h.world hos htape hout (by rw[hh];exact Nat.le_refl _) (fun b _ _=>by rw[hh]) (Grows.refl _) (fun b hb=>⟨by rw[hh];exact (h.own b hb).1,.inl hb⟩)
  (fun n b hn=>.inl ⟨hn,rfl,fun _ _ _=>by rw[hh]⟩) h.inj h.dom
theorem Rel.drew{c:Ctx}{dom:Nat→Prop}{ι:Nat→Option IB}{a:Act}{w:World}{σ:Nat→D}{st:Nat→Option Blk}(h:Rel c dom ι a w σ st):Rel c dom ι a w.drew σ st:=h.same rfl rfl rfl rfl
theorem Rel.below{c:Ctx}{dom:Nat→Prop}{ι:Nat→Option IB}{a:Act}{w w':World}{σ:Nat→D}{st:Nat→Option Blk}(h:Rel c dom ι a w σ st)(hb:Below w.heap.size w w'):Rel c dom ι a w' σ st :=
 h.world hb.os hb.tape hb.output hb.size (fun b hlt _=>hb.block b hlt) (Grows.refl _) (fun b ho=>⟨by have:=(h.own b ho).1;have:=hb.size;omega,.inl ho⟩)
  (fun n b hn=>.inl ⟨hn,rfl,fun ib hib hc=>hb.block _ (h.own _ ⟨n,ib,by rw[hn];rfl,hib,hc,rfl⟩).1⟩) h.inj h.dom
theorem Rel.drop{c:Ctx}{dom:Nat→Prop}{ι:Nat→Option IB}{a:Act}{w:World}{σ:Nat→D}{st st':Nat→Option Blk}(h:Rel c dom ι a w σ st)(hs:∀ n b,st' n=some b→st n=some b):Rel c dom ι a w σ st':=by
 have hi:∀ n,(st' n).isSome=true→(st n).isSome=true:=by
  intro n hn
  cases hx:st' n with
  | none=>rw[hx] at hn;cases hn
  | some b=>rw[hs n b hx];rfl
 exact h.world rfl rfl rfl (Nat.le_refl _) (fun b _ _=>rfl) (Grows.refl _) (fun b ⟨n,ib,h1,h2⟩=>⟨(h.own b ⟨n,ib,hi n h1,h2⟩).1,.inl ⟨n,ib,hi n h1,h2⟩⟩)
  (fun n b hn=>.inl ⟨hs n b hn,rfl,fun _ _ _=>rfl⟩) (fun n m h1 h2=>h.inj n m (hi n h1) (hi m h2)) h.dom
def updI(ι:Nat→Option IB)(n:Nat)(ib:IB):Nat→Option IB:=fun m=>if m=n then some ib else ι m
def updS(st:Nat→Option Blk)(n:Nat)(b:Option Blk):Nat→Option Blk:=fun m=>if m=n then b else st m
theorem Rel.one{c:Ctx}{dom:Nat→Prop}{ι:Nat→Option IB}{a:Act}{w w':World}{σ:Nat→D}{st:Nat→Option Blk}(h:Rel c dom ι a w σ st)(n:Nat)(ib':IB)(b':Blk)
  (hos:w'.os=w.os) (htape:w'.tape=w.tape) (hout:w'.output=w.output) (hsz:w.heap.size≤w'.heap.size)
  (hX:∀ b,b<w.heap.size→w'.heap[b]? = w.heap[b]? ∨ ∃ ib,ι n=some ib∧(st n).isSome=true∧0<ib.cap∧b=ib.blk)
  (hib:0<ib'.cap→ib'.blk<w'.heap.size∧((∃ ib,ι n=some ib∧(st n).isSome=true∧0<ib.cap∧ib'.blk=ib.blk)∨w.heap.size≤ib'.blk))
  (hgr:∀ ib,ι n=some ib→ib'=ib∨(ib.box=false∧ib.hl<ib'.hl))
  (hnew:(∀ v d,Rep w (Fb c ι st) ι v d→Rep w' (Fb c (updI ι n ib') (updS st n (some b'))) (updI ι n ib') v d)→(∀ v d,RepP w (Fb c ι st) v d→RepP w' (Fb c (updI ι n ib') (updS st n (some b'))) v d) →
   BlkRep w' (Fb c (updI ι n ib') (updS st n (some b'))) (updI ι n ib') n b') :
  Rel c (fun m=>dom m∨m=n) (updI ι n ib') a w' σ (updS st n (some b'))∧(∀ v d,Rep w (Fb c ι st) ι v d→Rep w' (Fb c (updI ι n ib') (updS st n (some b'))) (updI ι n ib') v d):=by
 have hgrow:Grows ι (updI ι n ib'):=by
  intro m ib hm
  unfold updI
  by_cases e:m=n
  ·subst e;exact⟨ib',by simp,hgr ib hm⟩
  ·exact⟨ib,by simp[e,hm],.inl rfl⟩
 have hown:∀ b,Own (updI ι n ib') (updS st n (some b')) b→b<w'.heap.size∧(Own ι st b∨w.heap.size≤b):=by
  rintro b ⟨m,ib,h1,h2,h3,rfl⟩
  unfold updI at h2
  unfold updS at h1
  by_cases e:m=n
  ·subst e
   simp only[if_true,Option.some.injEq] at h2
   subst h2
   obtain⟨k1,k2⟩:=hib h3
   rcases k2 with⟨ib,j1,j2,j3,j4⟩|k2
   ·exact⟨k1,.inl ⟨m,ib,j2,j1,j3,j4⟩⟩
   ·exact⟨k1,.inr k2⟩
  ·rw[if_neg e] at h1 h2
   have ho:Own ι st ib.blk:=⟨m,ib,h1,h2,h3,rfl⟩
   exact⟨by have:=(h.own _ ho).1;omega,.inl ho⟩
 have hsame:∀ b,b<w.heap.size→¬ Own ι st b→w'.heap[b]? = w.heap[b]? := by
  intro b hlt ho
  rcases hX b hlt with h1|⟨ib,h1,h2,h3,h4⟩
  ·exact h1
  ·exact absurd ⟨n,ib,h2,h1,h3,h4⟩ ho
 have hb:∀ b,¬ Fb c ι st b→(w.heap[b]?).isSome=true→w'.heap[b]? = w.heap[b]? ∧ ¬ Fb c (updI ι n ib') (updS st n (some b')) b:=by
  intro b hF hz
  have hlt:=isSome_lt hz
  refine⟨hsame b hlt (fun h=>hF (.inr h)),fun hF'=>?_⟩
  rcases hF' with hF'|hF'
  ·exact hF (.inl hF')
  ·rcases (hown b hF').2 with h|h
   ·exact hF (.inr h)
   ·omega
 refine⟨h.world hos htape hout hsz hsame hgrow hown ?_ ?_ ?_,fun v d hv=>hv.mono hb hgrow⟩
 ·intro m b hm
  unfold updS at hm
  by_cases e:m=n
  ·subst e
   simp only[if_true,Option.some.injEq] at hm
   subst hm
   exact .inr (hnew (fun v d hv=>hv.mono hb hgrow) (fun v d hv=>hv.mono hb))
  ·rw[if_neg e] at hm
   refine .inl ⟨hm,by simp[updI,e],fun ib hib hc=>?_⟩
   have ho:=h.own ib.blk ⟨m,ib,by rw[hm];rfl,hib,hc,rfl⟩
   rcases hX ib.blk ho.1 with h1|⟨ib2,h1,h2,h3,h4⟩
   ·exact h1
   ·exact absurd h4 (h.inj m n (by rw[hm];rfl) h2 e ib ib2 hib h1 hc h3)
 ·intro m1 m2 h1 h2 hne ib1 ib2 i1 i2 c1 c2
  have aux:∀ m ib,m≠n→(st m).isSome=true→ι m=some ib→0<ib.cap→0<ib'.cap→ib.blk≠ib'.blk:=by
   intro m ib hm hs hi hc hc'
   obtain⟨k1,k2⟩:=hib hc'
   rcases k2 with⟨ib3,j1,j2,j3,j4⟩|k2
   ·rw[j4];exact h.inj m n hs j2 hm ib ib3 hi j1 hc j3
   ·have:=(h.own ib.blk ⟨m,ib,hs,hi,hc,rfl⟩).1;omega
  unfold updI at i1 i2
  unfold updS at h1 h2
  by_cases e1:m1=n
  ·by_cases e2:m2=n
   ·exact absurd (e1.trans e2.symm) hne
   ·rw[if_pos e1] at i1;rw[if_neg e2] at i2 h2
    cases i1
    exact (aux m2 ib2 e2 h2 i2 c2 c1).symm
  ·rw[if_neg e1] at i1 h1
   by_cases e2:m2=n
   ·rw[if_pos e2] at i2
    cases i2
    exact aux m1 ib1 e1 h1 i1 c1 c2
   ·rw[if_neg e2] at i2 h2
    exact h.inj m1 m2 h1 h2 hne ib1 ib2 i1 i2 c1 c2
 ·intro m hm
  unfold updI at hm
  by_cases e:m=n
  ·exact .inr e
  ·rw[if_neg e] at hm;exact .inl (h.dom m hm)
def gt:List (Nat×D)→Nat→D
 | [],_=>.any
 | (u,d)::l,t=>if t=u then d else gt l t
def gs:List (Nat×Blk)→Nat→Option Blk
 | [],_=>none
 | (u,d)::l,t=>if t=u then some d else gs l t
theorem gt_mem{l:List (Nat×D)}{t:Nat}:gt l t=.any∨(t,gt l t)∈l:=by
 induction l with
 | nil=>exact .inl rfl
 | cons p l ih =>
  obtain⟨u,d⟩:=p
  unfold gt
  by_cases h:t=u
  ·subst h;right;simp
  ·rw[if_neg h]
   rcases ih with ih|ih
   ·exact .inl ih
   ·exact .inr (List.mem_cons_of_mem _ ih)
theorem gs_mem{l:List (Nat×Blk)}{n:Nat}{b:Blk}(h:gs l n=some b):(n,b)∈l:=by
 induction l with
 | nil=>cases h
 | cons p l ih =>
  obtain⟨u,d⟩:=p
  unfold gs at h
  by_cases e:n=u
  ·subst e;rw[if_pos rfl] at h;cases h;simp
  ·rw[if_neg e] at h;exact List.mem_cons_of_mem _ (ih h)
abbrev Post:=Exit→Nat→List (Nat×D)→List (Nat×Blk)→Prop
section
variable (P:Program) (G:Nat→Option (List D)) (N:Nat)
def awp(code:Code)(Q:Post)(nx:Nat)(σ:List (Nat×D))(st:List (Nat×Blk)):Prop :=
 ∀ B w0 O df ι0 ι a w,Rel ⟨P,G,N,B,w0,O,df,ι0⟩ (·<nx) ι a w (gt σ) (gs st) →
  code.wp P (fun e a' w'=>∃ nx' ι' σ' st',Rel ⟨P,G,N,B,w0,O,df,ι0⟩ (·<nx') ι' a' w' (gt σ') (gs st')∧Q e nx' σ' st') a w
end
def YN(K:Nat→List (Nat×D)→List (Nat×Blk)→Prop)(Q:Post):Post
 | .normal=>K
 | e=>Q e
def blockQ(id:Nat)(Q:Post):Post
 | .exit i=>if i=id then Q .normal else Q (.exit i)
 | e=>Q e
@[simp] theorem thenQ_normal(K Q):YN K Q .normal=K:=rfl
@[simp] theorem thenQ_ret(K Q):YN K Q .ret=Q .ret:=rfl
@[simp] theorem thenQ_exit(K Q i):YN K Q (.exit i)=Q (.exit i):=rfl
@[simp] theorem thenQ_goto(K Q i):YN K Q (.goto i)=Q (.goto i):=rfl
@[simp] theorem blockQ_normal(id Q):blockQ id Q .normal=Q .normal:=rfl
@[simp] theorem blockQ_ret(id Q):blockQ id Q .ret=Q .ret:=rfl
@[simp] theorem blockQ_exit(id Q i):blockQ id Q (.exit i)=if i=id then Q .normal else Q (.exit i):=rfl
@[simp] theorem blockQ_goto(id Q i):blockQ id Q (.goto i)=Q (.goto i):=rfl
def Le(d d':D):Prop:=∀ w F ι v,Rep w F ι v d→Rep w F ι v d'
@[simp] theorem Le.refl(d:D):Le d d:=fun _ _ _ _ h=>h
@[simp] theorem Le.any(d:D):Le d .any:=fun _ _ _ v _=>.pure _ _ (.any v)
section
variable {P:Program} {G:Nat→Option (List D)} {N:Nat} {Q:Post} {nx:Nat} {σ:List (Nat×D)} {st:List (Nat×Blk)}
theorem awp_mono{c:Code}{Q':Post}(h:awp P G N c Q nx σ st)(hq:∀ e nx σ st,Q e nx σ st→Q' e nx σ st):awp P G N c Q' nx σ st :=
 fun B w0 O df ι0 ι a w hr=>wp_mono (h B w0 O df ι0 ι a w hr) (fun _ _ _ ⟨nx',ι',σ',st',h1,h2⟩=>⟨nx',ι',σ',st',h1,hq _ _ _ _ h2⟩)
theorem awp_skip(h:Q .normal nx σ st):awp P G N .skip Q nx σ st:=fun _ _ _ _ _ ι _ _ hr=>wp_skip ⟨nx,ι,σ,st,hr,h⟩
theorem awp_exit{i:Nat}(h:Q (.exit i) nx σ st):awp P G N (.exit i) Q nx σ st:=fun _ _ _ _ _ ι _ _ hr=>wp_exit ⟨nx,ι,σ,st,hr,h⟩
theorem awp_ret(h:Q .ret nx σ st):awp P G N .ret Q nx σ st:=fun _ _ _ _ _ ι _ _ hr=>wp_ret ⟨nx,ι,σ,st,hr,h⟩
theorem awp_seq{x y:Code}(h:awp P G N x (YN (awp P G N y Q) Q) nx σ st):awp P G N (.seq x y) Q nx σ st:=by
 intro B w0 O df ι0 ι a w hr
 refine wp_seq (wp_mono (h B w0 O df ι0 ι a w hr) ?_)
 rintro e a' w' ⟨nx',ι',σ',st',h1,h2⟩
 cases e with
 | normal=>exact h2 B w0 O df ι0 ι' a' w' h1
 | _=>exact⟨nx',ι',σ',st',h1,h2⟩
theorem awp_block{id:Nat}{x:Code}(h:awp P G N x (blockQ id Q) nx σ st):awp P G N (.block id x) Q nx σ st:=by
 intro B w0 O df ι0 ι a w hr
 refine wp_block (wp_mono (h B w0 O df ι0 ι a w hr) ?_)
 rintro e a' w' ⟨nx',ι',σ',st',h1,h2⟩
 cases e with
 | exit i =>
  by_cases hi:i=id
  ·subst hi;simp only[Exit.inBlock,blockQ_exit,if_true] at h2 ⊢;exact⟨nx',ι',σ',st',h1,h2⟩
  ·simp only[Exit.inBlock,blockQ_exit,if_neg hi] at h2 ⊢;exact⟨nx',ι',σ',st',h1,h2⟩
 | _=>exact⟨nx',ι',σ',st',h1,h2⟩
theorem Rel.weaken{c:Ctx}{dom dom':Nat→Prop}{ι:Nat→Option IB}{a:Act}{w:World}{σ σ':Nat→D}{st:Nat→Option Blk}(h:Rel c dom ι a w σ st)(he:∀ t,Le (σ t) (σ' t))(hd:∀ n,dom n→dom' n):Rel c dom' ι a w σ' st :=
 ⟨h.size,h.defers,fun t=>he t _ _ _ _ (h.env t),h.blk,h.inj,fun n hn=>hd n (h.dom n hn),h.os,h.tape,h.output,h.hsize,h.keep,h.low,h.own,h.glob,h.grow⟩
theorem Rel.sub{c:Ctx}{dom:Nat→Prop}{ι:Nat→Option IB}{a:Act}{w:World}{E:List (Nat×D)}{S:List (Nat×Blk)}(h:Rel c dom ι a w (gt σ) (gs st))(hE:∀ p∈E,Le (gt σ p.1) p.2)(hS:∀ p∈S,gs st p.1=some p.2):Rel c dom ι a w (gt E) (gs S):=by
 refine (h.drop (st':=gs S) (fun n b hn=>hS _ (gs_mem hn))).weaken (fun t=>?_) (fun _ h=>h)
 rcases gt_mem (l:=E) (t:=t) with h1|h1
 ·rw[h1];exact Le.any _
 ·exact hE _ h1
theorem awp_sub{c:Code}(E:List (Nat×D))(S:List (Nat×Blk))(nx':Nat)(hE:∀ p∈E,Le (gt σ p.1) p.2)(hS:∀ p∈S,gs st p.1=some p.2)(hn:nx≤nx')(h:awp P G N c Q nx' E S):awp P G N c Q nx σ st :=
 fun B w0 O df ι0 ι a w hr=>h B w0 O df ι0 ι a w ((hr.sub hE hS).weaken (fun _=>Le.refl _) (fun n hn'=>by omega))
end
mutual
def D.lo(n:Nat):D→Bool
 | .bp m _|.ap m _ _ _|.os m _ _ _|.rf m _=>decide (m<n)
 | .agg cs|.tup cs=>D.los n cs
 | .fn _ a b=>D.los n a&&D.los n b
 | .ifc _ d=>D.lo n d
 | _=>true
def D.los(n:Nat):List D→Bool
 | []=>true
 | d::ds=>D.lo n d&&D.los n ds
end
theorem D.los_at{n:Nat}:∀ {ds:List D},D.los n ds=true→∀ i (hi:i<ds.length),D.lo n ds[i]=true
 | [],_,i,hi=>absurd hi (Nat.not_lt_zero _)
 | d::ds,h,i,hi=>by
  simp only[D.los,Bool.and_eq_true] at h
  cases i with
  | zero=>exact h.1
  | succ i=>exact D.los_at h.2 i (by simpa using hi)
def Blk.lo(n:Nat):Blk→Bool
 | .box cs=>D.los n cs
 | .arr _ _=>true
 | .obj _=>true
 | .mp _ cs=>D.los n cs
 | .deck _=>true
def resI(n:Nat)(ι:Nat→Option IB):Nat→Option IB:=fun m=>if m<n then ι m else none
theorem Rep.lo{w:World}{F:Nat→Prop}{ι:Nat→Option IB}{v:Value}{d:D}(n:Nat)(h:Rep w F ι v d)(hl:d.lo n=true):Rep w F (resI n ι) v d:=by
 induction h with
 | pure v d h=>exact .pure _ _ h
 | agg cs ds hl' h ih=>exact .agg cs ds hl' (fun i hi=>ih i hi (D.los_at (by simpa only[D.lo] using hl) i hi))
 | tup cs ds hl' h ih=>exact .tup cs ds hl' (fun i hi=>ih i hi (D.los_at (by simpa only[D.lo] using hl) i hi))
 | fn f c1 c2 d1 d2 h1 h2 r1 r2 i1 i2 =>
  simp only[D.lo,Bool.and_eq_true] at hl
  exact .fn f c1 c2 d1 d2 h1 h2 (fun i hi=>i1 i hi (D.los_at hl.1 i hi)) (fun i hi=>i2 i hi (D.los_at hl.2 i hi))
 | ifc t v d h ih=>exact .ifc t v d (ih (by simpa only[D.lo] using hl))
 | bp m off ib hn hb=>exact .bp m off ib (by simp only[D.lo,decide_eq_true_eq] at hl;simp[resI,hl,hn]) hb
 | ap m hl' i off ib v hn hle h1 h=>exact .ap m hl' i off ib v (by simp only[D.lo,decide_eq_true_eq] at hl;simp[resI,hl,hn]) hle h1 h
 | os m hl' lo len ib v hn hle h1 h=>exact .os m hl' lo len ib v (by simp only[D.lo,decide_eq_true_eq] at hl;simp[resI,hl,hn]) hle h1 h
 | rf m ch ib v hn hb hv=>exact .rf m ch ib v (by simp only[D.lo,decide_eq_true_eq] at hl;simp[resI,hl,hn]) hb hv
theorem Rel.purge{c:Ctx}{dom:Nat→Prop}{ι:Nat→Option IB}{a:Act}{w:World}{E:List (Nat×D)}{S:List (Nat×Blk)}(n:Nat)(h:Rel c dom ι a w (gt E) (gs S))(hE:∀ p∈E,p.2.lo n=true)(hS:∀ p∈S,p.1<n∧p.2.lo n=true)(hι:∀ m,(c.ι0 m).isSome=true→m<n) :
  Rel c (·<n) (resI n ι) a w (gt E) (gs S):=by
 have hk:∀ m,(gs S m).isSome=true→m<n:=by
  intro m hm
  cases hx:gs S m with
  | none=>rw[hx] at hm;cases hm
  | some b=>exact (hS _ (gs_mem hx)).1
 have hr:∀ m,m<n→resI n ι m=ι m:=fun m hm=>by simp[resI,hm]
 have ho:∀ b,Own (resI n ι) (gs S) b↔Own ι (gs S) b:=by
  intro b
  constructor
  ·rintro⟨m,ib,h1,h2,h3⟩
   exact⟨m,ib,h1,by rw[hr m (hk m h1)] at h2;exact h2,h3⟩
  ·rintro⟨m,ib,h1,h2,h3⟩
   exact⟨m,ib,h1,by rw[hr m (hk m h1)];exact h2,h3⟩
 have hF:∀ b,Fb c (resI n ι) (gs S) b↔Fb c ι (gs S) b:=fun b=>or_congr Iff.rfl (ho b)
 have hFe:Fb c (resI n ι) (gs S)=Fb c ι (gs S):=funext fun b=>propext (hF b)
 refine⟨h.size,h.defers,fun t=>?_,fun m b hm=>?_,fun m1 m2 h1 h2 hne ib ib' i1 i2=>h.inj m1 m2 h1 h2 hne ib ib' (by rwa [hr m1 (hk m1 h1)] at i1) (by rwa [hr m2 (hk m2 h2)] at i2),fun m hm=>?_,h.os,h.tape,h.output,h.hsize,h.keep,h.low,fun b hb=>h.own b ((ho b).1 hb),fun g row hg=>by rw[hFe];exact h.glob g row hg,fun m ib hm=>by
  obtain⟨ib',h1,h2⟩:=h.grow m ib hm
  exact⟨ib',by rw[hr m (hι m (by rw[hm];rfl))];exact h1,h2⟩⟩
 ·rw[hFe]
  rcases gt_mem (l:=E) (t:=t) with h1|h1
  ·rw[h1];exact .pure _ _ (.any _)
  ·exact (h.env t).lo n (hE _ h1)
 ·rw[hFe]
  have hb:=h.blk m b hm
  have hlt:=hk m (by rw[hm];rfl)
  cases b with
  | box cs =>
   obtain⟨ib,vs,ty,h1,h2,h3,h4,h5,h6⟩:=hb
   have hlo:D.los n cs=true:=(hS _ (gs_mem hm)).2
   exact⟨ib,vs,ty,by rw[hr m hlt];exact h1,h2,h3,h4,h5,fun i hi=>(h6 i hi).lo n (D.los_at hlo i hi)⟩
  | arr es rows =>
   obtain⟨ib,h1,h2⟩:=hb
   exact⟨ib,by rw[hr m hlt];exact h1,h2⟩
  | obj p =>
   obtain⟨ib,o,h1,h2⟩:=hb
   exact⟨ib,o,by rw[hr m hlt];exact h1,h2⟩
  | mp ks cs =>
   obtain⟨ib,es,ck,h1,h2,h3,h4,h5,h6,hB,h8⟩:=hb
   have hlo:D.los n cs=true:=(hS _ (gs_mem hm)).2
   exact⟨ib,es,ck,by rw[hr m hlt];exact h1,h2,h3,h4,h5,h6,hB,fun i hi=>(h8 i hi).lo n (D.los_at hlo i hi)⟩
  | deck sc =>
   obtain⟨ib,v0,ty,xs,i,s,h1,h2⟩:=hb
   exact⟨ib,v0,ty,xs,i,s,by rw[hr m hlt];exact h1,h2⟩
 ·unfold resI at hm
  by_cases e:m<n
  ·exact e
  ·rw[if_neg e] at hm;cases hm
section
variable {P:Program} {G:Nat→Option (List D)} {N:Nat} {Q:Post} {nx:Nat} {σ:List (Nat×D)} {st:List (Nat×Blk)}
def Round(nx:Nat)(E:List (Nat×D))(S:List (Nat×Blk))(σ:List (Nat×D))(st:List (Nat×Blk)):Prop :=
 (∀ p∈E,Le (gt σ p.1) p.2)∧(∀ p∈S,gs st p.1=some p.2)∧(∀ p∈E,p.2.lo nx=true)∧(∀ p∈S,p.1<nx∧p.2.lo nx=true)
theorem awp_loop{X:Type}{body:Code}(E:X→List (Nat×D))(S:X→List (Nat×Blk))(J:X→Prop)(μ:X→Nat)(x0:X)(h0:J x0)(hE:Round nx (E x0) (S x0) σ st)
  (round:∀ x,J x→awp P G N body (YN (fun _ σ' st'=>∃ x',J x'∧μ x'<μ x∧Round nx (E x') (S x') σ' st') Q) nx (E x) (S x)):awp P G N (.loop body) Q nx σ st:=by
 intro B w0 O df ι0 ι a w hr
 intro b k cs
 have hι:∀ m,(ι0 m).isSome=true→m<nx:=by
  intro m hm
  cases hx:ι0 m with
  | none=>rw[hx] at hm;cases hm
  | some ib =>
   obtain⟨ib',h1,_⟩:=hr.grow m ib hx
   exact hr.dom m (by rw[h1];rfl)
 have key:∀ m x,μ x=m→J x→∀ ι a w,Rel ⟨P,G,N,B,w0,O,df,ι0⟩ (·<nx) ι a w (gt (E x)) (gs (S x)) →
   ∃ e a' w',(∃ nx' ι' σ' st',Rel ⟨P,G,N,B,w0,O,df,ι0⟩ (·<nx') ι' a' w' (gt σ') (gs st')∧Q e nx' σ' st')∧Arrives P (lone (b.at a (.code body::.inLoop body::k)) cs w) b k cs e a' w':=by
  intro m
  induction m using Nat.strongRecOn with
  | _ m ih =>
   intro x hm hJ ι a w hr
   obtain⟨e,a1,w1,hq,harr⟩:=round x hJ B w0 O df ι0 ι a w hr b (.inLoop body::k) cs
   obtain⟨nx',ι',σ',st',h1,h2⟩:=hq
   cases e with
   | normal =>
    obtain⟨x',hJ',hlt,hE',hS',hl1,hl2⟩:=h2
    obtain⟨e2,a2,w2,hq2,harr2⟩:=ih (μ x') (hm▸hlt) x' rfl hJ' _ a1 w1 ((h1.sub hE' hS').purge nx hl1 hl2 hι)
    exact⟨e2,a2,w2,hq2,.of_steps (Steps.trans harr (.one step_inLoop)) harr2⟩
   | exit id=>exact⟨_,a1,w1,⟨nx',ι',σ',st',h1,h2⟩,.pass (x:=.inLoop body) rfl (fun _ _=>.inl (by simp)) harr⟩
   | goto l=>exact⟨_,a1,w1,⟨nx',ι',σ',st',h1,h2⟩,.pass (x:=.inLoop body) rfl (fun _ _=>.inl (by simp)) harr⟩
   | ret=>exact⟨_,a1,w1,⟨nx',ι',σ',st',h1,h2⟩,.pass (x:=.inLoop body) rfl (fun _ _=>.inl (by simp)) harr⟩
   | panic ch=>exact⟨_,a1,w1,⟨nx',ι',σ',st',h1,h2⟩,.pass (x:=.inLoop body) rfl (fun _ _=>.inl (by simp)) harr⟩
   | outgrown=>exact⟨_,a1,w1,⟨nx',ι',σ',st',h1,h2⟩,.pass (x:=.inLoop body) rfl (fun _ _=>.inl (by simp)) harr⟩
 obtain⟨e,a',w',hq,harr⟩:=key _ x0 rfl h0 _ a w ((hr.sub hE.1 hE.2.1).purge nx hE.2.2.1 hE.2.2.2 hι)
 exact⟨e,a',w',hq,.of_steps (.one step_loop) harr⟩
end
end
section
open Go Go.RowKit
def cA:Value→D
 | .bool b=>.bool b
 | .int k n=>.int k n
 | .string s=>.str s
 | .pointer none=>.np
 | .slice none 0 0=>.nils
 | .nilFunc=>.nilf
 | .nilIface=>.nili
 | _=>.any
def cD:Value→D
 | .agg cs=>.agg (cs.toList.map cA)
 | v=>cA v
theorem cA_rep(w:World)(F:Nat→Prop)(v:Value):RepP w F v (cA v):=by
 unfold cA
 split<;>first|exact .bool _|exact .int _ _|exact .str _|exact .np|exact .nils|exact .nilf|exact .nili|exact .any _
theorem cD_rep(w:World)(F:Nat→Prop)(v:Value):RepP w F v (cD v):=by
 unfold cD
 split
 ·rename_i cs
  refine .agg _ _ (by simp) (fun i hi=>?_)
  have hi':i<cs.size:=by simpa using hi
  simp only[List.getElem_map]
  have e:cs.getD i undef=cs[i]:=by simp[hi']
  rw[e]
  simpa using cA_rep w F _
 ·exact cA_rep w F v
def opD(G:Nat→Option (List D))(σ:Nat→D):Operand→D
 | .tmp t=>σ t
 | .const v=>cD v
 | .global g=>match G g with|some row=>.vp row|none=>.any
 | .func f=>.fn (.func f) [] []
theorem Zl{c:Ctx}{dom:Nat→Prop}{ι:Nat→Option IB}{a:Act}{w:World}{σ:Nat→D}{st:Nat→Option Blk}(h:Rel c dom ι a w σ st)(x:Operand):Rep w (Fb c ι st) ι (a.eval x) (opD c.G σ x):=by
 cases x with
 | tmp t=>exact h.env t
 | const v=>exact .pure _ _ (cD_rep _ _ v)
 | global g =>
  cases hg:c.G g with
  | none=>simp only[opD,hg];exact .pure _ _ (.any _)
  | some row=>simp only[opD,hg];exact .pure _ _ (h.glob g row hg)
 | func f=>exact .pure _ _ (.fn _ #[] #[] [] [] rfl rfl (fun i hi=>absurd hi (Nat.not_lt_zero _)) (fun i hi=>absurd hi (Nat.not_lt_zero _)))
section
variable {w:World} {F:Nat→Prop} {ι:Nat→Option IB} {v:Value}
theorem Rep.is_bool{b:Bool}(h:Rep w F ι v (.bool b)):v=.bool b:=by cases h with|pure _ _ h=>cases h;rfl
theorem Rep.is_int{k:IntKind}{n:Int}(h:Rep w F ι v (.int k n)):v=.int k n:=by cases h with|pure _ _ h=>cases h;rfl
theorem Rep.is_str{s:ByteArray}(h:Rep w F ι v (.str s)):v=.string s:=by cases h with|pure _ _ h=>cases h;rfl
theorem Rep.is_np(h:Rep w F ι v .np):v=.pointer none:=by cases h with|pure _ _ h=>cases h;rfl
theorem Rep.is_nils(h:Rep w F ι v .nils):v=.slice none 0 0:=by cases h with|pure _ _ h=>cases h;rfl
theorem Rep.is_nilf(h:Rep w F ι v .nilf):v=.nilFunc:=by cases h with|pure _ _ h=>cases h;rfl
theorem Rep.is_nili(h:Rep w F ι v .nili):v=.nilIface:=by cases h with|pure _ _ h=>cases h;rfl
theorem Rep.is_agg{ds:List D}(h:Rep w F ι v (.agg ds)):∃ cs,v=.agg cs∧cs.size=ds.length∧∀ i (hi:i<ds.length),Rep w F ι (cs.getD i undef) ds[i]:=by
 cases h with
 | pure _ _ h=>cases h with|agg cs ds hl h=>exact⟨cs,rfl,hl,fun i hi=>.pure _ _ (h i hi)⟩
 | agg cs ds hl h=>exact⟨cs,rfl,hl,h⟩
theorem Rep.is_tup{ds:List D}(h:Rep w F ι v (.tup ds)):∃ cs,v=.tuple cs∧cs.size=ds.length∧∀ i (hi:i<ds.length),Rep w F ι (cs.getD i undef) ds[i]:=by
 cases h with
 | pure _ _ h=>cases h with|tup cs ds hl h=>exact⟨cs,rfl,hl,fun i hi=>.pure _ _ (h i hi)⟩
 | tup cs ds hl h=>exact⟨cs,rfl,hl,h⟩
theorem Rep.is_ifc{t:TypeId}{d:D}(h:Rep w F ι v (.ifc t d)):∃ u,v=.iface t u∧Rep w F ι u d:=by
 cases h with
 | pure _ _ h=>cases h with|ifc t v d h=>exact⟨v,rfl,.pure _ _ h⟩
 | ifc t v d h=>exact⟨v,rfl,h⟩
theorem Rep.is_fn{f:Fn}{d1 d2:List D}(h:Rep w F ι v (.fn f d1 d2)):∃ c1 c2,v=.func f c1 c2∧c1.size=d1.length∧c2.size=d2.length∧(∀ i (hi:i<d1.length),Rep w F ι (c1.getD i undef) d1[i])∧∀ i (hi:i<d2.length),Rep w F ι (c2.getD i undef) d2[i]:=by
 cases h with
 | pure _ _ h=>cases h with|fn f c1 c2 d1 d2 h1 h2 r1 r2=>exact⟨c1,c2,rfl,h1,h2,fun i hi=>.pure _ _ (r1 i hi),fun i hi=>.pure _ _ (r2 i hi)⟩
 | fn f c1 c2 d1 d2 h1 h2 r1 r2=>exact⟨c1,c2,rfl,h1,h2,r1,r2⟩
theorem Rep.is_sl{rows:List (List D)}(h:Rep w F ι v (.sl rows)):RepP w F v (.sl rows):=by cases h with|pure _ _ h=>exact h
theorem Rep.is_vp{row:List D}(h:Rep w F ι v (.vp row)):RepP w F v (.vp row):=by cases h with|pure _ _ h=>exact h
end
section
variable {P:Program} {G:Nat→Option (List D)} {N:Nat} {Q:Post} {nx:Nat} {σ:List (Nat×D)} {st:List (Nat×Blk)}
theorem awp_cond{c:Operand}{x y:Code}{b:Bool}(hc:opD G (gt σ) c=.bool b)(ht:b=true→awp P G N x Q nx σ st)(hf:b=false→awp P G N y Q nx σ st):awp P G N (.cond c x y) Q nx σ st:=by
 intro B w0 O df ι0 ι a w hr
 have h:=Zl hr c
 rw[show opD _ (gt σ) c=.bool b from hc] at h
 refine wp_cond h.is_bool ?_
 cases b with
 | true=>exact ht rfl B w0 O df ι0 ι a w hr
 | false=>exact hf rfl B w0 O df ι0 ι a w hr
end
inductive TyK where
 | agg (fields:List (Nat×Nat×Bool))|arr (n elem:Nat)|sl (elem:Nat)|str|int (k:IntKind)|bool|ptr (elem:Nat)|func|ifc (empty:Bool)|map (k e:Nat)|chan (e:Nat)|other
structure TyI where
 k:TyK
 size:Nat
 bytes:Nat
 zero:D
def aggOf(P:Program)(t:Nat):Bool:=match P.underlying t with|some (.struct _)|some (.array _ _)=>true|_=>false
def kB(P:Program):TypeDesc→TyK→Bool
 | .struct fs,.agg l=>fs.toList.map (fun f=>(f.offset,((P.info? f.type).map (·.size)).getD 0,aggOf P f.type))==l&&fs.all (fun f=>(P.info? f.type).isSome&&(P.underlying f.type).isSome)
 | .array n e,.arr m f=>n==m&&e==f&&(P.info? e).isSome&&(P.underlying e).isSome
 | .slice e,.sl f=>e==f&&(P.info? e).isSome
 | .string,.str=>true
 | .int k,.int k'=>k==k'
 | .bool,.bool=>true
 | .pointer e,.ptr f=>e==f
 | .func _ _ _,.func=>true
 | .interface ms,.ifc b=>ms.isEmpty==b
 | .map k e,.map k' e'=>k==k'&&e==e'
 | .chan _ e,.chan f=>e==f&&(P.info? e).isSome
 | .slice _,_|.struct _,_|.array _ _,_|.string,_|.int _,_|.bool,_|.pointer _,_|.func _ _ _,_|.interface _,_=>false
 | _,.other=>true
 | _,_=>false
def zA:Value→D→Bool
 | .bool b,.bool c=>b==c
 | .int k n,.int k' m=>k==k'&&n==m
 | .string s,.str t=>s.data.toList==t.data.toList
 | .pointer none,.np|.slice none 0 0,.nils|.nilFunc,.nilf|.nilIface,.nili=>true
 | _,_=>false
def zAs:List Value→List D→Bool
 | [],[]=>true
 | v::vs,d::ds=>zA v d&&zAs vs ds
 | _,_=>false
def zB:Value→D→Bool
 | .agg cs,.agg ds=>zAs cs.toList ds
 | _,.any=>true
 | v,d=>zA v d
def tyB(P:Program)(t:Nat)(i:TyI):Bool :=
 match P.info? t,P.underlying t with
 | some info,some d=>info.size==i.size&&info.bytes==i.bytes&&kB P d i.k&&(match info.zero with|some z=>zB z i.zero|none=>false)
 | _,_=>false
def TyOK(P:Program)(Ty:Nat→Option TyI):Prop:=∀ t i,Ty t=some i→tyB P t i=true
theorem zA_rep{w:World}{F:Nat→Prop}{v:Value}{d:D}(h:zA v d=true):RepP w F v d:=by
  unfold zA at h
  split at h<;>first
    | (simp only[Bool.and_eq_true,beq_iff_eq] at h;obtain⟨rfl,rfl⟩:=h;exact .int _ _)
    | (rename_i s t
       have e:s=t:=by
         have h':s.data.toList=t.data.toList:=by simpa using h
         cases s;cases t;simp at h';simp[h']
       subst e;exact .str _)
    | (simp only[beq_iff_eq] at h;subst h;exact .bool _)
    | exact .np|exact .nils|exact .nilf|exact .nili|cases h
theorem zAs_rep{w:World}{F:Nat→Prop}:∀ {vs:List Value} {ds:List D},zAs vs ds=true→vs.length=ds.length∧∀ i (hi:i<ds.length),RepP w F (vs.getD i undef) ds[i]
 | [],[],_=>⟨rfl,fun i hi=>absurd hi (Nat.not_lt_zero _)⟩
 | v::vs,d::ds,h=>by
  simp only[zAs,Bool.and_eq_true] at h
  obtain⟨h1,h2⟩:=zAs_rep (w:=w) (F:=F) h.2
  refine⟨by simp[h1],fun i hi=>?_⟩
  cases i with
  | zero=>exact zA_rep h.1
  | succ i=>simpa using h2 i (by simpa using hi)
 | [],_::_,h=>by cases h
 | _::_,[],h=>by cases h
theorem zB_rep{w:World}{F:Nat→Prop}{v:Value}{d:D}(h:zB v d=true):RepP w F v d:=by
 unfold zB at h
 split at h
 ·rename_i cs ds
  obtain⟨h1,h2⟩:=zAs_rep (w:=w) (F:=F) h
  refine .agg _ _ (by simpa using h1) (fun i hi=>?_)
  have:=h2 i hi
  have e:cs.getD i undef=cs.toList.getD i undef:=by simp
  rw[e];exact this
 ·exact .any _
 ·exact zA_rep h
theorem TyOK.get{P:Program}{Ty:Nat→Option TyI}(h:TyOK P Ty){t:Nat}{i:TyI}(ht:Ty t=some i):∃ info d z,P.info? t=some info∧P.underlying t=some d∧info.size=i.size∧info.bytes=i.bytes∧kB P d i.k=true∧info.zero=some z∧zB z i.zero=true:=by
 have hb:=h t i ht
 unfold tyB at hb
 split at hb
 ·rename_i info d h1 h2
  simp only[Bool.and_eq_true,beq_iff_eq] at hb
  obtain⟨⟨⟨e1,e2⟩,e3⟩,e4⟩:=hb
  cases hz:info.zero with
  | none=>rw[hz] at e4;cases e4
  | some z=>rw[hz] at e4;exact⟨info,d,z,h1,h2,e1,e2,e3,hz,e4⟩
 ·cases hb
def updL:(Nat→Option Blk)→List (Nat×Option Blk)→Nat→Option Blk
 | st,[]=>st
 | st,(n,b)::l=>updL (updS st n b) l
def Do(P:Program)(G:Nat→Option (List D))(o:Oper)(ρ:Operand→D)(g:Nat→Option Blk)(nm:Nat)(v:D)(upd:List (Nat×Option Blk)):Prop :=
 ∀ c dom ι a w σ st (K:Act→World→Prop) Q,c.P=P→c.G=G→Rel c dom ι a w σ st→(∀ x,x∈o.op.operands→opD G σ x=ρ x)→(∀ n b,g n=some b→st n=some b)→¬ dom nm→(∀ t,o.dst=some t→t<c.N) →
  (∀ a' w' ι',Rel c (fun n=>dom n∨n=nm) ι' a' w' (setO σ o.dst v) (updL st upd)→K a' w')→o.wp P a w K Q
section
variable {P:Program} {G:Nat→Option (List D)} {o:Oper} {ρ:Operand→D} {g:Nat→Option Blk} {nm:Nat}
theorem Xg {v : D} (h : ∀ c dom ι a w σ st, c.P = P → c.G = G → Rel c dom ι a w σ st → (∀ x, x ∈ o.op.operands → opD G σ x = ρ x) → (∀ n b, g n = some b → st n = some b) →
      ∃ val,(execOp a.eval o).run P w=.ok (.value val) w∧Rep w (Fb c ι st) ι val v):Do P G o ρ g nm v []:=by
  intro c dom ι a w σ st K Q hP hG hr hρ hg hnm hd hK
  obtain⟨val,h1,h2⟩:=h c dom ι a w σ st hP hG hr hρ hg
  unfold Oper.wp
  rw[h1]
  exact hK _ _ _ ((hr.put val v h2 o.dst hd).weaken (fun _=>Le.refl _) (fun _ h=>.inl h))
theorem ZY{v:D}(h:∀ w F ι (ev:Operand→Value),(∀ x,x∈o.op.operands→Rep w F ι (ev x) (ρ x))→∃ val,(execOp ev o).run P w=.ok (.value val) w∧Rep w F ι val v):Do P G o ρ g nm v []:=by
 refine Xg (fun c dom ι a w σ st hP hG hr hρ hg=>h w _ ι a.eval (fun x hx=>?_))
 subst hG
 rw[← hρ x hx]
 exact Zl hr x
end
end
section
open Go Go.RowKit
def bAnd(k:IntKind)(a b:Int):Int:=k.wrap (BitVec.ofInt k.bits a &&& BitVec.ofInt k.bits b).toNat
def bOr(k:IntKind)(a b:Int):Int:=k.wrap (BitVec.ofInt k.bits a ||| BitVec.ofInt k.bits b).toNat
def bXor(k:IntKind)(a b:Int):Int:=k.wrap (BitVec.ofInt k.bits a ^^^ BitVec.ofInt k.bits b).toNat
def binI(op:BinOp)(k:IntKind)(a b:Int):Option D :=
 match op with
 | .add=>some (.int k (k.wrap (a+b)))
 | .sub=>some (.int k (k.wrap (a - b)))
 | .mul=>some (.int k (k.wrap (a*b)))
 | .quo=>if b=0 then none else some (.int k (k.wrap (a.tdiv b)))
 | .rem=>if b=0 then none else some (.int k (a.tmod b))
 | .and=>some (.int k (bAnd k a b))
 | .or=>some (.int k (bOr k a b))
 | .xor=>some (.int k (bXor k a b))
 | .eql=>some (.bool (a==b))
 | .neq=>some (.bool (a != b))
 | .lss=>some (.bool (decide (a<b)))
 | .leq=>some (.bool (decide (a≤b)))
 | .gtr=>some (.bool (decide (a > b)))
 | .geq=>some (.bool (decide (a≥b)))
 | _=>none
def binS(op:BinOp)(a b:ByteArray):Option D :=
 match op with
 | .add=>if a.size+b.size≤1000000000000 then some (.str (a++b)) else none
 | .eql=>some (.bool (a.toList==b.toList))
 | .neq=>some (.bool (!(a.toList==b.toList)))
 | .lss=>some (.bool (Op.bytesLess a.toList b.toList))
 | _=>none
def nilEq(Ty:Nat→Option TyI)(t:Nat)(x y:D):Option Bool :=
 match (Ty t).map (·.k),x,y with
 | some (TyK.ptr _),.np,.np=>some true
 | some (TyK.ptr _),.vp _,.np|some (TyK.ptr _),.bp _ _,.np=>some false
 | some (TyK.func),.nilf,.nilf=>some true
 | some (TyK.func),.fn _ _ _,.nilf=>some false
 | some (TyK.ifc _),.ifc _ _,.nili=>some false
 | some (TyK.sl _),.nils,.nils=>some true
 | some (TyK.sl _),.sle,.nils=>some false
 | some (TyK.sl _),.sl (_::_),.nils=>some false
 | some (TyK.bool),.bool a,.bool b=>some (a==b)
 | _,_,_=>none
def binD(Ty:Nat→Option TyI)(op:BinOp)(t:Nat)(x y:D):Option D :=
 match op,x,y with
 | .shl,.int k a,.int _ b=>if b<0 then none else some (.int k (k.wrap (a*2 ^ (min b.toNat k.bits))))
 | .shr,.int k a,.int _ b=>if b<0 then none else some (.int k (a.fdiv (2 ^ (min b.toNat k.bits))))
 | op,.int k a,.int k' b=>if k=k' then binI op k a b else none
 | op,.str a,.str b=>binS op a b
 | .eql,x,y=>(nilEq Ty t x y).map (.bool ·)
 | .neq,x,y=>(nilEq Ty t x y).map (fun b=>.bool (!b))
 | _,_,_=>none
section
variable {w:World} {F:Nat→Prop} {ι:Nat→Option IB} {P:Program}
theorem i64max:IntKind.max .i64=9223372036854775807:=rfl
def dV:D→Value
 | .bool b=>.bool b
 | .int k n=>.int k n
 | .str s=>.string s
 | _=>undef
def atomB:D→Bool
 | .bool _|.int _ _|.str _=>true
 | _=>false
theorem dV_rep{d:D}(h:atomB d=true):Rep w F ι (dV d) d:=by
 cases d<;>first|(cases h;done)|exact .pure _ _ (by constructor)
theorem binI_run{op:BinOp}{k:IntKind}{a b:Int}{d:D}(h:binI op k a b=some d)(t:Nat)(hs:op≠.shl∧op≠.shr):(binOp op t (.int k a) (.int k b)).run P w=.ok (dV d) w∧atomB d=true:=by
  cases op<;>simp only[binI,Option.some.injEq,reduceCtorEq] at h<;>first
    | (subst h;exact⟨by simp only[binOp,Op.intArith,Op.intCmp,Op.intBits,ne_eq,not_true_eq_false,if_false];rfl,rfl⟩)
    | (split at h
       · cases h
       · rename_i hb;cases h;exact⟨by simp only[binOp,Op.intDiv,ne_eq,not_true_eq_false,if_false,if_neg hb];rfl,rfl⟩)
    | exact absurd rfl hs.1
    | exact absurd rfl hs.2
theorem binS_run{op:BinOp}{a b:ByteArray}{d:D}(h:binS op a b=some d)(t:Nat):(binOp op t (.string a) (.string b)).run P w=.ok (dV d) w∧atomB d=true:=by
  cases op<;>simp only[binS,Option.some.injEq,reduceCtorEq] at h<;>first
    | (subst h;exact⟨by simp only[binOp,Op.stringOp];rfl,rfl⟩)
    | (split at h
       · rename_i hb;cases h
         refine⟨?_,rfl⟩
         simp only[binOp,Op.stringOp]
         rw[if_neg (by rw[i64max];omega)]
         rfl
       · cases h)
end
def quietPair:Value→Value→Bool
 | .nilIface,.nilIface=>false
 | .agg _,.agg _=>false
 | _,_=>true
theorem ZT{P:Program}{w:World}{op:BinOp}{t:Nat}{x y:Operand}{a b:Value}(h:quietPair a b=true):(eqGuard op t x y a b).run P w=.ok () w:=by
 unfold eqGuard
 cases op<;>first
  | rfl
  | (cases a<;>first|rfl|(cases b<;>first|rfl|(simp[quietPair] at h)))
theorem YB{P:Program}{w:World}{t:Nat}{d:TypeDesc}{x y:Value}{b:Bool}(hu:P.underlying t=some d)
  (h:(match d,x,y with
   | .bool,.bool a,.bool c=>some (a==c)
   | .pointer _,.pointer none,.pointer p=>some p.isNone
   | .pointer _,.pointer (some _),.pointer none=>some false
   | .interface _,.iface _ _,.nilIface=>some false
   | .slice _,.slice none _ _,.slice p _ _=>some p.isNone
   | .slice _,.slice (some _) _ _,.slice none _ _=>some false
   | .func _ _ _,.nilFunc,.nilFunc=>some true
   | .func _ _ _,.func _ _ _,.nilFunc=>some false
   | _,_,_=>none)=some b):(Op.equal t x y).run P w=.ok b w:=by
 unfold Op.equal
 rw[show Op.maxDepth=9999+1 from rfl]
 unfold Op.equalIn
 simp only[Sem.run_bind,run_underlying hu,Result.andThen_ok]
 split at h<;>first
  | (simp only[Option.some.injEq] at h;subst h;rfl)
  | cases h
section
variable {w:World} {F:Nat→Prop} {ι:Nat→Option IB} {P:Program} {Ty:Nat→Option TyI}
def plainV:Value→Bool
 | .int _ _|.string _|.float _ _|.complex _ _ _=>false
 | _=>true
theorem nilEq_run(hty:TyOK P Ty){t:Nat}{x y:D}{vx vy:Value}{b:Bool}(hx:Rep w F ι vx x)(hy:Rep w F ι vy y)(h:nilEq Ty t x y=some b):(Op.equal t vx vy).run P w=.ok b w∧quietPair vx vy=true∧plainV vx=true:=by
 unfold nilEq at h
 cases hT:Ty t with
 | none=>rw[hT] at h;simp at h
 | some i =>
  obtain⟨info,d,z,h1,h2,_,_,h5,_⟩:=hty.get hT
  rw[hT] at h
  simp only[Option.map_some] at h
  have hk:∀ {T},i.k=T→kB P d T=true:=fun e=>e▸h5
  split at h
  ·rename_i e;cases hx.is_np;cases hy.is_np;cases h
   have:=hk (Option.some.inj e);cases d<;>simp[kB] at this
   exact⟨YB h2 rfl,rfl,rfl⟩
  ·rename_i e;cases hy.is_np;cases h;cases hx.is_vp
   have:=hk (Option.some.inj e);cases d<;>simp[kB] at this
   exact⟨YB h2 rfl,rfl,rfl⟩
  ·rename_i e;cases hy.is_np;cases h
   have:=hk (Option.some.inj e);cases d<;>simp[kB] at this
   cases hx with
   | pure _ _ h=>cases h
   | bp n off ib hn hb=>exact⟨YB h2 rfl,rfl,rfl⟩
  ·rename_i e;cases hx.is_nilf;cases hy.is_nilf;cases h
   have:=hk (Option.some.inj e);cases d<;>simp[kB] at this
   exact⟨YB h2 rfl,rfl,rfl⟩
  ·rename_i e;obtain⟨c1,c2,rfl,_⟩:=hx.is_fn;cases hy.is_nilf;cases h
   have:=hk (Option.some.inj e);cases d<;>simp[kB] at this
   exact⟨YB h2 rfl,rfl,rfl⟩
  ·rename_i e;obtain⟨u,rfl,_⟩:=hx.is_ifc;cases hy.is_nili;cases h
   have:=hk (Option.some.inj e);cases d<;>simp[kB] at this
   exact⟨YB h2 rfl,rfl,rfl⟩
  ·rename_i e;cases hx.is_nils;cases hy.is_nils;cases h
   have:=hk (Option.some.inj e);cases d<;>simp[kB] at this
   exact⟨YB h2 rfl,rfl,rfl⟩
  ·rename_i e;cases hy.is_nils;cases h
   have:=hk (Option.some.inj e);cases d<;>simp[kB] at this
   cases hx with
   | pure _ _ h=>cases h;exact⟨YB h2 rfl,rfl,rfl⟩
  ·rename_i e;cases hy.is_nils;cases h
   have:=hk (Option.some.inj e);cases d<;>simp[kB] at this
   cases hx.is_sl
   exact⟨YB h2 rfl,rfl,rfl⟩
  ·rename_i e;cases hx.is_bool;cases hy.is_bool;cases h
   have:=hk (Option.some.inj e);cases d<;>simp[kB] at this
   exact⟨YB h2 rfl,rfl,rfl⟩
  ·cases h
end
theorem binD_run{w:World}{F:Nat→Prop}{ι:Nat→Option IB}{P:Program}{Ty:Nat→Option TyI}(hty:TyOK P Ty){op:BinOp}{t:Nat}{x y d:D}{vx vy:Value}(hx:Rep w F ι vx x)(hy:Rep w F ι vy y)(h:binD Ty op t x y=some d) :
  (binOp op t vx vy).run P w=.ok (dV d) w∧atomB d=true∧quietPair vx vy=true:=by
 unfold binD at h
 split at h
 ·cases hx.is_int;cases hy.is_int
  split at h
  ·cases h
  ·rename_i hb;cases h
   refine⟨?_,rfl,rfl⟩
   simp only[binOp,Op.shift]
   rw[if_neg (by omega)]
   rfl
 ·cases hx.is_int;cases hy.is_int
  split at h
  ·cases h
  ·rename_i hb;cases h
   refine⟨?_,rfl,rfl⟩
   simp only[binOp,Op.shift]
   rw[if_neg (by omega)]
   rfl
 ·rename_i h1 h2
  cases hx.is_int;cases hy.is_int
  split at h
  ·rename_i hk;subst hk
   obtain⟨k1,k2⟩:=binI_run (P:=P) (w:=w) h t ⟨fun e=>h1 e,fun e=>h2 e⟩
   exact⟨k1,k2,rfl⟩
  ·cases h
 ·cases hx.is_str;cases hy.is_str
  obtain⟨k1,k2⟩:=binS_run (P:=P) (w:=w) h t
  exact⟨k1,k2,rfl⟩
 ·cases hn:nilEq Ty t x y with
  | none=>rw[hn] at h;cases h
  | some b =>
   rw[hn] at h;cases h
   obtain⟨k1,k2,k3⟩:=nilEq_run hty hx hy hn
   refine⟨?_,rfl,k2⟩
   cases vx<;>first
    | (cases k3;done)
    | (simp only[binOp,Sem.run_bind,k1,Result.andThen_ok];rfl)
    | (cases vy<;>simp only[binOp,Sem.run_bind,k1,Result.andThen_ok]<;>rfl)
 ·cases hn:nilEq Ty t x y with
  | none=>rw[hn] at h;cases h
  | some b =>
   rw[hn] at h;cases h
   obtain⟨k1,k2,k3⟩:=nilEq_run hty hx hy hn
   refine⟨?_,rfl,k2⟩
   cases vx<;>first
    | (cases k3;done)
    | (simp only[binOp,Sem.run_bind,k1,Result.andThen_ok];rfl)
    | (cases vy<;>simp only[binOp,Sem.run_bind,k1,Result.andThen_ok]<;>rfl)
 ·cases h
section
variable {P:Program} {G:Nat→Option (List D)} {Ty:Nat→Option TyI} {o:Oper} {ρ:Operand→D} {g:Nat→Option Blk} {nm:Nat}
theorem do_binOp(hty:TyOK P Ty){op:BinOp}{t yt:Nat}{x y:Operand}{d:D}(ho:o.op=.binOp op t x y yt)(h:binD Ty op t (ρ x) (ρ y)=some d):Do P G o ρ g nm d []:=by
 refine ZY (fun w F ι ev hev=>?_)
 have hx:=hev x (by rw[ho];simp[Op.operands])
 have hy:=hev y (by rw[ho];simp[Op.operands])
 obtain⟨h1,h2,h3⟩:=binD_run hty hx hy h
 refine⟨dV d,?_,dV_rep h2⟩
 unfold execOp
 rw[ho]
 simp only[Sem.run_bind,ZT h3,h1,Result.andThen_ok]
 rfl
theorem do_move{x:Operand}(ho:o.op=.move x∨o.op=.assign x):Do P G o ρ g nm (ρ x) []:=by
 refine ZY (fun w F ι ev hev=>?_)
 have hx:=hev x (by rcases ho with ho|ho<;>rw[ho]<;>simp[Op.operands])
 refine⟨ev x,?_,hx⟩
 unfold execOp
 rcases ho with ho|ho<;>rw[ho]<;>rfl
def unD(op:UnOp):D→Option D
 | .int k n=>match op with|.neg=>some (.int k (k.wrap (0 - n)))|.xor=>some (.int k (k.wrap (BitVec.ofInt k.bits (if k.signed then -1 else k.max) ^^^ BitVec.ofInt k.bits n).toNat))|_=>none
 | .bool b=>match op with|.not=>some (.bool (!b))|_=>none
 | _=>none
theorem do_unOp{op:UnOp}{t:Nat}{x:Operand}{d:D}(ho:o.op=.unOp op t x)(h:unD op (ρ x)=some d):Do P G o ρ g nm d []:=by
 refine ZY (fun w F ι ev hev=>?_)
 have hx:=hev x (by rw[ho];simp[Op.operands])
 rw[show execOp ev o=(do pure (.value (← Op.unary op (ev x)))) by unfold execOp;rw[ho]]
 generalize ρ x=dx at *
 generalize ev x=vx at *
 cases dx<;>simp only[unD,reduceCtorEq] at h
 ·cases hx.is_bool
  cases op<;>simp only[Option.some.injEq,reduceCtorEq] at h
  subst h
  exact⟨_,rfl,.pure _ _ (.bool _)⟩
 ·cases hx.is_int
  cases op<;>simp only[Option.some.injEq,reduceCtorEq] at h
  ·subst h;exact⟨_,rfl,.pure _ _ (.int _ _)⟩
  ·subst h;exact⟨_,rfl,.pure _ _ (.int _ _)⟩
def pickD(c a b:D):Option D :=
 match c,a,b with
 | .bool true,a,_=>some a
 | .bool false,_,b=>some b
 | _,_,_=>none
theorem do_pick{c a b:Operand}{d:D}(ho:o.op=.pick c a b)(h:pickD (ρ c) (ρ a) (ρ b)=some d):Do P G o ρ g nm d []:=by
 refine ZY (fun w F ι ev hev=>?_)
 have hc:=hev c (by rw[ho];simp[Op.operands])
 have ha:=hev a (by rw[ho];simp[Op.operands])
 have hb:=hev b (by rw[ho];simp[Op.operands])
 unfold execOp
 rw[ho]
 unfold pickD at h
 split at h
 ·rename_i e;rw[e] at hc;have ec:=hc.is_bool;cases h
  refine⟨ev a,?_,ha⟩;simp only[ec];rfl
 ·rename_i e;rw[e] at hc;have ec:=hc.is_bool;cases h
  refine⟨ev b,?_,hb⟩;simp only[ec];rfl
 ·cases h
theorem do_extract{x:Operand}{ix:Nat}{ds:List D}{d:D}(ho:o.op=.extract x ix)(hx:ρ x=.tup ds)(h:ds[ix]? = some d):Do P G o ρ g nm d []:=by
 refine ZY (fun w F ι ev hev=>?_)
 have hv:=hev x (by rw[ho];simp[Op.operands])
 rw[hx] at hv
 obtain⟨cs,e,hl,hr⟩:=hv.is_tup
 obtain⟨hi,rfl⟩:=List.getElem?_eq_some_iff.1 h
 refine⟨cs.getD ix undef,?_,hr ix hi⟩
 unfold execOp
 rw[ho]
 have:cs[ix]? = some (cs.getD ix undef):=by simp[hl,hi]
 simp only[e,Instr.extract,this]
 rfl
theorem do_makeInterface(hty:TyOK P Ty){t:Nat}{i:TyI}{x:Operand}(ho:o.op=.makeInterface t x)(ht:Ty t=some i)(hi:∀ b,i.k≠.ifc b):Do P G o ρ g nm (.ifc t (ρ x)) []:=by
 refine ZY (fun w F ι ev hev=>?_)
 have hx:=hev x (by rw[ho];simp[Op.operands])
 refine⟨.iface t (ev x),?_,.ifc _ _ _ hx⟩
 obtain⟨info,d,z,h1,h2,_,_,h5,_⟩:=hty.get ht
 unfold execOp
 rw[ho]
 simp only[Instr.makeInterface,Sem.run_bind,run_underlying h2,Result.andThen_ok]
 cases d<;>first
  | rfl
  | (cases hk:i.k<;>rw[hk] at h5<;>first|(simp[kB] at h5;done)|(rename_i b;exact absurd hk (hi b)))
theorem do_makeFunc{f:Fn}{first captured:Array Operand}(ho:o.op=.makeFunc f first captured):Do P G o ρ g nm (.fn f (first.toList.map ρ) (captured.toList.map ρ)) []:=by
 refine ZY (fun w F ι ev hev=>?_)
 refine⟨.func f (first.map ev) (captured.map ev),by unfold execOp;rw[ho];rfl,.fn _ _ _ _ _ (by simp) (by simp) (fun i hi=>?_) (fun i hi=>?_)⟩
 ·have hi':i<first.size:=by simpa using hi
  have e:(first.map ev).getD i undef=ev first[i]:=by simp[hi']
  rw[e]
  simpa using hev first[i] (by rw[ho];simp[Op.operands])
 ·have hi':i<captured.size:=by simpa using hi
  have e:(captured.map ev).getD i undef=ev captured[i]:=by simp[hi']
  rw[e]
  simpa using hev captured[i] (by rw[ho];simp[Op.operands])
def nilOKD:D→Bool
 | .vp _|.bp _ _|.ifc _ _=>true
 | .fn (.func _) _ _=>true
 | _=>false
theorem do_nilCheck{x:Operand}(ho:o.op=.nilCheck x)(h:nilOKD (ρ x)=true):Do P G o ρ g nm (ρ x) []:=by
 refine ZY (fun w F ι ev hev=>?_)
 have hx:=hev x (by rw[ho];simp[Op.operands])
 refine⟨ev x,?_,hx⟩
 unfold execOp
 rw[ho]
 generalize ρ x=dx at *
 cases dx<;>simp only[nilOKD,Bool.false_eq_true] at h
 ·cases e:ev x with
  | pointer p=>rw[e] at hx;cases p with
   | none=>have:=hx.is_vp;cases this
   | some _=>simp only[e];rfl
  | _=>rw[e] at hx;have:=hx.is_vp;cases this
 ·rename_i f _ _
  obtain⟨c1,c2,e,_⟩:=hx.is_fn
  cases f<;>first|(simp only[e];rfl)|cases h
 ·obtain⟨u,e,_⟩:=hx.is_ifc;simp only[e];rfl
 ·cases e:ev x with
  | pointer p=>rw[e] at hx;cases p with
   | none=>cases hx with|pure _ _ h=>cases h
   | some _=>simp only[e];rfl
  | _=>rw[e] at hx;cases hx with|pure _ _ h=>cases h
end
end
section
open Go Go.RowKit
theorem YO(b o j:Nat):(⟨b,o,none⟩:Addr).add j=⟨b,o+j,none⟩:=by
 unfold Addr.add;split<;>simp_all
def YU(g:Nat→Option Blk):D→Option (List D)
 | .vp row=>some row
 | .bp n off=>match g n with|some (.box cs)=>some (cs.drop off)|_=>none
 | .ap n hl i off=>match g n with|some (.arr _ rows)=>if rows.length=hl then (rows[i]?).map (·.drop off) else none|_=>none
 | _=>none
theorem cellsAt_ok{c:Ctx}{dom:Nat→Prop}{ι:Nat→Option IB}{a:Act}{w:World}{σ:Nat→D}{st g:Nat→Option Blk}(h:Rel c dom ι a w σ st)(hg:∀ n b,g n=some b→st n=some b){v:Value}{d:D}{cs:List D}(hv:Rep w (Fb c ι st) ι v d)(hc:YU g d=some cs)(hne:cs≠[]) :
  ∃ (b o:Nat) (vs:Nat→Value),v=.pointer (some ⟨b,o,none⟩)∧∀ j (hj:j<cs.length),w.cell? ⟨b,o+j,none⟩=some (vs j)∧Rep w (Fb c ι st) ι (vs j) cs[j]:=by
 cases d with
 | vp row =>
  cases hc
  have:=hv.is_vp
  cases this with
  | vp b off row vs hF hm hz hr=>exact⟨b,off,vs,rfl,fun j hj=>⟨hm j hj,.pure _ _ (hr j hj)⟩⟩
 | bp n off =>
  simp only[YU] at hc
  split at hc
  ·rename_i bs hgn
   cases hc
   cases hv with
   | pure _ _ h=>cases h
   | bp n off ib hn hx =>
    obtain⟨ib',vs,ty,h1,h2,h3,h4,h5,h6⟩:=h.blk n _ (hg n _ hgn)
    obtain rfl:ib=ib':=Option.some.inj (hn.symm.trans h1)
    refine⟨ib.blk,off,fun j=>vs.getD (off+j) undef,rfl,fun j hj=>?_⟩
    have hlt:off+j<bs.length:=by simpa[Nat.lt_sub_iff_add_lt'] using hj
    refine⟨?_,?_⟩
    ·rw[cell_of_row w ib.blk _ _ _ _ h4];simp[h5,hlt]
    ·have:=h6 (off+j) hlt
     rw[List.getElem_drop];exact this
  ·cases hc
 | ap n hl i off =>
  simp only[YU] at hc
  split at hc
  ·rename_i es rows hgn
   split at hc
   ·rename_i hl'
    cases hri:rows[i]? with
    | none=>rw[hri] at hc;cases hc
    | some row =>
     rw[hri] at hc
     simp only[Option.map_some,Option.some.injEq] at hc
     subst hc
     obtain⟨hi,hrow⟩:=List.getElem?_eq_some_iff.1 hri
     cases hv with
     | pure _ _ h=>cases h
     | ap n hl i off ib v hn hle h1 hp =>
      obtain⟨ib',h1',h2,h3,h4,h5,h6,h7⟩:=h.blk n _ (hg n _ hgn)
      obtain rfl:ib=ib':=Option.some.inj (hn.symm.trans h1')
      obtain⟨hbi,hv⟩:=hp (h4.trans hl')
      obtain⟨vs,ty,k1,k2,k3⟩:=h7 (by omega)
      have hrl:row.length=es:=by rw[← hrow];exact h6 _ (List.getElem_mem hi)
      refine⟨ib.blk,(i - ib.base)*ib.es+off,fun j=>vs.getD ((i - ib.base)*es+(off+j)) undef,hv,fun j hj=>?_⟩
      have hlt:off+j<row.length:=by simpa[Nat.lt_sub_iff_add_lt'] using hj
      have hin:(i - ib.base)*es+(off+j)<vs.size:=by
       rw[k2]
       have:(i - ib.base+1)*es≤(ib.cap - ib.base)*es:=Nat.mul_le_mul_right _ (by omega)
       rw[Nat.add_mul,Nat.one_mul] at this
       omega
      refine⟨?_,?_⟩
      ·rw[cell_of_row w ib.blk _ _ _ _ k1,h3,Nat.add_assoc];simp[hin]
      ·have hlt':off+j<(rows[i]).length:=by rw[hrow];exact hlt
       have:=k3 i hi (off+j) hlt' hbi
       refine .pure _ _ ?_
       rw[List.getElem_drop]
       simpa only[hrow] using this
   ·cases hc
  ·cases hc
 | _=>cases hc
def isAggK:TyK→Bool
 | .agg _|.arr _ _=>true
 | _=>false
def isAggT:TypeDesc→Bool
 | .struct _|.array _ _=>true
 | _=>false
theorem isAgg_of{P:Program}{d:TypeDesc}{k:TyK}(h:kB P d k=true):isAggT d=isAggK k:=by
 cases d<;>cases k<;>first|rfl|(simp[kB] at h)
def loadD(Ty:Nat→Option TyI)(t:Nat)(cs:List D):Option D :=
 match Ty t with
 | some i=>if isAggK i.k then (if i.size≤cs.length then some (.agg (cs.take i.size)) else none) else cs[0]?
 | none=>none
theorem run_isAgg{P:Program}{w:World}{t:Nat}{d:TypeDesc}(hu:P.underlying t=some d):(isAgg t).run P w=.ok (isAggT d) w:=by
 unfold isAgg
 rw[Sem.run_bind,run_underlying hu w]
 cases d<;>rfl
theorem loadD_ok{P:Program}{Ty:Nat→Option TyI}(hty:TyOK P Ty){w:World}{F:Nat→Prop}{ι:Nat→Option IB}{t b o:Nat}{vs:Nat→Value}{cs:List D}{d:D}(h:loadD Ty t cs=some d)
  (hc:∀ j (hj:j<cs.length),w.cell? ⟨b,o+j,none⟩=some (vs j)∧Rep w F ι (vs j) cs[j]):∃ v,(loadVar t ⟨b,o,none⟩).run P w=.ok v w∧Rep w F ι v d:=by
 unfold loadD at h
 cases hT:Ty t with
 | none=>rw[hT] at h;cases h
 | some i =>
  rw[hT] at h
  obtain⟨info,de,z,h1,h2,h3,_,h5,_⟩:=hty.get hT
  have ha:=run_isAgg (P:=P) (w:=w) h2
  rw[isAgg_of h5] at ha
  cases hk:isAggK i.k with
  | true =>
   simp only[hk,if_true] at h
   split at h
   ·rename_i hle
    cases h
    refine⟨.agg ((List.range i.size).map vs).toArray,?_,?_⟩
    ·have hl:=run_loadCells (P:=P) w ⟨b,o,none⟩ i.size vs (fun j hj=>by rw[YO];exact (hc j (by omega)).1)
     simp[loadVar,Sem.run_bind,ha,hk,sizeOf,typeInfo,h1,h3,hl]
    ·refine .agg _ _ (by simp;omega) (fun j hj=>?_)
     have hj':j<i.size∧j<cs.length:=by simp at hj;omega
     have e:((List.range i.size).map vs).toArray.getD j undef=vs j:=by simp[hj'.1]
     rw[e,List.getElem_take]
     exact (hc j hj'.2).2
   ·cases h
  | false =>
   simp only[hk,Bool.false_eq_true,if_false] at h
   obtain⟨h0,rfl⟩:=List.getElem?_eq_some_iff.1 h
   refine⟨vs 0,?_,(hc 0 h0).2⟩
   have:=(hc 0 h0).1
   simp only[Nat.add_zero] at this
   simp[loadVar,Sem.run_bind,ha,hk,run_load,this]
section
variable {P:Program} {G:Nat→Option (List D)} {Ty:Nat→Option TyI} {o:Oper} {ρ:Operand→D} {g:Nat→Option Blk} {nm:Nat}
theorem do_load(hty:TyOK P Ty){t:Nat}{x:Operand}{cs:List D}{d:D}(ho:o.op=.load t x)(hc:YU g (ρ x)=some cs)(hne:cs≠[])(h:loadD Ty t cs=some d):Do P G o ρ g nm d []:=by
 refine Xg (fun c dom ι a w σ st hP hG hr hρ hg=>?_)
 subst hG
 have hx:=Zl hr x
 rw[hρ x (by rw[ho];simp[Op.operands])] at hx
 obtain⟨b,off,vs,e,hcs⟩:=cellsAt_ok hr hg hx hc hne
 obtain⟨v,h1,h2⟩:=loadD_ok hty h hcs
 refine⟨v,?_,h2⟩
 rw[show execOp a.eval o=(do pure (.value (← Instr.loadAt t (a.eval x)))) by unfold execOp;rw[ho]]
 simp only[e,Instr.loadAt,Instr.sureAddr,Sem.run_bind,Sem.run_pure,Result.andThen_ok,h1]
end
def oneD:D→Bool
 | .any|.agg _|.tup _=>false
 | _=>true
theorem oneD_ok{w:World}{F:Nat→Prop}{ι:Nat→Option IB}{v:Value}{d:D}(h:Rep w F ι v d)(ho:oneD d=true):v.oneCell'=true:=by
 cases h with
 | pure _ _ h=>cases h<;>first|rfl|cases ho
 | agg _ _ _ _=>cases ho
 | tup _ _ _ _=>cases ho
 | fn _ _ _ _ _ _ _ _ _=>rfl
 | ifc _ _ _ _=>rfl
 | bp _ _ _ _ _=>rfl
 | ap n hl i off ib v hn hle h1 h=>exact h1
 | os n hl lo len ib v hn hle h1 h=>exact h1
 | rf n ch ib v hn hb hv=>subst hv;cases ch<;>rfl
def padd(g:Nat→Option Blk)(n:Nat):D→Option D
 | .vp row=>if n≤row.length then some (.vp (row.drop n)) else none
 | .bp m off=>some (.bp m (off+n))
 | .ap m hl i off=>match g m with|some (.arr _ rows)=>if rows.length=hl then some (.ap m hl i (off+n)) else none|_=>none
 | _=>none
theorem padd_ok{c:Ctx}{dom:Nat→Prop}{ι:Nat→Option IB}{a:Act}{w:World}{σ:Nat→D}{st g:Nat→Option Blk}(h:Rel c dom ι a w σ st)(hg:∀ n b,g n=some b→st n=some b){v:Value}{d d':D}{n:Nat}(hv:Rep w (Fb c ι st) ι v d)(hc:padd g n d=some d') :
  ∃ b o,v=.pointer (some ⟨b,o,none⟩)∧Rep w (Fb c ι st) ι (.pointer (some ⟨b,o+n,none⟩)) d':=by
 cases d with
 | vp row =>
  simp only[padd] at hc
  split at hc
  ·rename_i hle
   cases hc
   cases hv.is_vp with
   | vp b off row vs hF hm hz hr =>
    refine⟨b,off,rfl,.pure _ _ (.vp b (off+n) _ (fun j=>vs (n+j)) hF (fun j hj=>?_) hz (fun j hj=>?_))⟩
    ·rw[Nat.add_assoc];exact hm (n+j) (by simpa[Nat.lt_sub_iff_add_lt'] using hj)
    ·rw[List.getElem_drop];exact hr (n+j) (by simpa[Nat.lt_sub_iff_add_lt'] using hj)
  ·cases hc
 | bp m off =>
  cases hc
  cases hv with
  | pure _ _ h=>cases h
  | bp m off ib hn hb=>exact⟨ib.blk,off,rfl,.bp m (off+n) ib hn hb⟩
 | ap m hl i off =>
  simp only[padd] at hc
  split at hc
  ·rename_i es rows hgn
   split at hc
   ·rename_i hl'
    cases hc
    cases hv with
    | pure _ _ h=>cases h
    | ap m hl i off ib v hn hle h1 hp =>
     obtain⟨ib',h1',h2,h3,h4,h5,h6,h7⟩:=h.blk m _ (hg m _ hgn)
     obtain rfl:ib=ib':=Option.some.inj (hn.symm.trans h1')
     obtain⟨hbi,e⟩:=hp (h4.trans hl')
     exact⟨ib.blk,(i - ib.base)*ib.es+off,e,.ap m hl i (off+n) ib _ hn hle rfl (fun _=>⟨hbi,by rw[Nat.add_assoc]⟩)⟩
   ·cases hc
  ·cases hc
 | _=>cases hc
def fieldOf(Ty:Nat→Option TyI)(s f:Nat):Option (Nat×Nat×Bool) :=
 match Ty s with
 | some i=>match i.k with|.agg fields=>fields[f]?|_=>none
 | none=>none
theorem fieldOf_ok{P:Program}{Ty:Nat→Option TyI}(hty:TyOK P Ty){s f off size:Nat}{ag:Bool}(h:fieldOf Ty s f=some (off,size,ag)) :
  ∃ (fs:Array Field) (fd:Field) (info:TypeInfo) (de:TypeDesc),P.underlying s=some (.struct fs)∧fs[f]? = some fd∧fd.offset=off∧P.info? fd.type=some info∧info.size=size∧P.underlying fd.type=some de∧isAggT de=ag:=by
 unfold fieldOf at h
 cases hT:Ty s with
 | none=>rw[hT] at h;cases h
 | some i =>
  rw[hT] at h
  simp only at h
  obtain⟨info,de,z,h1,h2,h3,_,h5,_⟩:=hty.get hT
  split at h
  ·rename_i l hk
   rw[hk] at h5
   cases de<;>simp only[kB,Bool.false_eq_true,Bool.and_eq_true,beq_iff_eq] at h5
   rename_i fs
   obtain⟨k1,k2⟩:=h5
   rw[← k1] at h
   rw[List.getElem?_map] at h
   cases hf:fs.toList[f]? with
   | none=>rw[hf] at h;cases h
   | some fd =>
    rw[hf] at h
    simp only[Option.map_some,Option.some.injEq,Prod.mk.injEq] at h
    obtain⟨e1,e2,e3⟩:=h
    have hf':fs[f]? = some fd:=by simpa using hf
    have hall:=Array.all_eq_true_iff_forall_mem.1 k2 fd (Array.mem_of_getElem? hf')
    simp only[Bool.and_eq_true] at hall
    obtain⟨j1,j2⟩:=hall
    cases hi:P.info? fd.type with
    | none=>rw[hi] at j1;cases j1
    | some fi =>
     cases hu:P.underlying fd.type with
     | none=>rw[hu] at j2;cases j2
     | some fde =>
      rw[hi] at e2
      refine⟨fs,fd,fi,fde,h2,hf',e1,hi,by simpa using e2,hu,?_⟩
      rw[← e3];unfold aggOf;rw[hu];cases fde<;>rfl
  ·cases h
def ZN(Ty:Nat→Option TyI)(t:Nat):Option (Nat×TyI) :=
 match Ty t with
 | some i=>match i.k with|.sl e=>(Ty e).map (fun j=>(e,j))|_=>none
 | none=>none
theorem ZL{P:Program}{Ty:Nat→Option TyI}(hty:TyOK P Ty){t e:Nat}{j:TyI}(h:ZN Ty t=some (e,j)):P.underlying t=some (.slice e)∧Ty e=some j:=by
 unfold ZN at h
 cases hT:Ty t with
 | none=>rw[hT] at h;cases h
 | some i =>
  rw[hT] at h
  simp only at h
  obtain⟨info,de,z,h1,h2,h3,_,h5,_⟩:=hty.get hT
  split at h
  ·rename_i e' hk
   rw[hk] at h5
   cases de<;>simp only[kB,Bool.false_eq_true,Bool.and_eq_true,beq_iff_eq] at h5
   cases hj:Ty e' with
   | none=>rw[hj] at h;cases h
   | some j' =>
    rw[hj] at h
    simp only[Option.map_some,Option.some.injEq,Prod.mk.injEq] at h
    obtain⟨rfl,rfl⟩:=h
    exact⟨by rw[h2,h5.1],hj⟩
  ·cases h
def arrOf(Ty:Nat→Option TyI)(t:Nat):Option (Nat×Nat×TyI) :=
 match Ty t with
 | some i=>match i.k with|.arr n e=>(Ty e).map (fun j=>(n,e,j))|_=>none
 | none=>none
theorem arrOf_ok{P:Program}{Ty:Nat→Option TyI}(hty:TyOK P Ty){t n e:Nat}{j:TyI}(h:arrOf Ty t=some (n,e,j)):P.underlying t=some (.array n e)∧Ty e=some j:=by
 unfold arrOf at h
 cases hT:Ty t with
 | none=>rw[hT] at h;cases h
 | some i =>
  rw[hT] at h
  simp only at h
  obtain⟨info,de,z,h1,h2,h3,_,h5,_⟩:=hty.get hT
  split at h
  ·rename_i n' e' hk
   rw[hk] at h5
   cases de<;>simp only[kB,Bool.false_eq_true,Bool.and_eq_true,beq_iff_eq] at h5
   cases hj:Ty e' with
   | none=>rw[hj] at h;cases h
   | some j' =>
    rw[hj] at h
    simp only[Option.map_some,Option.some.injEq,Prod.mk.injEq] at h
    obtain⟨rfl,rfl,rfl⟩:=h
    exact⟨by rw[h2,h5.1.1.1,h5.1.1.2],hj⟩
  ·cases h
def Yx(Ty:Nat→Option TyI)(g:Nat→Option Blk)(t:Nat)(x ix:D):Option D :=
 match ix with
 | .int _ i =>
  if 0≤i then
   match x with
   | .sl rows=>match ZN Ty t,rows[i.toNat]? with|some (_,j),some row=>if row.length=j.size then some (.vp row) else none|_,_=>none
   | .os n hl lo len=>match ZN Ty t,g n with|some (_,j),some (.arr es rows)=>if rows.length=hl∧es=j.size∧i.toNat<len then some (.ap n hl (lo+i.toNat) 0) else none|_,_=>none
   | d=>match arrOf Ty t with|some (n,_,j)=>if i.toNat<n then padd g (i.toNat*j.size) d else none|none=>none
  else none
 | _=>none
theorem Yb{P:Program}{Ty:Nat→Option TyI}(hty:TyOK P Ty){t:Nat}{j:TyI}(h:Ty t=some j)(w:World):(sizeOf t).run P w=.ok j.size w:=by
 obtain⟨info,de,z,h1,h2,h3,_⟩:=hty.get h
 simp[sizeOf,typeInfo,h1,h3]
section
variable {P:Program} {G:Nat→Option (List D)} {Ty:Nat→Option TyI} {o:Oper} {ρ:Operand→D} {g:Nat→Option Blk} {nm:Nat}
theorem do_fieldAddr(hty:TyOK P Ty){s f off size:Nat}{ag:Bool}{x:Operand}{d:D}(ho:o.op=.fieldAddr s x f)(hf:fieldOf Ty s f=some (off,size,ag))(hs:size≠0)(h:padd g off (ρ x)=some d):Do P G o ρ g nm d []:=by
 refine Xg (fun c dom ι a w σ st hP hG hr hρ hg=>?_)
 subst hG
 have hx:=Zl hr x
 rw[hρ x (by rw[ho];simp[Op.operands])] at hx
 obtain⟨b,off',e,hd⟩:=padd_ok hr hg hx h
 obtain⟨fs,fd,info,de,k1,k2,k3,k4,k5,_,_⟩:=fieldOf_ok hty hf
 refine⟨_,?_,hd⟩
 rw[show execOp a.eval o=(do pure (.value (← Instr.fieldAt s (a.eval x) f))) by unfold execOp;rw[ho]]
 have hsz:(sizeOf fd.type).run P w=.ok size w:=by simp[sizeOf,typeInfo,k4,k5]
 simp only[e,Instr.fieldAt,Instr.sureAddr,Sem.run_bind,Sem.run_pure,Result.andThen_ok,run_underlying k1,k2,fieldPlace,hsz,if_neg hs,k3,YO]
theorem do_indexAddr(hty:TyOK P Ty){t:Nat}{x ix:Operand}{d:D}(ho:o.op=.indexAddr t x ix)(h:Yx Ty g t (ρ x) (ρ ix)=some d):Do P G o ρ g nm d []:=by
 refine Xg (fun c dom ι a w σ st hP hG hr hρ hg=>?_)
 subst hG
 have hx:=Zl hr x
 rw[hρ x (by rw[ho];simp[Op.operands])] at hx
 have hi:=Zl hr ix
 rw[hρ ix (by rw[ho];simp[Op.operands])] at hi
 rw[show execOp a.eval o=(do pure (.value (← Instr.indexAt t (a.eval x) (a.eval ix)))) by unfold execOp;rw[ho]]
 unfold Yx at h
 split at h
 ·rename_i k i hix
  rw[hix] at hi
  have ei:=hi.is_int
  split at h
  ·rename_i h0
   split at h
   ·rename_i rows hxe
    rw[hxe] at hx
    split at h
    ·rename_i e j row he hrow
     split at h
     ·rename_i hlen
      cases h
      obtain⟨u1,u2⟩:=ZL hty he
      obtain⟨hlt,hrow'⟩:=List.getElem?_eq_some_iff.1 hrow
      generalize a.eval x=vx at hx ⊢
      cases hx.is_sl with
      | sl0 a' cap=>exact absurd hlt (Nat.not_lt_zero _)
      | sl b off es cap rows vs hc hF hes hm hz hr' =>
       have hes':es=j.size:=by rw[← hlen,← hrow'];exact (hes _ (List.getElem_mem hlt)).symm
       refine⟨.pointer (some ⟨b,off+i.toNat*j.size,none⟩),?_,.pure _ _ (.vp b _ row (vs i.toNat) hF (fun jj hj=>?_) hz (fun jj hj=>?_))⟩
       ·simp only[ei,Instr.indexAt,asIntOf,Sem.run_bind,Sem.run_pure,Result.andThen_ok,run_underlying u1]
        have:0≤i∧i<(rows.length:Int):=⟨h0,by omega⟩
        simp[this,Yb hty u2,YO]
       ·rw[← hes'];exact hm i.toNat jj hlt (by rw[hes',← hlen];exact hj)
       ·subst hrow';exact hr' i.toNat hlt jj hj
     ·cases h
    ·cases h
   ·rename_i n hl lo len hxe
    rw[hxe] at hx
    split at h
    ·rename_i e j es rows he hgn
     split at h
     ·rename_i hcond
      obtain⟨c1,c2,c3⟩:=hcond
      cases h
      obtain⟨u1,u2⟩:=ZL hty he
      generalize a.eval x=vx at hx ⊢
      cases hx with
      | pure _ _ h=>cases h
      | os n hl lo len ib v hn hle h1 hp =>
       obtain⟨ib',h1',h2,h3,h4,h5,h6,h7⟩:=hr.blk n _ (hg n _ hgn)
       clear h7 h6
       obtain rfl:ib=ib':=Option.some.inj (hn.symm.trans h1')
       obtain⟨a',cap,rfl,q1,q2,q3,_⟩:=hp (h4.trans c1)
       obtain⟨hbi,ea⟩:=q3 (by omega)
       subst ea
       refine⟨.pointer (some ⟨ib.blk,(lo - ib.base)*ib.es+i.toNat*j.size,none⟩),?_,.ap n hl _ 0 ib _ hn hle rfl (fun _=>?_)⟩
       ·simp only[ei,Instr.indexAt,asIntOf,Sem.run_bind,Sem.run_pure,Result.andThen_ok,run_underlying u1]
        have:0≤i∧i<(len:Int):=⟨h0,by omega⟩
        simp[this,Yb hty u2,YO]
       ·refine⟨by omega,?_⟩
        rw[h3,c2,show lo+i.toNat - ib.base=(lo - ib.base)+i.toNat by omega,Nat.add_mul,Nat.add_zero]
     ·cases h
    ·cases h
   ·split at h
    ·rename_i n e j he
     split at h
     ·rename_i hlt
      obtain⟨u1,u2⟩:=arrOf_ok hty he
      obtain⟨b,off,ex,hd⟩:=padd_ok hr hg hx h
      refine⟨_,?_,hd⟩
      simp only[ei,ex,Instr.indexAt,asIntOf,Instr.sureAddr,Sem.run_bind,Sem.run_pure,Result.andThen_ok,run_underlying u1]
      have:0≤i∧i<(n:Int):=⟨h0,by omega⟩
      simp[this,Yb hty u2,YO]
     ·cases h
    ·cases h
  ·cases h
 ·cases h
end
end
section
open Go Go.RowKit
theorem Rep.sl_shape{w:World}{F:Nat→Prop}{ι:Nat→Option IB}{v:Value}{rows:List (List D)}(h:Rep w F ι v (.sl rows)):∃ a cap,v=.slice a rows.length cap:=by
 cases h.is_sl with
 | sl0 a cap=>exact⟨a,cap,rfl⟩
 | sl b off es cap rows vs=>exact⟨_,cap,rfl⟩
theorem Le.sle'{w:World}{F:Nat→Prop}{ι:Nat→Option IB}{v:Value}(h:Rep w F ι v .sle):Rep w F ι v (.sl []):=by
 cases h with
 | pure _ _ h=>cases h;exact .pure _ _ (.sl0 _ _ (fun h=>by cases h))
theorem YX{c:Ctx}{dom:Nat→Prop}{ι:Nat→Option IB}{a:Act}{w:World}{σ:Nat→D}{st g:Nat→Option Blk}(hr:Rel c dom ι a w σ st)(hg:∀ n b,g n=some b→st n=some b){v:Value}{n hl lo len es:Nat}{rows:List (List D)}
  (hv:Rep w (Fb c ι st) ι v (.os n hl lo len)) (hgn:g n=some (.arr es rows)) (hlen:rows.length=hl):∃ ib a' cap,ι n=some ib∧v=.slice a' len cap∧len≤cap∧cap+lo=ib.cap∧(0<cap→ib.base≤lo∧a'=some ⟨ib.blk,(lo - ib.base)*ib.es,none⟩)∧ib.box=false∧ib.es=es∧ib.hl=rows.length∧rows.length≤ib.cap∧(∀ r∈rows,r.length=es) ∧
   (0<ib.cap→∃ vs ty,w.heap[ib.blk]? = some (.cells vs ty (0,0))∧vs.size=(ib.cap - ib.base)*es∧∀ i (hi:i<rows.length) j (hj:j<rows[i].length),ib.base≤i→RepP w (Fb c ι st) (vs.getD ((i - ib.base)*es+j) undef) rows[i][j]):=by
 cases hv with
 | pure _ _ h=>cases h
 | os n hl lo len ib v hn hle h1' hp =>
  obtain⟨ib',k1,k2,k3,k4,k5,k6,k7⟩:=hr.blk n _ (hg n _ hgn)
  obtain rfl:ib=ib':=Option.some.inj (hn.symm.trans k1)
  obtain⟨a',cap,e,q1,q2,q3,q4⟩:=hp (k4.trans hlen)
  exact⟨ib,a',cap,hn,e,q1,q2,q3,k2,k3,k4,k5,k6,k7⟩
theorem os_some{c:Ctx}{dom:Nat→Prop}{ι:Nat→Option IB}{a:Act}{w:World}{σ:Nat→D}{st g:Nat→Option Blk}(hr:Rel c dom ι a w σ st)(hg:∀ n b,g n=some b→st n=some b){v:Value}{n hl lo len es:Nat}{rows:List (List D)}
  (hv:Rep w (Fb c ι st) ι v (.os n hl lo len)) (hgn:g n=some (.arr es rows)) (hlen:rows.length=hl):∃ ib a' cap,ι n=some ib∧v=.slice a' len cap∧(0<ib.cap→a'.isSome=true):=by
 cases hv with
 | pure _ _ h=>cases h
 | os n hl lo len ib v hn hle h1' hp =>
  obtain⟨ib',k1,k2,k3,k4,k5,k6,k7⟩:=hr.blk n _ (hg n _ hgn)
  obtain rfl:ib=ib':=Option.some.inj (hn.symm.trans k1)
  obtain⟨a',cap,e,q1,q2,q3,q4⟩:=hp (k4.trans hlen)
  exact⟨ib,a',cap,hn,e,q4⟩
section
variable {P:Program} {G:Nat→Option (List D)} {Ty:Nat→Option TyI} {o:Oper} {ρ:Operand→D} {g:Nat→Option Blk} {nm:Nat}
def partD(ag:Bool)(off size:Nat)(cs:List D):Option D :=
 if ag then (if off+size≤cs.length then some (.agg ((cs.drop off).take size)) else none) else cs[off]?
theorem partD_ok{w:World}{F:Nat→Prop}{ι:Nat→Option IB}{t off size:Nat}{ag:Bool}{info:TypeInfo}{de:TypeDesc}{cs:Array Value}{ds:List D}{d:D}(hi:P.info? t=some info)(hs:info.size=size)(hu:P.underlying t=some de)(ha:isAggT de=ag)
  (h:partD ag off size ds=some d) (hl:cs.size=ds.length) (hr:∀ i (hi:i<ds.length),Rep w F ι (cs.getD i undef) ds[i]):∃ v,(part t cs off).run P w=.ok v w∧Rep w F ι v d:=by
 have hag:=run_isAgg (P:=P) (w:=w) hu
 rw[ha] at hag
 unfold partD at h
 cases ag with
 | true =>
  simp only[if_true] at h
  split at h
  ·rename_i hle
   cases h
   refine⟨.agg (cs.extract off (off+size)),?_,.agg _ _ (by simp;omega) (fun i hi=>?_)⟩
   ·simp[part,Sem.run_bind,hag,sizeOf,typeInfo,hi,hs]
   ·have hi':i<size∧off+i<ds.length:=by simp at hi;omega
    have e:(cs.extract off (off+size)).getD i undef=cs.getD (off+i) undef:=by
     simp[hi'.1,hl,hi'.2,show min (off+size) ds.length - off=size by omega]
    rw[e,List.getElem_take,List.getElem_drop]
    exact hr _ hi'.2
  ·cases h
 | false =>
  simp only[Bool.false_eq_true,if_false] at h
  obtain⟨h0,rfl⟩:=List.getElem?_eq_some_iff.1 h
  refine⟨cs.getD off undef,?_,hr off h0⟩
  have:cs[off]? = some (cs.getD off undef):=by simp[hl,h0]
  simp only[part,Sem.run_bind,hag,Result.andThen_ok,Bool.false_eq_true,if_false,this]
  rfl
theorem do_field(hty:TyOK P Ty){s f off size:Nat}{ag:Bool}{x:Operand}{ds:List D}{d:D}(ho:o.op=.field s x f)(hf:fieldOf Ty s f=some (off,size,ag))(hx:ρ x=.agg ds)(h:partD ag off size ds=some d):Do P G o ρ g nm d []:=by
 refine ZY (fun w F ι ev hev=>?_)
 have hv:=hev x (by rw[ho];simp[Op.operands])
 rw[hx] at hv
 obtain⟨cs,e,hl,hr⟩:=hv.is_agg
 obtain⟨fs,fd,info,de,k1,k2,k3,k4,k5,k6,k7⟩:=fieldOf_ok hty hf
 obtain⟨v,h1,h2⟩:=partD_ok (P:=P) k4 k5 k6 k7 h hl hr
 refine⟨v,?_,h2⟩
 rw[show execOp ev o=(do pure (.value (← Instr.field s (ev x) f))) by unfold execOp;rw[ho]]
 simp only[e,Instr.field,Sem.run_bind,Sem.run_pure,Result.andThen_ok,run_underlying k1,k2,k3,asAgg,h1]
def indexD(Ty:Nat→Option TyI)(t:Nat)(x ix:D):Option D :=
 match x,ix with
 | .str s,.int _ i=>if 0≤i then (s.data.toList[i.toNat]?).map (fun b=>.int .u8 b.toNat) else none
 | .agg ds,.int _ i=>match arrOf Ty t with|some (n,_,j)=>if 0≤i∧i.toNat<n then partD (isAggK j.k) (i.toNat*j.size) j.size ds else none|none=>none
 | _,_=>none
theorem do_index(hty:TyOK P Ty){t:Nat}{x ix:Operand}{d:D}(ho:o.op=.index t x ix)(hstr:∀ s,ρ x=.str s→P.underlying t=some .string)(h:indexD Ty t (ρ x) (ρ ix)=some d):Do P G o ρ g nm d []:=by
 refine ZY (fun w F ι ev hev=>?_)
 have hx:=hev x (by rw[ho];simp[Op.operands])
 have hi:=hev ix (by rw[ho];simp[Op.operands])
 rw[show execOp ev o=(do pure (.value (← Instr.index t (ev x) (ev ix)))) by unfold execOp;rw[ho]]
 unfold indexD at h
 split at h
 ·rename_i s k i e1 e2
  rw[e1] at hx;rw[e2] at hi
  split at h
  ·rename_i h0
   cases hb:s.data.toList[i.toNat]? with
   | none=>rw[hb] at h;cases h
   | some b =>
    rw[hb] at h;cases h
    refine⟨_,?_,.pure _ _ (.int _ _)⟩
    have hb':s[i.toNat]? = some b:=by
     obtain⟨hlt,hbe⟩:=List.getElem?_eq_some_iff.1 hb
     have hlt':i.toNat<s.size:=by simpa using hlt
     rw[getElem?_pos s i.toNat hlt']
     show some s.data[i.toNat]=some b
     simpa using hbe
    simp only[hx.is_str,hi.is_int,Instr.index,asIntOf,Sem.run_bind,Sem.run_pure,Result.andThen_ok,run_underlying (hstr s e1),if_pos h0,hb']
  ·cases h
 ·rename_i ds k i e1 e2
  rw[e1] at hx;rw[e2] at hi
  split at h
  ·rename_i n e j he
   split at h
   ·rename_i hc
    obtain⟨u1,u2⟩:=arrOf_ok hty he
    obtain⟨info,de,z,h1,h2,h3,_,h5,_⟩:=hty.get u2
    obtain⟨cs,ecs,hl,hr⟩:=hx.is_agg
    obtain⟨v,k1,k2⟩:=partD_ok (P:=P) (t:=e) h1 h3 h2 (isAgg_of h5) h hl hr
    refine⟨v,?_,k2⟩
    have hcond:0≤i∧i<(n:Int):=⟨hc.1,by omega⟩
    simp only[ecs,hi.is_int,Instr.index,asIntOf,Sem.run_bind,Sem.run_pure,Result.andThen_ok,run_underlying u1,if_pos hcond,Yb hty u2,k1]
   ·cases h
  ·cases h
 ·cases h
def lenD:D→Option Int
 | .str s=>some s.size
 | .strg p q=>some ((p.data.toList.length+1+q.data.toList.length:Nat):Int)
 | .sl rows=>some rows.length
 | .nils=>some 0
 | .sle=>some 0
 | _=>none
def isSlK:TyK→Bool|.sl _=>true|_=>false
def isStrK:TyK→Bool|.str=>true|_=>false
def lenK:D→TyK→Bool
 | .str _,k=>isStrK k
 | .strg _ _,k=>isStrK k
 | _,k=>isSlK k
def Ym(b:Builtin)(args:Array Operand)(tys:Array TypeId):Op:=.call { callee:=.builtin b,args:=args,argTypes:=tys }
theorem YC{b:Builtin}{args:Array Operand}{tys:Array TypeId}{ev:Operand→Value}(ho:o.op=Ym b args tys):∃ cs,execOp ev o=builtin b tys o.type cs (args.map ev):=by
 refine⟨args.map fun|.const _=>true|_=>false,?_⟩
 unfold execOp
 rw[ho]
 rfl
theorem do_len(hty:TyOK P Ty){t:Nat}{i:TyI}{x:Operand}{n:Int}(ho:o.op=Ym .len #[x] #[t])(ht:Ty t=some i)(hk:lenK (ρ x) i.k=true)(h:lenD (ρ x)=some n):Do P G o ρ g nm (.int .i64 n) []:=by
 refine ZY (fun w F ι ev hev=>?_)
 have hx:=hev x (by rw[ho];simp[Ym,Op.operands,Call.operands])
 obtain⟨cs,hcs⟩:=YC (ev:=ev) ho
 obtain⟨info,de,z,h1,h2,h3,_,h5,_⟩:=hty.get ht
 rw[hcs]
 refine⟨.int .i64 n,?_,.pure _ _ (.int _ _)⟩
 unfold lenD at h
 split at h
 ·rename_i s e
  rw[e] at hx hk
  cases h
  simp only[lenK] at hk
  cases hki:i.k<;>rw[hki] at hk h5<;>first|(cases hk;done)|skip
  cases de<;>simp only[kB,Bool.false_eq_true] at h5
  simp[builtin,Builtin.len_,hx.is_str,run_underlying h2,goInt]
 ·rename_i p q e
  rw[e] at hx hk
  cases h
  simp only[lenK] at hk
  cases hki:i.k<;>rw[hki] at hk h5<;>first|(cases hk;done)|skip
  cases de<;>simp only[kB,Bool.false_eq_true] at h5
  obtain⟨s,b,es,hs⟩:∃ (s:ByteArray) (b:UInt8),ev x=.string s∧s.data.toList=p.data.toList++b::q.data.toList:=by
   generalize ev x=vx at hx
   cases hx with
   | pure _ _ h=>cases h with|strg p q s b h1 h2 h=>exact⟨s,b,rfl,h⟩
  have hsz:s.size=p.data.toList.length+1+q.data.toList.length:=by
   have:=congrArg List.length hs
   simp only[List.length_append,List.length_cons] at this
   have e2:s.size=s.data.toList.length:=(Array.length_toList (xs:=s.data)).symm
   omega
  rw[← hsz]
  simp[builtin,Builtin.len_,es,run_underlying h2,goInt]
 ·rename_i rows e
  rw[e] at hx hk
  cases h
  simp only[lenK] at hk
  cases hki:i.k<;>rw[hki] at hk h5<;>first|(cases hk;done)|skip
  cases de<;>simp only[kB,Bool.false_eq_true] at h5
  obtain⟨a',cap',e'⟩:=hx.sl_shape
  simp[builtin,Builtin.len_,e',run_underlying h2,goInt]
 ·rename_i e
  rw[e] at hx hk
  cases h
  simp only[lenK] at hk
  cases hki:i.k<;>rw[hki] at hk h5<;>first|(cases hk;done)|skip
  cases de<;>simp only[kB,Bool.false_eq_true] at h5
  simp[builtin,Builtin.len_,hx.is_nils,run_underlying h2,goInt]
 ·rename_i e
  rw[e] at hx hk
  cases h
  simp only[lenK] at hk
  cases hki:i.k<;>rw[hki] at hk h5<;>first|(cases hk;done)|skip
  cases de<;>simp only[kB,Bool.false_eq_true] at h5
  obtain⟨a',cap',e'⟩:=(Le.sle' hx).sl_shape
  simp[builtin,Builtin.len_,e',run_underlying h2,goInt]
 ·cases h
theorem do_len_os(hty:TyOK P Ty){t:Nat}{i:TyI}{x:Operand}{n hl lo len es:Nat}{rows:List (List D)}(ho:o.op=Ym .len #[x] #[t])(ht:Ty t=some i)(hk:isSlK i.k=true)(hx:ρ x=.os n hl lo len)(hgn:g n=some (.arr es rows))(hlen:rows.length=hl):Do P G o ρ g nm (.int .i64 len) []:=by
 refine Xg (fun c dom ι a w σ st hP hG hr hρ hg=>?_)
 subst hG
 have hv:=Zl hr x
 rw[hρ x (by rw[ho];simp[Ym,Op.operands,Call.operands]),hx] at hv
 obtain⟨cs,hcs⟩:=YC (ev:=a.eval) ho
 obtain⟨info,de,z,h1,h2,h3,_,h5,_⟩:=hty.get ht
 rw[hcs]
 refine⟨.int .i64 len,?_,.pure _ _ (.int _ _)⟩
 cases hki:i.k<;>rw[hki] at hk h5<;>first|(cases hk;done)|skip
 cases de<;>simp only[kB,Bool.false_eq_true] at h5
 obtain⟨ib,a',cap,_,e',_⟩:=YX hr hg hv hgn hlen
 simp[builtin,Builtin.len_,e',run_underlying h2,goInt]
end
end
section
open Go Go.RowKit
theorem Xp(w:World)(o:Obj):(w.alloc o).heap[w.heap.size]? = some o:=by
 show (w.heap.push o)[w.heap.size]? = _
 simp
theorem Rel.none_of{c:Ctx}{dom:Nat→Prop}{ι:Nat→Option IB}{a:Act}{w:World}{σ:Nat→D}{st:Nat→Option Blk}(h:Rel c dom ι a w σ st){nm:Nat}(hnm:¬ dom nm):ι nm=none∧st nm=none:=by
 have h1:ι nm=none:=by
  cases hx:ι nm with
  | none=>rfl
  | some ib=>exact absurd (h.dom nm (by rw[hx];rfl)) hnm
 refine⟨h1,?_⟩
 cases hs:st nm with
 | none=>rfl
 | some b =>
  have:=h.blk nm b hs
  cases b with
  | box cs=>obtain⟨ib,vs,ty,k1,_⟩:=this;rw[h1] at k1;cases k1
  | arr es rows=>obtain⟨ib,k1,_⟩:=this;rw[h1] at k1;cases k1
  | obj p=>obtain⟨ib,o,k1,_⟩:=this;rw[h1] at k1;cases k1
  | mp ks cs=>obtain⟨ib,es,ck,k1,_⟩:=this;rw[h1] at k1;cases k1
  | deck sc=>obtain⟨ib,v0,ty,xs,i,s,k1,_⟩:=this;rw[h1] at k1;cases k1
theorem Rel.newBox{c:Ctx}{dom:Nat→Prop}{ι:Nat→Option IB}{a:Act}{w:World}{σ:Nat→D}{st:Nat→Option Blk}(h:Rel c dom ι a w σ st){nm:Nat}(hnm:¬ dom nm)(vs:Array Value)(ty:Nat)(cs:List D)
  (hl:vs.size=cs.length) (hc:∀ i (hi:i<cs.length),Rep w (Fb c ι st) ι (vs.getD i undef) cs[i]) :
  let ib:IB:=⟨true,w.heap.size,0,0,1,0⟩
  Rel c (fun m=>dom m∨m=nm) (updI ι nm ib) a (w.alloc (.cells vs ty)) σ (updS st nm (some (.box cs)))∧(∀ v d,Rep w (Fb c ι st) ι v d→Rep (w.alloc (.cells vs ty)) (Fb c (updI ι nm ib) (updS st nm (some (.box cs)))) (updI ι nm ib) v d):=by
 obtain⟨h1,h2⟩:=h.none_of hnm
 refine h.one nm ⟨true,w.heap.size,0,0,1,0⟩ (.box cs) rfl rfl rfl (by simp) (fun b hb=>.inl (Below.heap_alloc w _ b hb)) (fun _=>⟨by simp,.inr (Nat.le_refl _)⟩) (fun ib hib=>by rw[h1] at hib;cases hib) (fun f1 f2=>?_)
 refine⟨⟨true,w.heap.size,0,0,1,0⟩,vs,ty,by simp[updI],rfl,Nat.one_pos,Xp _ _,hl,fun i hi=>f1 _ _ (hc i hi)⟩
theorem Rel.newArr{c:Ctx}{dom:Nat→Prop}{ι:Nat→Option IB}{a:Act}{w:World}{σ:Nat→D}{st:Nat→Option Blk}(h:Rel c dom ι a w σ st){nm:Nat}(hnm:¬ dom nm)(vs:Array Value)(ty es cap:Nat)(rows:List (List D))
  (hle:rows.length≤cap) (hsz:vs.size=cap*es) (hes:∀ r∈rows,r.length=es) (hc:∀ i (hi:i<rows.length) j (hj:j<rows[i].length),RepP w (Fb c ι st) (vs.getD (i*es+j) undef) rows[i][j]) :
  let ib:IB:=⟨false,w.heap.size,es,rows.length,cap,0⟩
  Rel c (fun m=>dom m∨m=nm) (updI ι nm ib) a (w.alloc (.cells vs ty)) σ (updS st nm (some (.arr es rows)))∧(∀ v d,Rep w (Fb c ι st) ι v d→Rep (w.alloc (.cells vs ty)) (Fb c (updI ι nm ib) (updS st nm (some (.arr es rows)))) (updI ι nm ib) v d):=by
 obtain⟨h1,h2⟩:=h.none_of hnm
 refine h.one nm ⟨false,w.heap.size,es,rows.length,cap,0⟩ (.arr es rows) rfl rfl rfl (by simp) (fun b hb=>.inl (Below.heap_alloc w _ b hb)) (fun _=>⟨by simp,.inr (Nat.le_refl _)⟩) (fun ib hib=>by rw[h1] at hib;cases hib) (fun f1 f2=>?_)
 refine⟨⟨false,w.heap.size,es,rows.length,cap,0⟩,by simp[updI],rfl,rfl,rfl,hle,hes,fun _=>⟨vs,ty,Xp _ _,hsz,fun i hi j hj _=>f2 _ _ (hc i hi j hj)⟩⟩
theorem Rep.newOs{w:World}{F:Nat→Prop}{ι:Nat→Option IB}{nm blk es n cap:Nat}(hι:ι nm=some ⟨false,blk,es,n,cap,0⟩)(hle:n≤cap):Rep w F ι (.slice (some ⟨blk,0,none⟩) n cap) (.os nm n 0 n) :=
 .os nm n 0 n _ _ hι (Nat.le_refl _) rfl (fun _=>⟨_,cap,rfl,hle,rfl,fun _=>by simp,fun _=>rfl⟩)
def Zf:D→List D
 | .agg cs=>cs
 | d=>[d]
def Z5:D→Bool
 | .any|.tup _=>false
 | _=>true
theorem cellsD_ok{w:World}{F:Nat→Prop}{ι:Nat→Option IB}{v:Value}{d:D}(h:Rep w F ι v d)(hd:Z5 d=true):v.cells.size=(Zf d).length∧∀ i (hi:i<(Zf d).length),Rep w F ι (v.cells.getD i undef) (Zf d)[i]:=by
 have one:oneD d=true→Zf d=[d]→v.cells.size=(Zf d).length∧∀ i (hi:i<(Zf d).length),Rep w F ι (v.cells.getD i undef) (Zf d)[i]:=by
  intro ho hc
  have h1:v.oneCell'=true:=oneD_ok h ho
  have e:v.cells=#[v]:=by cases v<;>first|rfl|cases h1
  simp only[e,hc]
  refine⟨rfl,fun i hi=>?_⟩
  have:i=0:=by simp at hi;omega
  subst this
  exact h
 cases d<;>first
  | (cases hd;done)
  | (obtain⟨cs,rfl,hl,hr⟩:=h.is_agg;exact⟨hl,hr⟩)
  | exact one rfl rfl
section
variable {P:Program} {G:Nat→Option (List D)} {Ty:Nat→Option TyI} {o:Oper} {ρ:Operand→D} {g:Nat→Option Blk} {nm:Nat}
theorem do_box{t:Nat}{x:Operand}(ho:o.op=.box t x)(hx:Z5 (ρ x)=true):Do P G o ρ g nm (.bp nm 0) [(nm,some (.box (Zf (ρ x))))]:=by
 intro c dom ι a w σ st K Q hP hG hr hρ hg hnm hd hK
 subst hG
 have hv:=Zl hr x
 rw[hρ x (by rw[ho];simp[Op.operands])] at hv
 obtain⟨h1,h2⟩:=cellsD_ok hv hx
 obtain⟨k1,k2⟩:=hr.newBox hnm (a.eval x).cells t (Zf (ρ x)) h1 h2
 have hrun:(execOp a.eval o).run P w=.ok (.value (.pointer (some ⟨w.heap.size,0,none⟩))) (w.alloc (.cells (a.eval x).cells t)):=by
  unfold execOp
  rw[ho]
  rfl
 unfold Oper.wp
 rw[hrun]
 exact hK _ _ _ (k1.put _ (.bp nm 0) (.bp nm 0 ⟨true,w.heap.size,0,0,1,0⟩ (by simp[updI]) rfl) o.dst hd)
theorem do_alloc(hty:TyOK P Ty){t:Nat}{i:TyI}(ho:o.op=.alloc t)(ht:Ty t=some i)(hx:Z5 i.zero=true):Do P G o ρ g nm (.bp nm 0) [(nm,some (.box (Zf i.zero)))]:=by
 intro c dom ι a w σ st K Q hP hG hr hρ hg hnm hd hK
 obtain⟨info,de,z,e1,e2,e3,_,e5,e6,e7⟩:=hty.get ht
 have hv:Rep w (Fb c ι st) ι z i.zero:=.pure _ _ (zB_rep e7)
 obtain⟨h1,h2⟩:=cellsD_ok hv hx
 obtain⟨k1,k2⟩:=hr.newBox hnm z.cells t (Zf i.zero) h1 h2
 have hrun:(execOp a.eval o).run P w=.ok (.value (.pointer (some ⟨w.heap.size,0,none⟩))) (w.alloc (.cells z.cells t)):=by
  unfold execOp
  rw[ho]
  simp[Instr.alloc,zeroValue,typeInfo,e1,e6,newVar,newRow]
 unfold Oper.wp
 rw[hrun]
 exact hK _ _ _ (k1.put _ (.bp nm 0) (.bp nm 0 ⟨true,w.heap.size,0,0,1,0⟩ (by simp[updI]) rfl) o.dst hd)
end
theorem Rep.toP{w:World}{F:Nat→Prop}{ι:Nat→Option IB}{v:Value}{d:D}(h:Rep w F ι v d)(hl:d.lo 0=true):RepP w F v d:=by
 induction h with
 | pure v d h=>exact h
 | agg cs ds hl' h ih=>exact .agg cs ds hl' (fun i hi=>ih i hi (D.los_at (by simpa only[D.lo] using hl) i hi))
 | tup cs ds hl' h ih=>exact .tup cs ds hl' (fun i hi=>ih i hi (D.los_at (by simpa only[D.lo] using hl) i hi))
 | fn f c1 c2 d1 d2 h1 h2 r1 r2 i1 i2 =>
  simp only[D.lo,Bool.and_eq_true] at hl
  exact .fn f c1 c2 d1 d2 h1 h2 (fun i hi=>i1 i hi (D.los_at hl.1 i hi)) (fun i hi=>i2 i hi (D.los_at hl.2 i hi))
 | ifc t v d h ih=>exact .ifc t v d (ih (by simpa only[D.lo] using hl))
 | bp m off ib hn hb=>simp[D.lo] at hl
 | ap m hl' i off ib v hn hle h1 h=>simp[D.lo] at hl
 | os m hl' lo len ib v hn hle h1 h=>simp[D.lo] at hl
 | rf m ch ib v hn hb hv=>simp[D.lo] at hl
def onesD(ds:List D):Bool:=ds.all oneD
theorem cells_one{w:World}{F:Nat→Prop}{ι:Nat→Option IB}{vs:Array Value}{ds:List D}(hl:vs.size=ds.length)(hr:∀ i (hi:i<ds.length),Rep w F ι (vs.getD i undef) ds[i])(ho:onesD ds=true):∀ v∈vs.toList,v.oneCell'=true:=by
 intro v hv
 obtain⟨i,hi,rfl⟩:=List.getElem_of_mem hv
 have hi':i<vs.size:=by simpa using hi
 have h1:=hr i (by omega)
 have e:vs.getD i undef=vs.toList[i]:=by simp[hi']
 rw[e] at h1
 exact oneD_ok h1 (List.all_eq_true.1 ho _ (List.getElem_mem _))
theorem getD_mid(old:Array Value)(new:Array Value)(off i:Nat)(h:off+new.size≤old.size) :
  (old.toList.take off++new.toList++old.toList.drop (off+new.toList.length)).toArray.getD i undef=if i<off then old.getD i undef else if i<off+new.size then new.getD (i - off) undef else old.getD i undef:=by
 simp only[Array.length_toList]
 by_cases h1:i<off
 ·rw[if_pos h1]
  have:i<old.size:=by omega
  simp[List.getElem?_append,h1,this,show off≤old.size by omega]
 ·rw[if_neg h1]
  by_cases h2:i<off+new.size
  ·rw[if_pos h2]
   have h3:i - off<new.size:=by omega
   simp[List.getElem?_append,h1,h3,show off≤old.size by omega]
  ·rw[if_neg h2]
   have h3:¬ i - off<new.size:=by omega
   simp[List.getElem?_append,h1,h3,show off≤old.size by omega,show off+new.size+(i - off - new.size)=i by omega]
def putL(cs:List D)(off:Nat)(ds:List D):List D:=cs.take off++ds++cs.drop (off+ds.length)
theorem putL_at{w:World}{F:Nat→Prop}{ι:Nat→Option IB}{old new:Array Value}{cs ds:List D}{off:Nat}(h1:old.size=cs.length)(h2:new.size=ds.length)(hle:off+ds.length≤cs.length)
  (ho:∀ i (hi:i<cs.length),Rep w F ι (old.getD i undef) cs[i]) (hn:∀ i (hi:i<ds.length),Rep w F ι (new.getD i undef) ds[i]) :
  ∀ i (hi:i<(putL cs off ds).length),Rep w F ι ((old.toList.take off++new.toList++old.toList.drop (off+new.toList.length)).toArray.getD i undef) (putL cs off ds)[i]:=by
 intro i hi
 have hlen:(putL cs off ds).length=cs.length:=by unfold putL;simp;omega
 have hi':i<cs.length:=by omega
 rw[getD_mid old new off i (by omega)]
 unfold putL
 by_cases k1:i<off
 ·rw[if_pos k1]
  have e:(cs.take off++ds++cs.drop (off+ds.length))[i]'hi=cs[i]:=by
   simp[show i<min off cs.length by omega]
  rw[e];exact ho i hi'
 ·rw[if_neg k1]
  by_cases k2:i<off+new.size
  ·rw[if_pos k2]
   have k3:i - off<ds.length:=by omega
   have e:(cs.take off++ds++cs.drop (off+ds.length))[i]'hi=ds[i - off]:=by
    simp[List.getElem_append,k1,k3,show off≤cs.length by omega]
   rw[e];exact hn _ k3
  ·rw[if_neg k2]
   have k3:¬ i - off<ds.length:=by omega
   have e:(cs.take off++ds++cs.drop (off+ds.length))[i]'hi=cs[i]:=by
    simp[List.getElem_append,k1,k3,show off≤cs.length by omega,show off+ds.length+(i - off - ds.length)=i by omega]
   rw[e];exact ho i hi'
section
variable {P:Program} {G:Nat→Option (List D)} {Ty:Nat→Option TyI} {o:Oper} {ρ:Operand→D} {g:Nat→Option Blk} {nm:Nat}
theorem do_store_box(hty:TyOK P Ty){t:Nat}{i:TyI}{x y:Operand}{n off:Nat}{cs:List D}(ho:o.op=.store t x y)(ht:Ty t=some i)(hx:ρ x=.bp n off)(hgn:g n=some (.box cs))(hs:Z5 (ρ y)=true)(hsz:(Zf (ρ y)).length=i.size)(h1:onesD (Zf (ρ y))=true)(hle:off+(Zf (ρ y)).length≤cs.length) :
  Do P G o ρ g nm .any [(n,some (.box (putL cs off (Zf (ρ y)))))]:=by
 intro c dom ι a w σ st K Q hP hG hr hρ hg hnm hd hK
 subst hG
 have hv:=Zl hr x
 rw[hρ x (by rw[ho];simp[Op.operands]),hx] at hv
 have hy:=Zl hr y
 rw[hρ y (by rw[ho];simp[Op.operands])] at hy
 obtain⟨y1,y2⟩:=cellsD_ok hy hs
 obtain⟨info,de,z,e1,e2,e3,_⟩:=hty.get ht
 generalize hex:a.eval x=vx at hv
 cases hv with
 | pure _ _ h=>cases h
 | bp n off ib hn hb =>
  obtain⟨ib',vs,ty,k1,k2,k3,k4,k5,k6⟩:=hr.blk n _ (hg n _ hgn)
  obtain rfl:ib=ib':=Option.some.inj (hn.symm.trans k1)
  have hst:=run_storeCells_at P ib.blk off ty (a.eval y).cells.toList 0 vs w k4 (by simp;omega) (cells_one y1 y2 h1)
  simp only[Nat.add_zero] at hst
  have hrun:(execOp a.eval o).run P w=.ok .skip (w.setRow ib.blk (vs.toList.take off++(a.eval y).cells.toList++vs.toList.drop (off+(a.eval y).cells.toList.length)).toArray):=by
   rw[show execOp a.eval o=(do Instr.storeAt t (a.eval x) (a.eval y);pure .skip) by unfold execOp;rw[ho]]
   have hc:(a.eval y).cells.size=info.size:=by omega
   simp only[hex,Instr.storeAt,Instr.sureAddr,storeVar,Sem.run_bind,Sem.run_pure,Result.andThen_ok,sizeOf,typeInfo,run_program,e1,hc,ne_eq,not_true_eq_false,if_false,hst]
  unfold Oper.wp
  rw[hrun]
  obtain⟨r1,r2⟩:=hr.one (w':=w.setRow ib.blk (vs.toList.take off++(a.eval y).cells.toList++vs.toList.drop (off+(a.eval y).cells.toList.length)).toArray) n ib (.box (putL cs off (Zf (ρ y)))) rfl rfl rfl (by simp)
   (fun b hb'=>by
    by_cases e:b=ib.blk
    ·exact .inr ⟨ib,hn,by rw[hg n _ hgn];rfl,k3,e⟩
    ·exact .inl (setRow_other w _ _ _ e))
   (fun _=>⟨by simp;exact (hr.own ib.blk ⟨n,ib,by rw[hg n _ hgn];rfl,hn,k3,rfl⟩).1,.inl ⟨ib,hn,by rw[hg n _ hgn];rfl,k3,rfl⟩⟩)
   (fun ib2 h2=>.inl (Option.some.inj (hn.symm.trans h2)))
   (fun f1 f2=>⟨ib,_,ty,by simp[updI],k2,k3,setRow_heap w _ vs _ ty _ k4,by simp[putL];omega,
    fun i hi=>f1 _ _ (putL_at k5 y1 hle k6 y2 i hi)⟩)
  exact hK _ _ _ ((r1.put undef .any (.pure _ _ (.any _)) o.dst hd).weaken (fun _=>Le.refl _) (fun m hm=>.inl (hm.elim id (fun e=>e▸hr.dom n (by rw[hn];rfl)))))
end
end
section
open Go Go.RowKit
theorem cellsD_lo{n:Nat}{d:D}(h:d.lo n=true):D.los n (Zf d)=true:=by
 cases d<;>first|(simpa only[Zf,D.lo] using h)|(simp only[Zf,D.los,Bool.and_true];exact h)
theorem Yc{i n es j:Nat}(hi:i<n)(hj:j<es):i*es+j<n*es:=by
 have:(i+1)*es≤n*es:=Nat.mul_le_mul_right _ (by omega)
 rw[Nat.add_mul,Nat.one_mul] at this
 omega
theorem row_apart{i k es j l:Nat}(hj:j<es)(hl:l<es)(h:i*es+j=k*es+l):i=k∧j=l:=by
 have h1:(i*es+j) / es=i:=by
  rw[Nat.mul_comm,Nat.mul_add_div (by omega),Nat.div_eq_of_lt hj];omega
 have h2:(k*es+l) / es=k:=by
  rw[Nat.mul_comm,Nat.mul_add_div (by omega),Nat.div_eq_of_lt hl];omega
 have:i=k:=by rw[← h1,h,h2]
 subst this
 exact⟨rfl,by omega⟩
section
variable {P:Program} {G:Nat→Option (List D)} {Ty:Nat→Option TyI} {o:Oper} {ρ:Operand→D} {g:Nat→Option Blk} {nm:Nat}
theorem do_store_arr(hty:TyOK P Ty){t:Nat}{i:TyI}{x y:Operand}{n hl ix off es:Nat}{rows:List (List D)}{row:List D}(ho:o.op=.store t x y)(ht:Ty t=some i)(hx:ρ x=.ap n hl ix off)(hgn:g n=some (.arr es rows))(hlen:rows.length=hl)(hrow:rows[ix]? = some row)
  (hs:Z5 (ρ y)=true) (hp:(ρ y).lo 0=true) (hsz:(Zf (ρ y)).length=i.size) (h1:onesD (Zf (ρ y))=true) (hle:off+(Zf (ρ y)).length≤row.length) :
  Do P G o ρ g nm .any [(n,some (.arr es (rows.set ix (putL row off (Zf (ρ y))))))]:=by
 intro c dom ι a w σ st K Q hP hG hr hρ hg hnm hd hK
 subst hG
 have hv:=Zl hr x
 rw[hρ x (by rw[ho];simp[Op.operands]),hx] at hv
 have hy:=Zl hr y
 rw[hρ y (by rw[ho];simp[Op.operands])] at hy
 obtain⟨y1,y2⟩:=cellsD_ok hy hs
 obtain⟨info,de,z,e1,e2,e3,_⟩:=hty.get ht
 obtain⟨hix,hrow'⟩:=List.getElem?_eq_some_iff.1 hrow
 generalize hex:a.eval x=vx at hv
 cases hv with
 | pure _ _ h=>cases h
 | ap n hl ix off ib v hn hle' hone hp' =>
  obtain⟨ib',k1,k2,k3,k4,k5,k6,k7⟩:=hr.blk n _ (hg n _ hgn)
  obtain rfl:ib=ib':=Option.some.inj (hn.symm.trans k1)
  obtain⟨hbi,hv⟩:=hp' (k4.trans hlen)
  have hcap:0<ib.cap:=by omega
  obtain⟨vs,ty,q1,q2,q3⟩:=k7 hcap
  obtain⟨iy,hiy⟩:∃ iy,iy=ix - ib.base:=⟨_,rfl⟩
  rw[← hiy] at hv
  have hrl:row.length=es:=by rw[← hrow'];exact k6 _ (List.getElem_mem hix)
  have hfit:iy*es+off+(a.eval y).cells.size≤vs.size:=by
   have:(iy+1)*es≤(ib.cap - ib.base)*es:=Nat.mul_le_mul_right _ (by omega)
   rw[Nat.add_mul,Nat.one_mul] at this
   omega
  have hst:=run_storeCells_at P ib.blk (iy*es+off) ty (a.eval y).cells.toList 0 vs w q1 (by simp;omega) (cells_one y1 y2 h1)
  simp only[Nat.add_zero] at hst
  generalize hnew:(vs.toList.take (iy*es+off)++(a.eval y).cells.toList++vs.toList.drop (iy*es+off+(a.eval y).cells.toList.length)).toArray=new at hst
  have hnsz:new.size=vs.size:=by rw[← hnew];simp;omega
  have hget:∀ k,new.getD k undef=if k<iy*es+off then vs.getD k undef else if k<iy*es+off+(a.eval y).cells.size then (a.eval y).cells.getD (k - (iy*es+off)) undef else vs.getD k undef:=by
   intro k;rw[← hnew];exact getD_mid vs _ _ k hfit
  have hrun:(execOp a.eval o).run P w=.ok .skip (w.setRow ib.blk new):=by
   rw[show execOp a.eval o=(do Instr.storeAt t (a.eval x) (a.eval y);pure .skip) by unfold execOp;rw[ho]]
   have hc:(a.eval y).cells.size=info.size:=by omega
   simp only[hex,hv,k3,Instr.storeAt,Instr.sureAddr,storeVar,Sem.run_bind,Sem.run_pure,Result.andThen_ok,sizeOf,typeInfo,run_program,e1,hc,ne_eq,not_true_eq_false,if_false,hst]
  unfold Oper.wp
  rw[hrun]
  have hso:(st n).isSome=true:=by rw[hg n _ hgn];rfl
  have hone:=hr.one (w':=w.setRow ib.blk new) n ib (.arr es (rows.set ix (putL row off (Zf (ρ y))))) rfl rfl rfl (by simp)
   (fun b hb'=>by
    by_cases e:b=ib.blk
    ·exact .inr ⟨ib,hn,hso,hcap,e⟩
    ·exact .inl (setRow_other w _ _ _ e))
   (fun _=>⟨by simp;exact (hr.own ib.blk ⟨n,ib,hso,hn,hcap,rfl⟩).1,.inl ⟨ib,hn,hso,hcap,rfl⟩⟩)
   (fun ib2 h2=>.inl (Option.some.inj (hn.symm.trans h2)))
   (fun f1 f2=>⟨ib,by simp[updI],k2,k3,by simp;exact k4,by simp;exact k5,fun r hr'=>by
     rcases List.mem_or_eq_of_mem_set hr' with h|h
     ·exact k6 r h
     ·subst h;unfold putL;simp;omega,fun _=>⟨new,ty,setRow_heap w _ vs _ ty _ q1,by omega,fun k hk j hj hbk=>?_⟩⟩)
  ·obtain⟨r1,r2⟩:=hone
   exact hK _ _ _ ((r1.put undef .any (.pure _ _ (.any _)) o.dst hd).weaken (fun _=>Le.refl _) (fun m hm=>.inl (hm.elim id (fun e=>e▸hr.dom n (by rw[hn];rfl)))))
  ·have hk':k<rows.length:=by simpa using hk
   refine f2 _ _ ?_
   rw[hget]
   by_cases hki:ix=k
   ·subst hki
    have hjr:j<(putL row off (Zf (ρ y))).length:=by simpa using hj
    have hpl:(putL row off (Zf (ρ y))).length=row.length:=by unfold putL;simp;omega
    have ee:(rows.set ix (putL row off (Zf (ρ y))))[ix][j]=(putL row off (Zf (ρ y)))[j]:=by simp
    rw[ee,← hiy]
    by_cases c1:j<off
    ·rw[if_pos (by omega)]
     have e:(putL row off (Zf (ρ y)))[j]=row[j]:=by unfold putL;simp[show j<min off row.length by omega]
     rw[e]
     have:=q3 ix hix j (by rw[hrow'];omega) hbi
     rw[← hiy] at this
     simpa only[hrow'] using this
    ·rw[if_neg (by omega)]
     by_cases c2:j<off+(Zf (ρ y)).length
     ·rw[if_pos (by omega)]
      have c3:j - off<(Zf (ρ y)).length:=by omega
      have e:(putL row off (Zf (ρ y)))[j]=(Zf (ρ y))[j - off]:=by
       unfold putL;simp[List.getElem_append,c1,c3,show off≤row.length by omega]
      rw[e,show iy*es+j - (iy*es+off)=j - off by omega]
      refine (y2 _ c3).toP ?_
      exact D.los_at (cellsD_lo hp) _ c3
     ·rw[if_neg (by omega)]
      have c3:¬ j - off<(Zf (ρ y)).length:=by omega
      have e:(putL row off (Zf (ρ y)))[j]=row[j]:=by
       unfold putL;simp[List.getElem_append,c1,c3,show off≤row.length by omega,show off+(Zf (ρ y)).length+(j - off - (Zf (ρ y)).length)=j by omega]
      rw[e]
      have:=q3 ix hix j (by rw[hrow'];omega) hbi
      rw[← hiy] at this
      simpa only[hrow'] using this
   ·have hj':j<(rows[k]).length:=by simpa[List.getElem_set,hki] using hj
    have hje:j<es:=by rw[← k6 _ (List.getElem_mem hk')];exact hj'
    have e:(rows.set ix (putL row off (Zf (ρ y))))[k][j]=rows[k][j]:=by simp[hki]
    rw[e]
    have hne:∀ l,l<es→iy*es+l≠(k - ib.base)*es+j:=fun l hl e=>hki (by have:=(row_apart hl hje e).1;omega)
    have:(if (k - ib.base)*es+j<iy*es+off then vs.getD ((k - ib.base)*es+j) undef else if (k - ib.base)*es+j<iy*es+off+(a.eval y).cells.size then (a.eval y).cells.getD ((k - ib.base)*es+j - (iy*es+off)) undef else vs.getD ((k - ib.base)*es+j) undef)=vs.getD ((k - ib.base)*es+j) undef:=by
     by_cases c1:(k - ib.base)*es+j<iy*es+off
     ·rw[if_pos c1]
     ·rw[if_neg c1]
      by_cases c2:(k - ib.base)*es+j<iy*es+off+(a.eval y).cells.size
      ·exact absurd (show iy*es+((k - ib.base)*es+j - iy*es)=(k - ib.base)*es+j by omega) (hne _ (by omega))
      ·rw[if_neg c2]
    rw[this]
    exact q3 k hk' j hj' hbk
end
end
section
open Go Go.RowKit
theorem fold_cells(off:Nat):∀ (l:List Value) (s:Nat) (cs:Array Value),off+s+l.length≤cs.size →
  let r:=(l.zipIdx s).foldl (fun cs (x:Value×Nat)=>cs.setIfInBounds (off+x.2) x.1) cs
  r.size=cs.size∧∀ k,r.getD k undef=if k<off+s then cs.getD k undef else if k<off+s+l.length then l.getD (k - (off+s)) undef else cs.getD k undef
 | [],s,cs,h=>by
  refine⟨rfl,fun k=>?_⟩
  simp only[List.zipIdx_nil,List.foldl_nil,List.length_nil,Nat.add_zero]
  by_cases h1:k<off+s<;>simp[h1]
 | v::l,s,cs,h=>by
  simp only[List.length_cons] at h
  obtain⟨h1,h2⟩:=fold_cells off l (s+1) (cs.setIfInBounds (off+s) v) (by simp;omega)
  simp only[List.zipIdx_cons,List.foldl_cons]
  refine⟨by rw[h1];simp,fun k=>?_⟩
  rw[h2 k]
  simp only[List.length_cons]
  by_cases c1:k<off+s
  ·rw[if_pos (by omega),if_pos c1]
   simp[show off+s≠k by omega]
  ·rw[if_neg c1]
   by_cases c2:k=off+s
   ·subst c2
    rw[if_pos (by omega),if_pos (by omega)]
    simp[show off+s<cs.size by omega]
   ·rw[if_neg (by omega)]
    by_cases c3:k<off+s+(l.length+1)
    ·rw[if_pos (by omega),if_pos c3]
     obtain⟨m,hm⟩:∃ m,k - (off+s)=m+1:=⟨k - (off+s) - 1,by omega⟩
     rw[hm,show k - (off+(s+1))=m by omega]
     simp
    ·rw[if_neg (by omega),if_neg c3]
     simp[show off+s≠k by omega]
def fillD(place:Nat→Option (Nat×Nat)):List D→List (Nat×D)→Option (List D)
 | cells,[]=>some cells
 | cells,(i,d)::rest=>match place i with
  | some (off,size)=>if (Zf d).length=size∧off+size≤cells.length∧Z5 d=true then fillD place (putL cells off (Zf d)) rest else none
  | none=>none
theorem fillD_ok{w:World}{F:Nat→Prop}{ι:Nat→Option IB}(place:Nat→Option (Nat×Nat)):∀ (ps:List (Nat×Value)) (ds:List (Nat×D)) (cs:Array Value) (cells out:List D),fillD place cells ds=some out→ps.length=ds.length →
  (∀ k (h1:k<ps.length) (h2:k<ds.length),ps[k].1=ds[k].1∧Rep w F ι ps[k].2 ds[k].2)→cs.size=cells.length→(∀ i (hi:i<cells.length),Rep w F ι (cs.getD i undef) cells[i]) →
  ∃ r,Instr.fill place cs ps=some r∧r.size=out.length∧∀ i (hi:i<out.length),Rep w F ι (r.getD i undef) out[i]
 | [],[],cs,cells,out,h,_,_,h3,h4=>by cases h;exact⟨cs,rfl,h3,h4⟩
 | (i,v)::ps,(i',d)::ds,cs,cells,out,h,hl,hp,h3,h4=>by
  have h0:=hp 0 (by simp) (by simp)
  simp only[List.getElem_cons_zero] at h0
  obtain⟨rfl,hv⟩:=h0
  simp only[fillD] at h
  split at h
  ·rename_i off size hpl
   split at h
   ·rename_i hc
    obtain⟨c1,c2,c3⟩:=hc
    obtain⟨v1,v2⟩:=cellsD_ok hv c3
    obtain⟨f1,f2⟩:=fold_cells off v.cells.toList 0 cs (by simp;omega)
    have hlen:(putL cells off (Zf d)).length=cells.length:=by unfold putL;simp;omega
    obtain⟨r,r1,r2,r3⟩:=fillD_ok place ps ds _ _ out h (by simpa using hl) (fun k k1 k2=>by
     have:=hp (k+1) (by simpa using k1) (by simpa using k2)
     simpa using this) (f1.trans (by omega)) (fun k hk=>by
     have hk':k<cells.length:=by omega
     rw[f2 k]
     simp only[Nat.add_zero,Array.length_toList]
     unfold putL
     by_cases k1:k<off
     ·rw[if_pos k1]
      have e:(cells.take off++Zf d++cells.drop (off+(Zf d).length))[k]'hk=cells[k]:=by simp[show k<min off cells.length by omega]
      rw[e];exact h4 k hk'
     ·rw[if_neg k1]
      by_cases k2:k<off+v.cells.size
      ·rw[if_pos k2]
       have k3:k - off<(Zf d).length:=by omega
       have e:(cells.take off++Zf d++cells.drop (off+(Zf d).length))[k]'hk=(Zf d)[k - off]:=by simp[List.getElem_append,k1,k3,show off≤cells.length by omega]
       rw[e]
       have:=v2 _ k3
       simpa using this
      ·rw[if_neg k2]
       have k3:¬ k - off<(Zf d).length:=by omega
       have e:(cells.take off++Zf d++cells.drop (off+(Zf d).length))[k]'hk=cells[k]:=by
        simp[List.getElem_append,k1,k3,show off≤cells.length by omega,show off+(Zf d).length+(k - off - (Zf d).length)=k by omega]
       rw[e];exact h4 k hk')
    refine⟨r,?_,r2,r3⟩
    simp only[Instr.fill,hpl]
    rw[if_neg (by simp;omega)]
    rw[show v.cells.zipIdx.foldl (fun cs (x:Value×Nat)=>cs.setIfInBounds (off+x.2) x.1) cs=(v.cells.toList.zipIdx 0).foldl (fun cs (x:Value×Nat)=>cs.setIfInBounds (off+x.2) x.1) cs by
     rw[← Array.foldl_toList,Array.toList_zipIdx]] at *
    exact r1
   ·cases h
  ·cases h
 | [],_::_,_,_,_,_,hl,_,_,_=>by simp at hl
 | _::_,[],_,_,_,_,hl,_,_,_=>by simp at hl
def placeOf(Ty:Nat→Option TyI)(t:Nat):Option (Nat→Option (Nat×Nat)) :=
 match Ty t with
 | some i=>match i.k with
  | .agg l=>some fun j=>(l[j]?).map (fun x=>(x.1,x.2.1))
  | .arr _ e=>(Ty e).map fun ei j=>some (j*ei.size,ei.size)
  | _=>none
 | none=>none
theorem places_ok{P:Program}:∀ (fs:List Field) (l:List (Nat×Nat×Bool)),fs.map (fun f=>(f.offset,((P.info? f.type).map (·.size)).getD 0,aggOf P f.type))=l→(∀ f∈fs,(P.info? f.type).isSome=true) →
  fs.mapM (fun f=>(P.info? f.type).map fun i=>(f.offset,i.size))=some (l.map (fun x=>(x.1,x.2.1)))
 | [],l,h,_=>by subst h;rfl
 | f::fs,l,h,hs=>by
  subst h
  have h1:=hs f (by simp)
  cases hi:P.info? f.type with
  | none=>rw[hi] at h1;cases h1
  | some i =>
   have ih:=places_ok fs _ rfl (fun g hg=>hs g (by simp[hg]))
   simp only[List.mapM_cons,hi,Option.map_some,Option.bind_eq_bind,Option.bind_some,ih,Option.pure_def,List.map_cons,Option.getD_some]
section
variable {P:Program} {G:Nat→Option (List D)} {Ty:Nat→Option TyI} {o:Oper} {ρ:Operand→D} {g:Nat→Option Blk} {nm:Nat}
theorem do_build(hty:TyOK P Ty){t:Nat}{i:TyI}{parts:Array (Nat×Operand)}{zs out:List D}(ho:o.op=.build t parts)(ht:Ty t=some i)(hz:i.zero=.agg zs){pl:Nat→Option (Nat×Nat)}(hpl:placeOf Ty t=some pl)(h:fillD pl zs (parts.toList.map (fun p=>(p.1,ρ p.2)))=some out):Do P G o ρ g nm (.agg out) []:=by
 refine ZY (fun w F ι ev hev=>?_)
 obtain⟨info,de,z,e1,e2,e3,_,e5,e6,e7⟩:=hty.get ht
 rw[hz] at e7
 obtain⟨zc,rfl,z1,z2⟩:=(show Rep w F ι z (.agg zs) from .pure _ _ (zB_rep e7)).is_agg
 obtain⟨r,r1,r2,r3⟩:=fillD_ok (w:=w) (F:=F) (ι:=ι) pl (parts.toList.map (fun p=>(p.1,ev p.2))) _ zc zs out h (by simp) (fun k k1 k2=>by
  have k1':k<parts.toList.length:=by simpa using k1
  simp only[List.getElem_map]
  refine⟨trivial,hev _ ?_⟩
  rw[ho]
  simp only[Op.operands,List.mem_toArray,List.mem_map]
  exact⟨_,List.getElem_mem k1',rfl⟩) z1 z2
 refine⟨.agg r,?_,.agg _ _ r2 r3⟩
 rw[show execOp ev o=(do pure (.value (← Instr.build t (parts.map fun (i,x)=>(i,ev x))))) by unfold execOp;rw[ho]]
 have hb:P.built t (parts.map fun (i,x)=>(i,ev x)).toList=some r:=by
  unfold Program.built
  unfold placeOf at hpl
  rw[ht] at hpl
  simp only at hpl
  simp only[e1,e2]
  have ep:(parts.map fun (x:Nat×Operand)=>(x.1,ev x.2)).toList=parts.toList.map (fun p=>(p.1,ev p.2)):=by simp
  cases hk:i.k<;>rw[hk] at e5 hpl<;>first|(cases hpl;done)|skip
  ·rename_i l
   cases de<;>simp only[kB,Bool.false_eq_true,Bool.and_eq_true,beq_iff_eq] at e5
   rename_i fs
   cases hpl
   have hall:∀ f∈fs.toList,(P.info? f.type).isSome=true:=fun f hf=>by
    have:=Array.all_eq_true_iff_forall_mem.1 e5.2 f (by simpa using hf)
    simp only[Bool.and_eq_true] at this
    exact this.1
   simp only[e6,places_ok fs.toList l e5.1 hall]
   rw[show ((l.map (fun x=>(x.1,x.2.1))).toArray[·]?)=(fun j=>(l[j]?).map (fun x=>(x.1,x.2.1))) by funext j;simp]
   exact ep▸r1
  ·rename_i n el
   cases de<;>simp only[kB,Bool.false_eq_true,Bool.and_eq_true,beq_iff_eq] at e5
   obtain⟨⟨⟨h1,h2⟩,_⟩,_⟩:=e5
   rw[h2]
   cases hT:Ty el with
   | none=>simp only[hT,Option.map_none,reduceCtorEq] at hpl
   | some ei =>
    simp only[hT,Option.map_some,Option.some.injEq] at hpl
    subst hpl
    obtain⟨info',_,_,i1,_,i3,_⟩:=hty.get hT
    simp only[e6,i1,i3]
    exact ep▸r1
 simp only[Sem.run_bind,run_build w t _ r hb,Result.andThen_ok]
 rfl
end
end
section
open Go Go.RowKit
def Z9(len size:Nat)(cells:List D):List (List D):=(List.range len).map (fun i=>(cells.drop (i*size)).take size)
theorem rowsOf_length(len size:Nat)(cells:List D):(Z9 len size cells).length=len:=by simp[Z9]
theorem rowsOf_row{len size:Nat}{cells:List D}(h:cells.length=len*size):∀ r∈Z9 len size cells,r.length=size:=by
 intro r hr
 simp only[Z9,List.mem_map,List.mem_range] at hr
 obtain⟨i,hi,rfl⟩:=hr
 have:(i+1)*size≤len*size:=Nat.mul_le_mul_right _ (by omega)
 rw[Nat.add_mul,Nat.one_mul] at this
 simp;omega
theorem rowsOf_at{w:World}{F:Nat→Prop}{len size:Nat}{cells:List D}{vs:Array Value}(h:cells.length=len*size)(hr:∀ k (hk:k<cells.length),RepP w F (vs.getD k undef) cells[k]) :
  ∀ i (hi:i<(Z9 len size cells).length) j (hj:j<(Z9 len size cells)[i].length),RepP w F (vs.getD (i*size+j) undef) (Z9 len size cells)[i][j]:=by
 intro i hi j hj
 have hi':i<len:=by simpa[Z9] using hi
 have e:(Z9 len size cells)[i]=(cells.drop (i*size)).take size:=by simp[Z9]
 have hj':j<size:=by
  have:=rowsOf_row h _ (List.getElem_mem hi)
  omega
 have hlt:=Yc hi' hj'
 have e2:(Z9 len size cells)[i][j]=cells[i*size+j]'(by omega):=by
  simp only[e,List.getElem_take,List.getElem_drop]
 rw[e2]
 exact hr _ (by omega)
def YL(n:Nat)(zs:List D):List D:=(List.replicate n zs).flatten
theorem YR(n:Nat)(zs:List D):(YL n zs).length=n*zs.length:=by simp[YL]
theorem zerosD_at{zs:List D}:∀ {n i:Nat} (hi:i<(YL n zs).length),∃ hz:i % zs.length<zs.length,(YL n zs)[i]=zs[i % zs.length]
 | 0,i,hi=>by simp[YL] at hi
 | n+1,i,hi=>by
  have hl:=YR n zs
  have hl1:=YR (n+1) zs
  have hpos:0<zs.length:=by
   rcases Nat.eq_zero_or_pos zs.length with h|h
   ·rw[hl1,h,Nat.mul_zero] at hi;omega
   ·exact h
  refine⟨Nat.mod_lt _ hpos,?_⟩
  have e:YL (n+1) zs=zs++YL n zs:=by simp[YL,List.replicate_succ]
  simp only[e,List.getElem_append]
  by_cases h:i<zs.length
  ·rw[dif_pos h];congr 1;exact (Nat.mod_eq_of_lt h).symm
  ·rw[dif_neg h]
   have hi':i - zs.length<(YL n zs).length:=by rw[hl];rw[hl1,Nat.add_mul,Nat.one_mul] at hi;omega
   obtain⟨_,ih⟩:=zerosD_at (zs:=zs) (n:=n) hi'
   rw[ih]
   congr 1
   exact (Nat.mod_eq_sub_mod (by omega)).symm
section
variable {P:Program} {G:Nat→Option (List D)} {Ty:Nat→Option TyI} {o:Oper} {ρ:Operand→D} {g:Nat→Option Blk} {nm:Nat}
theorem YM{w:World}{F:Nat→Prop}(hty:TyOK P Ty){e:Nat}{j:TyI}(hj:Ty e=some j)(hsz:(Zf j.zero).length=j.size)(hst:Z5 j.zero=true) :
  ∃ z,(zeroValue e).run P w=.ok z w∧(∀ w',(zeroValue e).run P w'=.ok z w')∧(∃ info,P.info? e=some info∧info.size=j.size∧info.bytes=j.bytes∧info.zero=some z)∧z.cells.size=j.size∧∀ i (hi:i<(Zf j.zero).length),RepP w F (z.cells.getD i undef) (Zf j.zero)[i]:=by
 obtain⟨info,de,z,e1,e2,e3,e4,e5,e6,e7⟩:=hty.get hj
 have hz:∀ w',(zeroValue e).run P w'=.ok z w':=fun w'=>by simp[zeroValue,typeInfo,e1,e6]
 have hr:Rep w F (fun _=>none) z j.zero:=.pure _ _ (zB_rep e7)
 obtain⟨c1,c2⟩:=cellsD_ok hr hst
 have key:∀ {v d},Rep w F (fun _=>none) v d→RepP w F v d:=by
  intro v d h
  induction h with
  | pure v d h=>exact h
  | agg cs ds hl h ih=>exact .agg cs ds hl ih
  | tup cs ds hl h ih=>exact .tup cs ds hl ih
  | fn f c1 c2 d1 d2 h1 h2 r1 r2 i1 i2=>exact .fn f c1 c2 d1 d2 h1 h2 i1 i2
  | ifc t v d h ih=>exact .ifc t v d ih
  | bp n off ib hn hb=>cases hn
  | ap n hl i off ib v hn _ _ _=>cases hn
  | os n hl lo len ib v hn _ _ _=>cases hn
  | rf n ch ib v hn _ _=>cases hn
 exact⟨z,hz w,hz,⟨info,e1,e3,e4,e6⟩,by rw[c1,hsz],fun i hi=>key (c2 i hi)⟩
theorem do_buildSlice(hty:TyOK P Ty){t len e:Nat}{j:TyI}{parts:Array (Nat×Operand)}{out:List D}(ho:o.op=.buildSlice t len parts)(he:ZN Ty t=some (e,j))(hsz:(Zf j.zero).length=j.size)(hst:Z5 j.zero=true)(hlim:len*j.size≤16777216)
  (h:fillD (fun k=>some (k*j.size,j.size)) (YL len (Zf j.zero)) (parts.toList.map (fun p=>(p.1,ρ p.2)))=some out) (hp:D.los 0 out=true) (hol:out.length=len*j.size) :
  Do P G o ρ g nm (.os nm len 0 len) [(nm,some (.arr j.size (Z9 len j.size out)))]:=by
 intro c dom ι a w σ st K Q hP hG hr hρ hg hnm hd hK
 subst hG
 obtain⟨u1,u2⟩:=ZL hty he
 obtain⟨z,z1,z1',⟨info,i1,i2,_,i4⟩,z2,z3⟩:=YM (w:=w) (F:=Fb c ι st) hty u2 hsz hst
 have hinit:∀ (zz:Array Value),(len*j.size≠0→zz=z.cells)→∀ k (hk:k<(YL len (Zf j.zero)).length),Rep w (Fb c ι st) ι (((Array.range (len*j.size)).map (zz[· % zz.size]!)).getD k undef) (YL len (Zf j.zero))[k]:=by
  intro zz hzz k hk
  have hk':k<len*j.size:=by rw[← hsz,← YR];exact hk
  obtain⟨hz,ez⟩:=zerosD_at hk
  rw[ez,hzz (by omega)]
  have hm:k % z.cells.size<z.cells.size:=by rw[z2,← hsz];exact hz
  have e:((Array.range (len*j.size)).map (z.cells[· % z.cells.size]!)).getD k undef=z.cells.getD (k % (Zf j.zero).length) undef:=by
   have h1:(Array.range (len*j.size))[k]? = some k:=by simp[hk']
   rw[Array.getD_eq_getD_getElem?,Array.getElem?_map,h1]
   simp[hm,hsz,← z2]
  rw[e]
  exact .pure _ _ (z3 _ hz)
 obtain⟨zz,hz0,hzz⟩:∃ zz:Array Value,(len*j.size=0→zz=#[])∧(len*j.size≠0→zz=z.cells):=by
  by_cases h0:len*j.size=0
  ·exact⟨#[],fun _=>rfl,fun h=>absurd h0 h⟩
  ·exact⟨z.cells,fun h=>absurd h h0,fun _=>rfl⟩
 obtain⟨r,r1,r2,r3⟩:=fillD_ok (w:=w) (F:=Fb c ι st) (ι:=ι) (fun k=>some (k*j.size,j.size)) (parts.toList.map (fun p=>(p.1,a.eval p.2))) _ ((Array.range (len*j.size)).map (zz[· % zz.size]!)) _ out h (by simp) (fun k k1 k2=>by
  have k1':k<parts.toList.length:=by simpa using k1
  simp only[List.getElem_map]
  refine⟨trivial,?_⟩
  have hm:(parts.toList[k]).2∈o.op.operands:=by
   rw[ho]
   simp only[Op.operands,List.mem_toArray,List.mem_map]
   exact⟨_,List.getElem_mem k1',rfl⟩
  rw[← hρ _ hm]
  exact Zl hr _) (by simp[YR,hsz]) (hinit zz hzz)
 have hrun:(execOp a.eval o).run P w=.ok (.value (.slice (some ⟨w.heap.size,0,none⟩) len len)) (w.alloc (.cells r e)):=by
  rw[show execOp a.eval o=(do pure (.value (← Instr.buildSlice t len (parts.map fun (i,x)=>(i,a.eval x))))) by unfold execOp;rw[ho]]
  have hs:(sizeOf e).run P w=.ok j.size w:=Yb hty u2 w
  have ep:(parts.map fun (x:Nat×Operand)=>(x.1,a.eval x.2)).toList=parts.toList.map (fun p=>(p.1,a.eval p.2)):=by simp
  simp only[Instr.buildSlice,Sem.run_bind,run_underlying u1,Result.andThen_ok,hs,if_neg (show ¬ len*j.size > 2 ^ 24 by omega),Sem.run_pure]
  by_cases h0:len*j.size=0
  ·rw[hz0 h0] at r1
   rw[if_pos h0]
   simp only[Sem.run_bind,Sem.run_pure,Result.andThen_ok,ep,r1]
   rfl
  ·rw[hzz h0] at r1
   rw[if_neg h0]
   simp only[Sem.run_bind,z1,Sem.run_pure,Result.andThen_ok,ep,r1]
   rfl
 have hpure:∀ i (hi:i<out.length),RepP w (Fb c ι st) (r.getD i undef) out[i]:=fun i hi=>(r3 i hi).toP (D.los_at hp i hi)
 obtain⟨k1,k2⟩:=hr.newArr hnm r e j.size len (Z9 len j.size out) (by rw[rowsOf_length];exact Nat.le_refl _) (by omega) (rowsOf_row hol) (rowsOf_at hol hpure)
 unfold Oper.wp
 rw[hrun]
 refine hK _ _ _ (k1.put _ (.os nm len 0 len) ?_ o.dst hd)
 have:=Rep.newOs (w:=w.alloc (.cells r e)) (F:=Fb c (updI ι nm ⟨false,w.heap.size,j.size,(Z9 len j.size out).length,len,0⟩) (updS st nm (some (.arr j.size (Z9 len j.size out))))) (ι:=updI ι nm ⟨false,w.heap.size,j.size,(Z9 len j.size out).length,len,0⟩) (nm:=nm) (blk:=w.heap.size) (es:=j.size) (n:=len) (cap:=len) (by simp[updI,rowsOf_length]) (Nat.le_refl _)
 exact this
end
end
section
open Go Go.RowKit
def Yq(g:Nat→Option Blk):D→Option (List (List D))
 | .sl rows=>some rows
 | .nils=>some []
 | .sle=>some []
 | .os m hl lo len=>match g m with|some (.arr _ rows)=>if rows.length=hl∧lo+len≤hl then some ((rows.drop lo).take len) else none|_=>none
 | _=>none
theorem div_mod_lt{k n es:Nat}(h:k<n*es):k / es<n∧k % es<es∧k / es*es+k % es=k:=by
  have hpos : 0 < es := by rcases Nat.eq_zero_or_pos es with h0 | h0; · rw [h0, Nat.mul_zero] at h; omega
                           · exact h0
  exact⟨Nat.div_lt_of_lt_mul (by rwa [Nat.mul_comm] at h),Nat.mod_lt _ hpos,by rw[Nat.mul_comm];exact Nat.div_add_mod k es⟩
theorem src_mem{c:Ctx}{dom:Nat→Prop}{ι:Nat→Option IB}{a:Act}{w:World}{σ:Nat→D}{st g:Nat→Option Blk}(hr:Rel c dom ι a w σ st)(hg:∀ n b,g n=some b→st n=some b){v:Value}{d:D}{rows:List (List D)}{es:Nat}
  (hv:Rep w (Fb c ι st) ι v d) (hd:Yq g d=some rows) (hes:∀ r∈rows,r.length=es) :
  ∃ ad cap,v=.slice ad rows.length cap∧(rows≠[]→∃ b off,ad=some ⟨b,off,none⟩∧∃ cs:Nat→Value,(∀ k,k<rows.length*es→w.cell? ⟨b,off+k,none⟩=some (cs k))∧∀ i (hi:i<rows.length) j (hj:j<rows[i].length),RepP w (Fb c ι st) (cs (i*es+j)) rows[i][j]):=by
 cases d with
 | sl rows' =>
  cases hd
  cases hv.is_sl with
  | sl0 a cap=>exact⟨a,cap,rfl,fun h=>absurd rfl h⟩
  | sl b off es' cap rows vs hc hF hes' hm hz hr' =>
   refine⟨_,cap,rfl,fun hne=>⟨b,off,rfl,?_⟩⟩
   have he:es'=es:=by
    cases rows with
    | nil=>exact absurd rfl hne
    | cons r rs=>rw[← hes' r (by simp),hes r (by simp)]
   subst he
   refine⟨fun k=>vs (k / es') (k % es'),fun k hk=>?_,fun i hi j hj=>?_⟩
   ·obtain⟨k1,k2,k3⟩:=div_mod_lt hk
    have:=hm (k / es') (k % es') k1 k2
    rw[← this]
    congr 2
    rw[Nat.add_assoc,k3]
   ·have hj':j<es':=by rw[← hes _ (List.getElem_mem hi)];exact hj
    have e1:(i*es'+j) / es'=i:=by rw[Nat.mul_comm,Nat.mul_add_div (by omega),Nat.div_eq_of_lt hj'];omega
    have e2:(i*es'+j) % es'=j:=by rw[Nat.mul_comm,Nat.mul_add_mod,Nat.mod_eq_of_lt hj']
    simp only[e1,e2]
    exact hr' i hi j hj
 | nils=>cases hd;cases hv.is_nils;exact⟨none,0,rfl,fun h=>absurd rfl h⟩
 | sle =>
  cases hd
  obtain⟨a',cap',e'⟩:=(Le.sle' hv).sl_shape
  exact⟨a',cap',e',fun h=>absurd rfl h⟩
 | os m hl lo len =>
  simp only[Yq] at hd
  split at hd
  ·rename_i es0 rows0 hgm
   split at hd
   ·rename_i hcond
    obtain⟨c1,c2⟩:=hcond
    cases hd
    obtain⟨ib,a',cap,hn,e,q1,q2,q3,k2,k3,k4,k5,k6,k7⟩:=YX hr hg hv hgm c1
    have hlen:((rows0.drop lo).take len).length=len:=by simp;omega
    refine⟨a',cap,by rw[hlen];exact e,fun hne=>?_⟩
    have hpos:0<len:=by
     rcases Nat.eq_zero_or_pos len with h|h
     ·subst h;simp at hne
     ·exact h
    have hes0:es0=es:=by
     have h1:lo<rows0.length:=by omega
     have h2:=hes (rows0[lo]) (by
      refine List.mem_iff_getElem.2 ⟨0,by simp;omega,?_⟩
      simp)
     rw[← h2,k6 _ (List.getElem_mem h1)]
    subst hes0
    obtain⟨vs,ty,p1,p2,p3⟩:=k7 (by omega)
    obtain⟨hbl,ea⟩:=q3 (by omega)
    subst ea
    refine⟨ib.blk,(lo - ib.base)*ib.es,rfl,fun k=>vs.getD ((lo - ib.base)*es0+k) undef,fun k hk=>?_,fun i hi j hj=>?_⟩
    ·rw[hlen] at hk
     have:(lo - ib.base)*es0+k<vs.size:=by
      rw[p2]
      have:((lo - ib.base)+len)*es0≤(ib.cap - ib.base)*es0:=Nat.mul_le_mul_right _ (by omega)
      rw[Nat.add_mul] at this
      omega
     rw[cell_of_row w ib.blk _ _ _ _ p1,k3]
     simp[this]
    ·have hi':lo+i<rows0.length:=by rw[hlen] at hi;omega
     have er:((rows0.drop lo).take len)[i]=rows0[lo+i]:=by simp
     have hj':j<(rows0[lo+i]).length:=by rw[← er];exact hj
     have:=p3 (lo+i) hi' j hj' (by omega)
     have e2:((rows0.drop lo).take len)[i][j]=rows0[lo+i][j]:=by simp
     rw[e2]
     show RepP w (Fb c ι st) (vs.getD ((lo - ib.base)*es0+(i*es0+j)) undef) _
     rw[show (lo - ib.base)*es0+(i*es0+j)=(lo+i - ib.base)*es0+j by rw[show lo+i - ib.base=(lo - ib.base)+i by omega,Nat.add_mul];omega]
     exact this
   ·cases hd
  ·cases hd
 | _=>cases hd
theorem src_ok{P:Program}{c:Ctx}{dom:Nat→Prop}{ι:Nat→Option IB}{a:Act}{w:World}{σ:Nat→D}{st g:Nat→Option Blk}(hr:Rel c dom ι a w σ st)(hg:∀ n b,g n=some b→st n=some b){v:Value}{d:D}{rows:List (List D)}{es tx e':Nat}(htx:P.underlying tx=some (.slice e'))
  (hv:Rep w (Fb c ι st) ι v d) (hd:Yq g d=some rows) (hes:∀ r∈rows,r.length=es) (hone:∀ r∈rows,onesD r=true) :
  ∃ news:List Value,Src P es tx v rows.length news w∧∀ i (hi:i<rows.length) j (hj:j<rows[i].length),RepP w (Fb c ι st) (news.getD (i*es+j) undef) rows[i][j]:=by
 obtain⟨ad,cap,rfl,hm⟩:=src_mem hr hg hv hd hes
 by_cases hne:rows=[]
 ·subst hne
  refine⟨[],?_,fun i hi=>absurd hi (Nat.not_lt_zero _)⟩
  cases ad with
  | none=>exact Src.ofNil w htx cap
  | some ad=>exact Src.ofSlice w htx ad 0 cap [] (by simp) (fun j u h=>by simp at h) (fun u h=>by cases h)
 ·obtain⟨b,off,rfl,cs,h1,h2⟩:=hm hne
  refine⟨(List.range (rows.length*es)).map cs,Src.ofSlice w htx _ _ cap _ (by simp) (fun j u hj=>?_) (fun u hu=>?_),fun i hi j hj=>?_⟩
  ·rw[List.getElem?_map] at hj
   by_cases hlt:j<rows.length*es
   ·rw[List.getElem?_range hlt] at hj
    cases hj
    rw[YO];exact h1 j hlt
   ·rw[List.getElem?_eq_none (by simpa using hlt)] at hj;cases hj
  ·obtain⟨k,hk,rfl⟩:=List.mem_map.1 hu
   have hlt:k<rows.length*es:=List.mem_range.1 hk
   obtain⟨k1,k2,k3⟩:=div_mod_lt hlt
   have hj:k % es<(rows[k / es]).length:=by rw[hes _ (List.getElem_mem k1)];exact k2
   have:=h2 (k / es) k1 (k % es) hj
   rw[k3] at this
   exact oneD_ok (ι:=fun _=>none) (.pure _ _ this) (List.all_eq_true.1 (hone _ (List.getElem_mem k1)) _ (List.getElem_mem hj))
  ·have hj':j<es:=by rw[← hes _ (List.getElem_mem hi)];exact hj
   have hlt:=Yc hi hj'
   have e:((List.range (rows.length*es)).map cs).getD (i*es+j) undef=cs (i*es+j):=by simp[hlt]
   rw[e]
   exact h2 i hi j hj
end
section
open Go Go.RowKit
theorem BlkRep.oldCells{w:World}{F:Nat→Prop}{es:Nat}{rows:List (List D)}{vs:Array Value}(hes:∀ r∈rows,r.length=es)(h:∀ i (hi:i<rows.length) j (hj:j<rows[i].length),RepP w F (vs.getD (i*es+j) undef) rows[i][j])(hsz:rows.length*es≤vs.size)(new:List Value)(rest:Array Value)(rows2:List (List D))(hes2:∀ r∈rows2,r.length=es)(hl:new.length=rows2.length*es)
  (h2:∀ i (hi:i<rows2.length) j (hj:j<rows2[i].length),RepP w F (new.getD (i*es+j) undef) rows2[i][j]) :
  ∀ i (hi:i<(rows++rows2).length) j (hj:j<(rows++rows2)[i].length),RepP w F (((vs.toList.take (rows.length*es)++new).toArray++rest).getD (i*es+j) undef) (rows++rows2)[i][j]:=by
 intro i hi j hj
 have hj':j<es:=by
  have:(rows++rows2)[i].length=es:=by
   rcases List.mem_append.1 (List.getElem_mem hi) with hm|hm
   ·exact hes _ hm
   ·exact hes2 _ hm
  omega
 by_cases c1:i<rows.length
 ·have e:(rows++rows2)[i]=rows[i]:=List.getElem_append_left c1
  have hlt:=Yc c1 hj'
  have e2:((vs.toList.take (rows.length*es)++new).toArray++rest).getD (i*es+j) undef=vs.getD (i*es+j) undef:=by
   have h3:i*es+j<vs.size:=by omega
   simp[Array.getElem?_append,h3,show i*es+j<min (rows.length*es) vs.size by omega,show i*es+j<min (rows.length*es) vs.size+new.length by omega]
  rw[e2]
  have:=h i c1 j (by rw[← e];exact hj)
  simpa only[e] using this
 ·have hi2:i - rows.length<rows2.length:=by simp at hi;omega
  have e:(rows++rows2)[i]=rows2[i - rows.length]:=List.getElem_append_right (by omega)
  have hlt:=Yc hi2 hj'
  have hmul:i*es+j=rows.length*es+((i - rows.length)*es+j):=by
   rw[← Nat.add_assoc,← Nat.add_mul,show rows.length+(i - rows.length)=i by omega]
  have e2:((vs.toList.take (rows.length*es)++new).toArray++rest).getD (i*es+j) undef=new.getD ((i - rows.length)*es+j) undef:=by
   rw[hmul]
   simp[Array.getElem?_append,show min (rows.length*es) vs.size=rows.length*es by omega,show (i - rows.length)*es+j<new.length by omega]
  rw[e2]
  have:=h2 _ hi2 j (by rw[← e];exact hj)
  simpa only[e] using this
theorem Xa{P:Program}(w:World)(t tx ty e:TypeId)(i:TypeInfo)(ht:P.underlying t=some (.slice e))(hi:P.info? e=some i)(base:Option Addr)(sLen sCap:Nat)(hle:sLen≤sCap)(x:Value)(hs:Src P i.size tx x 0 [] w) :
  (Builtin.append_ #[t,tx] ty #[.slice base sLen sCap,x]).run P w=.ok (.slice base sLen sCap) w:=by
 rcases hs.kind with⟨e',hk⟩|hk<;>cases base<;>simp[Builtin.append_,run_underlying ht,run_underlying hk,sizeOf,typeInfo,hi,hs.len,hle,hs.cells,storeCells]
theorem Rel.newNil{c:Ctx}{dom:Nat→Prop}{ι:Nat→Option IB}{a:Act}{w:World}{σ:Nat→D}{st:Nat→Option Blk}(h:Rel c dom ι a w σ st){nm:Nat}(hnm:¬ dom nm)(es:Nat) :
  let ib:IB:=⟨false,0,es,0,0,0⟩
  Rel c (fun m=>dom m∨m=nm) (updI ι nm ib) a w σ (updS st nm (some (.arr es [])))∧(∀ v d,Rep w (Fb c ι st) ι v d→Rep w (Fb c (updI ι nm ib) (updS st nm (some (.arr es [])))) (updI ι nm ib) v d):=by
 obtain⟨h1,h2⟩:=h.none_of hnm
 refine h.one nm ⟨false,0,es,0,0,0⟩ (.arr es []) rfl rfl rfl (Nat.le_refl _) (fun b hb=>.inl rfl) (fun hc=>absurd hc (Nat.lt_irrefl 0)) (fun ib hib=>by rw[h1] at hib;cases hib) (fun f1 f2=>?_)
 exact⟨⟨false,0,es,0,0,0⟩,by simp[updI],rfl,rfl,rfl,Nat.le_refl _,(fun r hr=>by cases hr),fun hc=>absurd hc (Nat.lt_irrefl 0)⟩
theorem Rep.nilOs{w:World}{F:Nat→Prop}{ι:Nat→Option IB}{nm es:Nat}(hι:ι nm=some ⟨false,0,es,0,0,0⟩):Rep w F ι (.slice none 0 0) (.os nm 0 0 0) :=
 .os nm 0 0 0 _ _ hι (Nat.le_refl _) rfl (fun _=>⟨none,0,rfl,Nat.le_refl _,rfl,fun h=>absurd h (Nat.lt_irrefl 0),fun h=>absurd h (Nat.lt_irrefl 0)⟩)
section
variable {P:Program} {G:Nat→Option (List D)} {Ty:Nat→Option TyI} {o:Oper} {ρ:Operand→D} {g:Nat→Option Blk} {nm:Nat}
theorem Yn{cs:Array Bool}{tys:Array TypeId}{ty:Nat}{args:Array Value}{w w':World}{v:Value}(h:(Builtin.append_ tys ty args).run P w=.ok v w'):(builtin .append tys ty cs args).run P w=.ok (.value v) w':=by
 simp only[builtin,Sem.run_bind,h,Result.andThen_ok];rfl
theorem le_bytes{n b:Nat}(h:n*b≤1000000000000):n*b≤140737488355328:=by omega
theorem do_append_nil(hty:TyOK P Ty){t tx e:Nat}{j jx:TyI}{ex:Nat}{x y:Operand}{rows:List (List D)}(ho:o.op=Ym .append #[x,y] #[t,tx])(he:ZN Ty t=some (e,j))(hex:ZN Ty tx=some (ex,jx))(hx:ρ x=.nils)(hy:Yq g (ρ y)=some rows)
  (hsz:(Zf j.zero).length=j.size) (hst:Z5 j.zero=true) (hes:∀ r∈rows,r.length=j.size) (hone:∀ r∈rows,onesD r=true) (hb:rows.length*j.bytes≤1000000000000) (hb2:rows.length≤1000000000000) :
  Do P G o ρ g nm (.os nm rows.length 0 rows.length) [(nm,some (.arr j.size rows))]:=by
 intro c dom ι a w σ st K Q hP hG hr hρ hg hnm hd hK
 subst hG
 have hvx:=Zl hr x
 rw[hρ x (by rw[ho];simp[Ym,Op.operands,Call.operands]),hx] at hvx
 have hvy:=Zl hr y
 rw[hρ y (by rw[ho];simp[Ym,Op.operands,Call.operands])] at hvy
 obtain⟨u1,u2⟩:=ZL hty he
 obtain⟨u3,_⟩:=ZL hty hex
 obtain⟨z,z1,z1',⟨info,i1,i2,i3,i4⟩,z2,z3⟩:=YM (w:=w) (F:=Fb c ι st) hty u2 hsz hst
 obtain⟨news,hsrc,hnews⟩:=src_ok (P:=P) hr hg u3 hvy hy hes hone
 obtain⟨cs,hcs⟩:=YC (ev:=a.eval) ho
 unfold Oper.wp
 rw[hcs]
 simp only[List.map_toArray,List.map_cons,List.map_nil,hvx.is_nils]
 by_cases h0:rows=[]
 ·subst h0
  have hn0:news=[]:=List.eq_nil_of_length_eq_zero (by have:=hsrc.newsLen;simpa using this)
  subst hn0
  rw[Yn (Xa w t tx o.type e info u1 i1 none 0 0 (Nat.le_refl _) _ (by rw[i2];exact hsrc))]
  obtain⟨k1,k2⟩:=hr.newNil hnm j.size
  exact hK _ _ _ (k1.put _ (.os nm 0 0 0) (Rep.nilOs (es:=j.size) (by simp[updI])) o.dst hd)
 ·have hpos:0<rows.length:=List.length_pos_iff.2 h0
  have hg':=run_append_grow_src (P:=P) w t tx o.type e info z u1 i1 i4 none 0 0 [] (by simp[Builtin.firstCells]) (a.eval y) rows.length news (by rw[i2];exact hsrc) (by omega) (by omega) (by rw[i3,Nat.zero_add];exact growslice_fits hpos (le_bytes hb))
  rw[Yn hg']
  have hcap:rows.length≤grownCap w (0+rows.length) 0 e:=by have:=grownCap_ge w (0+rows.length) 0 e;omega
  generalize grownCap w (0+rows.length) 0 e=cap at hcap ⊢
  have hz:(Builtin.zeroCells z.cells (cap - (0+rows.length))).size=(cap - rows.length)*j.size:=by rw[size_zeroCells,z2,Nat.zero_add]
  generalize Builtin.zeroCells z.cells (cap - (0+rows.length))=rest at hz ⊢
  have hcells:=BlkRep.oldCells (w:=w) (F:=Fb c ι st) (es:=j.size) (rows:=[]) (vs:=#[]) (fun r hr=>by cases hr) (fun i hi=>absurd hi (Nat.not_lt_zero _)) (by simp) news rest rows hes hsrc.newsLen hnews
  have hsize:((([]:List Value)++news).toArray++rest).size=cap*j.size:=by
   have:=hsrc.newsLen
   have h2:rows.length*j.size+(cap - rows.length)*j.size=cap*j.size:=by rw[← Nat.add_mul];congr 1;omega
   simp;omega
  have hcells':∀ i (hi:i<rows.length) k (hk:k<rows[i].length),RepP w.drew (Fb c ι st) (((([]:List Value)++news).toArray++rest).getD (i*j.size+k) undef) rows[i][k]:=fun i hi k hk=>by
   have:=hcells i hi k hk
   refine RepP.mono ?_ (fun b h1 h2=>⟨rfl,h1⟩) (w:=w)
   simpa using this
  obtain⟨k1,k2⟩:=hr.drew.newArr hnm _ e j.size cap rows hcap hsize hes hcells'
  refine hK _ _ _ (k1.put _ (.os nm rows.length 0 rows.length) ?_ o.dst hd)
  have:=Rep.newOs (w:=w.drew.alloc (.cells ((([]:List Value)++news).toArray++rest) e)) (F:=Fb c (updI ι nm ⟨false,w.heap.size,j.size,rows.length,cap,0⟩) (updS st nm (some (.arr j.size rows)))) (ι:=updI ι nm ⟨false,w.heap.size,j.size,rows.length,cap,0⟩) (nm:=nm) (blk:=w.heap.size) (es:=j.size) (n:=rows.length) (cap:=cap) (by simp[updI]) hcap
  rw[Nat.zero_add]
  exact this
end
end
section
open Go Go.RowKit
theorem setCells_row{w:World}{b off:Nat}{t:TypeId}{cur:Array Value}{vs:List Value}(hg:w.heap[b]? = some (.cells cur t (0,0)))(hle:off+vs.length≤cur.size)(h1:∀ v∈vs,v.oneCell'=true) :
  w.setCells b off vs=w.setRow b (cur.toList.take off++vs++cur.toList.drop (off+vs.length)).toArray:=by
 have r1:=run_storeCells_cells (P:=default) b off vs 0 w (fun j hj=>by rw[Nat.add_zero,cell_of_row w b _ _ _ _ hg];simp;omega) (fun j hj=>by simp[World.frozen?,hg]) h1
 have r2:=run_storeCells_at default b off t vs 0 cur w hg (by simpa using hle) h1
 rw[r1] at r2
 simp only[Nat.add_zero,Result.ok.injEq,true_and] at r2
 exact r2
theorem rows_drop{w:World}{F:Nat→Prop}{es base:Nat}{rows:List (List D)}{vs:Array Value}(h:∀ i (hi:i<rows.length) j (hj:j<rows[i].length),base≤i→RepP w F (vs.getD ((i - base)*es+j) undef) rows[i][j]) :
  ∀ i (hi:i<(rows.drop base).length) j (hj:j<(rows.drop base)[i].length),RepP w F (vs.getD (i*es+j) undef) (rows.drop base)[i][j]:=by
 intro i hi j hj
 have hi':base+i<rows.length:=by simp at hi;omega
 have e:(rows.drop base)[i]=rows[base+i]:=by simp
 have:=h (base+i) hi' j (by rw[← e];exact hj) (by omega)
 rw[show base+i - base=i by omega] at this
 simpa only[e] using this
theorem drop_rows{w:World}{F:Nat→Prop}{es base:Nat}{rows R:List (List D)}{vs:Array Value}(e:rows.drop base=R)(h:∀ i (hi:i<R.length) j (hj:j<R[i].length),RepP w F (vs.getD (i*es+j) undef) R[i][j]) :
  ∀ i (hi:i<rows.length) j (hj:j<rows[i].length),base≤i→RepP w F (vs.getD ((i - base)*es+j) undef) rows[i][j]:=by
 subst e
 intro i hi j hj hb
 have hi':i - base<(rows.drop base).length:=by simp;omega
 have e:(rows.drop base)[i - base]=rows[i]:=by simp[show base+(i - base)=i by omega]
 have:=h (i - base) hi' j (by rw[e];exact hj)
 simpa only[e] using this
section
variable {P:Program} {G:Nat→Option (List D)} {Ty:Nat→Option TyI} {o:Oper} {ρ:Operand→D} {g:Nat→Option Blk} {nm:Nat}
theorem do_append_os(hty:TyOK P Ty){t tx e:Nat}{j jx:TyI}{ex:Nat}{x y:Operand}{n hl lo len es:Nat}{rows0 rows:List (List D)}(ho:o.op=Ym .append #[x,y] #[t,tx])(he:ZN Ty t=some (e,j))(hex:ZN Ty tx=some (ex,jx))(hx:ρ x=.os n hl lo len)(hll:lo+len=hl)(hgn:g n=some (.arr es rows0))(hlen:rows0.length=hl)(hese:es=j.size)(hy:Yq g (ρ y)=some rows)
  (hsz:(Zf j.zero).length=j.size) (hst:Z5 j.zero=true) (hes:∀ r∈rows,r.length=j.size) (hone:∀ r∈rows,onesD r=true) (hb:(hl+rows.length)*j.bytes≤1000000000000) (hb2:hl+rows.length≤1000000000000) :
  Do P G o ρ g nm (.os n (hl+rows.length) lo (len+rows.length)) [(n,some (.arr es (rows0++rows)))]:=by
 intro c dom ι a w σ st K Q hP hG hr hρ hg hnm hd hK
 subst hG
 subst hese
 have hvx:=Zl hr x
 rw[hρ x (by rw[ho];simp[Ym,Op.operands,Call.operands]),hx] at hvx
 have hvy:=Zl hr y
 rw[hρ y (by rw[ho];simp[Ym,Op.operands,Call.operands])] at hvy
 obtain⟨u1,u2⟩:=ZL hty he
 obtain⟨u3,_⟩:=ZL hty hex
 obtain⟨z,z1,z1',⟨info,i1,i2,i3,i4⟩,z2,z3⟩:=YM (w:=w) (F:=Fb c ι st) hty u2 hsz hst
 obtain⟨news,hsrc,hnews⟩:=src_ok (P:=P) hr hg u3 hvy hy hes hone
 obtain⟨cs,hcs⟩:=YC (ev:=a.eval) ho
 obtain⟨ib,a',cap,hn,e',q1,q2,q3,k2,k3,k4,k5,k6,k7⟩:=YX hr hg hvx hgn hlen
 have hso:(st n).isSome=true:=by rw[hg n _ hgn];rfl
 have hdn:dom n:=hr.dom n (by rw[hn];rfl)
 have hbytes:(len+rows.length)*j.bytes≤1000000000000:=Nat.le_trans (Nat.mul_le_mul_right _ (by omega)) hb
 unfold Oper.wp
 rw[hcs]
 simp only[List.map_toArray,List.map_cons,List.map_nil,e']
 by_cases h0:rows=[]
 ·subst h0
  have hn0:news=[]:=List.eq_nil_of_length_eq_zero (by have:=hsrc.newsLen;simpa using this)
  subst hn0
  rw[Yn (Xa w t tx o.type e info u1 i1 a' len cap q1 _ (by rw[i2];exact hsrc))]
  have hst':updL st [(n,some (.arr j.size (rows0++[])))]=st:=by
   funext m
   simp only[updL,updS,List.append_nil]
   by_cases e:m=n
   ·subst e;rw[if_pos rfl];exact (hg m _ hgn).symm
   ·rw[if_neg e]
  refine hK _ _ ι ?_
  rw[hst']
  refine (hr.put (.slice a' len cap) (.os n hl lo len) ?_ o.dst hd).weaken (fun _=>Le.refl _) (fun _ h=>.inl h)
  rw[← e'];exact hvx
 ·have hpos:0<rows.length:=List.length_pos_iff.2 h0
  have hnl:=hsrc.newsLen
  by_cases hroom:len+rows.length≤cap
  ·have hc0:0<cap:=by omega
   obtain⟨hbl,ea⟩:=q3 hc0
   subst ea
   have hcb:0<ib.cap:=by omega
   obtain⟨vs,ty,p1,p2,p3⟩:=k7 hcb
   have p3:=rows_drop p3
   obtain⟨B,hB⟩:∃ B,B=ib.base:=⟨_,rfl⟩
   rw[← hB] at hbl p2 p3
   have hdl:(rows0.drop B).length=hl - B:=by simp[hlen]
   have hoff:(lo - B)*j.size+len*j.size=(hl - B)*j.size:=by rw[← Nat.add_mul];congr 1;omega
   have hmul:(hl - B+rows.length)*j.size≤(ib.cap - B)*j.size:=Nat.mul_le_mul_right _ (by omega)
   rw[Nat.add_mul] at hmul
   have hrun:=run_append_room_src (P:=P) w t tx o.type e info u1 i1 ib.blk ((lo - B)*ib.es) len cap (a.eval y) rows.length news (by rw[i2];exact hsrc) hroom
    (fun k hk=>by rw[cell_of_row w ib.blk _ _ _ _ p1];rw[i2,k3];simp;omega) (fun k hk=>by simp[World.frozen?,p1])
   rw[← hB,Yn hrun]
   simp only[i2,k3]
   rw[hoff,setCells_row p1 (by omega) hsrc.one]
   generalize hnew:(vs.toList.take ((hl - B)*j.size)++news++vs.toList.drop ((hl - B)*j.size+news.length)).toArray=new
   have hcells:=BlkRep.oldCells (w:=w) (F:=Fb c ι st) (rows:=rows0.drop B) (fun r hr=>k6 r (List.mem_of_mem_drop hr)) p3 (by rw[p2,hdl];omega) news (vs.toList.drop ((hl - B)*j.size+news.length)).toArray rows hes hnl hnews
   have hnew':(vs.toList.take ((rows0.drop B).length*j.size)++news).toArray++(vs.toList.drop ((hl - B)*j.size+news.length)).toArray=new:=by rw[← hnew,hdl];simp
   rw[hnew'] at hcells
   have hcells:=drop_rows (rows:=rows0++rows) (List.drop_append_of_le_length (by omega)) hcells
   have hones:=hr.one (w':=w.setRow ib.blk new) n { ib with hl:=hl+rows.length } (.arr j.size (rows0++rows)) rfl rfl rfl (by simp)
    (fun b hb'=>by
     by_cases e:b=ib.blk
     ·exact .inr ⟨ib,hn,hso,hcb,e⟩
     ·exact .inl (setRow_other w _ _ _ e))
    (fun _=>⟨by simp;exact (hr.own ib.blk ⟨n,ib,hso,hn,hcb,rfl⟩).1,.inl ⟨ib,hn,hso,hcb,rfl⟩⟩)
    (fun ib2 h2=>by
     have:ib2=ib:=Option.some.inj (h2.symm.trans hn)
     subst this
     exact .inr ⟨k2,by show ib2.hl<hl+rows.length;omega⟩)
    (fun f1 f2=>⟨{ ib with hl:=hl+rows.length },by simp[updI],k2,k3,by simp[hlen],by simp;omega,(fun r hr'=>by
     rcases List.mem_append.1 hr' with h|h
     ·exact k6 r h
     ·exact hes r h),fun _=>⟨new,ty,setRow_heap w _ vs _ ty _ p1,by
      rw[← hnew]
      have:(hl - B)*j.size+news.length≤vs.size:=by omega
      show _=(ib.cap - ib.base)*j.size
      rw[← hB]
      simp
      omega,fun i hi k hk hb=>f2 _ _ (by
       have:=hcells i hi k hk (by rw[hB];exact hb)
       rw[hB] at this
       exact this)⟩⟩)
   obtain⟨r1,r2⟩:=hones
   refine hK _ _ _ ((r1.put _ (.os n (hl+rows.length) lo (len+rows.length)) ?_ o.dst hd).weaken (fun _=>Le.refl _) (fun m hm=>.inl (hm.elim id (fun e=>e▸hdn))))
   exact .os n _ lo _ { ib with hl:=hl+rows.length } _ (by simp[updI]) (Nat.le_refl _) rfl (fun _=>⟨_,cap,rfl,hroom,q2,fun _=>⟨by rw[← hB];exact hbl,by rw[← hB,k3]⟩,fun _=>by rfl⟩)
  ·obtain⟨olds,hold,o1,o2⟩:∃ olds:List Value,(Builtin.firstCells info.size len (.slice a' len cap)).run P w.drew=.ok olds.toArray w.drew∧olds.length=len*j.size∧∀ i (hi:i<(rows0.drop lo).length) k (hk:k<(rows0.drop lo)[i].length),RepP w (Fb c ι st) (olds.toArray.getD (i*j.size+k) undef) (rows0.drop lo)[i][k]:=by
    rcases Nat.eq_zero_or_pos len with h|h
    ·refine⟨[],?_,by simp[h],fun i hi=>by simp at hi;omega⟩
     subst h
     cases a'<;>simp[Builtin.firstCells,loadCells,loadCellsFrom]
    ·have hc0:0<cap:=by omega
     obtain⟨hbl,ea⟩:=q3 hc0
     subst ea
     obtain⟨vs,ty,p1,p2,p3⟩:=k7 (by omega)
     obtain⟨B,hB⟩:∃ B,B=ib.base:=⟨_,rfl⟩
     rw[← hB] at hbl p2 p3
     have hle:((lo - B)+len)*j.size≤vs.size:=by rw[p2];exact Nat.mul_le_mul_right _ (by omega)
     rw[Nat.add_mul] at hle
     refine⟨(vs.toList.drop ((lo - B)*j.size)).take (len*j.size),run_firstCells_some w.drew info.size len _ len cap _ (by rw[i2];simp;omega) (fun k u hk=>?_),by simp;omega,fun i hi k hk=>?_⟩
     ·rw[YO,← hB,k3]
      rw[List.getElem?_take] at hk
      split at hk
      ·rename_i hlt
       rw[World.cell?_drew,cell_of_row w ib.blk _ _ _ _ p1]
       simpa using hk
      ·cases hk
     ·have hi':lo+i<rows0.length:=by simp at hi;omega
      have er:(rows0.drop lo)[i]=rows0[lo+i]:=by simp
      have hk':k<j.size:=by rw[← k6 _ (List.getElem_mem hi'),← er];exact hk
      have hlt:i*j.size+k<len*j.size:=Yc (by simp at hi;omega) hk'
      have e:((vs.toList.drop ((lo - B)*j.size)).take (len*j.size)).toArray.getD (i*j.size+k) undef=vs.getD ((lo+i - B)*j.size+k) undef:=by
       rw[show lo+i - B=(lo - B)+i by omega,Nat.add_mul,Nat.add_assoc]
       simp[hlt]
      rw[e]
      have:=p3 (lo+i) hi' k (by rw[← er];exact hk) (by omega)
      simpa only[er] using this
   have hg':=run_append_grow_src (P:=P) w t tx o.type e info z u1 i1 i4 a' len cap olds hold (a.eval y) rows.length news (by rw[i2];exact hsrc) (by omega) (by omega) (by rw[i3];exact growslice_fits (by omega) (le_bytes hbytes))
   rw[Yn hg']
   have hcap:len+rows.length≤grownCap w (len+rows.length) cap e:=grownCap_ge w (len+rows.length) cap e
   generalize grownCap w (len+rows.length) cap e=cap2 at hcap ⊢
   have hz:(Builtin.zeroCells z.cells (cap2 - (len+rows.length))).size=(cap2 - (len+rows.length))*j.size:=by rw[size_zeroCells,z2]
   generalize Builtin.zeroCells z.cells (cap2 - (len+rows.length))=rest at hz ⊢
   have hdl:(rows0.drop lo).length=len:=by simp;omega
   have hcells:=BlkRep.oldCells (w:=w) (F:=Fb c ι st) (rows:=rows0.drop lo) (fun r hr=>k6 r (List.mem_of_mem_drop hr)) o2 (by simp[o1];rw[← hdl];simp) news rest rows hes hnl hnews
   rw[show olds.toArray.toList.take ((rows0.drop lo).length*j.size)=olds by rw[List.toList_toArray];exact List.take_of_length_le (by rw[o1,hdl];exact Nat.le_refl _)] at hcells
   have hsize:((olds++news).toArray++rest).size=cap2*j.size:=by
    have h2:(len+rows.length)*j.size+(cap2 - (len+rows.length))*j.size=cap2*j.size:=by rw[← Nat.add_mul];congr 1;omega
    rw[Nat.add_mul] at h2
    simp;omega
   generalize (olds++news).toArray++rest=new at hcells hsize ⊢
   have hcells:=drop_rows (rows:=rows0++rows) (List.drop_append_of_le_length (by omega)) hcells
   have hrd:=hr.drew
   have hones:=hrd.one (w':=w.drew.alloc (.cells new e)) n ⟨false,w.heap.size,j.size,hl+rows.length,cap2+lo,lo⟩ (.arr j.size (rows0++rows)) rfl rfl rfl (by simp)
    (fun b hb'=>.inl (Below.heap_alloc w.drew _ b hb'))
    (fun _=>⟨by simp,.inr (Nat.le_refl _)⟩)
    (fun ib2 h2=>by
     have:ib2=ib:=Option.some.inj (h2.symm.trans hn)
     subst this
     exact .inr ⟨k2,by show ib2.hl<hl+rows.length;omega⟩)
    (fun f1 f2=>⟨⟨false,w.heap.size,j.size,hl+rows.length,cap2+lo,lo⟩,by simp[updI],rfl,rfl,by simp[hlen],by simp;omega,(fun r hr'=>by
     rcases List.mem_append.1 hr' with h|h
     ·exact k6 r h
     ·exact hes r h),fun _=>⟨new,e,Xp w.drew _,by rw[hsize];simp,fun i hi k hk hb=>f2 _ _ ((hcells i hi k hk hb).mono (fun b h1 h2=>⟨rfl,h1⟩))⟩⟩)
   obtain⟨r1,r2⟩:=hones
   refine hK _ _ _ ((r1.put _ (.os n (hl+rows.length) lo (len+rows.length)) ?_ o.dst hd).weaken (fun _=>Le.refl _) (fun m hm=>.inl (hm.elim id (fun e=>e▸hdn))))
   exact .os n _ lo _ ⟨false,w.heap.size,j.size,hl+rows.length,cap2+lo,lo⟩ _ (by simp[updI]) (Nat.le_refl _) rfl (fun _=>⟨_,cap2,rfl,hcap,rfl,fun _=>⟨Nat.le_refl _,by simp⟩,fun _=>rfl⟩)
end
end
end Go.Proofs.YtjdgofpcmcobnaaGreatDoor.AL

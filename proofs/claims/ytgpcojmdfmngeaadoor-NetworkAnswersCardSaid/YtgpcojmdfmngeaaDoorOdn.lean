/-
  A copy of a network in new memory, of which one thing is changed: what mk.Odd keeps.
-/
import Derived.Test.YtgpcojmdfmngeaaDoorL03o
import Derived.Test.YtgpcojmdfmngeaaDoorGa
namespace Go.Proofs.YtgpcojmdfmngeaaDoor
open Go.RowKit
set_option maxHeartbeats 400000

structure OD (w W : World) (bd gb : Nat) (A1 : Option Addr) (c1 : Nat) (ns : List Node) (A2 : Option Addr) (c2 : Nat) (ds : List Dev) : Prop where
  deck : Deck W bd
  o1 : OV W (fun g => gb + 1 < g) 104 3 A1 ns.length c1 (nodesV ns)
  o2 : OV W (fun g => gb + 1 < g) 78 5 A2 ds.length c2 (devsV ds)
  box : W.heap[gb]? = some (.cells #[.slice A1 ns.length c1, .slice A2 ds.length c2] 26 (0, 0))
  res : W.heap[gb + 1]? = some (.cells #[.slice none 0 0, .slice none 0 0] 26 (0, 0))
  bdg : bd < gb
  old : Fr gb bd w W
  nsz : ∀ x ∈ ns, x.name.size ≤ maxLen
  dsz : ∀ d ∈ ds, d.name.size ≤ maxLen
section
variable {w W W' : World} {bd gb : Nat} {A1 A2 : Option Addr} {c1 c2 : Nat} {ns : List Node} {ds : List Dev}
theorem OD.top (h : OD w W bd gb A1 c1 ns A2 c2 ds) : gb + 1 < W.heap.size := (Array.getElem?_eq_some_iff.1 h.res).1
theorem OD.fr (h : OD w W bd gb A1 c1 ns A2 c2 ds) (hf : Fr W.heap.size bd W W') (hd : Deck W' bd) : OD w W' bd gb A1 c1 ns A2 c2 ds := by
  have ht := h.top
  have hb := h.bdg
  refine ⟨hd, h.o1.keep ⟨hf.size, fun b hs hl => hf.block b hl (by omega)⟩, h.o2.keep ⟨hf.size, fun b hs hl => hf.block b hl (by omega)⟩, (hf.block gb (by omega) (by omega)).trans h.box, (hf.block (gb + 1) ht (by omega)).trans h.res, hb,
    h.old.trans ⟨hf.os, hf.tape, hf.output, hf.size, fun k hk hn => hf.block k (by omega) hn⟩, h.nsz, h.dsz⟩
theorem OD.n0 (h : OD w W bd gb A1 c1 ns A2 c2 ds) : W.cell? ⟨gb, 0, none⟩ = some (.slice A1 ns.length c1) := by rw [cell_of_row W _ 0 _ _ _ h.box]; rfl
theorem OD.n1 (h : OD w W bd gb A1 c1 ns A2 c2 ds) : W.cell? ⟨gb, 1, none⟩ = some (.slice A2 ds.length c2) := by rw [cell_of_row W _ 1 _ _ _ h.box]; rfl
theorem OD.reset (L : OD w W bd gb A1 c1 ns A2 c2 ds) {g o : Nat} {u : Value} (hg : gb + 1 < g) {ns' : List Node} {ds' : List Dev} (h1 : ns'.length = ns.length) (h2 : ds'.length = ds.length)
    (o1 : OV (W.setCell ⟨g, o, none⟩ u) (fun g => gb + 1 < g) 104 3 A1 ns'.length c1 (nodesV ns')) (o2 : OV (W.setCell ⟨g, o, none⟩ u) (fun g => gb + 1 < g) 78 5 A2 ds'.length c2 (devsV ds'))
    (s1 : ∀ x ∈ ns', x.name.size ≤ maxLen) (s2 : ∀ d ∈ ds', d.name.size ≤ maxLen) : OD w (W.setCell ⟨g, o, none⟩ u) bd gb A1 c1 ns' A2 c2 ds' := by
  have hb := L.bdg
  refine ⟨L.deck.keep (fun b hb => Below.heap_setCell _ _ _ _ (by show b ≠ g; omega)) (by simp [World.setCell]), o1, o2, ?_, ?_, hb, ?_, s1, s2⟩
  · rw [Below.heap_setCell _ _ _ _ (show gb ≠ g by omega), h1, h2]
    exact L.box
  · rw [Below.heap_setCell _ _ _ _ (show gb + 1 ≠ g by omega)]
    exact L.res
  · exact ⟨L.old.os, L.old.tape, L.old.output, by have := L.old.size; simpa [World.setCell] using this, fun k hk hn => (Below.heap_setCell _ _ _ _ (show k ≠ g by omega)).trans (L.old.block k hk hn)⟩
theorem OD.setNode (L : OD w W bd gb A1 c1 ns A2 c2 ds) {v j : Nat} (hv : v < ns.length) (hj : j < 3) (u : Value) (x : Node) (hx : nodeCells x = (nodeCells ns[v]).set j u) (hxs : x.name.size ≤ maxLen) :
    ∃ g off q, A1 = some ⟨g, off, none⟩ ∧ W.cell? ⟨g, off + v * 3 + j, none⟩ = some q ∧ W.frozen? ⟨g, off + v * 3 + j, none⟩ = false ∧ OD w (W.setCell ⟨g, off + v * 3 + j, none⟩ u) bd gb A1 c1 (ns.set v x) A2 c2 ds := by
  obtain ⟨g, off, e, hS, hgl, hc, hf⟩ := L.o1.cell (j := v * 3 + j) (by rw [nodesV_len]; omega)
  subst e
  obtain ⟨_, cur, hcur⟩ := L.o1.type g rfl
  have hset := L.o1.set (v * 3 + j) u
  rw [nodesV_set ns v x j u hj hv hx, ← Nat.add_assoc] at hset
  rw [← Nat.add_assoc] at hc hf
  refine ⟨g, off, _, rfl, hc, hf, L.reset hS (by simp) rfl (by rw [List.length_set]; exact hset) (L.o2.keep1 (fun k hk => Below.heap_setCell _ _ _ _ ?_)) (fun y hy => ?_) L.dsz⟩
  · obtain ⟨_, cur2, hcur2⟩ := L.o2.type k hk
    exact fun e => ne_of_type hcur2 hcur (by decide) e
  · rcases List.mem_or_eq_of_mem_set hy with hy | rfl
    · exact L.nsz y hy
    · exact hxs
theorem OD.setDev (L : OD w W bd gb A1 c1 ns A2 c2 ds) {v j : Nat} (hv : v < ds.length) (hj : j < 5) (u : Value) (x : Dev) (hx : devCells x = (devCells ds[v]).set j u) (hxs : x.name.size ≤ maxLen) :
    ∃ g off q, A2 = some ⟨g, off, none⟩ ∧ W.cell? ⟨g, off + v * 5 + j, none⟩ = some q ∧ W.frozen? ⟨g, off + v * 5 + j, none⟩ = false ∧ OD w (W.setCell ⟨g, off + v * 5 + j, none⟩ u) bd gb A1 c1 ns A2 c2 (ds.set v x) := by
  obtain ⟨g, off, e, hS, hgl, hc, hf⟩ := L.o2.cell (j := v * 5 + j) (by rw [devsV_len]; omega)
  subst e
  obtain ⟨_, cur, hcur⟩ := L.o2.type g rfl
  have hset := L.o2.set (v * 5 + j) u
  rw [devsV_set ds v x j u hj hv hx, ← Nat.add_assoc] at hset
  rw [← Nat.add_assoc] at hc hf
  refine ⟨g, off, _, rfl, hc, hf, L.reset hS rfl (by simp) (L.o1.keep1 (fun k hk => Below.heap_setCell _ _ _ _ ?_)) (by rw [List.length_set]; exact hset) L.nsz (fun y hy => ?_)⟩
  · obtain ⟨_, cur2, hcur2⟩ := L.o1.type k hk
    exact fun e => ne_of_type hcur2 hcur (by decide) e
  · rcases List.mem_or_eq_of_mem_set hy with hy | rfl
    · exact L.dsz y hy
    · exact hxs

/-- Some network of so many nodes and devices. -/
def ODx (w : World) (bd gb : Nat) (A1 : Option Addr) (c1 n1 : Nat) (A2 : Option Addr) (c2 n2 : Nat) (W : World) : Prop := ∃ ns ds, ns.length = n1 ∧ ds.length = n2 ∧ OD w W bd gb A1 c1 ns A2 c2 ds
variable {n1 n2 : Nat}
theorem ODx.fr (h : ODx w bd gb A1 c1 n1 A2 c2 n2 W) (hf : Fr W.heap.size bd W W') (hd : Deck W' bd) : ODx w bd gb A1 c1 n1 A2 c2 n2 W' := by
  obtain ⟨ns, ds, e1, e2, h⟩ := h
  exact ⟨ns, ds, e1, e2, h.fr hf hd⟩
theorem ODx.deck (h : ODx w bd gb A1 c1 n1 A2 c2 n2 W) : Deck W bd := by
  obtain ⟨_, _, _, _, h⟩ := h
  exact h.deck
theorem ODx.below (h : ODx w bd gb A1 c1 n1 A2 c2 n2 W) (hb : Below W.heap.size W W') : ODx w bd gb A1 c1 n1 A2 c2 n2 W' := h.fr (Fr.of_below hb) (h.deck.below hb)
theorem ODx.k0 (h : ODx w bd gb A1 c1 n1 A2 c2 n2 W) : W.cell? ⟨gb, 0, none⟩ = some (.slice A1 n1 c1) := by
  obtain ⟨_, _, e1, _, h⟩ := h
  rw [← e1]; exact h.n0
theorem ODx.k1 (h : ODx w bd gb A1 c1 n1 A2 c2 n2 W) : W.cell? ⟨gb, 1, none⟩ = some (.slice A2 n2 c2) := by
  obtain ⟨_, _, _, e2, h⟩ := h
  rw [← e2]; exact h.n1
/-- New blocks are none of the lists' own. -/
theorem ODx.new (h : ODx w bd gb A1 c1 n1 A2 c2 n2 W) : W.heap.size ≠ bd ∧ some W.heap.size ≠ blockOf A1 ∧ some W.heap.size ≠ blockOf A2 := by
  obtain ⟨_, _, _, _, h⟩ := h
  have h1 := h.top
  have h2 := h.bdg
  refine ⟨by omega, fun e => ?_, fun e => ?_⟩
  · have := (OV.block h.o1 _ e.symm).2; omega
  · have := (OV.block h.o2 _ e.symm).2; omega
def okN (j : Nat) (u : Value) : Prop := (j = 0 ∧ ∃ s : ByteArray, u = .string s ∧ s.size ≤ maxLen) ∨ ((j = 1 ∨ j = 2) ∧ ∃ x, u = .int .i64 x)
def okD (j : Nat) (u : Value) : Prop := (j = 0 ∧ ∃ s : ByteArray, u = .string s ∧ s.size ≤ maxLen) ∨ ((j = 1 ∨ j = 2 ∨ j = 3 ∨ j = 4) ∧ ∃ x, u = .int .i64 x)
theorem ODx.setNode (h : ODx w bd gb A1 c1 n1 A2 c2 n2 W) {v j : Nat} (hv : v < n1) (u : Value) (hu : okN j u) {g off : Nat} (hA : A1 = some ⟨g, off, none⟩) :
    (∃ q, W.cell? ⟨g, off + v * 3 + j, none⟩ = some q) ∧ W.frozen? ⟨g, off + v * 3 + j, none⟩ = false ∧ ODx w bd gb A1 c1 n1 A2 c2 n2 (W.setCell ⟨g, off + v * 3 + j, none⟩ u) := by
  obtain ⟨ns, ds, e1, e2, h⟩ := h
  subst e1
  have key : ∀ (x : Node), nodeCells x = (nodeCells ns[v]).set j u → x.name.size ≤ maxLen → j < 3 → (∃ q, W.cell? ⟨g, off + v * 3 + j, none⟩ = some q) ∧ W.frozen? ⟨g, off + v * 3 + j, none⟩ = false ∧ ODx w bd gb A1 c1 ns.length A2 c2 n2 (W.setCell ⟨g, off + v * 3 + j, none⟩ u) := by
    intro x hx hxs hj
    obtain ⟨g', off', q, e, a, b, c⟩ := h.setNode hv hj u x hx hxs
    rw [hA] at e
    injection e with e
    injection e with e3 e4
    subst e3 e4
    exact ⟨⟨q, a⟩, b, _, _, by simp, e2, c⟩
  have hsz := h.nsz ns[v] (List.getElem_mem hv)
  rcases hu with ⟨rfl, s, rfl, hs⟩ | ⟨rfl | rfl, x, rfl⟩
  · exact key ⟨s, ns[v].cust, ns[v].comp⟩ rfl hs (by decide)
  · exact key ⟨ns[v].name, x, ns[v].comp⟩ rfl hsz (by decide)
  · exact key ⟨ns[v].name, ns[v].cust, x⟩ rfl hsz (by decide)
theorem ODx.setDev (h : ODx w bd gb A1 c1 n1 A2 c2 n2 W) {v j : Nat} (hv : v < n2) (u : Value) (hu : okD j u) {g off : Nat} (hA : A2 = some ⟨g, off, none⟩) :
    (∃ q, W.cell? ⟨g, off + v * 5 + j, none⟩ = some q) ∧ W.frozen? ⟨g, off + v * 5 + j, none⟩ = false ∧ ODx w bd gb A1 c1 n1 A2 c2 n2 (W.setCell ⟨g, off + v * 5 + j, none⟩ u) := by
  obtain ⟨ns, ds, e1, e2, h⟩ := h
  subst e2
  have key : ∀ (x : Dev), devCells x = (devCells ds[v]).set j u → x.name.size ≤ maxLen → j < 5 → (∃ q, W.cell? ⟨g, off + v * 5 + j, none⟩ = some q) ∧ W.frozen? ⟨g, off + v * 5 + j, none⟩ = false ∧ ODx w bd gb A1 c1 n1 A2 c2 ds.length (W.setCell ⟨g, off + v * 5 + j, none⟩ u) := by
    intro x hx hxs hj
    obtain ⟨g', off', q, e, a, b, c⟩ := h.setDev hv hj u x hx hxs
    rw [hA] at e
    injection e with e
    injection e with e3 e4
    subst e3 e4
    exact ⟨⟨q, a⟩, b, _, _, e1, by simp, c⟩
  have hsz := h.dsz ds[v] (List.getElem_mem hv)
  rcases hu with ⟨rfl, s, rfl, hs⟩ | ⟨rfl | rfl | rfl | rfl, x, rfl⟩
  · exact key ⟨s, ds[v].kind, ds[v].a, ds[v].b, ds[v].comp⟩ rfl hs (by decide)
  · exact key ⟨ds[v].name, x, ds[v].a, ds[v].b, ds[v].comp⟩ rfl hsz (by decide)
  · exact key ⟨ds[v].name, ds[v].kind, x, ds[v].b, ds[v].comp⟩ rfl hsz (by decide)
  · exact key ⟨ds[v].name, ds[v].kind, ds[v].a, x, ds[v].comp⟩ rfl hsz (by decide)
  · exact key ⟨ds[v].name, ds[v].kind, ds[v].a, ds[v].b, x⟩ rfl hsz (by decide)
theorem ODx.node_at (h : ODx w bd gb A1 c1 n1 A2 c2 n2 W) (hn : 0 < n1) : ∃ g off, A1 = some ⟨g, off, none⟩ := by
  obtain ⟨ns, ds, rfl, _, h⟩ := h
  obtain ⟨g, off, e, _⟩ := h.o1.cell (j := 0) (by rw [nodesV_len]; omega)
  exact ⟨g, off, e⟩
theorem ODx.dev_at (h : ODx w bd gb A1 c1 n1 A2 c2 n2 W) (hn : 0 < n2) : ∃ g off, A2 = some ⟨g, off, none⟩ := by
  obtain ⟨ns, ds, _, rfl, h⟩ := h
  obtain ⟨g, off, e, _⟩ := h.o2.cell (j := 0) (by rw [devsV_len]; omega)
  exact ⟨g, off, e⟩
end
/-- what a region may change: the deck, the blocks of a list, and new blocks -/
def Ev (bd : Nat) (A : Option Addr) (a b : World) : Prop := a.heap.size ≤ b.heap.size ∧ ∀ k, k < a.heap.size → k ≠ bd → some k ≠ blockOf A → b.heap[k]? = a.heap[k]?
theorem Ev.refl (bd : Nat) (A : Option Addr) (a : World) : Ev bd A a a := ⟨Nat.le_refl _, fun _ _ _ _ => rfl⟩
theorem Ev.alloc (bd : Nat) (A : Option Addr) (a : World) (o : Obj) : Ev bd A a (a.alloc o) := ⟨by simp, fun k hk _ _ => Below.heap_alloc _ _ _ hk⟩
theorem Ev.fr {bd : Nat} {A : Option Addr} {a b : World} (h : Fr a.heap.size bd a b) : Ev bd A a b := ⟨h.size, fun k hk hn _ => h.block k hk hn⟩
theorem Ev.set {bd g o : Nat} {a : World} {u : Value} {A : Option Addr} (h : blockOf A = some g) : Ev bd A a (a.setCell ⟨g, o, none⟩ u) := ⟨by simp [World.setCell], fun k _ _ hk => Below.heap_setCell _ _ _ _ (fun e => hk (by rw [h, e]))⟩
/-- a list of literals in a new block -/
def Lits (bd : Nat) (A : Option Addr) (cs : Array Value) (t : TypeId) (g : Nat) (w : World) : Prop := g ≠ bd ∧ some g ≠ blockOf A ∧ w.heap[g]? = some (.cells cs t (0, 0))
theorem Lits.ev {bd : Nat} {A : Option Addr} {cs : Array Value} {t : TypeId} {g : Nat} {a b : World} (h : Lits bd A cs t g a) (e : Ev bd A a b) : Lits bd A cs t g b :=
  ⟨h.1, h.2.1, (e.2 g (Array.getElem?_eq_some_iff.1 h.2.2).1 h.1 h.2.1).trans h.2.2⟩
theorem imp_dn {dn : Nat → Bool} {i a b : Nat} (h : dn a = true → dn b = true) (ha : a ≠ i) : (dn a || decide (a = i)) = true → (dn b || decide (b = i)) = true := fun h' => by
  rw [decide_eq_false ha, Bool.or_false] at h'
  rw [h h']; rfl
theorem imp_dn' {dn : Nat → Bool} {i b : Nat} {p : Bool} (h : dn b = true) : p = true → (dn b || decide (b = i)) = true := fun _ => by rw [h]; rfl
theorem bfl {b c : Bool} (h : b = true → c = true) (hc : c = false) : b = false := by
  cases b
  · rfl
  · rw [h rfl] at hc; cases hc
theorem free_row (w : World) (g o : Nat) (cs : Array Value) (t : TypeId) (h : w.heap[g]? = some (.cells cs t (0, 0))) : w.frozen? ⟨g, o, none⟩ = false := by
  unfold World.frozen?
  rw [h]
  simp
theorem devCells_one (x : Dev) : ∀ u ∈ devCells x, u.oneCell' = true := by
  intro u hu
  simp [devCells] at hu
  rcases hu with rfl | rfl | rfl | rfl | rfl <;> rfl
theorem nodeCells_one (x : Node) : ∀ u ∈ nodeCells x, u.oneCell' = true := by
  intro u hu
  simp [nodeCells] at hu
  rcases hu with rfl | rfl | rfl <;> rfl
theorem nodesV_one (xs : List Node) : ∀ u ∈ nodesV xs, u.oneCell' = true := by
  intro u hu
  obtain ⟨x, _, hx⟩ := List.mem_flatMap.1 hu
  exact nodeCells_one x u hx
theorem devsV_one (xs : List Dev) : ∀ u ∈ devsV xs, u.oneCell' = true := by
  intro u hu
  obtain ⟨x, _, hx⟩ := List.mem_flatMap.1 hu
  exact devCells_one x u hx
/-- All of OD but the devices. -/
structure OE (w W : World) (bd gb : Nat) (A1 : Option Addr) (c1 : Nat) (ns : List Node) : Prop where
  deck : Deck W bd
  o1 : OV W (fun g => gb + 1 < g) 104 3 A1 ns.length c1 (nodesV ns)
  res : W.heap[gb + 1]? = some (.cells #[.slice none 0 0, .slice none 0 0] 26 (0, 0))
  bdg : bd < gb
  old : Fr gb bd w W
  nsz : ∀ x ∈ ns, x.name.size ≤ maxLen
section
variable {w W W' : World} {bd gb : Nat} {A1 A2 : Option Addr} {c1 c2 : Nat} {ns : List Node} {ds : List Dev}
theorem OD.oe (h : OD w W bd gb A1 c1 ns A2 c2 ds) : OE w W bd gb A1 c1 ns := ⟨h.deck, h.o1, h.res, h.bdg, h.old, h.nsz⟩
theorem OE.back (h : OE w W bd gb A1 c1 ns) (o2 : OV W (fun g => gb + 1 < g) 78 5 A2 ds.length c2 (devsV ds)) (hb : W.heap[gb]? = some (.cells #[.slice A1 ns.length c1, .slice A2 ds.length c2] 26 (0, 0))) (hd : ∀ d ∈ ds, d.name.size ≤ maxLen) : OD w W bd gb A1 c1 ns A2 c2 ds :=
  ⟨h.deck, h.o1, o2, hb, h.res, h.bdg, h.old, h.nsz, hd⟩
theorem OE.top (h : OE w W bd gb A1 c1 ns) : gb + 1 < W.heap.size := (Array.getElem?_eq_some_iff.1 h.res).1
theorem OE.fr (h : OE w W bd gb A1 c1 ns) (hf : Fr W.heap.size bd W W') (hd : Deck W' bd) : OE w W' bd gb A1 c1 ns := by
  have ht := h.top
  have hb := h.bdg
  exact ⟨hd, h.o1.keep ⟨hf.size, fun b hs hl => hf.block b hl (by omega)⟩, (hf.block (gb + 1) ht (by omega)).trans h.res, hb, h.old.trans ⟨hf.os, hf.tape, hf.output, hf.size, fun k hk hn => hf.block k (by omega) hn⟩, h.nsz⟩
theorem OE.alloc (h : OE w W bd gb A1 c1 ns) (o : Obj) : OE w (W.alloc o) bd gb A1 c1 ns :=
  have hb := (Below.refl W.heap.size W).alloc (Nat.le_refl _) o
  h.fr (Fr.of_below hb) (h.deck.below hb)
theorem OE.setBox (h : OE w W bd gb A1 c1 ns) {k : Nat} (u : Value) : OE w (W.setCell ⟨gb, k, none⟩ u) bd gb A1 c1 ns := by
  have hb := h.bdg
  exact ⟨h.deck.keep (fun b hb => Below.heap_setCell _ _ _ _ (by show b ≠ gb; omega)) (by simp [World.setCell]), h.o1.keep (Kept.setCell (by show ¬ gb + 1 < gb; omega) _), (Below.heap_setCell _ _ _ _ (show gb + 1 ≠ gb by omega)).trans h.res, hb,
    ⟨h.old.os, h.old.tape, h.old.output, by have := h.old.size; simpa [World.setCell] using this, fun k hk hn => (Below.heap_setCell _ _ _ _ (show k ≠ gb by omega)).trans (h.old.block k hk hn)⟩, h.nsz⟩
theorem OE.grown (h : OE w W bd gb A1 c1 ns) {n : Nat} {xs : List Value} (hg : W.grownBy W' (blockOf A2)) (ho : OV W (fun g => gb + 1 < g) 78 5 A2 n c2 xs) : OE w W' bd gb A1 c1 ns := by
  have hb := h.bdg
  have ht := h.top
  have hx : ∀ k, k ≤ gb + 1 → some k ≠ blockOf A2 := fun k hk e => by have := (OV.block ho _ e.symm).1; omega
  refine ⟨h.deck.keep (fun b hb => hg.block b (by omega) (hx b (by omega))) hg.size, h.o1.keep1 (fun g hgA => hg.block g (OV.block h.o1 g hgA).2 (fun e => ?_)), (hg.block (gb + 1) ht (hx _ (by omega))).trans h.res, hb, ?_, h.nsz⟩
  · obtain ⟨_, cur, hcur⟩ := h.o1.type g hgA
    obtain ⟨_, cur2, hcur2⟩ := ho.type g e.symm
    exact ne_of_type hcur hcur2 (by decide) rfl
  · exact h.old.trans ⟨hg.os, hg.tape, hg.output, hg.size, fun k hk _ => hg.block k (by omega) (hx k (by omega))⟩
theorem ov_dev {S : Nat → Prop} {g o c : Nat} (h : OV W S 78 5 (some ⟨g, o, none⟩) ds.length c (devsV ds)) (h0 : 0 < ds.length) :
    W.cell? ⟨g, o, none⟩ = some (.string ds[0].name) ∧ W.cell? ⟨g, o + 1, none⟩ = some (.int .i64 ds[0].kind) ∧ W.cell? ⟨g, o + 2, none⟩ = some (.int .i64 ds[0].a) ∧ W.cell? ⟨g, o + 3, none⟩ = some (.int .i64 ds[0].b) ∧ W.cell? ⟨g, o + 4, none⟩ = some (.int .i64 ds[0].comp) := by
  have key : ∀ j (hj : j < 5), W.cell? ⟨g, o + j, none⟩ = (devCells ds[0])[j]? := fun j hj => by
    obtain ⟨g', o', e, _, _, hc, _⟩ := h.cell (j := j) (by rw [devsV_len]; omega)
    injection e with e
    injection e with e1 e2
    subst e1 e2
    rw [hc]
    match ds, h0 with
    | x :: xs, _ =>
      have : (devsV (x :: xs))[j]? = (devCells x)[j]? := by
        show (devCells x ++ devsV xs)[j]? = _
        rw [List.getElem?_append_left (by show j < 5; exact hj)]
      show _ = (devCells x)[j]?
      rw [← this, List.getElem?_eq_getElem]
  exact ⟨key 0 (by decide), key 1 (by decide), key 2 (by decide), key 3 (by decide), key 4 (by decide)⟩
end
end Go.Proofs.YtgpcojmdfmngeaaDoor

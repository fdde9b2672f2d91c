/-
  A made network is changed in one place.
-/
import Derived.Test.YtgpcojmdfmngeaaDoorGk
import Derived.Test.YtgpcojmdfmngeaaDoorPErr
namespace Go.Proofs.YtgpcojmdfmngeaaDoor
open Go.RowKit
set_option maxHeartbeats 400000

/-- The network's lists are the law's own. -/
def Own (w W : World) (M : Nat) (A1 : Option Addr) (c1 : Nat) (ns : List Node) (A2 : Option Addr) (c2 : Nat) (ds : List Dev) : Prop :=
  OV W (fun g => w.heap.size < g ∧ g < M) 104 3 A1 ns.length c1 (nodesV ns) ∧ OV W (fun g => w.heap.size < g ∧ g < M) 78 5 A2 ds.length c2 (devsV ds)
section
variable {w W W' : World} {M gn : Nat} {A1 A2 : Option Addr} {c1 c2 : Nat} {ns : List Node} {ds : List Dev}
theorem Own.fr (h : Own w W M A1 c1 ns A2 c2 ds) (hf : Fr M w.heap.size W W') : Own w W' M A1 c1 ns A2 c2 ds :=
  ⟨h.1.keep ⟨hf.size, fun b hs _ => hf.block b hs.2 (by have := hs.1; omega)⟩, h.2.keep ⟨hf.size, fun b hs _ => hf.block b hs.2 (by have := hs.1; omega)⟩⟩
theorem Own.start {w1 w2 : World} (hz1 : w1.heap.size = w.heap.size + 1)
    (ho1 : OV w2 (fun g => w1.heap.size ≤ g) 104 3 A1 ns.length c1 (nodesV ns)) (ho2 : OV w2 (fun g => w1.heap.size ≤ g) 78 5 A2 ds.length c2 (devsV ds)) (o : Obj) : Own w (w2.alloc o) (w2.heap.size + 1) A1 c1 ns A2 c2 ds :=
  ⟨(ho1.mono (fun g hl hg => by omega)).keep (Kept.alloc _ _ _), (ho2.mono (fun g hl hg => by omega)).keep (Kept.alloc _ _ _)⟩

theorem LS.reset (L : LS w W M gn A1 c1 ns A2 c2 ds) {g o : Nat} {u : Value} (hg : w.heap.size < g) (hgn : gn ≠ g) {ns' : List Node} {ds' : List Dev} (h1 : ns'.length = ns.length) (h2 : ds'.length = ds.length)
    (O : Own w (W.setCell ⟨g, o, none⟩ u) M A1 c1 ns' A2 c2 ds') (s1 : ∀ x ∈ ns', x.name.size ≤ maxLen) (s2 : ∀ d ∈ ds', d.name.size ≤ maxLen) : LS w (W.setCell ⟨g, o, none⟩ u) M gn A1 c1 ns' A2 c2 ds' := by
  refine ⟨L.deck.keep (fun b hb => Below.heap_setCell _ _ _ _ (by show b ≠ g; omega)) (by simp [World.setCell]), ⟨O.1.sv, O.2.sv, s1, s2⟩, ?_, L.gne, L.gnm, by have := L.top; simpa [World.setCell] using this, L.bel.setCell (by show w.heap.size ≤ g; omega) _⟩
  rw [Below.heap_setCell _ _ _ _ (show gn ≠ g from hgn), h1, h2]
  exact L.box

theorem LS.setNode (L : LS w W M gn A1 c1 ns A2 c2 ds) (O : Own w W M A1 c1 ns A2 c2 ds) {v j : Nat} (hv : v < ns.length) (hj : j < 3) (u : Value) (x : Node) (hx : nodeCells x = (nodeCells ns[v]).set j u) (hxs : x.name.size ≤ maxLen) :
    ∃ g off q, A1 = some ⟨g, off, none⟩ ∧ W.cell? ⟨g, off + v * 3 + j, none⟩ = some q ∧ W.frozen? ⟨g, off + v * 3 + j, none⟩ = false ∧ LS w (W.setCell ⟨g, off + v * 3 + j, none⟩ u) M gn A1 c1 (ns.set v x) A2 c2 ds := by
  obtain ⟨g, off, e, hS, hgl, hc, hf⟩ := O.1.cell (j := v * 3 + j) (by rw [nodesV_len]; omega)
  subst e
  obtain ⟨_, cur, hcur⟩ := O.1.type g rfl
  have hset := O.1.set (v * 3 + j) u
  rw [nodesV_set ns v x j u hj hv hx, ← Nat.add_assoc] at hset
  rw [← Nat.add_assoc] at hc hf
  have hgn : gn ≠ g := fun e => ne_of_type L.box hcur (by decide) e
  have O' : Own w (W.setCell ⟨g, off + v * 3 + j, none⟩ u) M (some ⟨g, off, none⟩) c1 (ns.set v x) A2 c2 ds := by
    refine ⟨by rw [List.length_set]; exact hset, O.2.keep1 (fun k hk => Below.heap_setCell _ _ _ _ ?_)⟩
    obtain ⟨_, cur2, hcur2⟩ := O.2.type k hk
    exact fun e => ne_of_type hcur2 hcur (by decide) e
  refine ⟨g, off, _, rfl, hc, hf, L.reset hS.1 hgn (by simp) rfl O' (fun y hy => ?_) L.net.dsz⟩
  rcases List.mem_or_eq_of_mem_set hy with hy | rfl
  · exact L.net.nsz y hy
  · exact hxs
theorem LS.setDev (L : LS w W M gn A1 c1 ns A2 c2 ds) (O : Own w W M A1 c1 ns A2 c2 ds) {v j : Nat} (hv : v < ds.length) (hj : j < 5) (u : Value) (x : Dev) (hx : devCells x = (devCells ds[v]).set j u) (hxs : x.name.size ≤ maxLen) :
    ∃ g off q, A2 = some ⟨g, off, none⟩ ∧ W.cell? ⟨g, off + v * 5 + j, none⟩ = some q ∧ W.frozen? ⟨g, off + v * 5 + j, none⟩ = false ∧ LS w (W.setCell ⟨g, off + v * 5 + j, none⟩ u) M gn A1 c1 ns A2 c2 (ds.set v x) := by
  obtain ⟨g, off, e, hS, hgl, hc, hf⟩ := O.2.cell (j := v * 5 + j) (by rw [devsV_len]; omega)
  subst e
  obtain ⟨_, cur, hcur⟩ := O.2.type g rfl
  have hset := O.2.set (v * 5 + j) u
  rw [devsV_set ds v x j u hj hv hx, ← Nat.add_assoc] at hset
  rw [← Nat.add_assoc] at hc hf
  have hgn : gn ≠ g := fun e => ne_of_type L.box hcur (by decide) e
  have O' : Own w (W.setCell ⟨g, off + v * 5 + j, none⟩ u) M A1 c1 ns (some ⟨g, off, none⟩) c2 (ds.set v x) := by
    refine ⟨O.1.keep1 (fun k hk => Below.heap_setCell _ _ _ _ ?_), by rw [List.length_set]; exact hset⟩
    obtain ⟨_, cur2, hcur2⟩ := O.1.type k hk
    exact fun e => ne_of_type hcur2 hcur (by decide) e
  refine ⟨g, off, _, rfl, hc, hf, L.reset hS.1 hgn rfl (by simp) O' L.net.nsz (fun y hy => ?_)⟩
  rcases List.mem_or_eq_of_mem_set hy with hy | rfl
  · exact L.net.dsz y hy
  · exact hxs
end
end Go.Proofs.YtgpcojmdfmngeaaDoor

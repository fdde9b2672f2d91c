/-
  The state that the laws of networks share: a deck and a network that was made.
-/
import Derived.Test.YtglhplddjjoggaaDoorL03a
namespace Go.Proofs.YtglhplddjjoggaaDoor
open Go.RowKit
set_option maxHeartbeats 400000
set_option maxRecDepth 100000

/-- A law's state: the deck in block w.heap.size, the network that was made, boxed in gn; all of it in blocks below M. -/
structure LS (w W : World) (M gn : Nat) (A1 : Option Addr) (c1 : Nat) (ns : List Node) (A2 : Option Addr) (c2 : Nat) (ds : List Dev) : Prop where
  deck : Deck W w.heap.size
  net : NetIn W (fun g => w.heap.size < g ∧ g < M) A1 A2 ns ds
  box : W.heap[gn]? = some (.cells #[.slice A1 ns.length c1, .slice A2 ds.length c2] 26 (0, 0))
  gne : w.heap.size < gn
  gnm : gn < M
  top : M ≤ W.heap.size
  bel : Below w.heap.size w W

section
variable {w W W' : World} {M gn : Nat} {A1 A2 : Option Addr} {c1 c2 : Nat} {ns : List Node} {ds : List Dev}
theorem LS.fr (h : LS w W M gn A1 c1 ns A2 c2 ds) (hf : Fr M w.heap.size W W') (hd : Deck W' w.heap.size) : LS w W' M gn A1 c1 ns A2 c2 ds :=
  ⟨hd, h.net.keep ⟨hf.size, fun b hs _ => hf.block b hs.2 (by have := hs.1; omega)⟩, (hf.block gn h.gnm (by have := h.gne; omega)).trans h.box, h.gne, h.gnm, Nat.le_trans h.top hf.size,
   ⟨hf.os.trans h.bel.os, hf.tape.trans h.bel.tape, hf.output.trans h.bel.output, Nat.le_trans h.bel.size hf.size, fun k hk => (hf.block k (by have := h.gne; have := h.gnm; omega) (by omega)).trans (h.bel.block k hk)⟩⟩
theorem LS.belowM (h : LS w W M gn A1 c1 ns A2 c2 ds) (hb : Below M W W') : LS w W' M gn A1 c1 ns A2 c2 ds := h.fr (Fr.of_below hb) (h.deck.belowB hb (by have := h.gne; have := h.gnm; omega))
theorem LS.below (h : LS w W M gn A1 c1 ns A2 c2 ds) (hb : Below W.heap.size W W') : LS w W' M gn A1 c1 ns A2 c2 ds := h.belowM (hb.mono h.top)
theorem LS.grown (h : LS w W M gn A1 c1 ns A2 c2 ds) (hg : W.grownBy W' (some w.heap.size)) (hd : Deck W' w.heap.size) : LS w W' M gn A1 c1 ns A2 c2 ds := h.fr (Fr.of_grown hg h.top) hd
theorem LS.n0 (h : LS w W M gn A1 c1 ns A2 c2 ds) : W.cell? ⟨gn, 0, none⟩ = some (.slice A1 ns.length c1) := by rw [cell_of_row W _ 0 _ _ _ h.box]; rfl
theorem LS.n1 (h : LS w W M gn A1 c1 ns A2 c2 ds) : W.cell? ⟨gn, 1, none⟩ = some (.slice A2 ds.length c2) := by rw [cell_of_row W _ 1 _ _ _ h.box]; rfl
end

/-- The start: what New and Network hand back. -/
theorem LS.start {w w1 w2 : World} {A1 A2 : Option Addr} {c1 c2 K D : Nat} {ns : List Node} {ds : List Dev} (_hd1 : Deck w1 w.heap.size) (hb1 : Below w.heap.size w w1) (hz1 : w1.heap.size = w.heap.size + 1)
    (ho1 : OV w2 (fun g => w1.heap.size ≤ g) 92 3 A1 ns.length c1 (nodesV ns)) (ho2 : OV w2 (fun g => w1.heap.size ≤ g) 81 5 A2 ds.length c2 (devsV ds)) (hd2 : Deck w2 w.heap.size) (hg2 : w1.grownBy w2 (some w.heap.size)) (hgood : GoodNet K D ns ds) :
    LS w (w2.alloc (.cells #[.slice A1 ns.length c1, .slice A2 ds.length c2] 26)) (w2.heap.size + 1) w2.heap.size A1 c1 ns A2 c2 ds := by
  have hs := hg2.size
  have hx := (Below.refl w2.heap.size w2).alloc (Nat.le_refl _) (.cells #[.slice A1 ns.length c1, .slice A2 ds.length c2] 26)
  obtain ⟨g1, g2⟩ := good_names hgood
  refine ⟨hd2.below hx, ⟨(ho1.sv.mono (T := fun g => w.heap.size < g ∧ g < w2.heap.size + 1) (fun g hl hg => by omega)).keep (Kept.of_below hx), (ho2.sv.mono (T := fun g => w.heap.size < g ∧ g < w2.heap.size + 1) (fun g hl hg => by omega)).keep (Kept.of_below hx), g1, g2⟩, heap_alloc_new w2 _, by omega, by omega, by simp, ?_⟩
  refine (hb1.grown hg2 hb1.size (fun g hg => by injection hg with hg; omega)).trans (hx.mono (by omega))

theorem out_ok {K D : Nat} {ns : List Node} {ds : List Dev} (h : GoodNet K D ns ds) (hK : K ≤ 32) (hD : D ≤ 60) : DevsIn ns.length ds := checkL_zero (good_check h hK hD)
end Go.Proofs.YtglhplddjjoggaaDoor

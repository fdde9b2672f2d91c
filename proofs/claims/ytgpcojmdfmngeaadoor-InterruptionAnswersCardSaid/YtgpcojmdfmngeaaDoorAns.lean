/-
  The state that the laws ..Answers share: a deck, and blocks that no call changes.
-/
import Derived.Test.YtgpcojmdfmngeaaDoorGk
namespace Go.Proofs.YtgpcojmdfmngeaaDoor
open Go.RowKit
set_option maxHeartbeats 400000

theorem Fr.cell {B bd : Nat} {a b : World} (h : Fr B bd a b) {g : Nat} (hl : g < B) (hn : g ≠ bd) (k : Nat) : b.cell? ⟨g, k, none⟩ = a.cell? ⟨g, k, none⟩ := World.cell?_of_block (h.block g hl hn)
/-- The deck lies in block w.heap.size; all other blocks that WM has are as WM has them. -/
structure AS (w WM W : World) : Prop where
  deck : Deck W w.heap.size
  fr : Fr WM.heap.size w.heap.size WM W
  bel : Below w.heap.size w W
section
variable {w WM W W' : World}
theorem AS.size (h : AS w WM W) : WM.heap.size ≤ W.heap.size := h.fr.size
theorem AS.below (h : AS w WM W) (hb : Below W.heap.size W W') : AS w WM W' :=
  ⟨h.deck.below hb, h.fr.trans ⟨hb.os, hb.tape, hb.output, hb.size, fun k hk _ => hb.block k (by have := h.fr.size; omega)⟩, h.bel.trans (hb.mono h.bel.size)⟩
theorem AS.next (h : AS w WM W) (hg : W.grownBy W' (some w.heap.size)) (hd : Deck W' w.heap.size) : AS w WM W' :=
  ⟨hd, h.fr.trans (Fr.of_grown hg h.fr.size), h.bel.grown hg h.bel.size (fun g e => by injection e with e; omega)⟩
theorem AS.frd (h : AS w WM W) (hf : Fr W.heap.size w.heap.size W W') (hd : Deck W' w.heap.size) : AS w WM W' := by
  have h1 := h.fr.size
  have h2 := h.bel.size
  exact ⟨hd, h.fr.trans ⟨hf.os, hf.tape, hf.output, hf.size, fun k hk hn => hf.block k (by omega) hn⟩, h.bel.trans ⟨hf.os, hf.tape, hf.output, hf.size, fun k hk => hf.block k (by omega) (by omega)⟩⟩
theorem AS.start (hd : Deck WM w.heap.size) (hb : Below w.heap.size w WM) : AS w WM WM := ⟨hd, Fr.refl _ _ _, hb⟩
theorem AS.drew (h : AS w WM W) : AS w WM W.drew := h.below ((Below.refl _ _).drew)
/-- From one stock of blocks to a larger one. -/
theorem AS.more {WN : World} (h : AS w WM WN) (k : AS w WN W) : AS w WM W :=
  ⟨k.deck, h.fr.trans ⟨k.fr.os, k.fr.tape, k.fr.output, k.fr.size, fun i hi hn => k.fr.block i (by have := h.fr.size; omega) hn⟩, k.bel⟩
def Old (w WM : World) (g : Nat) : Prop := g ≠ w.heap.size ∧ g < WM.heap.size
theorem AS.kept (h : AS w WM W) : Kept (Old w WM) WM W := ⟨h.fr.size, fun b hb _ => h.fr.block b hb.2 hb.1⟩
theorem AS.net {A1 A2 : Option Addr} {ns : List Node} {ds : List Dev} (h : AS w WM W) (hn : NetIn WM (Old w WM) A1 A2 ns ds) : NetIn W (fun _ => True) A1 A2 ns ds := (hn.keep h.kept).mono (fun _ _ _ => trivial)
theorem AS.sv {A : Option Addr} {xs : List Value} (h : AS w WM W) (hs : SV WM (Old w WM) A xs) : SV W (fun _ => True) A xs := (hs.keep h.kept).mono (fun _ _ _ => trivial)
theorem AS.row (h : AS w WM W) {g : Nat} {cs : Array Value} {t : TypeId} (hr : WM.heap[g]? = some (.cells cs t (0, 0))) (hg : g ≠ w.heap.size) : W.heap[g]? = some (.cells cs t (0, 0)) :=
  (h.fr.block g (Array.getElem?_eq_some_iff.1 hr).1 hg).trans hr
theorem AS.tabc (h : AS w WM W) (ht : TabC w) : TabC W := ht.below h.bel
/-- What lay before the deck. -/
theorem Old.sv {A : Option Addr} {xs : List Value} {S : Nat → Prop} (h : SV w S A xs) (hb : Below w.heap.size w WM) : SV WM (Old w WM) A xs := by
  intro hne
  obtain ⟨b, off, e, _, hl, hc⟩ := h hne
  exact ⟨b, off, e, ⟨by omega, by have := hb.size; omega⟩, by have := hb.size; omega, fun j u hj => (hb.cell (p := ⟨b, off + j, none⟩) hl).trans (hc j u hj)⟩
theorem Old.net {A1 A2 : Option Addr} {ns : List Node} {ds : List Dev} {S : Nat → Prop} (h : NetIn w S A1 A2 ns ds) (hb : Below w.heap.size w WM) : NetIn WM (Old w WM) A1 A2 ns ds :=
  ⟨Old.sv h.nodes hb, Old.sv h.devs hb, h.nsz, h.dsz⟩
end
end Go.Proofs.YtgpcojmdfmngeaaDoor

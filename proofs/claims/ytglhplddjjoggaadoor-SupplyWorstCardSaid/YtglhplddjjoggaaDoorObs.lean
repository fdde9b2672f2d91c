/-
  Slices of bools that a law owns.
-/
import Derived.Test.YtglhplddjjoggaaDoorL03b
import Derived.Test.YtglhplddjjoggaaDoorMkB
namespace Go.Proofs.YtglhplddjjoggaaDoor
open Go.RowKit

/-- A slice of bools that the law owns. -/
def OB (w : World) (g n : Nat) (bs : List Bool) : Prop := OV w (fun x => x = g) 4 1 (some ⟨g, 0, none⟩) n n (bools bs)
theorem OB.at_ {w : World} {g n : Nat} {bs : List Bool} (h : OB w g n bs) {k : Nat} (hk : k < bs.length) : w.cell? ⟨g, k, none⟩ = some (.bool bs[k]) ∧ w.frozen? ⟨g, k, none⟩ = false ∧ g < w.heap.size := by
  obtain ⟨g', off, e, _, hgl, hc, hf⟩ := OV.cell h (j := k) (by simpa [bools] using hk)
  injection e with e
  injection e with e1 e2
  subst e1
  subst e2
  rw [Nat.zero_add] at hc hf
  exact ⟨by simpa [bools] using hc, hf, hgl⟩
theorem OB.set {w : World} {g n : Nat} {bs : List Bool} (h : OB w g n bs) (k : Nat) (b : Bool) : OB (w.setCell ⟨g, k, none⟩ (.bool b)) g n (bs.set k b) := by
  have := OV.set h k (.bool b)
  rw [Nat.zero_add] at this
  unfold OB
  rw [bools, List.map_set]
  exact this
theorem OB.len {w : World} {g n : Nat} {bs : List Bool} (h : OB w g n bs) : bs.length = n := by have := h.2.2.1; simpa [bools] using this
theorem OB.fr {w w' : World} {g n : Nat} {bs : List Bool} (h : OB w g n bs) (e : w'.heap[g]? = w.heap[g]?) : OB w' g n bs := OV.keep1 h (fun k hk => by simp [blockOf] at hk; subst hk; exact e)
theorem OB.sb {w : World} {g n : Nat} {bs : List Bool} (h : OB w g n bs) : SB w (fun _ => True) (some ⟨g, 0, none⟩) bs := (OV.sv h).mono (fun _ _ _ => trivial)

theorem LS.setB {w W : World} {M gn : Nat} {A1 A2 : Option Addr} {c1 c2 : Nat} {ns : List Node} {ds : List Dev} (h : LS w W M gn A1 c1 ns A2 c2 ds) {g k : Nat} (hg : M ≤ g) (u : Value) : LS w (W.setCell ⟨g, k, none⟩ u) M gn A1 c1 ns A2 c2 ds :=
  h.belowM ((Below.refl _ _).setCell hg _)
end Go.Proofs.YtglhplddjjoggaaDoor

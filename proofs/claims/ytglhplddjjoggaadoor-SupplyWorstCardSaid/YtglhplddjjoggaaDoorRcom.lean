/-
  What a law over one list of ints owes; nothing of tables.
-/
import Derived.Test.YtglhplddjjoggaaDoorCards
import Derived.Test.YtglhplddjjoggaaDoorTie
import Derived.WalkKit
import Derived.ProofKit
import Derived.OpenShut
import Derived.Deep.DeepHandedRow
import Derived.Lib.LaidTab
import Derived.Test.YtglhplddjjoggaaDoorBase
import Derived.ChangeOld
import Derived.Below
namespace Go.Proofs.YtglhplddjjoggaaDoor
open Go.ChangeShapes Go.WideShapes Go.ChangeAt Go.RowKit

theorem own : ownKnob Tryd.prog.godebug = none := by kernel_rfl
theorem laidOut : laidOutB Tryd.prog = true := by kernel_rfl

/-- A slice of ints that came in. -/
theorem arg_ints {H : Type} {enc : TypeId × Value → H} {W : World} {base : Nat} {sp : Nat → Bool} {held : Bool} {a : Option Addr} {len cap : Nat} {d : DataW H} {p : List MemPlace}
    (h : DataW.Trod enc Tryd.prog W base sp held 22 (.slice a len cap) d p) : ∃ xs : List Int, SI W (fun _ => True) a xs ∧ len = xs.length := by
  obtain ⟨fuel, hf⟩ := h
  rcases open_ints Tryd.underlying22 Tryd.underlying3 (by kernel_rfl) hf with ⟨hcs, _⟩ | ⟨x, l, c, zs, hcs, _, hl, hm, hz, _, hcell, hwz⟩
  · simp [Value.cells] at hcs
    obtain ⟨rfl, rfl, rfl⟩ := hcs
    exact ⟨[], SI.nil, rfl⟩
  · simp [Value.cells] at hcs
    obtain ⟨rfl, rfl, rfl⟩ := hcs
    have hzl : len ≤ zs.length := by rw [hz]; split <;> omega
    refine ⟨zs.take len, fun hne => ?_, by rw [List.length_take]; omega⟩
    have hpos : 0 < zs.length := by
      rcases Nat.eq_zero_or_pos zs.length with h0 | h0
      · exact absurd (by simp [ints, List.eq_nil_of_length_eq_zero h0]) hne
      · exact h0
    obtain ⟨b, off, rfl, hc⟩ := ints_at hcell hpos
    refine ⟨b, off, rfl, trivial, ?_, fun j u hj => ?_⟩
    · have := hc 0 hpos
      exact World.block_lt_of_cell? W _ this
    · simp only [ints, List.getElem?_map, List.getElem?_take] at hj
      split at hj
      · rename_i hlt
        rw [hc j (by omega)]
        rw [List.getElem?_eq_getElem (by omega)] at hj
        simp at hj
        simp [List.getD, hj, List.getElem?_eq_getElem (show j < zs.length by omega)]
      · simp at hj
end Go.Proofs.YtglhplddjjoggaaDoor

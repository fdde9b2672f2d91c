/-
  A new slice, made: its run, and what it holds.
-/
import Derived.Test.YtglhplddjjoggaaDoorDst
namespace Go.Proofs.YtglhplddjjoggaaDoor
open Go.RowKit

theorem boolInfo : (Tryd.prog.info? 4).map (fun i => (i.zero, i.size, i.bytes)) = some (some (.bool false), 1, 1) := by kernel_rfl
theorem make_bools (w : World) (n : Nat) (hn : n ≤ 65536) : ∃ w', (Instr.makeSlice 27 (.int .i64 n) (.int .i64 n)).run Tryd.prog w = .ok (.slice (some ⟨w.heap.size, 0, none⟩) n n) w' ∧
    OV w' (fun g => g = w.heap.size) 4 1 (some ⟨w.heap.size, 0, none⟩) n n (bools (List.replicate n false)) ∧ Below w.heap.size w w' ∧ w'.heap.size = w.heap.size + 1 := by
  refine ⟨_, run_make_row' (P := Tryd.prog) 27 4 (.bool false) 1 Tryd.underlying27 boolInfo rfl .i64 .i64 n (by omega) (by omega) w, ⟨Nat.le_refl _, by simp only [maxLen]; omega, by simp [bools], .inr ⟨w.heap.size, 0, _, rfl, rfl, heap_alloc_new w _, by simp [size_madeCells], fun j u hj => ?_⟩⟩, (Below.refl _ _).alloc (Nat.le_refl _) _, by simp⟩
  rw [bools, List.map_replicate, List.getElem?_replicate] at hj
  split at hj
  · rename_i hlt
    simp at hj
    subst hj
    simp [madeCells, hlt, Nat.mod_one]
  · cases hj
end Go.Proofs.YtglhplddjjoggaaDoor

/-
  Walk: awake of the law package of colours.
-/
import Derived.Test.YtglhplddjjoggaaDoorColP
import Derived.Test.YtglhplddjjoggaaDoorL03b
namespace Go.Proofs.YtglhplddjjoggaaDoor
open Go.RowKit
set_option maxHeartbeats 400000
set_option maxRecDepth 100000

def awD7 : List Dev := [⟨⟨#[83]⟩, 5, 0, -1, 0⟩, ⟨⟨#[81]⟩, 2, 0, 1, 0⟩, ⟨⟨#[69]⟩, 4, 1, -1, 0⟩]
theorem aw7_col : coloursE awN awD7 [2, 2, 2] = ([3, 3], 0) := by decide +kernel
theorem aw7_flt : faultsE awN awD7 [2, 1, 2] = ([], 0) := by decide +kernel

theorem awake07 (w : World) (h : TabC w) (ht : Tab w) : Calls Tryd.prog 69 #[] w (RetT w) := by
  go_enter Tryd.func69, Tryd.ntmps69
  go_wp2_with (fail)
  obtain ⟨e1, e2, e3, e4, ez, eb⟩ := four w (.cells (nodesV awN).toArray 92) (.cells (devsV awD7).toArray 81) (.cells #[.slice (some ⟨w.heap.size, 0, none⟩) 2 2, .slice (some ⟨w.heap.size + 1, 0, none⟩) 3 3] 26) (.cells (ints [2, 2, 2]).toArray 3)
  obtain ⟨W, hW⟩ : ∃ W, W = ((((w.alloc (.cells (nodesV awN).toArray 92)).alloc (.cells (devsV awD7).toArray 81)).alloc (.cells #[.slice (some ⟨w.heap.size, 0, none⟩) 2 2, .slice (some ⟨w.heap.size + 1, 0, none⟩) 3 3] 26)).alloc (.cells (ints [2, 2, 2]).toArray 3)) := ⟨_, rfl⟩
  rw [← hW] at e1 e2 e3 e4 ez eb
  have hin : NetIn W (fun _ => True) (some ⟨w.heap.size, 0, none⟩) (some ⟨w.heap.size + 1, 0, none⟩) awN awD7 := ⟨SV.block e1, SV.block e2, by decide, by decide⟩
  have hu : SI W (fun _ => True) (some ⟨w.heap.size + 1 + 1 + 1, 0, none⟩) [2, 2, 2] := SV.block e4
  have HC := Colours_any W (h.below eb) (ht.below eb) _ _ _ 2 3 awN awD7 hin (by decide) (by decide) _ 3 [2, 2, 2] hu (by decide)
  rw [aw7_col] at HC
  have n0 : W.cell? ⟨w.heap.size + 1 + 1, 0, none⟩ = some (.slice (some ⟨w.heap.size, 0, none⟩) 2 2) := by rw [cell_of_row W _ 0 _ _ _ e3]; rfl
  have n1 : W.cell? ⟨w.heap.size + 1 + 1, 1, none⟩ = some (.slice (some ⟨w.heap.size + 1, 0, none⟩) 3 3) := by rw [cell_of_row W _ 1 _ _ _ e3]; rfl
  show Calls _ _ _ (((((w.alloc (.cells (nodesV awN).toArray 92)).alloc (.cells (devsV awD7).toArray 81)).alloc (.cells #[.slice (some ⟨w.heap.size, 0, none⟩) 2 2, .slice (some ⟨w.heap.size + 1, 0, none⟩) 3 3] 26)).alloc (.cells (ints [2, 2, 2]).toArray 3))) _
  rw [← hW]
  clear hW e1 e2 e3 e4 ez
  refine HC.mono ?_
  rintro e w1 ⟨A, c, rfl, ho1, hb1⟩
  clear HC
  have hb1' := eb.trans (hb1.mono eb.size)
  have m0 : w1.cell? ⟨w.heap.size + 1 + 1, 0, none⟩ = some (.slice (some ⟨w.heap.size, 0, none⟩) 2 2) := (hb1.cell (p := ⟨w.heap.size + 1 + 1, 0, none⟩) (World.block_lt_of_cell? _ _ n0)).trans n0
  have m1 : w1.cell? ⟨w.heap.size + 1 + 1, 1, none⟩ = some (.slice (some ⟨w.heap.size + 1, 0, none⟩) 3 3) := (hb1.cell (p := ⟨w.heap.size + 1 + 1, 1, none⟩) (World.block_lt_of_cell? _ _ n1)).trans n1
  have hin1 := hin.below hb1
  have hs1 := (OI.si ho1)
  have hbA := (Below.refl w1.heap.size w1).alloc (Nat.le_refl _) (.cells (ints [2, 1, 2]).toArray 3)
  have HF := Faults_any _ (h.below (hb1'.trans (hbA.mono hb1'.size))) (ht.below (hb1'.trans (hbA.mono hb1'.size))) _ _ _ 2 3 awN awD7 (hin1.below hbA) (by decide) (by decide) _ 3 [2, 1, 2] ((OI.lit w1 [2, 1, 2] (by decide)).si.mono (fun _ _ _ => trivial)) (by decide)
  rw [aw7_flt] at HF
  have HF := Lib.hid HF
  clear n0 n1 hin hu ho1
  go_wp2_with (fail)
  refine HF.out.mono ?_
  rintro e w2 ⟨A', c', rfl, ho2, hb2⟩
  have hb2' := (hb1'.trans (hbA.mono hb1'.size)).trans (hb2.mono (by have := hb1'.size; simp; omega))
  have hs2 := (hs1.keep (Kept.of_below hbA)).keep (Kept.of_below hb2)
  clear m0 m1 hin1 hs1 HF
  have hbB := (Below.refl w2.heap.size w2).alloc (Nat.le_refl _) (.cells (ints [3, 3]).toArray 3)
  have HI := ints_any _ (fun _ => True) (fun _ => True) A (some ⟨w2.heap.size, 0, none⟩) c 2 [3, 3] [3, 3] ((hs2.keep (Kept.of_below hbB)).mono (fun _ _ _ => trivial)) ((OI.lit w2 [3, 3] (by decide)).si.mono (fun _ _ _ => trivial)) (by decide) (by decide)
  rw [show decide (([3, 3] : List Int) = [3, 3]) = true by decide] at HI
  have HI := Lib.hid HI
  go_wp2_with (fail)
  refine HI.out.mono ?_
  rintro e w3 ⟨rfl, nq, rfl⟩
  go_wp2_with (fail)
  go_ret
  exact ⟨rfl, (hb2'.trans (hbB.mono hb2'.size)).trans (below_drewN _ _ nq)⟩
end Go.Proofs.YtglhplddjjoggaaDoor

/-
  Walk: awake of the law package of networks; the state that the laws of networks share.
-/
import Derived.Test.YtglhplddjjoggaaDoorPGood
namespace Go.Proofs.YtglhplddjjoggaaDoor
open Go.RowKit
set_option maxHeartbeats 400000
set_option maxRecDepth 100000

/-- A call hands back true, and nothing that was there has changed. -/
def RetT (w : World) (e : Ending) (w' : World) : Prop := e = .returned (.bool true) ∧ Below w.heap.size w w'

theorem SV.block {w : World} {b : Nat} {xs : List Value} {t : TypeId} {fz : Nat × Nat} (h : w.heap[b]? = some (.cells xs.toArray t fz)) : SV w (fun _ => True) (some ⟨b, 0, none⟩) xs := fun _ =>
  ⟨b, 0, rfl, trivial, (Array.getElem?_eq_some_iff.1 h).1, fun j u hj => by rw [cell_of_row w b (0 + j) _ _ _ h]; simpa using hj⟩

def awN : List Node := [⟨⟨#[65]⟩, 0, 0⟩, ⟨⟨#[66]⟩, 0, 0⟩]
def awD : List Dev := [⟨⟨#[76, 49]⟩, 1, 0, 1, 0⟩, ⟨⟨#[76, 50]⟩, 1, 1, 0, 0⟩]
theorem aw_check : checkL awN awD = 0 := by decide +kernel
theorem aw_way : wayL awN awD [true, true] 0 1 = ([0], true, 0) := by decide +kernel
theorem aw_dev : devL awN awD ⟨#[76, 50]⟩ = 1 := by decide +kernel

theorem awake03 (w : World) (h : TabC w) : Calls Tryd.prog 17 #[] w (RetT w) := by
  go_enter Tryd.func17, Tryd.ntmps17
  go_wp2_with (fail)
  obtain ⟨e1, e2, e3, e4, ez, eb⟩ := four w (.cells (nodesV awN).toArray 92) (.cells (devsV awD).toArray 81) (.cells #[.slice (some ⟨w.heap.size, 0, none⟩) 2 2, .slice (some ⟨w.heap.size + 1, 0, none⟩) 2 2] 26) (.cells (bools [true, true]).toArray 4)
  obtain ⟨W, hW⟩ : ∃ W, W = ((((w.alloc (.cells (nodesV awN).toArray 92)).alloc (.cells (devsV awD).toArray 81)).alloc (.cells #[.slice (some ⟨w.heap.size, 0, none⟩) 2 2, .slice (some ⟨w.heap.size + 1, 0, none⟩) 2 2] 26)).alloc (.cells (bools [true, true]).toArray 4)) := ⟨_, rfl⟩
  rw [← hW] at e1 e2 e3 e4 ez eb
  have hin : NetIn W (fun _ => True) (some ⟨w.heap.size, 0, none⟩) (some ⟨w.heap.size + 1, 0, none⟩) awN awD := ⟨SV.block e1, SV.block e2, by decide, by decide⟩
  have hu : SB W (fun _ => True) (some ⟨w.heap.size + 1 + 1 + 1, 0, none⟩) [true, true] := SV.block e4
  have HWay := way_any W (h.below eb) _ _ _ 2 2 awN awD hin (by decide) (by decide) _ 2 [true, true] hu (by decide) 0 1
  rw [aw_way] at HWay
  have n0 : W.cell? ⟨w.heap.size + 1 + 1, 0, none⟩ = some (.slice (some ⟨w.heap.size, 0, none⟩) 2 2) := by rw [cell_of_row W _ 0 _ _ _ e3]; rfl
  have n1 : W.cell? ⟨w.heap.size + 1 + 1, 1, none⟩ = some (.slice (some ⟨w.heap.size + 1, 0, none⟩) 2 2) := by rw [cell_of_row W _ 1 _ _ _ e3]; rfl
  show Calls _ _ _ (((((w.alloc (.cells (nodesV awN).toArray 92)).alloc (.cells (devsV awD).toArray 81)).alloc (.cells #[.slice (some ⟨w.heap.size, 0, none⟩) 2 2, .slice (some ⟨w.heap.size + 1, 0, none⟩) 2 2] 26)).alloc (.cells (bools [true, true]).toArray 4))) _
  rw [← hW]
  clear hW e1 e2 e3 e4 ez
  refine HWay.mono ?_
  rintro e w1 ⟨A, c, rfl, ho1, hb1⟩
  clear HWay
  have hb1' := eb.trans (hb1.mono eb.size)
  obtain ⟨g, off, rfl, _, _, q0, _⟩ := ho1.at_ (k := 0) (by decide)
  have q0' : w1.cell? ⟨g, off, none⟩ = some (.int .i64 0) := q0
  have m0 : w1.cell? ⟨w.heap.size + 1 + 1, 0, none⟩ = some (.slice (some ⟨w.heap.size, 0, none⟩) 2 2) := (hb1.cell (p := ⟨w.heap.size + 1 + 1, 0, none⟩) (World.block_lt_of_cell? _ _ n0)).trans n0
  have m1 : w1.cell? ⟨w.heap.size + 1 + 1, 1, none⟩ = some (.slice (some ⟨w.heap.size + 1, 0, none⟩) 2 2) := (hb1.cell (p := ⟨w.heap.size + 1 + 1, 1, none⟩) (World.block_lt_of_cell? _ _ n1)).trans n1
  have hin1 := hin.below hb1
  clear n0 n1 q0 hin hu
  go_wp2_with (fail)
  have HC := check_any w1 (h.below hb1') _ _ _ 2 2 awN awD hin1 (by decide) (by decide)
  rw [aw_check] at HC
  refine HC.mono ?_
  rintro e w2 ⟨rfl, hb2⟩
  clear HC
  have hb2' := hb1'.trans (hb2.mono hb1'.size)
  have q2 : w2.cell? ⟨g, off, none⟩ = some (.int .i64 0) := (hb2.cell (p := ⟨g, off, none⟩) (World.block_lt_of_cell? _ _ q0')).trans q0'
  have p0 : w2.cell? ⟨w.heap.size + 1 + 1, 0, none⟩ = some (.slice (some ⟨w.heap.size, 0, none⟩) 2 2) := (hb2.cell (p := ⟨w.heap.size + 1 + 1, 0, none⟩) (World.block_lt_of_cell? _ _ m0)).trans m0
  have p1 : w2.cell? ⟨w.heap.size + 1 + 1, 1, none⟩ = some (.slice (some ⟨w.heap.size + 1, 0, none⟩) 2 2) := (hb2.cell (p := ⟨w.heap.size + 1 + 1, 1, none⟩) (World.block_lt_of_cell? _ _ m1)).trans m1
  have hin2 := hin1.below hb2
  clear m0 m1 hin1 q0'
  go_wp2_with (fail)
  have HD := dev_net w2 (h.below hb2') _ _ _ 2 2 awN awD hin2 (by decide) (by decide) ⟨#[76, 50]⟩
  rw [aw_dev] at HD
  refine HD.mono ?_
  rintro e w3 ⟨rfl, hb3⟩
  clear HD
  go_wp2_with (fail)
  go_ret
  exact ⟨rfl, hb2'.trans (hb3.mono hb2'.size)⟩
end Go.Proofs.YtglhplddjjoggaaDoor

/-
  The walk of colour.Both.
-/
import Derived.Test.YtglhplddjjoggaaDoorColP
namespace Go.Proofs.YtglhplddjjoggaaDoor
open Go.RowKit
set_option maxHeartbeats 400000
set_option maxRecDepth 100000

theorem both_any (w : World) (S : Nat → Prop) (A1 A2 : Option Addr) (c1 c2 : Nat) (ns : List Node) (ds : List Dev) (hn : NetIn w S A1 A2 ns ds) (hD : DevsIn ns.length ds)
    (U : Option Addr) (cu : Nat) (st : List Int) (hs : SI w S U st) (hsl : st.length = ds.length) :
    Calls Tryd.prog 132 #[.agg #[.slice A1 ns.length c1, .slice A2 ds.length c2], .slice U st.length cu] w
      fun e w' => ∃ g1 g2, e = .returned (.tuple #[.slice (some ⟨g1, 0, none⟩) ns.length ns.length, .slice (some ⟨g2, 0, none⟩) ns.length ns.length]) ∧ OIb w' g1 ns.length (partsL ns.length ds st) ∧ OIb w' g2 ns.length (colL ds st (partsL ns.length ds st)) ∧
        w.heap.size ≤ g1 ∧ w.heap.size ≤ g2 ∧ Below w.heap.size w w' := by
  have hb := (Below.refl w.heap.size w).alloc (Nat.le_refl _) (.cells #[.slice A1 ns.length c1, .slice A2 ds.length c2] 26)
  have HP := Lib.hid (parts_any _ S A1 A2 c1 c2 ns ds (hn.below hb) hD.few hD.dev U cu st (hs.keep (Kept.of_below hb)) hsl hD.across)
  have HL := Lib.hid (partsL_len ns.length ds st)
  have HB := Lib.hid (parts_bound hD hD.few st)
  have HD := Lib.hid hD
  have Hsl := Lib.hid hsl
  clear hD hsl
  generalize partsL ns.length ds st = ps at *
  go_enter Tryd.func132, Tryd.ntmps132
  go_wp2_with (fail)
  refine (HP.out).mono ?_
  rintro e w1 ⟨g1, rfl, ho1, hg1, hb1⟩
  have hbA := hb.trans (hb1.mono hb.size)
  have Hbox := Lib.hid (box_at hb1)
  have n0 : w1.cell? ⟨w.heap.size, 0, none⟩ = some (.slice A1 ns.length c1) := by rw [cell_of_row w1 _ 0 _ _ _ Hbox.out]; rfl
  have n1 : w1.cell? ⟨w.heap.size, 1, none⟩ = some (.slice A2 ds.length c2) := by rw [cell_of_row w1 _ 1 _ _ _ Hbox.out]; rfl
  have HQ := Lib.hid (colours_any w1 (fun _ => True) A1 A2 c1 c2 ns ds ((hn.below hbA).mono (fun _ _ _ => trivial)) HD.out.few HD.out.dev U cu st ((hs.keep (Kept.of_below hbA)).mono (fun _ _ _ => trivial)) Hsl.out (some ⟨g1, 0, none⟩) ns.length ps (ho1.si.mono (fun _ _ _ => trivial)) HL.out HB.out HD.out.first)
  go_wp2_with (fail)
  refine (HQ.out).mono ?_
  rintro e w2 ⟨g2, rfl, ho2, hg2, hb2⟩
  have hbB := hbA.trans (hb2.mono hbA.size)
  have hg0 : w.heap.size ≤ g1 := by have := hb.size; omega
  have hg3 : w.heap.size ≤ g2 := by have := hbA.size; omega
  have ho12 := ho1.fr (hb2.block _ ho1.lt)
  go_wp2_with (fail)
  go_ret2
  exact ⟨g1, g2, rfl, ho12, ho2, hg0, hg3, hbB⟩
end Go.Proofs.YtglhplddjjoggaaDoor

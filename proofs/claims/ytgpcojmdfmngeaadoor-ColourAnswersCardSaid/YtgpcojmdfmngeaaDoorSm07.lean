/-
  The walk of law07.same, at one list of shades.
-/
import Derived.Test.YtgpcojmdfmngeaaDoorRs07
import Derived.BigQuiet
namespace Go.Proofs.YtgpcojmdfmngeaaDoor
open Go.RowKit
set_option maxHeartbeats 400000
set_option maxRecDepth 100000

set_option maxHeartbeats 2000000 in
theorem same_any (w : World) (S T : Nat → Prop) (A B : Option Addr) (c d : Nat) (zs : List Shd) (hs : SV w S A (recV shdV zs)) (ht : SV w T B (recV shdV zs)) (hl : zs.length ≤ 65536) :
    Calls Tryd.prog 73 #[.slice A zs.length c, .slice B zs.length d] w fun e w' => e = .returned (.bool true) ∧ Below w.heap.size w w' := by
  have hne : ((zs.length : Int) != zs.length) = false := by simp
  go_enter Tryd.func73, Tryd.ntmps73
  go_wp2_with (fail)
  go_loopg [13] zs.length (fun g i wr => ∃ k : Nat, k + g = zs.length ∧ i = .int .i64 k ∧ Below w.heap.size w wr)
  case atStart => exact ⟨0, by omega, rfl, Below.refl _ _⟩
  case round =>
    obtain ⟨k, hk, rfl, hb⟩ := hrel
    have Hk := Lib.hid hk
    clear hk
    by_cases hlt : k < zs.length
    · obtain ⟨b1, f1, rfl, _, hl1, q⟩ := (hs.keep (Kept.of_below hb)).rec shdV_len (by decide) hlt
      obtain ⟨b2, f2, rfl, _, hl2, r⟩ := (ht.keep (Kept.of_below hb)).rec shdV_len (by decide) hlt
      have a0 := q 0 _ rfl
      have a1 := q 1 _ rfl
      have a2 := q 2 _ rfl
      have a3 := q 3 _ rfl
      have r0 := r 0 _ rfl
      have r1 := r 1 _ rfl
      have r2 := r 2 _ rfl
      have r3 := r 3 _ rfl
      clear q r
      generalize zs[k] = z at *
      obtain ⟨z1, z2, z3, z4⟩ := z
      simp only [Nat.add_zero] at a0 r0 a1 a2 a3 r1 r2 r3
      go_wp2_with (go_quiet (fail))
      go_roundg (gk - 1)
      case measure => have := Hk.out; omega
      case rel => exact ⟨k + 1, by have := Hk.out; omega, by go_num, hb.trans (below_drewN _ _ nq)⟩
    · go_wp2_with (fail)
      go_ret
      exact ⟨rfl, hb⟩
end Go.Proofs.YtgpcojmdfmngeaaDoor

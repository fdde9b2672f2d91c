/-
  Walk of the reference's Joins.
-/
import Derived.Test.YtglhplddjjoggaaDoorChk
namespace Go.Proofs.YtglhplddjjoggaaDoor
open Go.RowKit
set_option maxHeartbeats 400000
set_option maxRecDepth 100000

theorem refJoins_any (k : Int) (w : World) : Calls Tryd.prog 38 #[.int .i64 k] w fun e w' => e = .returned (.bool (joinsB k)) ∧ w = w' := by
  by_cases h1 : k = 1
  · subst h1
    go_enter Tryd.func38, Tryd.ntmps38
    go_wp2
    go_ret
    exact ⟨rfl, rfl⟩
  · have b1 : (k == 1) = false := by simpa using h1
    by_cases h2 : k = 2
    · subst h2
      go_enter Tryd.func38, Tryd.ntmps38
      go_wp2
      go_ret
      exact ⟨rfl, rfl⟩
    · have b2 : (k == 2) = false := by simpa using h2
      have hj := Lib.hid (show joinsB k = (k == 3) by unfold joinsB; rw [Bool.eq_iff_iff]; simp; omega)
      go_enter Tryd.func38, Tryd.ntmps38
      go_wp2
      go_ret
      exact ⟨retB (by rw [hj.out]), rfl⟩

end Go.Proofs.YtglhplddjjoggaaDoor

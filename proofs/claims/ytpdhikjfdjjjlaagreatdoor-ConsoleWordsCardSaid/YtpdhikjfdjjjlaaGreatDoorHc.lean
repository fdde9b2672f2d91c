/-
  All types lie as the model lays them.
-/
import Derived.Test.YtpdhikjfdjjjlaaGreatDoorHa0
import Derived.Test.YtpdhikjfdjjjlaaGreatDoorHa1
import Derived.Test.YtpdhikjfdjjjlaaGreatDoorHb
namespace Go.Proofs.YtpdhikjfdjjjlaaGreatDoor
open Go
set_option maxRecDepth 100000
theorem range_all {p : Nat → Bool} {a l : Nat} (h : (List.range' a l).all p = true) (t : Nat) (h1 : a ≤ t) (h2 : t < a + l) : p t = true :=
  List.all_eq_true.1 h t (List.mem_range'_1.2 ⟨h1, h2⟩)
theorem rows_all (t : Nat) (h : t < 663) : rowFine Tryz.prog t = true := by
  by_cases h0 : t < 84
  · exact range_all rows0 t (Nat.zero_le _) (by omega)
  by_cases h1 : t < 168
  · exact range_all rows1 t (by omega) (by omega)
  by_cases h2 : t < 252
  · exact range_all rows2 t (by omega) (by omega)
  by_cases h3 : t < 336
  · exact range_all rows3 t (by omega) (by omega)
  by_cases h4 : t < 420
  · exact range_all rows4 t (by omega) (by omega)
  by_cases h5 : t < 504
  · exact range_all rows5 t (by omega) (by omega)
  by_cases h6 : t < 588
  · exact range_all rows6 t (by omega) (by omega)
  by_cases h7 : t < 663
  · exact range_all rows7 t (by omega) (by omega)
  omega
theorem laidOut : laidOutB Tryz.prog = true := by
  unfold laidOutB
  rw [tsize, Bool.and_eq_true, Bool.and_eq_true]
  exact ⟨⟨List.all_eq_true.2 fun t ht => rows_all t (List.mem_range.1 ht), globs⟩, funs⟩
end Go.Proofs.YtpdhikjfdjjjlaaGreatDoor

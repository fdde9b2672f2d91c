/-
  All of the program and of the reference, at any list.
-/
import Derived.Test.YtgpcojmdfmngeaaDoorRn06
import Derived.Test.YtgpcojmdfmngeaaDoorRo06
import Derived.Test.YtgpcojmdfmngeaaDoorBnt
namespace Go.Proofs.YtgpcojmdfmngeaaDoor
open Go.RowKit
set_option maxHeartbeats 400000
set_option maxRecDepth 100000

def allV (xs : List Int) : List (List Int) × Int := if (cnt xs).2 ≠ 0 then ([], (cnt xs).2) else (allL xs, 0)
def RetAll (w : World) (r : List (List Int) × Int) (e : Ending) (w' : World) : Prop :=
  ∃ A c, e = .returned (.tuple #[.slice A r.1.length c, .int .i64 r.2]) ∧ SR w' (fun g => w.heap.size ≤ g) A r.1 ∧ Below w.heap.size w w'
theorem SR.nil (w : World) (S : Nat → Prop) : SR w S none [] := ⟨[], rfl, fun hne => absurd rfl hne, fun i ys h => by simp at h⟩
theorem cnt_zero {xs : List Int} (h : (cnt xs).2 = 0) : xs.all isMask = true ∧ (unk xs 0).length ≤ 8 := by
  unfold cnt at h
  split at h
  · rename_i h1
    split at h
    · cases h
    · rename_i h2
      exact ⟨h1, by omega⟩
  · cases h
theorem allV_any (w : World) (h : Tab w) (S : Nat → Prop) (A : Option Addr) (c : Nat) (xs : List Int) (hs : SI w S A xs) (hl : xs.length ≤ 65536) :
    Calls Tryd.prog 43 #[.slice A xs.length c] w (RetAll w (allV xs)) := by
  unfold allV
  by_cases h0 : (cnt xs).2 = 0
  · rw [if_neg (by simpa using h0)]
    obtain ⟨h1, h2⟩ := cnt_zero h0
    exact all_any w h S A c xs hs hl h1 h2
  · rw [if_pos h0]
    refine (all_err w h S A c xs hs hl (cnt xs).1 (cnt xs).2 rfl (by simpa using h0)).mono fun e w' ⟨e1, e2⟩ => ?_
    subst e1
    exact ⟨none, 0, rfl, SR.nil _ _, e2⟩
theorem refAllV_any (w : World) (S : Nat → Prop) (A : Option Addr) (c : Nat) (xs : List Int) (hs : SI w S A xs) (hl : xs.length ≤ 65536) :
    Calls Tryd.prog 44 #[.slice A xs.length c] w (RetAll w (allV xs)) := by
  unfold allV
  by_cases h0 : (cnt xs).2 = 0
  · rw [if_neg (by simpa using h0)]
    obtain ⟨h1, h2⟩ := cnt_zero h0
    have hm : ∀ x ∈ xs, 1 ≤ x ∧ x ≤ 3 := fun x hx => by have := List.all_eq_true.1 h1 x hx; unfold isMask at this; simpa using this
    have := refAll_ok w S A c xs hs hl hm (by rw [← unk_len]; exact h2)
    rw [refA_allL xs hm] at this
    exact this
  · rw [if_pos h0]
    refine (refAll_err w S A c xs hs hl (cnt xs).1 (cnt xs).2 rfl (by simpa using h0)).mono fun e w' ⟨e1, e2⟩ => ?_
    subst e1
    exact ⟨none, 0, rfl, SR.nil _ _, e2⟩
theorem allV_row (xs : List Int) : ∀ r ∈ (allV xs).1, r.length = xs.length := by
  unfold allV
  split
  · simp
  · intro r hr
    obtain ⟨k, hk, rfl⟩ := List.getElem_of_mem hr
    have := allL_get xs k hk
    simp only at hr ⊢
    rw [this, stF_len]
theorem allV_len (xs : List Int) : (allV xs).1.length ≤ 256 := by
  unfold allV
  by_cases h0 : (cnt xs).2 = 0
  · rw [if_neg (by simpa using h0)]
    obtain ⟨_, h2⟩ := cnt_zero h0
    rw [unk_len] at h2
    simp only
    rw [allL_len]
    exact Nat.pow_le_pow_right (n := 2) (by decide) h2
  · rw [if_pos h0]; simp
theorem meetV_len (xs ys : List Int) : (meetV xs ys).1.length ≤ xs.length := by
  unfold meetV
  split
  · simp; omega
  · simp
theorem joinV_len (xs ys : List Int) : (joinV xs ys).length ≤ xs.length := by
  unfold joinV
  split
  · simp; omega
  · simp
theorem unkL_len (xs : List Int) : (unk xs 0).length ≤ xs.length := by rw [unk_len]; exact num3_le xs
end Go.Proofs.YtgpcojmdfmngeaaDoor

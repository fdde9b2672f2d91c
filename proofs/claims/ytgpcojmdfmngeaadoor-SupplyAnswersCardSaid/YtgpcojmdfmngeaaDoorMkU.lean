/-
  mk.Masks, walked once more: at most so many places are unknown.
-/
import Derived.Test.YtgpcojmdfmngeaaDoorGb
namespace Go.Proofs.YtgpcojmdfmngeaaDoor
open Go.RowKit
set_option maxHeartbeats 400000
set_option maxRecDepth 100000

/-- how many places are unknown -/
def num3 : List Int → Nat
  | [] => 0
  | x :: xs => (if x = 3 then 1 else 0) + num3 xs
theorem num3_none : ∀ {xs : List Int}, (∀ x ∈ xs, x = 1 ∨ x = 2) → num3 xs = 0
  | [], _ => rfl
  | x :: xs, h => by
    have h1 := num3_none (xs := xs) (fun y hy => h y (by simp [hy]))
    have h2 := h x (by simp)
    simp only [num3, h1]
    rw [if_neg (by omega)]
theorem num3_set : ∀ (xs : List Int) (r : Nat), num3 (xs.set r 3) ≤ num3 xs + 1
  | [], _ => by simp [num3]
  | x :: xs, 0 => by simp only [List.set_cons_zero, num3, if_true]; omega
  | x :: xs, r + 1 => by
    have := num3_set xs r
    simp only [List.set_cons_succ, num3]
    omega
def RetMasks (w : World) (bd n most : Nat) (e : Ending) (w' : World) : Prop :=
  ∃ A c xs, e = .returned (.slice A xs.length c) ∧ xs.length = n ∧ (∀ x ∈ xs, 1 ≤ x ∧ x ≤ 3) ∧ num3 xs ≤ most ∧ OI w' (fun g => w.heap.size ≤ g) A c xs ∧ Deck w' bd ∧ Fr w.heap.size bd w w'

theorem masks_few (w : World) (bd : Nat) (h : Deck w bd) (A1 : Option Addr) (n1 c1 : Nat) (A2 : Option Addr) (c2 : Nat) (ds : List Dev) (S : Nat → Prop) (hS : ∀ b, S b → b ≠ bd) (hv : SV w S A2 (devsV ds)) (hl : ds.length ≤ 60) (most : Nat) (hm : most ≤ 1000) :
    Calls Tryd.prog 38 #[.pointer (some ⟨bd, 0, none⟩), .agg #[.slice A1 n1 c1, .slice A2 ds.length c2], .int .i64 most] w (RetMasks w bd ds.length most) := by
  have hbdl := h.lt
  go_enter Tryd.func38, Tryd.ntmps38
  go_wp2_with (fail)
  have hb0 : Below w.heap.size w (w.alloc (.cells #[.slice A1 n1 c1, .slice A2 ds.length c2] 26)) := (Below.refl _ _).alloc (Nat.le_refl _) _
  have hz0 : (w.alloc (.cells #[.slice A1 n1 c1, .slice A2 ds.length c2] 26)).heap.size = w.heap.size + 1 := by simp
  generalize w.alloc (.cells #[.slice A1 n1 c1, .slice A2 ds.length c2] 26) = w0 at *
  refine (state_any w0 bd (h.below hb0) A1 n1 c1 A2 c2 ds S hS (hv.keep (Kept.of_below hb0)) hl).mono ?_
  rintro e w1 ⟨A, c, xs0, rfl, hxl, hxs, hown, hd1, hf1⟩
  have Hxl := Lib.hid hxl
  have hn : xs0.length ≤ 60 := by omega
  obtain ⟨n, hnn⟩ : ∃ n, n = xs0.length := ⟨_, rfl⟩
  rw [← hnn]
  rw [← hnn] at hn
  have Hnn := Lib.hid hnn
  clear hxl hnn
  have hf0 : Fr w.heap.size bd w w1 := (Fr.of_below hb0).trans ⟨hf1.os, hf1.tape, hf1.output, hf1.size, fun k hk hne => hf1.block k (by omega) hne⟩
  go_wp2_with (fail)
  go_loopg [8] most (fun g i wr => ∃ (j : Nat) (xs : List Int), j + g = most ∧ i = .int .i64 j ∧ xs.length = n ∧ (∀ x ∈ xs, 1 ≤ x ∧ x ≤ 3) ∧ num3 xs ≤ j ∧ OI wr (fun g => w.heap.size ≤ g) A c xs ∧ Deck wr bd ∧ Fr w.heap.size bd w1 wr)
  case atStart => exact ⟨0, xs0, by omega, rfl, Hnn.out.symm, fun x hx => by rcases hxs x hx with rfl | rfl <;> decide, Nat.le_of_eq (num3_none hxs), hown.mono (fun g _ hg => by omega), hd1, Fr.refl _ _ _⟩
  case round =>
    obtain ⟨j, xs, hj, rfl, hxl, hx3, hn3, hox, hdx, hfx⟩ := hrel
    have Hn3 := Lib.hid hn3
    clear hn3
    have Hj := Lib.hid hj
    have Hl := Lib.hid hxl
    have Hx3 := Lib.hid hx3
    clear hj hxl hx3
    by_cases hgo : j < most ∧ 0 < n
    · obtain ⟨hjm, hn0⟩ := hgo
      go_wp2_with (fail)
      refine (one_any _ _ hdx _ (by decide)).mono ?_
      rintro e w2 ⟨bb, rfl, hd2, hg2, hz2⟩
      have ho2 : OI w2 (fun g => w.heap.size ≤ g) A c xs := OV.keep1 hox (fun k hk => by
        have := OV.block hox k hk
        exact hg2.block k this.2 (by intro e; injection e with e; have := this.1; omega))
      have hf2 : Fr w.heap.size bd w1 w2 := hfx.trans (Fr.of_grown hg2 (by have := hf0.size; have := hfx.size; omega))
      cases bb
      · go_wp2_with (fail)
        go_roundg (gk - 1)
        case measure => have := Hj.out; omega
        case rel =>
          have := Hj.out
          exact ⟨j + 1, xs, by omega, by go_num, Hl.out, Hx3.out, by have := Hn3.out; omega, ho2, hd2, hf2⟩
      · go_wp2_with (fail)
        refine (next_any _ _ hd2 _ (by omega)).mono ?_
        rintro e w3 ⟨r, rfl, hr, _, hd3, hg3, hz3⟩
        have hr2 : (r : Int) < n := hr (by omega)
        have hr3 : r < xs.length := by have := Hl.out; omega
        have ho3 : OI w3 (fun g => w.heap.size ≤ g) A c xs := OV.keep1 ho2 (fun k hk => by
          have := OV.block ho2 k hk
          exact hg3.block k this.2 (by intro e; injection e with e; have := this.1; omega))
        have hf3 : Fr w.heap.size bd w1 w3 := hf2.trans (Fr.of_grown hg3 (by have := hf0.size; have := hf2.size; omega))
        obtain ⟨g, off, rfl, hgs, hgl, hc, hfz⟩ := ho3.at_ hr3
        have ho4 := ho3.set r 3
        have hr4 : r < n := by omega
        clear hr
        go_wp2_with (fail)
        go_roundg (gk - 1)
        case measure => have := Hj.out; omega
        case rel =>
          have := Hj.out
          refine ⟨j + 1, _, by omega, by go_num, by simpa using Hl.out, fun x hx => ?_, by have := Hn3.out; have := num3_set xs r; omega, ho4, hd3.keep (fun k hk => Below.heap_setCell _ _ _ _ (by show k ≠ g; omega)) (by simp [World.setCell]), hf3.trans ⟨rfl, rfl, rfl, by simp [World.setCell], fun k hk _ => Below.heap_setCell _ _ _ _ (by show k ≠ g; omega)⟩⟩
          rcases List.mem_or_eq_of_mem_set hx with hx | rfl
          · exact Hx3.out x hx
          · decide
    · have hfin : ¬ (j : Int) < most ∨ n = 0 := by omega
      rcases hfin with hfin | hfin
      · go_wp2_with (fail)
        go_ret
        exact ⟨A, c, xs, by rw [Hl.out]; rfl, by rw [Hl.out, Hnn.out, Hxl.out], Hx3.out, by have := Hn3.out; have := Hj.out; omega, hox, hdx, hf0.trans hfx⟩
      · subst hfin
        by_cases hjm : j < most
        all_goals
          go_wp2_with (fail)
          go_ret
          exact ⟨A, c, xs, by rw [Hl.out]; rfl, by rw [Hl.out, Hnn.out, Hxl.out], Hx3.out, by have := Hn3.out; have := Hj.out; omega, hox, hdx, hf0.trans hfx⟩
end Go.Proofs.YtgpcojmdfmngeaaDoor

/-
  The walk of the reference's Supplied.
-/
import Derived.Test.YtgpcojmdfmngeaaDoorR07c
import Derived.Test.YtgpcojmdfmngeaaDoorGf
namespace Go.Proofs.YtgpcojmdfmngeaaDoor
open Go.RowKit
set_option maxHeartbeats 400000
set_option maxRecDepth 100000

set_option maxHeartbeats 4000000 in
theorem refSupplied_any (w : World) (S : Nat → Prop) (A1 A2 : Option Addr) (c1 c2 : Nat) (ns : List Node) (ds : List Dev) (hn : NetIn w S A1 A2 ns ds) (hl1 : ns.length ≤ 65536) (hl2 : ds.length ≤ 65536)
    (U : Option Addr) (cu : Nat) (st : List Int) (hs : SI w S U st) (hsl : st.length ≤ 65536) :
    Calls Tryd.prog 97 #[.agg #[.slice A1 ns.length c1, .slice A2 ds.length c2], .slice U st.length cu] w (RetIE w (suppliedE ns ds st)) := by
  have hb := (Below.refl w.heap.size w).alloc (Nat.le_refl _) (.cells #[.slice A1 ns.length c1, .slice A2 ds.length c2] 26)
  have HC := Lib.hid (refColours_any _ S A1 A2 c1 c2 ns ds (hn.below hb) hl1 hl2 U cu st (hs.keep (Kept.of_below hb)) hsl)
  obtain ⟨cs, ce, hcse, HP, HE, hcl⟩ : ∃ cs ce, coloursE ns ds st = (cs, ce) ∧ (∀ v (hv : v < cs.length), suppB ns ds st v = (decide (0 < custAt ns v) && (cs[v] == 1))) ∧ suppliedE ns ds st = (supN (suppB ns ds st) cs.length, ce) ∧ cs.length ≤ ns.length := by
    unfold coloursE suppliedE
    by_cases h0 : maskC isPos ns ds st ≠ 0
    · rw [if_pos h0, if_pos h0]
      exact ⟨_, _, rfl, fun v hv => by simp at hv, rfl, by simp⟩
    · rw [if_neg h0, if_neg h0]
      have hl : (colL ds st (partsL ns.length ds st)).length = ns.length := by rw [colL_len, partsL_len]
      refine ⟨_, _, rfl, fun v hv => ?_, by rw [hl]; rfl, by omega⟩
      unfold suppB
      rw [at_get hv]
  rw [hcse] at HC
  have HP := Lib.hid HP
  have HE := Lib.hid HE
  clear hcse hs
  generalize suppB ns ds st = P at *
  go_enter Tryd.func97, Tryd.ntmps97
  go_wp2_with (fail)
  refine (HC.out).mono ?_
  rintro e w1 ⟨Ac, cc, rfl, oC, hb1⟩
  have hbA := hb.trans (hb1.mono hb.size)
  have Hbox := Lib.hid (box_at hb1)
  have n0 : w1.cell? ⟨w.heap.size, 0, none⟩ = some (.slice A1 ns.length c1) := by rw [cell_of_row w1 _ 0 _ _ _ Hbox.out]; rfl
  have hn1 := hn.below hbA
  have sC := OI.si oC
  clear HC hb1 oC hn Hbox hb
  go_wp2_with (fail)
  go_loopg [8, 9] cs.length (fun g v i wr => ∃ (k : Nat) (A' : Option Addr) (c' : Nat), k + g = cs.length ∧ i = .int .i64 k ∧ v = .slice A' (supN P k).length c' ∧ OI wr (fun g => w1.heap.size ≤ g) A' c' (supN P k) ∧ Below w1.heap.size w1 wr)
  case atStart => exact ⟨0, none, 0, by omega, rfl, rfl, OI.nil _ _, Below.refl _ _⟩
  case round =>
    obtain ⟨k, A', c', hk, rfl, rfl, hown, hbel⟩ := hrel
    have Hk := Lib.hid hk
    have hyl := supN_len P k
    have n0 := (hbel.cell (p := ⟨w.heap.size, 0, none⟩) (World.block_lt_of_cell? _ _ n0)).trans n0
    clear hk
    by_cases hlt : k < cs.length
    · have hkn : k < ns.length := by omega
      obtain ⟨b, off, rfl, _, _, q0, q1, q2⟩ := (hn1.below hbel).node hkn
      obtain ⟨g3, o3, rfl, _, _, d1⟩ := (sC.keep (Kept.of_below hbel)).at_ hlt
      have hp := HP.out k hlt
      rw [custAt_nat hkn] at hp
      have hs1 : supN P (k + 1) = supN P k ++ (if P k then [(k : Int)] else []) := rfl
      generalize ns[k].cust = cu' at *
      generalize cs[k] = cv at *
      by_cases h1 : (cv == 1) = true
      · by_cases h2 : 0 < cu'
        · have h2d : decide (0 < cu') = true := decide_eq_true h2
          have Hs := Lib.hid (show supN P (k + 1) = supN P k ++ [(k : Int)] by rw [hs1, hp, h2d, h1]; rfl)
          have oP := OI.keep hown (Kept.alloc _ wr (.cells #[.int .i64 k] 3))
          have hzr := hbel.size
          clear hs1 hp
          go_wp2_with (at_builtin; go_must (refine wpList_push (B := w1.heap.size) rfl (.tmp 36) (.tmp 38) rfl (xs := supN P k) (y := (k : Int)) rfl rfl rfl oP (new_cell wr _ _) (by omega) (by simp; omega) ?_); intro A5 c5 w5 ho5 hb5 _ _)
          go_roundg (gk - 1)
          case measure => have := Hk.out; omega
          case rel => exact ⟨k + 1, A5, c5, by have := Hk.out; omega, by go_num, by rw [Hs.out]; simp, by rw [Hs.out]; exact ho5, (hbel.alloc hbel.size _).trans hb5⟩
        · have h2d : decide (0 < cu') = false := decide_eq_false h2
          have Hs := Lib.hid (show supN P (k + 1) = supN P k by rw [hs1, hp, h2d]; simp)
          clear hs1 hp
          go_wp2_with (fail)
          go_roundg (gk - 1)
          case measure => have := Hk.out; omega
          case rel => exact ⟨k + 1, A', c', by have := Hk.out; omega, by go_num, by rw [Hs.out], by rw [Hs.out]; exact hown, hbel⟩
      · have h1 : (cv == 1) = false := by simpa using h1
        have Hs := Lib.hid (show supN P (k + 1) = supN P k by rw [hs1, hp, h1]; simp)
        clear hs1 hp
        go_wp2_with (fail)
        go_roundg (gk - 1)
        case measure => have := Hk.out; omega
        case rel => exact ⟨k + 1, A', c', by have := Hk.out; omega, by go_num, by rw [Hs.out], by rw [Hs.out]; exact hown, hbel⟩
    · have hkc : k = cs.length := by have := Hk.out; omega
      subst hkc
      go_wp2_with (fail)
      go_ret2
      rw [HE.out]
      exact ⟨A', c', rfl, hown.mono (fun g _ hg => by have hg : w1.heap.size ≤ g := hg; have := hbA.size; show w.heap.size ≤ g; omega), hbA.trans (hbel.mono hbA.size)⟩
end Go.Proofs.YtgpcojmdfmngeaaDoor

/-
  Walks of the reference's checks of states and masks.
-/
import Derived.Test.YtgpcojmdfmngeaaDoorGd
import Derived.Test.YtgpcojmdfmngeaaDoorGe
import Derived.Test.YtgpcojmdfmngeaaDoorGk
namespace Go.Proofs.YtgpcojmdfmngeaaDoor
open Go.RowKit
set_option maxHeartbeats 400000
set_option maxRecDepth 100000

/-- from 1 to most -/
def upTo (most : Int) (x : Int) : Bool := decide (1 ≤ x) && decide (x ≤ most)
theorem upTo_two : upTo 2 = isPos := rfl
theorem upTo_three : upTo 3 = isMask := rfl

set_option maxHeartbeats 2000000 in
theorem refPositions_any (w : World) (S : Nat → Prop) (A1 A2 : Option Addr) (c1 c2 : Nat) (ns : List Node) (ds : List Dev) (hn : NetIn w S A1 A2 ns ds) (hl1 : ns.length ≤ 65536) (hl2 : ds.length ≤ 65536)
    (U : Option Addr) (cu : Nat) (st : List Int) (hs : SI w S U st) (hsl : st.length ≤ 65536) (most : Int) :
    Calls Tryd.prog 126 #[.agg #[.slice A1 ns.length c1, .slice A2 ds.length c2], .slice U st.length cu, .int .i64 most] w fun e w' => e = .returned (.int .i64 (maskC (upTo most) ns ds st)) ∧ Below w.heap.size w w' := by
  have hb := (Below.refl w.heap.size w).alloc (Nat.le_refl _) (.cells #[.slice A1 ns.length c1, .slice A2 ds.length c2] 26)
  have HC := Lib.hid (refCheck_any _ S A1 A2 c1 c2 ns ds (hn.below hb) hl1 hl2)
  have HE := Lib.hid (show maskC (upTo most) ns ds st = if checkL ns ds ≠ 0 then checkL ns ds else if st.length ≠ ds.length then 9 else if st.all (upTo most) = true then 0 else 10 from rfl)
  generalize checkL ns ds = ce at *
  by_cases h0 : (ce != 0) = true
  · have H0 := Lib.hid (show ¬ ce = 0 by simpa using h0)
    go_enter Tryd.func126, Tryd.ntmps126
    go_wp2_with (fail)
    refine (HC.out).mono ?_
    rintro e w1 ⟨rfl, hb1⟩
    go_wp2_with (fail)
    go_ret
    rw [HE.out, if_pos H0.out]
    exact ⟨rfl, hb.trans (hb1.mono hb.size)⟩
  · have h0' : (ce != 0) = false := by simpa using h0
    have hz : ce = 0 := by simpa using h0
    rw [if_neg (by simpa using hz)] at HE
    clear h0 hz
    by_cases hlen : st.length = ds.length
    · have hlb : ((st.length : Int) != ds.length) = false := by simp [hlen]
      rw [if_neg (by simpa using hlen)] at HE
      clear hlen
      go_enter Tryd.func126, Tryd.ntmps126
      go_wp2_with (fail)
      refine (HC.out).mono ?_
      rintro e w1 ⟨rfl, hb1⟩
      have hbA := hb.trans (hb1.mono hb.size)
      have Hbox := Lib.hid (box_at hb1)
      have n1 : w1.cell? ⟨w.heap.size, 1, none⟩ = some (.slice A2 ds.length c2) := by rw [cell_of_row w1 _ 1 _ _ _ Hbox.out]; rfl
      go_wp2_with (fail)
      clear n1 Hbox hb1 hb
      have hs1 := hs.keep (Kept.of_below hbA)
      go_loopg [8] st.length (fun g i wr => wr = w1 ∧ ∃ k : Nat, k + g = st.length ∧ i = .int .i64 k ∧ st.all (upTo most) = (st.drop k).all (upTo most))
      case atStart => exact ⟨rfl, 0, by omega, rfl, rfl⟩
      case round =>
        obtain ⟨rfl, k, hk, rfl, hi⟩ := hrel
        have Hi := Lib.hid hi
        clear hi
        have Hk := Lib.hid hk
        clear hk
        by_cases hlt : k < st.length
        · obtain ⟨b, off, rfl, _, _, hc⟩ := hs1.at_ hlt
          have Hd := Lib.hid (all_drop (upTo most) st k hlt)
          have HX := Lib.hid (show ∀ x : Int, upTo most x = (decide (1 ≤ x) && decide (x ≤ most)) from fun _ => rfl)
          obtain ⟨x, hx⟩ : ∃ x, x = st[k] := ⟨_, rfl⟩
          rw [← hx] at hc Hd
          rw [HX.out] at Hd
          clear hx
          by_cases h1 : 1 ≤ x
          · by_cases h2 : x ≤ most
            · rw [decide_eq_true h1, decide_eq_true h2] at Hd
              go_wp2_with (fail)
              go_roundg (gk - 1)
              case measure => have := Hk.out; omega
              case rel =>
                have := Hk.out
                refine ⟨rfl, k + 1, by omega, by go_num, ?_⟩
                rw [Hi.out, Hd.out, Bool.true_and, Bool.true_and]
            · rw [decide_eq_true h1, decide_eq_false h2] at Hd
              go_wp2_with (fail)
              go_ret
              rw [HE.out, Hi.out, Hd.out]
              exact ⟨rfl, hbA⟩
          · rw [decide_eq_false h1] at Hd
            have h1' : x < 1 := by omega
            go_wp2_with (fail)
            go_ret
            rw [HE.out, Hi.out, Hd.out]
            exact ⟨rfl, hbA⟩
        · go_wp2_with (fail)
          go_ret
          rw [HE.out, Hi.out, List.drop_of_length_le (by omega)]
          exact ⟨rfl, hbA⟩
    · have hlb : ((st.length : Int) != ds.length) = true := by simp; omega
      rw [if_pos (by simpa using hlen)] at HE
      clear hlen
      go_enter Tryd.func126, Tryd.ntmps126
      go_wp2_with (fail)
      refine (HC.out).mono ?_
      rintro e w1 ⟨rfl, hb1⟩
      have hbA := hb.trans (hb1.mono hb.size)
      have Hbox := Lib.hid (box_at hb1)
      have n1 : w1.cell? ⟨w.heap.size, 1, none⟩ = some (.slice A2 ds.length c2) := by rw [cell_of_row w1 _ 1 _ _ _ Hbox.out]; rfl
      go_wp2_with (fail)
      go_ret
      rw [HE.out]
      exact ⟨rfl, hbA⟩

theorem refState_any (w : World) (S : Nat → Prop) (A1 A2 : Option Addr) (c1 c2 : Nat) (ns : List Node) (ds : List Dev) (hn : NetIn w S A1 A2 ns ds) (hl1 : ns.length ≤ 65536) (hl2 : ds.length ≤ 65536)
    (U : Option Addr) (cu : Nat) (st : List Int) (hs : SI w S U st) (hsl : st.length ≤ 65536) :
    Calls Tryd.prog 48 #[.agg #[.slice A1 ns.length c1, .slice A2 ds.length c2], .slice U st.length cu] w fun e w' => e = .returned (.int .i64 (maskC isPos ns ds st)) ∧ Below w.heap.size w w' := by
  have hb := (Below.refl w.heap.size w).alloc (Nat.le_refl _) (.cells #[.slice A1 ns.length c1, .slice A2 ds.length c2] 26)
  have HC := Lib.hid (refPositions_any _ S A1 A2 c1 c2 ns ds (hn.below hb) hl1 hl2 U cu st (hs.keep (Kept.of_below hb)) hsl 2)
  go_enter Tryd.func48, Tryd.ntmps48
  go_wp2_with (fail)
  refine (HC.out).mono ?_
  rintro e w1 ⟨rfl, hb1⟩
  go_wp2_with (fail)
  go_ret
  exact ⟨rfl, hb.trans (hb1.mono hb.size)⟩
end Go.Proofs.YtgpcojmdfmngeaaDoor

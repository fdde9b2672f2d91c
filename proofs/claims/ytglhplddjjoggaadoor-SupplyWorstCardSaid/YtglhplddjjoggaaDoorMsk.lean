/-
  Walks of mask.position, mask.check, mask.State.
-/
import Derived.Test.YtglhplddjjoggaaDoorCol
namespace Go.Proofs.YtglhplddjjoggaaDoor
open Go.RowKit
set_option maxHeartbeats 400000
set_option maxRecDepth 100000

def isPos (m : Int) : Bool := decide (1 ≤ m) && decide (m ≤ 2)

theorem position_any (m : Int) (w : World) (h : Tab w) : Calls Tryd.prog 120 #[.int .i64 m] w fun e w' => e = .returned (.bool (isPos m)) ∧ w = w' := by
  obtain ⟨h0, h1, h2, h3, h4, h5, h6, h7⟩ := h
  by_cases a : 0 ≤ m
  · by_cases b : m < 4
    · have : m = 0 ∨ m = 1 ∨ m = 2 ∨ m = 3 := by omega
      rcases this with rfl | rfl | rfl | rfl
      all_goals
        go_enter Tryd.func120, Tryd.ntmps120
        go_wp2
        go_ret
        exact ⟨rfl, rfl⟩
    · go_enter Tryd.func120, Tryd.ntmps120
      go_wp2
      go_ret
      exact ⟨by simp [isPos]; omega, rfl⟩
  · go_enter Tryd.func120, Tryd.ntmps120
    go_wp2
    go_ret
    exact ⟨by simp [isPos]; omega, rfl⟩
theorem goes_position : Goes 120 := fun args w => by kernel_rfl

/-- what mask.check says -/
def maskC (p : Int → Bool) (ns : List Node) (ds : List Dev) (st : List Int) : Int :=
  if checkL ns ds ≠ 0 then checkL ns ds else if st.length ≠ ds.length then 9 else if st.all p = true then 0 else 10
theorem all_drop (p : Int → Bool) (xs : List Int) (k : Nat) (h : k < xs.length) : (xs.drop k).all p = (p xs[k] && (xs.drop (k + 1)).all p) := by
  rw [List.drop_eq_getElem_cons h]; rfl

set_option maxHeartbeats 2000000 in
theorem mcheck_any (f : FuncId) (hgo : Goes f) (p : Int → Bool) (hf : ∀ x w, Tab w → Calls Tryd.prog f #[.int .i64 x] w fun e w' => e = .returned (.bool (p x)) ∧ w = w')
    (w : World) (h : TabC w) (ht : Tab w) (S : Nat → Prop) (A1 A2 : Option Addr) (c1 c2 : Nat) (ns : List Node) (ds : List Dev) (hn : NetIn w S A1 A2 ns ds) (hl1 : ns.length ≤ 65536) (hl2 : ds.length ≤ 65536)
    (U : Option Addr) (cu : Nat) (st : List Int) (hs : SI w S U st) (hsl : st.length ≤ 65536) :
    Calls Tryd.prog 117 #[.agg #[.slice A1 ns.length c1, .slice A2 ds.length c2], .slice U st.length cu, .func (.func f) #[] #[]] w fun e w' => e = .returned (.int .i64 (maskC p ns ds st)) ∧ Below w.heap.size w w' := by
  unfold Goes at hgo
  have HF := Lib.hid hf
  clear hf
  have hb := (Below.refl w.heap.size w).alloc (Nat.le_refl _) (.cells #[.slice A1 ns.length c1, .slice A2 ds.length c2] 26)
  have HC := Lib.hid (check_any _ (h.below hb) S A1 A2 c1 c2 ns ds (hn.below hb) hl1 hl2)
  have HE := Lib.hid (show maskC p ns ds st = if checkL ns ds ≠ 0 then checkL ns ds else if st.length ≠ ds.length then 9 else if st.all p = true then 0 else 10 from rfl)
  generalize checkL ns ds = ce at *
  by_cases h0 : (ce != 0) = true
  · have H0 := Lib.hid (show ¬ ce = 0 by simpa using h0)
    go_enter Tryd.func117, Tryd.ntmps117
    go_wp2_with (fail)
    refine (HC.out).mono ?_
    rintro e w1 ⟨rfl, hb1⟩
    go_wp2_with (fail)
    go_ret
    rw [HE.out, if_pos H0.out]
    exact ⟨rfl, hb.trans (hb1.mono hb.size)⟩
  · have h0' : (ce != 0) = false := by simpa using h0
    have hz : ce = 0 := by simpa using h0
    rw [if_neg (by simpa using hz)] at HE
    clear h0 hz
    by_cases hlen : st.length = ds.length
    · have hlb : ((st.length : Int) != ds.length) = false := by simp [hlen]
      rw [if_neg (by simpa using hlen)] at HE
      clear hlen
      go_enter Tryd.func117, Tryd.ntmps117
      go_wp2_with (fail)
      refine (HC.out).mono ?_
      rintro e w1 ⟨rfl, hb1⟩
      have hbA := hb.trans (hb1.mono hb.size)
      have Hbox := Lib.hid (box_at hb1)
      have n1 : w1.cell? ⟨w.heap.size, 1, none⟩ = some (.slice A2 ds.length c2) := by rw [cell_of_row w1 _ 1 _ _ _ Hbox.out]; rfl
      go_wp2_with (fail)
      clear n1 Hbox hb1 hb
      have hs1 := hs.keep (Kept.of_below hbA)
      have ht1 := ht.below hbA
      go_loopg [23] st.length (fun g i wr => wr = w1 ∧ ∃ k : Nat, k + g = st.length ∧ i = .int .i64 k ∧ st.all p = (st.drop k).all p)
      case atStart => exact ⟨rfl, 0, by omega, rfl, rfl⟩
      case round =>
        obtain ⟨rfl, k, hk, rfl, hi⟩ := hrel
        have Hi := Lib.hid hi
        clear hi
        have Hk := Lib.hid hk
        clear hk
        by_cases hlt : k < st.length
        · obtain ⟨b, off, rfl, _, _, hc⟩ := hs1.at_ hlt
          have Hd := Lib.hid (all_drop p st k hlt)
          go_wp2_with (fail)
          refine (HF.out _ _ ht1).mono ?_
          rintro e w' ⟨rfl, rfl⟩
          by_cases hp : p st[k] = true
          · rw [hp] at Hd ⊢
            clear hp
            go_wp2_with (fail)
            go_roundg (gk - 1)
            case measure => have := Hk.out; omega
            case rel =>
              have := Hk.out
              refine ⟨rfl, k + 1, by omega, by go_num, ?_⟩
              rw [Hi.out, Hd.out, Bool.true_and]
          · have hp : p st[k] = false := by simpa using hp
            rw [hp] at Hd ⊢
            clear hp
            go_wp2_with (fail)
            go_ret
            rw [HE.out, Hi.out, Hd.out]
            exact ⟨rfl, hbA⟩
        · go_wp2_with (fail)
          go_ret
          rw [HE.out, Hi.out, List.drop_of_length_le (by omega)]
          exact ⟨rfl, hbA⟩
    · have hlb : ((st.length : Int) != ds.length) = true := by simp; omega
      rw [if_pos (by simpa using hlen)] at HE
      clear hlen
      go_enter Tryd.func117, Tryd.ntmps117
      go_wp2_with (fail)
      refine (HC.out).mono ?_
      rintro e w1 ⟨rfl, hb1⟩
      have hbA := hb.trans (hb1.mono hb.size)
      have Hbox := Lib.hid (box_at hb1)
      have n1 : w1.cell? ⟨w.heap.size, 1, none⟩ = some (.slice A2 ds.length c2) := by rw [cell_of_row w1 _ 1 _ _ _ Hbox.out]; rfl
      go_wp2_with (fail)
      go_ret
      rw [HE.out]
      exact ⟨rfl, hbA⟩

theorem mstate_any (w : World) (h : TabC w) (ht : Tab w) (S : Nat → Prop) (A1 A2 : Option Addr) (c1 c2 : Nat) (ns : List Node) (ds : List Dev) (hn : NetIn w S A1 A2 ns ds) (hl1 : ns.length ≤ 65536) (hl2 : ds.length ≤ 65536)
    (U : Option Addr) (cu : Nat) (st : List Int) (hs : SI w S U st) (hsl : st.length ≤ 65536) :
    Calls Tryd.prog 53 #[.agg #[.slice A1 ns.length c1, .slice A2 ds.length c2], .slice U st.length cu] w fun e w' => e = .returned (.int .i64 (maskC isPos ns ds st)) ∧ Below w.heap.size w w' := by
  have hb := (Below.refl w.heap.size w).alloc (Nat.le_refl _) (.cells #[.slice A1 ns.length c1, .slice A2 ds.length c2] 26)
  have HC := Lib.hid (mcheck_any 120 goes_position isPos position_any _ (h.below hb) (ht.below hb) S A1 A2 c1 c2 ns ds (hn.below hb) hl1 hl2 U cu st (hs.keep (Kept.of_below hb)) hsl)
  go_enter Tryd.func53, Tryd.ntmps53
  go_wp2_with (fail)
  refine (HC.out).mono ?_
  rintro e w1 ⟨rfl, hb1⟩
  go_wp2_with (fail)
  go_ret
  exact ⟨rfl, hb.trans (hb1.mono hb.size)⟩
end Go.Proofs.YtglhplddjjoggaaDoor

/-
  Walks: Join, Finer, Agrees (over the checks of states).
-/
import Derived.Test.YtgpcojmdfmngeaaDoorGe
namespace Go.Proofs.YtgpcojmdfmngeaaDoor
open Go.RowKit
set_option maxHeartbeats 400000
set_option maxRecDepth 100000

def orM (x y : Int) : Int := if x = y then x else 3
def difM (x y : Int) : Int := if y = 3 then 0 else if x = y then 0 else if x = 3 then 3 - y else x

theorem goes_join1 : Goes 133 := fun args w => by kernel_rfl
theorem goes_finer1 : Goes 134 := fun args w => by kernel_rfl
theorem goes_finer2 : Goes 136 := fun args w => by kernel_rfl

theorem join1_any (x y : Int) (w : World) (hx : 1 ≤ x) (hx3 : x ≤ 3) (hy : 1 ≤ y) (hy3 : y ≤ 3) : Calls Tryd.prog 133 #[.int .i64 x, .int .i64 y] w fun e w' => e = .returned (.int .i64 (orM x y)) ∧ w = w' := by
  have h1 : x = 1 ∨ x = 2 ∨ x = 3 := by omega
  have h2 : y = 1 ∨ y = 2 ∨ y = 3 := by omega
  rcases h1 with rfl | rfl | rfl <;> rcases h2 with rfl | rfl | rfl
  all_goals
    go_enter Tryd.func133, Tryd.ntmps133
    go_wp2
    go_ret
    exact ⟨rfl, rfl⟩
theorem finer1_any (x y : Int) (w : World) (hx : 1 ≤ x) (hx3 : x ≤ 3) (hy : 1 ≤ y) (hy3 : y ≤ 3) : Calls Tryd.prog 134 #[.int .i64 x, .int .i64 y] w fun e w' => e = .returned (.int .i64 (difM x y)) ∧ w = w' := by
  have h1 : x = 1 ∨ x = 2 ∨ x = 3 := by omega
  have h2 : y = 1 ∨ y = 2 ∨ y = 3 := by omega
  rcases h1 with rfl | rfl | rfl <;> rcases h2 with rfl | rfl | rfl
  all_goals
    go_enter Tryd.func134, Tryd.ntmps134
    go_wp2
    go_ret
    exact ⟨rfl, rfl⟩
theorem finer2_any (x : Int) (w : World) : Calls Tryd.prog 136 #[.int .i64 x] w fun e w' => e = .returned (.bool (x != 0)) ∧ w = w' := by
  go_enter Tryd.func136, Tryd.ntmps136
  go_wp2
  go_ret
  exact ⟨rfl, rfl⟩

theorem join_yes (w : World) (h : Tab w) (S T : Nat → Prop) (A B : Option Addr) (c d : Nat) (xs ys : List Int) (hs : SI w S A xs) (ht : SI w T B ys) (hl : xs.length ≤ 65536) (hok : okPair xs ys = true) :
    Calls Tryd.prog 57 #[.slice A xs.length c, .slice B ys.length d] w fun e w' => ∃ A' c', e = .returned (.slice A' xs.length c') ∧ OI w' (fun g => w.heap.size ≤ g) A' c' (List.zipWith orM xs ys) ∧ Below w.heap.size w w' := by
  obtain ⟨o1, o2, o3⟩ := okPair_parts hok
  have Hp := Lib.hid (pairs_any _ goes_join1 orM w h S T A B c d xs ys hs ht hl o1 o2 o3 (fun x y W h1 h2 h3 h4 => join1_any x y W h1 h2 h3 h4))
  generalize List.zipWith orM xs ys = Z at *
  clear o1 o2 o3 hok
  go_enter Tryd.func57, Tryd.ntmps57
  go_wp2_with (go_at_call 130; (with_reducible refine (Hp.out).mono ?_); rintro e w1 ⟨A1, c1, rfl, ho1, hb1⟩)
  go_ret
  exact ⟨_, _, rfl, ho1, hb1⟩

def finer (xs ys : List Int) : Bool := !(List.zipWith difM xs ys).any (fun x => x != 0)

theorem finer_yes (w : World) (h : Tab w) (S T : Nat → Prop) (A B : Option Addr) (c d : Nat) (xs ys : List Int) (hs : SI w S A xs) (ht : SI w T B ys) (hl : xs.length ≤ 65536) (hok : okPair xs ys = true) :
    Calls Tryd.prog 59 #[.slice A xs.length c, .slice B ys.length d] w fun e w' => e = .returned (.bool (finer xs ys)) ∧ Below w.heap.size w w' := by
  obtain ⟨o1, o2, o3⟩ := okPair_parts hok
  have Hp := Lib.hid (pairs_any _ goes_finer1 difM w h S T A B c d xs ys hs ht hl o1 o2 o3 (fun x y W h1 h2 h3 h4 => finer1_any x y W h1 h2 h3 h4))
  have hzl : (List.zipWith difM xs ys).length = xs.length := by simp; omega
  unfold finer
  generalize List.zipWith difM xs ys = Z at *
  have Hzl := Lib.hid hzl
  clear hzl o1 o2 o3 hok
  go_enter Tryd.func59, Tryd.ntmps59
  go_wp2_with (go_at_call 130; (with_reducible refine (Hp.out).mono ?_); rintro e w1 ⟨A1, c1, rfl, ho1, hb1⟩)
  have hc := containsFunc_any _ goes_finer2 (fun x => x != 0) w1 _ A1 c1 Z ho1.si (by rw [Hzl.out]; exact hl) (fun x => finer2_any x _)
  rw [Hzl.out] at hc
  refine hc.mono ?_
  rintro e w' ⟨rfl, rfl⟩
  go_wp2
  go_ret
  exact ⟨rfl, hb1⟩

def agB (x y : Int) : Bool := isPos x && (decide (y = 3) || decide (x = y))
def agl : List Int → List Int → Bool
  | x :: xs, y :: ys => agB x y && agl xs ys
  | _, _ => true
def agr (xs ys : List Int) : Bool := decide (xs.length = ys.length) && ys.all isMask && agl xs ys

theorem agl_drop (xs ys : List Int) (k : Nat) (h : k < xs.length) (h2 : k < ys.length) : agl (xs.drop k) (ys.drop k) = (agB xs[k] ys[k] && agl (xs.drop (k + 1)) (ys.drop (k + 1))) := by
  rw [List.drop_eq_getElem_cons h, List.drop_eq_getElem_cons h2]; rfl

theorem agrees_any (w : World) (h : Tab w) (S T : Nat → Prop) (A B : Option Addr) (c d : Nat) (xs ys : List Int) (hs : SI w S A xs) (ht : SI w T B ys) (hl : xs.length ≤ 65536) (hl2 : ys.length ≤ 65536) :
    Calls Tryd.prog 61 #[.slice A xs.length c, .slice B ys.length d] w fun e w' => e = .returned (.bool (agr xs ys)) ∧ w = w' := by
  have hv := valid_any w h T B d ys ht hl2
  by_cases hlen : xs.length = ys.length
  · have hb : ((xs.length : Int) != ys.length) = false := by simp [hlen]
    have hagr : agr xs ys = (ys.all isMask && agl xs ys) := by unfold agr; simp [hlen]
    rw [hagr]
    have Hl := Lib.hid hlen
    clear hlen hagr
    by_cases hm : ys.all isMask = true
    · have Hm := Lib.hid (masks_of hm)
      rw [hm] at hv
      rw [hm, Bool.true_and]
      have Hv := Lib.hid hv
      clear hm hv
      go_enter Tryd.func61, Tryd.ntmps61
      go_wp2_with (go_at_call 121; (with_reducible refine (Hv.out).mono ?_); rintro e w' ⟨rfl, rfl⟩)
      go_loopg [5, 6, 19] xs.length (fun g _ _ i wr => wr = w ∧ ∃ k : Nat, k + g = xs.length ∧ i = .int .i64 k ∧ agl xs ys = agl (xs.drop k) (ys.drop k))
      case atStart => exact ⟨rfl, 0, by omega, rfl, rfl⟩
      case round =>
        obtain ⟨rfl, k, hk, rfl, hi⟩ := hrel
        have Hi := Lib.hid hi
        have Hk := Lib.hid hk
        clear hi hk
        by_cases hlt : k < xs.length
        · have hlt2 : k < ys.length := by have := Hl.out; omega
          obtain ⟨b, off, rfl, _, _, hc⟩ := hs.at_ hlt
          obtain ⟨b2, off2, rfl, _, _, hc2⟩ := ht.at_ hlt2
          have Hd := Lib.hid (agl_drop xs ys k hlt hlt2)
          have my := Hm.out k hlt2
          have hp := position_any xs[k] wr h
          generalize xs[k] = x at *
          generalize ys[k] = y at *
          by_cases hx : isPos x = true
          · rw [hx] at hp
            have Hp := Lib.hid hp
            have hx2 : x = 1 ∨ x = 2 := by unfold isPos at hx; simp at hx; omega
            have hy2 : y = 1 ∨ y = 2 ∨ y = 3 := by omega
            clear hp hx my
            rcases hx2 with rfl | rfl <;> rcases hy2 with rfl | rfl | rfl
            all_goals
              go_wp2_with (go_at_call 127; (with_reducible refine (Hp.out).mono ?_); rintro e w' ⟨rfl, rfl⟩)
              first
              | (go_ret
                 exact ⟨by rw [Hi.out, Hd.out]; rfl, rfl⟩)
              | (go_roundg (gk - 1)
                 case measure => have := Hk.out; omega
                 case rel =>
                   have := Hk.out
                   refine ⟨rfl, k + 1, by omega, by go_num, ?_⟩
                   rw [Hi.out, Hd.out]; rfl)
          · have hx' : isPos x = false := by simpa using hx
            rw [hx'] at hp
            have Hp := Lib.hid hp
            have Hx := Lib.hid hx'
            clear hp hx hx' my
            go_wp2_with (go_at_call 127; (with_reducible refine (Hp.out).mono ?_); rintro e w' ⟨rfl, rfl⟩)
            go_ret
            refine ⟨?_, rfl⟩
            rw [Hi.out, Hd.out]
            unfold agB
            rw [Hx.out]
            rfl
        · go_wp2_with (fail)
          go_ret
          refine ⟨?_, rfl⟩
          rw [Hi.out, List.drop_of_length_le (by omega)]
          rfl
    · have hm' : ys.all isMask = false := by simpa using hm
      rw [hm'] at hv
      rw [hm', Bool.false_and]
      have Hv := Lib.hid hv
      clear hm hm' hv
      go_enter Tryd.func61, Tryd.ntmps61
      go_wp2_with (go_at_call 121; (with_reducible refine (Hv.out).mono ?_); rintro e w' ⟨rfl, rfl⟩)
      go_ret
      exact ⟨rfl, rfl⟩
  · have hb : ((xs.length : Int) != ys.length) = true := by simp; omega
    have hagr : agr xs ys = false := by unfold agr; simp [hlen]
    rw [hagr]
    clear hv hagr
    go_enter Tryd.func61, Tryd.ntmps61
    go_wp2
    go_ret
    exact ⟨rfl, rfl⟩
end Go.Proofs.YtgpcojmdfmngeaaDoor

/-
  Walks of the mask's small functions and of the functions of package slices that they call.
-/
import Derived.Test.YtglhplddjjoggaaDoorBase
namespace Go.Proofs.YtglhplddjjoggaaDoor
open Go.RowKit
set_option maxHeartbeats 400000

/-- the table of masks in a world -/
def Tab (w : World) : Prop :=
  w.cell? ⟨0, 0, none⟩ = some (.bool false) ∧ w.cell? ⟨0, 1, none⟩ = some (.bool false) ∧ w.cell? ⟨0, 2, none⟩ = some (.bool true) ∧ w.cell? ⟨0, 3, none⟩ = some (.bool true) ∧
  w.cell? ⟨0, 4, none⟩ = some (.bool true) ∧ w.cell? ⟨0, 5, none⟩ = some (.bool true) ∧ w.cell? ⟨0, 6, none⟩ = some (.bool true) ∧ w.cell? ⟨0, 7, none⟩ = some (.bool false)

theorem Tab.lt {w : World} (h : Tab w) : 0 < w.heap.size := World.block_lt_of_cell? w _ h.1
theorem Tab.keep {w w' : World} (h : Tab w) (e : w'.heap[0]? = w.heap[0]?) : Tab w' := by
  unfold Tab at *
  have hc : ∀ o, w'.cell? ⟨0, o, none⟩ = w.cell? ⟨0, o, none⟩ := fun o => World.cell?_of_block e
  simpa only [hc] using h
theorem Tab.below {w w' : World} (h : Tab w) (hb : Below w.heap.size w w') : Tab w' := h.keep (hb.block _ h.lt)

def isMask (m : Int) : Bool := decide (1 ≤ m) && decide (m ≤ 3)

theorem is_any (m : Int) (w : World) (h : Tab w) : Calls Tryd.prog 118 #[.int .i64 m] w fun e w' => e = .returned (.bool (isMask m)) ∧ w = w' := by
  obtain ⟨h0, h1, h2, h3, h4, h5, h6, h7⟩ := h
  by_cases a : 0 ≤ m
  · by_cases b : m < 4
    · have : m = 0 ∨ m = 1 ∨ m = 2 ∨ m = 3 := by omega
      rcases this with rfl | rfl | rfl | rfl
      all_goals
        go_enter Tryd.func118, Tryd.ntmps118
        go_wp2
        go_ret
        exact ⟨rfl, rfl⟩
    · go_enter Tryd.func118, Tryd.ntmps118
      go_wp2
      go_ret
      exact ⟨by simp [isMask]; omega, rfl⟩
  · go_enter Tryd.func118, Tryd.ntmps118
    go_wp2
    go_ret
    exact ⟨by simp [isMask]; omega, rfl⟩

theorem notis_any (m : Int) (w : World) (h : Tab w) : Calls Tryd.prog 148 #[.int .i64 m] w fun e w' => e = .returned (.bool (!isMask m)) ∧ w = w' := by
  go_enter Tryd.func148, Tryd.ntmps148
  go_wp2_with (go_at_call 118; refine (is_any _ _ h).mono ?_; rintro e w' ⟨rfl, rfl⟩)
  go_ret
  exact ⟨rfl, rfl⟩

/-- the first place at which p holds, from k on -/
def idx (p : Int → Bool) : List Int → Nat → Int
  | [], _ => -1
  | x :: xs, k => if p x then k else idx p xs (k + 1)

theorem idx_drop (p : Int → Bool) (xs : List Int) (k : Nat) (h : k < xs.length) : idx p (xs.drop k) k = if p xs[k] then (k : Int) else idx p (xs.drop (k + 1)) (k + 1) := by
  rw [List.drop_eq_getElem_cons h]; rfl
theorem idx_any (p : Int → Bool) : ∀ (xs : List Int) (k : Nat), decide (0 ≤ idx p xs k) = xs.any p
  | [], k => by simp [idx]
  | x :: xs, k => by
    simp only [idx, List.any_cons]
    by_cases h : p x
    · simp [h]
    · simp [h, idx_any p xs (k + 1)]

theorem indexFunc_any (f : FuncId) (hgo : Goes f) (p : Int → Bool) (w : World) (S : Nat → Prop) (A : Option Addr) (c : Nat) (xs : List Int) (hs : SI w S A xs) (hl : xs.length ≤ 65536)
    (hf : ∀ x, Calls Tryd.prog f #[.int .i64 x] w fun e w' => e = .returned (.bool (p x)) ∧ w = w') :
    Calls Tryd.prog 150 #[.slice A xs.length c, .func (.func f) #[] #[]] w fun e w' => e = .returned (.int .i64 (idx p xs 0)) ∧ w = w' := by
  unfold Goes at hgo
  have HF := Lib.hid hf
  clear hf
  go_enter Tryd.func150, Tryd.ntmps150
  go_wp2
  go_loopg [8] xs.length (fun g i wr => wr = w ∧ ∃ k : Nat, k + g = xs.length ∧ i = .int .i64 k ∧ idx p xs 0 = idx p (xs.drop k) k)
  case atStart => exact ⟨rfl, 0, by omega, rfl, rfl⟩
  case round =>
    obtain ⟨rfl, k, hk, rfl, hi⟩ := hrel
    have Hi := Lib.hid hi
    clear hi
    have Hk := Lib.hid hk
    clear hk
    by_cases hlt : k < xs.length
    · obtain ⟨b, off, rfl, _, _, hc⟩ := hs.at_ hlt
      have hd := idx_drop p xs k hlt
      have Hd := Lib.hid hd
      clear hd
      go_wp2_with (fail)
      refine (HF.out _).mono ?_
      rintro e w' ⟨rfl, rfl⟩
      go_wp2_with (fail)
      · go_ret
        refine ⟨?_, rfl⟩
        rw [Hi.out, Hd.out, if_pos (by assumption)]
        rfl
      · go_roundg (gk - 1)
        case measure => have := Hk.out; omega
        case rel =>
          have := Hk.out
          refine ⟨rfl, k + 1, by omega, by go_num, ?_⟩
          rw [Hi.out, Hd.out, if_neg (by simp_all)]
    · go_wp2_with (fail)
      go_ret
      refine ⟨?_, rfl⟩
      rw [Hi.out, List.drop_of_length_le (by omega)]
      rfl

theorem containsFunc_any (f : FuncId) (hgo : Goes f) (p : Int → Bool) (w : World) (S : Nat → Prop) (A : Option Addr) (c : Nat) (xs : List Int) (hs : SI w S A xs) (hl : xs.length ≤ 65536)
    (hf : ∀ x, Calls Tryd.prog f #[.int .i64 x] w fun e w' => e = .returned (.bool (p x)) ∧ w = w') :
    Calls Tryd.prog 128 #[.slice A xs.length c, .func (.func f) #[] #[]] w fun e w' => e = .returned (.bool (xs.any p)) ∧ w = w' := by
  have HF := Lib.hid hf
  have HG := Lib.hid hgo
  clear hf hgo
  go_enter Tryd.func128, Tryd.ntmps128
  go_wp2_with (go_at_call 150; refine (indexFunc_any f HG.out p _ S A c xs hs hl HF.out).mono ?_; rintro e w' ⟨rfl, rfl⟩)
  go_ret
  exact ⟨by rw [← idx_any p xs 0]; rfl, rfl⟩

theorem index_any (y : Int) (w : World) (S : Nat → Prop) (A : Option Addr) (c : Nat) (xs : List Int) (hs : SI w S A xs) (hl : xs.length ≤ 65536) :
    Calls Tryd.prog 149 #[.slice A xs.length c, .int .i64 y] w fun e w' => e = .returned (.int .i64 (idx (fun x => y == x) xs 0)) ∧ w = w' := by
  go_enter Tryd.func149, Tryd.ntmps149
  go_wp2
  go_loopg [8] xs.length (fun g i wr => wr = w ∧ ∃ k : Nat, k + g = xs.length ∧ i = .int .i64 k ∧ idx (fun x => y == x) xs 0 = idx (fun x => y == x) (xs.drop k) k)
  case atStart => exact ⟨rfl, 0, by omega, rfl, rfl⟩
  case round =>
    obtain ⟨rfl, k, hk, rfl, hi⟩ := hrel
    have Hi := Lib.hid hi
    clear hi
    have Hk := Lib.hid hk
    clear hk
    by_cases hlt : k < xs.length
    · obtain ⟨b, off, rfl, _, _, hc⟩ := hs.at_ hlt
      have hd := idx_drop (fun x => y == x) xs k hlt
      have Hd := Lib.hid hd
      clear hd
      go_wp2_with (fail)
      · go_ret
        refine ⟨?_, rfl⟩
        rw [Hi.out, Hd.out, if_pos (by assumption)]
        rfl
      · go_roundg (gk - 1)
        case measure => have := Hk.out; omega
        case rel =>
          have := Hk.out
          refine ⟨rfl, k + 1, by omega, by go_num, ?_⟩
          rw [Hi.out, Hd.out, if_neg (by simp_all)]
    · go_wp2_with (fail)
      go_ret
      refine ⟨?_, rfl⟩
      rw [Hi.out, List.drop_of_length_le (by omega)]
      rfl

theorem contains_any (y : Int) (w : World) (S : Nat → Prop) (A : Option Addr) (c : Nat) (xs : List Int) (hs : SI w S A xs) (hl : xs.length ≤ 65536) :
    Calls Tryd.prog 125 #[.slice A xs.length c, .int .i64 y] w fun e w' => e = .returned (.bool (xs.any (fun x => y == x))) ∧ w = w' := by
  go_enter Tryd.func125, Tryd.ntmps125
  go_wp2_with (go_at_call 149; refine (index_any y _ S A c xs hs hl).mono ?_; rintro e w' ⟨rfl, rfl⟩)
  go_ret
  exact ⟨by rw [← idx_any _ xs 0]; rfl, rfl⟩

theorem goes_valid1 : Goes 148 := fun args w => by kernel_rfl

theorem any_not (p : Int → Bool) (xs : List Int) : (!xs.any (fun x => !p x)) = xs.all p := by
  induction xs with
  | nil => rfl
  | cons x xs ih => simp [← ih]

theorem valid_any (w : World) (h : Tab w) (S : Nat → Prop) (A : Option Addr) (c : Nat) (xs : List Int) (hs : SI w S A xs) (hl : xs.length ≤ 65536) :
    Calls Tryd.prog 114 #[.slice A xs.length c] w fun e w' => e = .returned (.bool (xs.all isMask)) ∧ w = w' := by
  go_enter Tryd.func114, Tryd.ntmps114
  go_wp2_with (go_at_call 128; refine (containsFunc_any 148 goes_valid1 (fun x => !isMask x) _ S A c xs hs hl (fun x => notis_any x _ h)).mono ?_; rintro e w' ⟨rfl, rfl⟩)
  go_ret
  exact ⟨by rw [← any_not]; rfl, rfl⟩

/-- A call hands back a new slice of ints. -/
def RetOI (w : World) (ys : List Int) (e : Ending) (w' : World) : Prop := ∃ A c, e = .returned (.slice A ys.length c) ∧ OI w' (fun g => w.heap.size ≤ g) A c ys ∧ Below w.heap.size w w'

/-- the places that are unknown, from k on -/
def unk : List Int → Nat → List Int
  | [], _ => []
  | m :: ms, k => if m = 3 then (k : Int) :: unk ms (k + 1) else unk ms (k + 1)
theorem unk_drop (xs : List Int) (k : Nat) (h : k < xs.length) : unk (xs.drop k) k = if xs[k] = 3 then (k : Int) :: unk (xs.drop (k + 1)) (k + 1) else unk (xs.drop (k + 1)) (k + 1) := by
  rw [List.drop_eq_getElem_cons h]; rfl

theorem unknown_any (w : World) (S : Nat → Prop) (A : Option Addr) (c : Nat) (xs : List Int) (hs : SI w S A xs) (hl : xs.length ≤ 65536) :
    Calls Tryd.prog 55 #[.slice A xs.length c] w (RetOI w (unk xs 0)) := by
  go_enter Tryd.func55, Tryd.ntmps55
  go_wp2
  go_loopg [3, 8] xs.length (fun g v i wr => ∃ (k : Nat) (A' : Option Addr) (c' : Nat) (ys : List Int), k + g = xs.length ∧ i = .int .i64 k ∧ v = .slice A' ys.length c' ∧ OI wr (fun g => w.heap.size ≤ g) A' c' ys ∧ Below w.heap.size w wr ∧
    ys ++ unk (xs.drop k) k = unk xs 0 ∧ ys.length ≤ k)
  case atStart => exact ⟨0, none, 0, [], by omega, rfl, rfl, OI.nil _ _, Below.refl _ _, rfl, Nat.le_refl _⟩
  case round =>
    obtain ⟨k, A', c', ys, hk, rfl, rfl, hown, hbel, hi, hyl⟩ := hrel
    have Hi := Lib.hid hi
    clear hi
    have Hk := Lib.hid hk
    clear hk
    have hs' := hs.keep (Kept.of_below hbel)
    by_cases hlt : k < xs.length
    · obtain ⟨b, off, rfl, _, _, hc⟩ := hs'.at_ hlt
      have hd := unk_drop xs k hlt
      have Hd := Lib.hid hd
      clear hd
      go_wp2_with (at_builtin; go_must (refine wpList_push (B := w.heap.size) rfl (.tmp 15) (.tmp 17) rfl rfl rfl rfl (hown.keep (Kept.alloc _ _ _)) (new_cell _ _ _) (by omega) (by simp; have := hbel.size; omega) ?_); intro A1 c1 w1 ho1 hb1 _ _)
      · go_roundg (gk - 1)
        case measure => have := Hk.out; omega
        case rel =>
          have := Hk.out
          refine ⟨k + 1, _, _, _, by omega, by go_num, ?_, ho1, (hbel.alloc hbel.size _).trans hb1, ?_, ?_⟩
          · simp
          · rw [← Hi.out, Hd.out, if_pos (by simp_all)]; simp
          · simp; omega
      · go_roundg (gk - 1)
        case measure => have := Hk.out; omega
        case rel =>
          have := Hk.out
          refine ⟨k + 1, _, _, _, by omega, by go_num, rfl, hown, hbel, ?_, by omega⟩
          rw [← Hi.out, Hd.out, if_neg (by simp_all)]
    · go_wp2_with (fail)
      go_ret
      refine ⟨A', c', ?_, ?_, hbel⟩
      · rw [← Hi.out, List.drop_of_length_le (by omega)]; simp [unk]
      · have := Hi.out
        rw [List.drop_of_length_le (by omega)] at this
        simp [unk] at this
        rw [← this]; exact hown

end Go.Proofs.YtglhplddjjoggaaDoor

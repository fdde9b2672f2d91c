/-
  Walks: Count, Clone, Ints, Mod, pairs, Meet.
-/
import Derived.Test.YtglhplddjjoggaaDoorW06
namespace Go.Proofs.YtglhplddjjoggaaDoor
open Go.RowKit
set_option maxHeartbeats 400000
set_option maxRecDepth 100000

def cnt (xs : List Int) : Int × Int := if xs.all isMask then (if 8 < (unk xs 0).length then (0, 1) else (2 ^ (unk xs 0).length, 0)) else (0, 10)

def RetPair (w : World) (p : Int × Int) (e : Ending) (w' : World) : Prop := e = .returned (.tuple #[.int .i64 p.1, .int .i64 p.2]) ∧ Below w.heap.size w w'

theorem wrap_pow (k : Nat) (h : k ≤ 8) : wrap64 ((2 : Int) ^ k) = 2 ^ k := by
  have : k = 0 ∨ k = 1 ∨ k = 2 ∨ k = 3 ∨ k = 4 ∨ k = 5 ∨ k = 6 ∨ k = 7 ∨ k = 8 := by omega
  rcases this with rfl | rfl | rfl | rfl | rfl | rfl | rfl | rfl | rfl <;> (unfold wrap64; decide)

theorem count_any (w : World) (h : Tab w) (S : Nat → Prop) (A : Option Addr) (c : Nat) (xs : List Int) (hs : SI w S A xs) (hl : xs.length ≤ 65536) :
    Calls Tryd.prog 47 #[.slice A xs.length c] w (RetPair w (cnt xs)) := by
  have hval := valid_any w h S A c xs hs hl
  have hunk := unknown_any w S A c xs hs hl
  have hc : cnt xs = if xs.all isMask then (if 8 < (unk xs 0).length then (0, 1) else (2 ^ (unk xs 0).length, 0)) else (0, 10) := rfl
  generalize xs.all isMask = bv at hval hc
  generalize unk xs 0 = us at hunk hc
  generalize cnt xs = r at hc ⊢
  have Hc := Lib.hid hc
  have Hv := Lib.hid hval
  have Hu := Lib.hid hunk
  clear hc hval hunk
  cases bv
  · go_enter Tryd.func47, Tryd.ntmps47
    go_wp2_with (go_at_call 114; refine (Hv.out).mono ?_; rintro e w' ⟨rfl, rfl⟩)
    go_ret2
    exact ⟨by rw [Hc.out]; rfl, Below.refl _ _⟩
  · by_cases h8 : 8 < us.length
    · go_enter Tryd.func47, Tryd.ntmps47
      go_wp2_with (first | (go_at_call 114; refine (Hv.out).mono ?_; rintro e w' ⟨rfl, rfl⟩) | (go_at_call 55; refine (Hu.out).mono ?_; rintro e w1 ⟨A1, c1, rfl, ho, hb⟩))
      go_ret2
      exact ⟨by rw [Hc.out]; simp [h8], hb⟩
    · have h9 := Lib.hid (wrap_pow us.length (by omega))
      go_enter Tryd.func47, Tryd.ntmps47
      go_wp2_with (first | (go_at_call 114; refine (Hv.out).mono ?_; rintro e w' ⟨rfl, rfl⟩) | (go_at_call 55; refine (Hu.out).mono ?_; rintro e w1 ⟨A1, c1, rfl, ho, hb⟩))
      go_ret2
      refine ⟨?_, hb⟩
      show Ending.returned (.tuple #[.int .i64 (wrap64 (2 ^ us.length)), .int .i64 0]) = _
      rw [Hc.out, h9.out]; simp [h8]

theorem clone_any (w : World) (S : Nat → Prop) (A : Option Addr) (c : Nat) (xs : List Int) (hs : SI w S A xs) (hl : xs.length ≤ 65536) :
    Calls Tryd.prog 116 #[.slice A xs.length c] w (RetOI w xs) := by
  have heq := fun (W : World) (a : Option Addr) (n c : Nat) => Lib.run_eql_slice_nil (P := Tryd.prog) W 22 3 a n c 0 0 Tryd.underlying22
  cases A with
  | none =>
    obtain rfl := hs.none_nil
    go_enter Tryd.func116, Tryd.ntmps116
    go_wp2
    go_ret
    exact ⟨none, 0, rfl, OI.nil _ _, Below.refl _ _⟩
  | some ad =>
    go_enter Tryd.func116, Tryd.ntmps116
    go_wp2_with (at_builtin; go_must (refine wpList_pushAll (B := w.heap.size) (xs := []) (ys := xs) (T := S) rfl (.tmp 5) (.tmp 6) rfl rfl rfl rfl rfl (OI.lit w [] (by simp)) (hs.keep (Kept.alloc _ _ _)) (by simp; omega) (by simp) ?_); intro A1 c1 w1 ho1 hb1 _ _)
    go_ret
    exact ⟨A1, c1, rfl, ho1, ((Below.refl _ _).alloc (Nat.le_refl _) _).trans hb1⟩

theorem ret_bool {a b : Bool} (h : a = b) : Ending.returned (.bool a) = .returned (.bool b) := by rw [h]

theorem ints_any (w : World) (S T : Nat → Prop) (A B : Option Addr) (c d : Nat) (xs ys : List Int) (hs : SI w S A xs) (ht : SI w T B ys) (_hl : xs.length ≤ 65536) (hl2 : ys.length ≤ 65536) :
    Calls Tryd.prog 29 #[.slice A xs.length c, .slice B ys.length d] w fun e w' => e = .returned (.bool (decide (xs = ys))) ∧ ∃ n, w' = w.drewN n := by
  by_cases hne : xs.length = ys.length
  · have hb : ((xs.length : Int) != ys.length) = false := by simp [hne]
    have Hne := Lib.hid hne
    have hle : xs.length ≤ ys.length := by omega
    clear hne
    go_enter Tryd.func29, Tryd.ntmps29
    go_wp2
    go_loopg [5] xs.length (fun g i wr => ∃ (k n : Nat), wr = w.drewN n ∧ k + g = xs.length ∧ i = .int .i64 k ∧ xs.take k = ys.take k)
    case atStart => exact ⟨0, 0, rfl, by omega, rfl, rfl⟩
    case round =>
      obtain ⟨k, n, rfl, hk, rfl, hi⟩ := hrel
      have Hi := Lib.hid hi
      clear hi
      have Hk := Lib.hid hk
      clear hk
      by_cases hlt : k < xs.length
      · obtain ⟨b, off, rfl, _, _, hc⟩ := hs.at_ hlt
        obtain ⟨b2, off2, rfl, _, _, hc2⟩ := ht.at_ (show k < ys.length by omega)
        have hlt2 : k < ys.length := by omega
        go_wp2_with (fail)
        go_quiet (fail)
        go_wp2_with (fail)
        · go_ret
          refine ⟨ret_bool ?_, n + nq, World.drewN_drewN _ _ _⟩
          have hx : xs[k] ≠ ys[k] := by simp_all
          have : xs ≠ ys := by rintro rfl; exact hx rfl
          simp [this]
        · go_roundg (gk - 1)
          case measure => have := Hk.out; omega
          case rel =>
            have := Hk.out
            refine ⟨k + 1, _, rfl, by omega, by go_num, ?_⟩
            have hx : xs[k] = ys[k] := by simp_all
            rw [List.take_succ_eq_append_getElem hlt, List.take_succ_eq_append_getElem hlt2, Hi.out, hx]
      · go_wp2_with (fail)
        go_ret
        refine ⟨ret_bool ?_, _, rfl⟩
        have := Hi.out
        have hn := Hne.out
        rw [List.take_of_length_le (by omega), List.take_of_length_le (by omega)] at this
        simp [this]
  · have hb : ((xs.length : Int) != ys.length) = true := by simp; omega
    go_enter Tryd.func29, Tryd.ntmps29
    go_wp2
    go_ret
    refine ⟨ret_bool ?_, 0, rfl⟩
    have : xs ≠ ys := by rintro rfl; exact hne rfl
    simp [this]

theorem goes_meet1 : Goes 124 := fun args w => by kernel_rfl

theorem meet1_any (x y : Int) (w : World) (hx : 1 ≤ x) (hx3 : x ≤ 3) (hy : 1 ≤ y) (hy3 : y ≤ 3) : Calls Tryd.prog 124 #[.int .i64 x, .int .i64 y] w fun e w' => e = .returned (.int .i64 (if x = 3 then y else if y = 3 then x else if x = y then x else 0)) ∧ w = w' := by
  have h1 : x = 1 ∨ x = 2 ∨ x = 3 := by omega
  have h2 : y = 1 ∨ y = 2 ∨ y = 3 := by omega
  rcases h1 with rfl | rfl | rfl <;> rcases h2 with rfl | rfl | rfl
  all_goals
    go_enter Tryd.func124, Tryd.ntmps124
    go_wp2
    go_ret
    exact ⟨rfl, rfl⟩

theorem masks_of {xs : List Int} (h : xs.all isMask = true) : ∀ k (hk : k < xs.length), 1 ≤ xs[k] ∧ xs[k] ≤ 3 := fun k hk => by
  have := List.all_eq_true.1 h xs[k] (List.getElem_mem hk)
  simpa [isMask] using this

theorem pairs_any (f : FuncId) (hgo : Goes f) (p : Int → Int → Int) (w : World) (h : Tab w) (S T : Nat → Prop) (A B : Option Addr) (c d : Nat) (xs ys : List Int) (hs : SI w S A xs) (ht : SI w T B ys) (hl : xs.length ≤ 65536)
    (hlen : xs.length = ys.length) (hx : xs.all isMask = true) (hy : ys.all isMask = true)
    (hf : ∀ (x y : Int) (W : World), 1 ≤ x → x ≤ 3 → 1 ≤ y → y ≤ 3 → Calls Tryd.prog f #[.int .i64 x, .int .i64 y] W fun e w' => e = .returned (.int .i64 (p x y)) ∧ W = w') :
    Calls Tryd.prog 123 #[.slice A xs.length c, .slice B ys.length d, .func (.func f) #[] #[]] w fun e w' => ∃ A' c', e = .returned (.tuple #[.slice A' xs.length c', .bool true]) ∧ OI w' (fun g => w.heap.size ≤ g) A' c' (List.zipWith p xs ys) ∧ Below w.heap.size w w' := by
  have hv1 := valid_any w h S A c xs hs hl
  have hv2 := valid_any w h T B d ys ht (by omega)
  have Hmx := Lib.hid (masks_of hx)
  have Hmy := Lib.hid (masks_of hy)
  rw [hx] at hv1
  rw [hy] at hv2
  have Hv1 := Lib.hid hv1
  have Hv2 := Lib.hid hv2
  have HF := Lib.hid hf
  clear hv1 hv2 hf hx hy
  unfold Goes at hgo
  have hb : ((xs.length : Int) != ys.length) = false := by simp [hlen]
  have Hl := Lib.hid hlen
  have hzl : (List.zipWith p xs ys).length = xs.length := by simp; omega
  generalize hZ : List.zipWith p xs ys = Z at hzl ⊢
  have HZ := Lib.hid hZ
  have Hzl := Lib.hid hzl
  clear hlen hZ hzl
  go_enter Tryd.func123, Tryd.ntmps123
  go_wp2_with (first | (go_at_call 114; (with_reducible refine (Hv1.out).mono ?_); rintro e w' ⟨rfl, rfl⟩) | (go_at_call 114; (with_reducible refine (Hv2.out).mono ?_); rintro e w' ⟨rfl, rfl⟩) | (at_make; go_must (refine wpList_makeV rfl (.tmp 26) (.tmp 26) 22 rfl 3 _ 8 Tryd.underlying22 intInfo rfl _ _ xs.length rfl rfl (by omega) (by omega) ?_); intro w1 ho1 hb1 hz1))
  have Hz := Lib.hid hz1
  clear hz1
  go_loopg [30] xs.length (fun g i wr => ∃ (k : Nat), k + g = xs.length ∧ i = .int .i64 k ∧ OI wr (fun g => g = w.heap.size) (some ⟨w.heap.size, 0, none⟩) xs.length (filled Z 0 k) ∧ Below w.heap.size w wr)
  case atStart =>
    refine ⟨0, by omega, rfl, ?_, hb1⟩
    unfold OI
    rw [filled_zero, Hzl.out, ints, List.map_replicate, List.length_replicate]
    exact ho1
  case round =>
    obtain ⟨k, hk, rfl, hown, hbel⟩ := hrel
    have Hk := Lib.hid hk
    clear hk
    have hs' := hs.keep (Kept.of_below hbel)
    have ht' := ht.keep (Kept.of_below hbel)
    have hl2 : xs.length ≤ ys.length := by have := Hl.out; omega
    by_cases hlt : k < xs.length
    · obtain ⟨b, off, rfl, _, _, hc⟩ := hs'.at_ hlt
      obtain ⟨b2, off2, rfl, _, _, hc2⟩ := ht'.at_ (show k < ys.length by omega)
      have hlt2 : k < ys.length := by omega
      have hk3 : k < (filled Z 0 k).length := by rw [filled_len _ _ _ (by rw [Hzl.out]; omega), Hzl.out]; exact hlt
      obtain ⟨_, _, e1, rfl, hgs, hc3, hf3⟩ := hown.at_ hk3
      injection e1 with e1
      injection e1 with e1 e2
      subst e2
      have hset := hown.set k (p xs[k] ys[k])
      have m1 := Hmx.out k hlt
      have m2 := Hmy.out k hlt2
      have HF2 := Lib.hid (HF.out xs[k] ys[k] wr.drew m1.1 m1.2 m2.1 m2.2)
      clear m1 m2 e1
      have Hset := Lib.hid hset
      clear hset
      simp only [Nat.zero_add] at hc3 hf3
      go_wp2_with (fail)
      go_still_tail 13, (by kernel_rfl)
      still_call (HF2.out.mono fun _ _ h => ⟨h.1, h.2.symm⟩)
      repeat still_step
      refine wpStill_nil ?_
      go_wp2_with (fail)
      go_roundg (gk - 1)
      case measure => have := Hk.out; omega
      case rel =>
        have := Hk.out
        refine ⟨k + 1, by omega, by go_num, ?_, (hbel.setCell (Nat.le_refl _) _).drew⟩
        have hz : k < Z.length := by rw [Hzl.out]; exact hlt
        have e : Z[k] = p xs[k] ys[k] := by
          have := HZ.out
          subst this
          simp
        have h1 := Hset.out
        rw [← e, filled_step Z 0 k hz, Nat.zero_add, e] at h1
        exact h1
    · go_wp2_with (fail)
      go_ret2
      refine ⟨_, _, rfl, ?_, hbel⟩
      rw [filled_all _ _ _ (by rw [Hzl.out]; omega)] at hown
      exact hown.mono (by intro g _ hg; omega)

def okPair (xs ys : List Int) : Bool := decide (xs.length = ys.length) && xs.all isMask && ys.all isMask

theorem pairs_bad (v : Value) (w : World) (h : Tab w) (S T : Nat → Prop) (A B : Option Addr) (c d : Nat) (xs ys : List Int) (hs : SI w S A xs) (ht : SI w T B ys) (hl : xs.length ≤ 65536) (hl2 : ys.length ≤ 65536) (hbad : okPair xs ys = false) :
    Calls Tryd.prog 123 #[.slice A xs.length c, .slice B ys.length d, v] w fun e w' => e = .returned (.tuple #[.slice none 0 0, .bool false]) ∧ w = w' := by
  have Hv1 := Lib.hid (valid_any w h S A c xs hs hl)
  have Hv2 := Lib.hid (valid_any w h T B d ys ht hl2)
  unfold okPair at hbad
  by_cases hlen : xs.length = ys.length
  · have hb : ((xs.length : Int) != ys.length) = false := by simp [hlen]
    have HL := Lib.hid hlen
    rw [show decide (xs.length = ys.length) = true by simp [hlen]] at hbad
    clear hlen
    generalize xs.all isMask = b1 at *
    generalize ys.all isMask = b2 at *
    cases b1
    · clear hbad
      go_enter Tryd.func123, Tryd.ntmps123
      go_wp2_with (go_at_call 114; (with_reducible refine (Hv1.out).mono ?_); rintro e w' ⟨rfl, rfl⟩)
      go_ret2
      exact ⟨rfl, rfl⟩
    · cases b2
      · clear hbad
        go_enter Tryd.func123, Tryd.ntmps123
        go_wp2_with (first | (go_at_call 114; (with_reducible refine (Hv1.out).mono ?_); rintro e w' ⟨rfl, rfl⟩) | (go_at_call 114; (with_reducible refine (Hv2.out).mono ?_); rintro e w' ⟨rfl, rfl⟩))
        go_ret2
        exact ⟨rfl, rfl⟩
      · simp at hbad
  · have hb : ((xs.length : Int) != ys.length) = true := by simp; omega
    clear hbad
    go_enter Tryd.func123, Tryd.ntmps123
    go_wp2
    go_ret2
    exact ⟨rfl, rfl⟩

def andM (x y : Int) : Int := if x = 3 then y else if y = 3 then x else if x = y then x else 0
theorem okPair_parts {xs ys : List Int} (h : okPair xs ys = true) : xs.length = ys.length ∧ xs.all isMask = true ∧ ys.all isMask = true := by
  unfold okPair at h
  simp only [Bool.and_eq_true, decide_eq_true_eq] at h
  exact ⟨h.1.1, h.1.2, h.2⟩

theorem meet_yes (w : World) (h : Tab w) (S T : Nat → Prop) (A B : Option Addr) (c d : Nat) (xs ys : List Int) (hs : SI w S A xs) (ht : SI w T B ys) (hl : xs.length ≤ 65536) (hok : okPair xs ys = true)
    (hz : (List.zipWith andM xs ys).any (fun x => 0 == x) = false) :
    Calls Tryd.prog 61 #[.slice A xs.length c, .slice B ys.length d] w fun e w' => ∃ A' c', e = .returned (.tuple #[.slice A' xs.length c', .bool true]) ∧ OI w' (fun g => w.heap.size ≤ g) A' c' (List.zipWith andM xs ys) ∧ Below w.heap.size w w' := by
  obtain ⟨o1, o2, o3⟩ := okPair_parts hok
  have Hp := Lib.hid (pairs_any _ goes_meet1 andM w h S T A B c d xs ys hs ht hl o1 o2 o3 (fun x y W h1 h2 h3 h4 => meet1_any x y W h1 h2 h3 h4))
  have hzl : (List.zipWith andM xs ys).length = xs.length := by simp; omega
  generalize List.zipWith andM xs ys = Z at *
  have Hzl := Lib.hid hzl
  have Hz := Lib.hid hz
  clear hzl hz o1 o2 o3 hok
  go_enter Tryd.func61, Tryd.ntmps61
  go_wp2_with (go_at_call 123; (with_reducible refine (Hp.out).mono ?_); rintro e w1 ⟨A1, c1, rfl, ho1, hb1⟩)
  have hc := contains_any 0 w1 _ A1 c1 Z ho1.si (by rw [Hzl.out]; exact hl)
  rw [Hz.out, Hzl.out] at hc
  refine hc.mono ?_
  rintro e w' ⟨rfl, rfl⟩
  go_wp2
  go_ret2
  exact ⟨_, _, rfl, ho1, hb1⟩

theorem meet_none (w : World) (h : Tab w) (S T : Nat → Prop) (A B : Option Addr) (c d : Nat) (xs ys : List Int) (hs : SI w S A xs) (ht : SI w T B ys) (hl : xs.length ≤ 65536) (hok : okPair xs ys = true)
    (hz : (List.zipWith andM xs ys).any (fun x => 0 == x) = true) :
    Calls Tryd.prog 61 #[.slice A xs.length c, .slice B ys.length d] w fun e w' => e = .returned (.tuple #[.slice none 0 0, .bool false]) ∧ Below w.heap.size w w' := by
  obtain ⟨o1, o2, o3⟩ := okPair_parts hok
  have Hp := Lib.hid (pairs_any _ goes_meet1 andM w h S T A B c d xs ys hs ht hl o1 o2 o3 (fun x y W h1 h2 h3 h4 => meet1_any x y W h1 h2 h3 h4))
  have hzl : (List.zipWith andM xs ys).length = xs.length := by simp; omega
  generalize List.zipWith andM xs ys = Z at *
  have Hzl := Lib.hid hzl
  have Hz := Lib.hid hz
  clear hzl hz o1 o2 o3 hok
  go_enter Tryd.func61, Tryd.ntmps61
  go_wp2_with (go_at_call 123; (with_reducible refine (Hp.out).mono ?_); rintro e w1 ⟨A1, c1, rfl, ho1, hb1⟩)
  have hc := contains_any 0 w1 _ A1 c1 Z ho1.si (by rw [Hzl.out]; exact hl)
  rw [Hz.out, Hzl.out] at hc
  refine hc.mono ?_
  rintro e w' ⟨rfl, rfl⟩
  go_wp2
  go_ret2
  exact ⟨rfl, hb1⟩

theorem meet_bad (w : World) (h : Tab w) (S T : Nat → Prop) (A B : Option Addr) (c d : Nat) (xs ys : List Int) (hs : SI w S A xs) (ht : SI w T B ys) (hl : xs.length ≤ 65536) (hl2 : ys.length ≤ 65536) (hok : okPair xs ys = false) :
    Calls Tryd.prog 61 #[.slice A xs.length c, .slice B ys.length d] w fun e w' => e = .returned (.tuple #[.slice none 0 0, .bool false]) ∧ w = w' := by
  have Hp := Lib.hid (pairs_bad (.func (.func 124) #[] #[]) w h S T A B c d xs ys hs ht hl hl2 hok)
  clear hok
  go_enter Tryd.func61, Tryd.ntmps61
  go_wp2_with (go_at_call 123; (with_reducible refine (Hp.out).mono ?_); rintro e w1 ⟨rfl, rfl⟩)
  go_ret2
  exact ⟨rfl, rfl⟩

theorem mod_eq (n k : Int) (hk : 1 ≤ k) : (n.tmod k + k).tmod k = n % k := by
  have h1 : -k < n.tmod k := Int.lt_tmod_of_pos n (by omega)
  rw [Int.tmod_eq_emod_of_nonneg (by omega)]
  have : n.tmod k + k = n + k * (1 - n.tdiv k) := by rw [Int.tmod_def, Int.mul_sub]; omega
  rw [this, Int.add_mul_emod_self_left]

theorem mod_any (n k : Int) (w : World) (hk : 1 ≤ k) (hk2 : k ≤ 1000) : Calls Tryd.prog 36 #[.int .i64 n, .int .i64 k] w fun e w' => e = .returned (.int .i64 (n % k)) ∧ w = w' := by
  have h1 : -k < n.tmod k := Int.lt_tmod_of_pos n (by omega)
  have h2 : n.tmod k < k := Int.tmod_lt_of_pos n (by omega)
  have h3 := mod_eq n k hk
  go_enter Tryd.func36, Tryd.ntmps36
  go_wp2
  go_ret
  refine ⟨?_, rfl⟩
  first | rfl | (rw [← h3]; rfl)
end Go.Proofs.YtglhplddjjoggaaDoor

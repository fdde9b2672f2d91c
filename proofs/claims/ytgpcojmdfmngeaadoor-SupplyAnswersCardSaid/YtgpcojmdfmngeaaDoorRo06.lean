/-
  Walks of the reference's Lowest, Highest, Count, All, Check, and of mk.Within, mk.Bent.
-/
import Derived.Test.YtgpcojmdfmngeaaDoorRm06
import Derived.Test.YtgpcojmdfmngeaaDoorGf
namespace Go.Proofs.YtgpcojmdfmngeaaDoor
open Go.RowKit
set_option maxHeartbeats 400000
set_option maxRecDepth 100000

theorem num3_le : ∀ xs : List Int, num3 xs ≤ xs.length
  | [] => Nat.le_refl _
  | x :: xs => by
    have := num3_le xs
    unfold num3
    rw [List.length_cons]
    split <;> omega
theorem lowL_len (pos : Int) (xs : List Int) : (lowL pos xs).length = xs.length := stF_len _ xs 0
theorem stF_get (pos : Int) : ∀ (xs : List Int) (i k : Nat) (h : k < xs.length), (stF (fun _ => pos) xs i)[k]'(by rw [stF_len]; exact h) = if xs[k] = 3 then pos else xs[k]
  | [], _, _, h => by simp at h
  | x :: xs, i, 0, _ => by
    unfold stF
    by_cases hx : x = 3
    · simp [hx]
    · simp [hx]
  | x :: xs, i, k + 1, h => by
    unfold stF
    by_cases hx : x = 3
    · simp only [if_pos hx, List.getElem_cons_succ]
      exact stF_get pos xs (i + 1) k (by simpa using h)
    · simp only [if_neg hx, List.getElem_cons_succ]
      exact stF_get pos xs i k (by simpa using h)
theorem lowL_get (pos : Int) (xs : List Int) (k : Nat) (h : k < xs.length) : (lowL pos xs)[k]'(by rw [lowL_len]; exact h) = if xs[k] = 3 then pos else xs[k] := stF_get pos xs 0 k h

theorem refFill_any (w : World) (S : Nat → Prop) (A : Option Addr) (c : Nat) (xs : List Int) (hs : SI w S A xs) (hl : xs.length ≤ 65536) (pos : Int) :
    Calls Tryd.prog 129 #[.slice A xs.length c, .int .i64 pos] w (RetOI w (lowL pos xs)) := by
  have hlF := Lib.hid (lowL_len pos xs)
  have Hg := Lib.hid (lowL_get pos xs)
  have HF := Lib.hid (show ∀ k (hk : k < xs.length), _ from fun k hk => mixL_set (lowL_len pos xs) k hk)
  have HS := Lib.hid (show ∀ k (hk : k < xs.length), _ → _ from fun k hk => mixL_same (lowL_len pos xs) k hk)
  go_enter Tryd.func129, Tryd.ntmps129
  go_wp2_with (at_builtin; go_must (refine wpList_pushAll (B := w.heap.size) (xs := []) (ys := xs) (T := S) rfl (.const (.slice none 0 0)) (.tmp 7) rfl rfl rfl rfl rfl (OI.nil _ _) hs (by simp; omega) (Nat.le_refl _) ?_); intro A1 c1 w1 ho1 hb1 _ _; rw [List.nil_append] at ho1 ⊢)
  go_loopg [6] xs.length (fun g i wr => ∃ k : Nat, k + g = xs.length ∧ i = .int .i64 k ∧ OI wr (fun g => w.heap.size ≤ g) A1 c1 (mixL (lowL pos xs) xs k) ∧ Below w.heap.size w wr)
  case atStart => exact ⟨0, by omega, rfl, by rw [mixL_zero]; exact ho1, hb1⟩
  case round =>
    clear ho1 hb1
    obtain ⟨k, hk, rfl, ho, hb⟩ := hrel
    have Hk := Lib.hid hk
    clear hk
    by_cases hlt : k < xs.length
    · obtain ⟨gf, of, rfl, hgf, hgfl, f1, f2⟩ := ho.at_ (k := k) (by rw [mixL_len hlF.out]; exact hlt)
      rw [mixL_at hlF.out k hlt] at f1
      have hg := Hg.out k hlt
      have hset := HF.out k hlt
      have hsame := HS.out k hlt
      rw [hg] at hset
      by_cases h3 : xs[k] = 3
      · have F1 : (xs[k] == 3) = true := by rw [h3]; rfl
        rw [if_pos h3] at hset
        have Hset := Lib.hid hset
        clear hset hsame hg h3
        go_wp2_with (fail)
        go_roundg (gk - 1)
        case measure => have := Hk.out; omega
        case rel => exact ⟨k + 1, by have := Hk.out; omega, by go_num, by rw [← Hset.out]; exact ho.set k pos, hb.setCell (p := ⟨gf, of + k, none⟩) hgf _⟩
      · have F1 : (xs[k] == 3) = false := by simpa using h3
        have Hsame := Lib.hid (hsame (by rw [hg, if_neg h3]))
        clear hset hsame hg h3
        go_wp2_with (fail)
        go_roundg (gk - 1)
        case measure => have := Hk.out; omega
        case rel => exact ⟨k + 1, by have := Hk.out; omega, by go_num, by rw [← Hsame.out]; exact ho, hb⟩
    · go_wp2_with (fail)
      go_ret
      rw [mixL_all hlF.out k (by omega)] at ho
      exact ⟨A1, c1, by rw [hlF.out]; rfl, ho, hb⟩
theorem refLowest_any (w : World) (S : Nat → Prop) (A : Option Addr) (c : Nat) (xs : List Int) (hs : SI w S A xs) (hl : xs.length ≤ 65536) :
    Calls Tryd.prog 52 #[.slice A xs.length c] w (RetOI w (lowL 1 xs)) := by
  have HQ := Lib.hid (refFill_any w S A c xs hs hl 1)
  go_enter Tryd.func52, Tryd.ntmps52
  go_wp2_with (fail)
  refine HQ.out.mono ?_
  rintro e w1 ⟨A1, c1, rfl, ho1, hb1⟩
  go_wp2_with (fail)
  go_ret
  exact ⟨A1, c1, rfl, ho1, hb1⟩
theorem refHighest_any (w : World) (S : Nat → Prop) (A : Option Addr) (c : Nat) (xs : List Int) (hs : SI w S A xs) (hl : xs.length ≤ 65536) :
    Calls Tryd.prog 54 #[.slice A xs.length c] w (RetOI w (lowL 2 xs)) := by
  have HQ := Lib.hid (refFill_any w S A c xs hs hl 2)
  go_enter Tryd.func54, Tryd.ntmps54
  go_wp2_with (fail)
  refine HQ.out.mono ?_
  rintro e w1 ⟨A1, c1, rfl, ho1, hb1⟩
  go_wp2_with (fail)
  go_ret
  exact ⟨A1, c1, rfl, ho1, hb1⟩

theorem refCount_any (w : World) (S : Nat → Prop) (A : Option Addr) (c : Nat) (xs : List Int) (hs : SI w S A xs) (hl : xs.length ≤ 65536) :
    Calls Tryd.prog 42 #[.slice A xs.length c] w (RetPair w (cnt xs)) := by
  have hu := refUnknown_any w S A c xs hs hl
  have hm := refMasked_any w S A c xs hs hl
  unfold cnt
  by_cases hv : xs.all isMask = true
  · by_cases h8 : (unk xs 0).length ≤ 8
    · rw [if_pos hv, if_neg (by omega)]
      exact refCount_ok w S A c xs hs hl hv h8
    · rw [if_pos hv, if_pos (by omega)]
      rw [hv] at hm
      have hul : (unk xs 0).length ≤ 65536 := by rw [unk_len]; have := num3_le xs; omega
      generalize unk xs 0 = us at *
      have hgt : decide ((8 : Int) < us.length) = true := decide_eq_true (by omega)
      have HM := Lib.hid hm
      have HU := Lib.hid hu
      clear hm hu hv h8
      go_enter Tryd.func42, Tryd.ntmps42
      go_wp2_with (fail)
      refine HM.out.mono ?_
      rintro e w1 ⟨rfl, rfl⟩
      go_wp2_with (fail)
      refine HU.out.mono ?_
      rintro e w1 ⟨A1, c1, rfl, ho1, hb1⟩
      go_wp2_with (fail)
      go_ret2
      exact ⟨rfl, hb1⟩
  · have hv : xs.all isMask = false := by simpa using hv
    rw [hv] at hm ⊢
    rw [if_neg (by decide)]
    have HM := Lib.hid hm
    clear hm hu hv
    go_enter Tryd.func42, Tryd.ntmps42
    go_wp2_with (fail)
    refine HM.out.mono ?_
    rintro e w1 ⟨rfl, rfl⟩
    go_wp2_with (fail)
    go_ret2
    exact ⟨rfl, Below.refl _ _⟩
theorem refAll_err (w : World) (S : Nat → Prop) (A : Option Addr) (c : Nat) (xs : List Int) (hs : SI w S A xs) (hl : xs.length ≤ 65536) (n e : Int) (he : cnt xs = (n, e)) (hne : (e != 0) = true) :
    Calls Tryd.prog 44 #[.slice A xs.length c] w fun e' w' => e' = .returned (.tuple #[.slice none 0 0, .int .i64 e]) ∧ Below w.heap.size w w' := by
  have Hc := refCount_any w S A c xs hs hl
  rw [he] at Hc
  have HC := Lib.hid Hc
  clear he Hc
  go_enter Tryd.func44, Tryd.ntmps44
  go_wp2_with (fail)
  refine HC.out.mono ?_
  rintro e w1 ⟨rfl, hb1⟩
  go_wp2_with (fail)
  go_ret2
  exact ⟨rfl, hb1⟩
theorem refCheck6_any (w : World) (S : Nat → Prop) (A1 A2 : Option Addr) (c1 c2 : Nat) (ns : List Node) (ds : List Dev) (hn : NetIn w S A1 A2 ns ds) (hl1 : ns.length ≤ 65536) (hl2 : ds.length ≤ 65536)
    (U : Option Addr) (cu : Nat) (st : List Int) (hs : SI w S U st) (hsl : st.length ≤ 65536) :
    Calls Tryd.prog 46 #[.agg #[.slice A1 ns.length c1, .slice A2 ds.length c2], .slice U st.length cu] w fun e w' => e = .returned (.int .i64 (maskC isMask ns ds st)) ∧ Below w.heap.size w w' := by
  have hb := (Below.refl w.heap.size w).alloc (Nat.le_refl _) (.cells #[.slice A1 ns.length c1, .slice A2 ds.length c2] 26)
  have HC := Lib.hid (refPositions_any _ S A1 A2 c1 c2 ns ds (hn.below hb) hl1 hl2 U cu st (hs.keep (Kept.of_below hb)) hsl 3)
  go_enter Tryd.func46, Tryd.ntmps46
  go_wp2_with (fail)
  refine (HC.out).mono ?_
  rintro e w1 ⟨rfl, hb1⟩
  go_wp2_with (fail)
  go_ret
  exact ⟨rfl, hb.trans (hb1.mono hb.size)⟩

set_option maxHeartbeats 1000000 in
theorem within_any (w : World) (bd : Nat) (h : Deck w bd) (S : Nat → Prop) (hS : ∀ b, S b → b ≠ bd) (A : Option Addr) (c : Nat) (xs : List Int) (hs : SI w S A xs) (hl : xs.length ≤ 65536) :
    Calls Tryd.prog 39 #[.pointer (some ⟨bd, 0, none⟩), .slice A xs.length c] w (RetState w bd xs.length (fun x => x = 1 ∨ x = 2)) := by
  have hbl := h.lt
  go_enter Tryd.func39, Tryd.ntmps39
  go_wp2_with (fail)
  go_loopg [5, 6] xs.length (fun g v i wr => ∃ (k : Nat) (A' : Option Addr) (c' : Nat) (ys : List Int), k + g = xs.length ∧ i = .int .i64 k ∧ v = .slice A' ys.length c' ∧ ys.length = k ∧ (∀ y ∈ ys, y = 1 ∨ y = 2) ∧ OI wr (fun g => w.heap.size ≤ g) A' c' ys ∧ Deck wr bd ∧ Fr w.heap.size bd w wr)
  case atStart => exact ⟨0, none, 0, [], by omega, rfl, rfl, rfl, by simp, OI.nil _ _, h, Fr.refl _ _ _⟩
  case round =>
    obtain ⟨k, A', c', ys, hk, rfl, rfl, hyl, hys, hown, hd, hf⟩ := hrel
    have Hk := Lib.hid hk
    have Hyl := Lib.hid hyl
    have Hys := Lib.hid hys
    have hyk : ys.length ≤ 65536 := by omega
    clear hk hyl hys
    by_cases hlt : k < xs.length
    · obtain ⟨b1, f1, rfl, hS1, hl1, q1⟩ := (hs.keep (w' := wr) ⟨hf.size, fun b hb hlb => hf.block b hlb (hS b hb)⟩).at_ hlt
      have hsz := hf.size
      have hpush : ∀ (y : Int), (y = 1 ∨ y = 2) → ∀ z ∈ ys ++ [y], z = 1 ∨ z = 2 := fun y hy z hz => by
        rcases List.mem_append.1 hz with hz | hz
        · exact Hys.out z hz
        · simp at hz; subst hz; exact hy
      have Hpush := Lib.hid hpush
      clear hpush
      generalize xs[k] = x at *
      by_cases h12 : x = 1 ∨ x = 2
      · have F : ((x != 1) = false ∧ x = 1) ∨ ((x != 1) = true ∧ (x != 2) = false ∧ x = 2) := by
          rcases h12 with rfl | rfl
          · exact .inl ⟨rfl, rfl⟩
          · exact .inr ⟨rfl, rfl, rfl⟩
        clear h12
        rcases F with ⟨F1, rfl⟩ | ⟨F1, F2, rfl⟩
        all_goals
          clear F1
          go_wp2_with (at_builtin; go_must (refine wpList_push (B := w.heap.size) rfl (.tmp 27) (.tmp 29) rfl rfl rfl rfl (hown.keep (Kept.alloc _ _ _)) (new_cell _ _ _) (by omega) (by simp; omega) ?_); intro A1' c1' w4 ho4 hb4 _ _)
          go_roundg (gk - 1)
          case measure => have := Hk.out; omega
          case rel =>
            have hbx := ((Below.refl w.heap.size wr).alloc hsz _).trans hb4
            exact ⟨k + 1, A1', c1', _, by have := Hk.out; omega, by go_num, by simp, by simp; have := Hyl.out; omega, Hpush.out _ (by first | exact .inl rfl | exact .inr rfl), ho4, hd.belowB hbx hbl, hf.trans (Fr.of_below hbx)⟩
      · have F1 : (x != 1) = true := by simp; omega
        have F2 : (x != 2) = true := by simp; omega
        clear h12
        go_wp2_with (fail)
        refine (next_any wr bd hd 2 (by decide)).mono ?_
        rintro e w5 ⟨r, rfl, hr, hr0, hd5, hg5, hz5⟩
        have hr2 : r < 2 := by have := hr (by decide); omega
        have hown5 := hown.keep (w' := w5) (Kept.grown hg5 (fun b hb _ e => by injection e with e; have hb : w.heap.size ≤ b := hb; omega))
        have hf5 := hf.trans (Fr.of_grown hg5 hsz)
        have hsz5 := hf5.size
        clear hr hr0 hz5 hg5 hown hd hf
        go_wp2_with (at_builtin; go_must (refine wpList_push (B := w.heap.size) rfl (.tmp 27) (.tmp 29) rfl rfl rfl rfl (hown5.keep (Kept.alloc _ _ _)) (new_cell _ _ _) (by omega) (by simp; omega) ?_); intro A1' c1' w4 ho4 hb4 _ _)
        go_roundg (gk - 1)
        case measure => have := Hk.out; omega
        case rel =>
          have hbx := ((Below.refl w.heap.size w5).alloc hsz5 _).trans hb4
          exact ⟨k + 1, A1', c1', _, by have := Hk.out; omega, by go_num, by simp, by simp; have := Hyl.out; omega, Hpush.out _ (by omega), ho4, hd5.belowB hbx hbl, hf5.trans (Fr.of_below hbx)⟩
    · go_wp2_with (fail)
      go_ret
      exact ⟨A', c', ys, rfl, by have := Hyl.out; have := Hk.out; omega, Hys.out, hown, hd, hf⟩
end Go.Proofs.YtgpcojmdfmngeaaDoor

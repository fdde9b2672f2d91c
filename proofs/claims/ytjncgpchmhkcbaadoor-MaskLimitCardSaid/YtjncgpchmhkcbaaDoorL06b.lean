import Derived.Test.YtjncgpchmhkcbaaDoorL06a
/-
  The law MaskLimit, walked.
-/
namespace Go.Proofs.YtjncgpchmhkcbaaDoor
open Go.RowKit
set_option maxHeartbeats 400000
set_option maxRecDepth 100000

def mlist (u : Nat) (rest : List Int) : List Int := List.replicate u 3 ++ rest.map (fun x => 1 + x % 2)

theorem mlist_ok (u : Nat) (rest : List Int) : (mlist u rest).all isMask = true := by
  unfold mlist
  rw [List.all_eq_true]
  intro x hx
  rcases List.mem_append.1 hx with h | h
  · rw [List.mem_replicate] at h; rw [h.2]; decide
  · obtain ⟨y, _, rfl⟩ := List.mem_map.1 h
    simp [isMask]; omega
theorem unk_none : ∀ (rest : List Int) (k : Nat), unk (rest.map (fun x => 1 + x % 2)) k = []
  | [], _ => rfl
  | x :: xs, k => by
    simp only [List.map_cons, unk]
    rw [if_neg (by omega), unk_none xs]
theorem unk_rep : ∀ (u k : Nat) (rest : List Int), (unk (List.replicate u 3 ++ rest.map (fun x => 1 + x % 2)) k).length = u
  | 0, k, rest => by simp [unk_none]
  | u + 1, k, rest => by
    rw [List.replicate_succ, List.cons_append, unk, if_pos rfl, List.length_cons, unk_rep u (k + 1) rest]
theorem mlist_unk (u : Nat) (rest : List Int) : (unk (mlist u rest) 0).length = u := unk_rep u 0 rest
theorem mlist_cnt (u : Nat) (rest : List Int) : cnt (mlist u rest) = if 8 < u then (0, 1) else ((2 : Int) ^ u, 0) := by
  unfold cnt; rw [mlist_ok, mlist_unk]; simp
theorem mlist_all (u : Nat) (rest : List Int) : (allL (mlist u rest)).length = 2 ^ u := by
  unfold allL; simp [mlist_unk]

theorem maskLimit_any (k : Nat) (hk : k < 256) (w : World) (h : Tab w) (S : Nat → Prop) (A : Option Addr) (c : Nat) (xs : List Int) (hs : SI w S A xs) :
    Calls Tryd.prog 3 #[.int .u8 k, .slice A xs.length c] w (RetTrue w) := by
  by_cases hbig : 30 < xs.length
  · go_enter Tryd.func3, Tryd.ntmps3
    go_wp2_with (go_at_call 10; (with_reducible refine (awake06 _ h).mono ?_); rintro e w1 ⟨rfl, hb1⟩)
    go_ret
    exact ⟨rfl, hb1⟩
  · have hl : xs.length ≤ 30 := by omega
    clear hbig
    have hb30 : decide (30 < (xs.length : Int)) = false := by simp; omega
    obtain ⟨u, hu⟩ : ∃ u : Nat, (k : Int) % 11 = u := ⟨k % 11, by omega⟩
    have hu11 : u < 11 := by omega
    have Hu := Lib.hid hu
    clear hu
    go_enter Tryd.func3, Tryd.ntmps3
    go_wp2_with (fail)
    rw [Hu.out]
    go_loopg [6, 7] u (fun g m i wr => ∃ (j : Nat) (A' : Option Addr) (c' : Nat), j + g = u ∧ i = .int .i64 j ∧ m = .slice A' j c' ∧ OI wr (fun g => w.heap.size ≤ g) A' c' (List.replicate j 3) ∧ Below w.heap.size w wr)
    case atStart => exact ⟨0, none, 0, by omega, rfl, rfl, OI.nil _ _, Below.refl _ _⟩
    case round =>
      obtain ⟨j, A', c', hj, rfl, rfl, hown, hbel⟩ := hrel
      have Hj := Lib.hid hj
      clear hj
      by_cases hlt : j < u
      · go_wp2_with (at_builtin; go_must (refine wpList_push (B := w.heap.size) rfl (.tmp 26) (.tmp 27) rfl rfl rfl (by simp) (hown.keep (Kept.alloc _ _ _)) (new_cell _ _ _) (by simp; omega) (by simp; have := hbel.size; omega) ?_); intro A1 c1 w1 ho1 hb1 _ _)
        go_roundg (gk - 1)
        case measure => have := Hj.out; omega
        case rel =>
          have := Hj.out
          refine ⟨j + 1, A1, c1, by omega, by go_num, by simp, ?_, (hbel.alloc hbel.size _).trans hb1⟩
          rw [List.replicate_succ']; exact ho1
      · go_wp2_with (fail)
        have hju : j = u := by have := Hj.out; omega
        subst hju
        clear Hj hlt
        obtain ⟨wo, rfl⟩ : ∃ wo : World, wo = wr := ⟨_, rfl⟩
        go_loopg [6, 31] xs.length (fun g m i wr => ∃ (i' : Nat) (A' : Option Addr) (c' : Nat), i' + g = xs.length ∧ i = .int .i64 i' ∧ m = .slice A' (j + i') c' ∧ OI wr (fun g => w.heap.size ≤ g) A' c' (mlist j (xs.take i')) ∧ Below w.heap.size w wr)
        case atStart => exact ⟨0, A', c', by omega, rfl, rfl, by simpa [mlist] using hown, hbel⟩
        case round =>
          clear hown hbel
          obtain ⟨i, A', c', hi, rfl, rfl, hown, hbel⟩ := hrel
          have Hi := Lib.hid hi
          clear hi
          have hs' := hs.keep (Kept.of_below hbel)
          have hml : (mlist j (xs.take i)).length = j + min i xs.length := by simp [mlist]
          have Hml := Lib.hid hml
          clear hml
          by_cases hlt : i < xs.length
          · obtain ⟨b, off, rfl, _, _, hc⟩ := hs'.at_ hlt
            have hmm := Int.emod_nonneg xs[i] (show (2 : Int) ≠ 0 by decide)
            have hmm2 := Int.emod_lt_of_pos xs[i] (show (0 : Int) < 2 by decide)
            have hsn : mlist j (xs.take (i + 1)) = mlist j (xs.take i) ++ [1 + xs[i] % 2] := by
              unfold mlist; rw [List.take_succ_eq_append_getElem hlt, List.map_append, ← List.append_assoc]; rfl
            have Hsn := Lib.hid hsn
            clear hsn
            go_wp2_with (first | (go_at_call 11; (refine (mod_any _ _ _ (by decide) (by decide)).mono ?_); rintro e w1 ⟨rfl, rfl⟩) | (at_builtin; go_must (refine wpList_push (B := w.heap.size) (xs := mlist j (xs.take i)) rfl (.tmp 35) (.tmp 39) rfl rfl rfl (by rw [Hml.out]; omega) (hown.keep (Kept.alloc _ _ _)) (new_cell _ _ _) (by rw [Hml.out]; omega) (by simp; have := hbel.size; omega) ?_); intro A1 c1 w1 ho1 hb1 _ _))
            go_roundg (gk - 1)
            case measure => have := Hi.out; omega
            case rel =>
              have := Hi.out
              refine ⟨i + 1, A1, c1, by omega, by go_num, ?_, ?_, (hbel.alloc hbel.size _).trans hb1⟩
              · rw [Hml.out, show j + min i xs.length + 1 = j + (i + 1) by omega]
              · rw [Hsn.out]; exact ho1
          · have hix : xs.take i = xs := List.take_of_length_le (by omega)
            have hin : i = xs.length := by have := Hi.out; omega
            rw [hix] at hown
            rw [hix] at Hml
            have hln : (mlist j xs).length = j + xs.length := by have := Hml.out; omega
            have Hln := Lib.hid hln
            clear hix Hml hln
            subst hin
            clear Hi hlt
            have hcnt := mlist_cnt j xs
            have hal := mlist_all j xs
            have hunk := mlist_unk j xs
            have hok := mlist_ok j xs
            have hc := count_any wr (h.below hbel) _ A' c' _ hown.si (by rw [Hln.out]; omega)
            by_cases h8 : 8 < j
            · rw [if_pos h8] at hcnt
              rw [hcnt, Hln.out] at hc
              have Hcnt := Lib.hid hcnt
              have Hc := Lib.hid hc
              clear hcnt hal hunk hok hc
              have hb8 : decide (8 < (j : Int)) = true := by simp; omega
              go_wp2_with (go_at_call 12; (with_reducible refine (Hc.out).mono ?_); rintro e w1 ⟨rfl, hb1⟩)
              have ha := all_err w1 ((h.below hbel).below hb1) _ A' c' _ (hown.si.keep (Kept.of_below hb1)) (by rw [Hln.out]; omega) 0 1 Hcnt.out (by decide)
              rw [Hln.out] at ha
              refine ha.mono ?_
              clear ha
              rintro e w2 ⟨rfl, hb2⟩
              have hbel2 : Below w.heap.size w w2 := (hbel.trans (hb1.mono hbel.size)).trans (hb2.mono (Nat.le_trans hbel.size hb1.size))
              go_wp2_with (go_at_call 10; (refine (awake06 _ (h.below hbel2)).mono ?_); rintro e w3 ⟨rfl, hb3⟩)
              go_ret
              exact ⟨rfl, hbel2.trans (hb3.mono hbel2.size)⟩
            · rw [if_neg h8] at hcnt
              rw [hcnt, Hln.out] at hc
              have Hc := Lib.hid hc
              have Hal := Lib.hid hal
              have Hunk := Lib.hid hunk
              have Hok := Lib.hid hok
              clear hcnt hal hunk hok hc
              have hb8 : decide (8 < (j : Int)) = false := by simp; omega
              go_wp2_with (go_at_call 12; (with_reducible refine (Hc.out).mono ?_); rintro e w1 ⟨rfl, hb1⟩)
              have ha := all_any w1 ((h.below hbel).below hb1) _ A' c' _ (hown.si.keep (Kept.of_below hb1)) (by rw [Hln.out]; omega) Hok.out (by rw [Hunk.out]; omega)
              rw [Hln.out, Hal.out] at ha
              refine ha.mono ?_
              clear ha
              rintro e w2 ⟨A2, c2, rfl, _, hb2⟩
              have hbel2 : Below w.heap.size w w2 := (hbel.trans (hb1.mono hbel.size)).trans (hb2.mono (Nat.le_trans hbel.size hb1.size))
              have h9 := wrap_pow j (by omega)
              go_wp2_with (go_at_call 10; (refine (awake06 _ (h.below hbel2)).mono ?_); rintro e w3 ⟨rfl, hb3⟩)
              go_ret
              exact ⟨rfl, hbel2.trans (hb3.mono hbel2.size)⟩

/-- as the row asks it -/
theorem maskLimit_row (W : World) (h : Tab W) (k : Int) (hk : (Lit.int .u8 k).wf = true) (A : Option Addr) (c : Nat) (xs : List Int) (hs : SI W (fun _ => True) A xs) :
    Calls Tryd.prog 3 #[.int .u8 k, .slice A xs.length c] W fun e w' => e = .returned (.bool true) ∧ Below W.heap.size W w' := by
  have hb : 0 ≤ k ∧ k ≤ 255 := by simp [Lit.wf, IntKind.min, IntKind.max, IntKind.signed, IntKind.bits] at hk; exact hk
  obtain ⟨n, rfl⟩ : ∃ n : Nat, k = n := ⟨k.toNat, by omega⟩
  exact maskLimit_any n (by omega) W h _ A c xs hs
end Go.Proofs.YtjncgpchmhkcbaaDoor

/-
  Walks of the reference's Check, Other, Has, Joins: the reference says of a network what the program says.
-/
import Derived.Test.YtglhplddjjoggaaDoorPGood
namespace Go.Proofs.YtglhplddjjoggaaDoor
open Go.RowKit
set_option maxHeartbeats 400000
set_option maxRecDepth 100000

def letB (b : Int) : Bool := (decide (65 ≤ b) && decide (b ≤ 90)) || (decide (97 ≤ b) && decide (b ≤ 122))
def digB (b : Int) : Bool := decide (48 ≤ b) && decide (b ≤ 57)
theorem fits_let : ∀ b : Nat, b < 256 → fitsB b true = letB b ∧ fitsB b false = (letB b || digB b || ((b : Int) == 95)) := by decide +kernel

theorem letter_any (b : Nat) (w : World) : Calls Tryd.prog 146 #[.int .u8 b] w fun e w' => e = .returned (.bool (letB b)) ∧ w = w' := by
  by_cases h1 : (65 : Int) ≤ b
  · by_cases h2 : (b : Int) ≤ 90
    · go_enter Tryd.func146, Tryd.ntmps146
      go_wp2
      go_ret
      exact ⟨retB (by simp [letB]; omega), rfl⟩
    · by_cases h3 : (97 : Int) ≤ b
      · go_enter Tryd.func146, Tryd.ntmps146
        go_wp2
        go_ret
        exact ⟨retB (by unfold letB; rw [decide_eq_true h1, decide_eq_false (p := (b : Int) ≤ 90) (by omega), decide_eq_true h3]; simp), rfl⟩
      · go_enter Tryd.func146, Tryd.ntmps146
        go_wp2
        go_ret
        exact ⟨retB (by unfold letB; rw [decide_eq_true h1, decide_eq_false (p := (b : Int) ≤ 90) (by omega), decide_eq_false (p := (97 : Int) ≤ b) (by omega)]; simp), rfl⟩
  · have h3 : ¬ (97 : Int) ≤ b := by omega
    go_enter Tryd.func146, Tryd.ntmps146
    go_wp2
    go_ret
    exact ⟨retB (by unfold letB; rw [decide_eq_false (p := (65 : Int) ≤ b) (by omega), decide_eq_false (p := (97 : Int) ≤ b) (by omega)]; simp), rfl⟩
theorem digit_any (b : Nat) (w : World) : Calls Tryd.prog 147 #[.int .u8 b] w fun e w' => e = .returned (.bool (digB b)) ∧ w = w' := by
  by_cases h1 : (48 : Int) ≤ b
  · go_enter Tryd.func147, Tryd.ntmps147
    go_wp2
    go_ret
    exact ⟨retB (by unfold digB; rw [decide_eq_true h1]; simp), rfl⟩
  · go_enter Tryd.func147, Tryd.ntmps147
    go_wp2
    go_ret
    exact ⟨retB (by unfold digB; rw [decide_eq_false (p := (48 : Int) ≤ b) (by omega)]; simp), rfl⟩

def allF : List UInt8 → Bool
  | [] => true
  | c :: r => fitsB (c.toNat : Int) false && allF r
theorem allF_ok : ∀ l, okBytes l false = allF l
  | [] => rfl
  | c :: r => by simp [okBytes, allF, allF_ok r]
theorem let_false {b : Nat} (hb : b < 256) (h : letB b = true) : fitsB b false = true := by rw [(fits_let b hb).2, h]; rfl
theorem nameB_ref (s : ByteArray) (h : 0 < s.size) : nameB s = (letB s[0].toNat && allF s.data.toList && decide (s.size ≤ 12)) := by
  unfold nameB
  have hd : s.data.toList = s[0] :: s.data.toList.drop 1 := by
    have := List.drop_eq_getElem_cons (l := s.data.toList) (i := 0) (by simpa using h)
    rw [List.drop_zero] at this
    exact this
  have h256 : s[0].toNat < 256 := s[0].toNat_lt
  have e0 : decide (1 ≤ s.size) = true := by simp; omega
  rw [e0, Bool.and_true]
  congr 1
  rw [hd]
  simp only [okBytes, allF, allF_ok]
  rw [(fits_let _ h256).1]
  by_cases hl : letB s[0].toNat = true
  · rw [hl, let_false h256 hl]; rfl
  · have hl : letB s[0].toNat = false := by simpa using hl
    rw [hl]; simp
theorem allF_drop (s : ByteArray) (k : Nat) (h : k < s.size) : allF (s.data.toList.drop k) = ((letB s[k].toNat || digB s[k].toNat || ((s[k].toNat : Int) == 95)) && allF (s.data.toList.drop (k + 1))) := by
  rw [List.drop_eq_getElem_cons (by simpa using h), ← (fits_let s[k].toNat s[k].toNat_lt).2]
  rfl

theorem refName_any (s : ByteArray) (w : World) (hs : s.size ≤ maxLen) : Calls Tryd.prog 103 #[.string s] w fun e w' => e = .returned (.bool (nameB s)) ∧ w = w' := by
  unfold maxLen at hs
  by_cases h1 : s.size < 1
  · have hn := Lib.hid (show nameB s = false by unfold nameB; rw [decide_eq_false (p := 1 ≤ s.size) (by omega)]; simp)
    go_enter Tryd.func103, Tryd.ntmps103
    go_wp2_with (fail)
    go_ret
    exact ⟨retB (by rw [hn.out]), rfl⟩
  · by_cases h12 : 12 < s.size
    · have hn := Lib.hid (show nameB s = false by unfold nameB; rw [decide_eq_false (p := s.size ≤ 12) (by omega)]; simp)
      go_enter Tryd.func103, Tryd.ntmps103
      go_wp2_with (fail)
      go_ret
      exact ⟨retB (by rw [hn.out]), rfl⟩
    · have h0 : 0 < s.size := by omega
      have hn := nameB_ref s h0
      rw [decide_eq_true (p := s.size ≤ 12) (by omega), Bool.and_true] at hn
      have hl := letter_any s[0].toNat
      have d1 : decide ((s.size : Int) < 1) = false := decide_eq_false (by omega)
      have d12 : decide ((12 : Int) < (s.size : Int)) = false := decide_eq_false (by omega)
      generalize hlb : letB s[0].toNat = lb at *
      have Hn := Lib.hid hn
      have Hl := Lib.hid hl
      clear hn hl hlb
      cases lb
      · go_enter Tryd.func103, Tryd.ntmps103
        go_wp2_with (fail)
        refine (Hl.out _).mono ?_
        rintro e w' ⟨rfl, rfl⟩
        go_wp2_with (fail)
        go_ret
        exact ⟨retB (by rw [Hn.out]; rfl), rfl⟩
      · go_enter Tryd.func103, Tryd.ntmps103
        go_wp2_with (fail)
        refine (Hl.out _).mono ?_
        rintro e w' ⟨rfl, rfl⟩
        go_wp2_with (fail)
        go_loopg [3] s.size (fun g i wr => wr = w ∧ ∃ k : Nat, k + g = s.size ∧ i = .int .i64 k ∧ nameB s = allF (s.data.toList.drop k))
        case atStart => exact ⟨rfl, 0, by omega, rfl, by rw [Hn.out]; simp⟩
        case round =>
          obtain ⟨rfl, k, hk, rfl, hi⟩ := hrel
          have Hi := Lib.hid hi
          have Hk := Lib.hid hk
          clear hi hk
          by_cases hlt : k < s.size
          · have Hd := Lib.hid (allF_drop s k hlt)
            have h1 := letter_any s[k].toNat wr
            have h2 := digit_any s[k].toNat wr
            generalize letB s[k].toNat = lb at *
            generalize digB s[k].toNat = db at *
            have H1 := Lib.hid h1
            have H2 := Lib.hid h2
            clear h1 h2
            go_wp2_with (fail)
            refine (H1.out).mono ?_
            rintro e w' ⟨rfl, rfl⟩
            cases lb
            · go_wp2_with (fail)
              refine (H2.out).mono ?_
              rintro e w' ⟨rfl, rfl⟩
              cases db
              · by_cases h95 : ((s[k].toNat : Int) == 95) = true
                · have h95' : ((s[k].toNat : Int) != 95) = false := by simpa using h95
                  rw [h95] at Hd
                  go_wp2_with (fail)
                  go_roundg (gk - 1)
                  case measure => have := Hk.out; omega
                  case rel => exact ⟨rfl, k + 1, by have := Hk.out; omega, by go_num, by rw [Hi.out, Hd.out]; rfl⟩
                · have h95 : ((s[k].toNat : Int) == 95) = false := by simpa using h95
                  have h95' : ((s[k].toNat : Int) != 95) = true := by simpa using h95
                  rw [h95] at Hd
                  go_wp2_with (fail)
                  go_ret
                  exact ⟨retB (by rw [Hi.out, Hd.out]; rfl), rfl⟩
              · go_wp2_with (fail)
                go_roundg (gk - 1)
                case measure => have := Hk.out; omega
                case rel => exact ⟨rfl, k + 1, by have := Hk.out; omega, by go_num, by rw [Hi.out, Hd.out]; rfl⟩
            · go_wp2_with (fail)
              go_roundg (gk - 1)
              case measure => have := Hk.out; omega
              case rel => exact ⟨rfl, k + 1, by have := Hk.out; omega, by go_num, by rw [Hi.out, Hd.out]; rfl⟩
          · go_wp2_with (fail)
            go_ret
            exact ⟨retB (by rw [Hi.out, List.drop_of_length_le (by simp; omega)]; rfl), rfl⟩
end Go.Proofs.YtglhplddjjoggaaDoor

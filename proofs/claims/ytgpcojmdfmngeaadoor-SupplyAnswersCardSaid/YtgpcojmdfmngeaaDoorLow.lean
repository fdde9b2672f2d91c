/-
  Walks of mask.fill, Lowest, Highest.
-/
import Derived.Test.YtgpcojmdfmngeaaDoorPMsk
namespace Go.Proofs.YtgpcojmdfmngeaaDoor
open Go.RowKit
set_option maxHeartbeats 400000
set_option maxRecDepth 100000

theorem fill_any (w : World) (S : Nat → Prop) (A : Option Addr) (c : Nat) (xs : List Int) (hs : SI w S A xs) (hl : xs.length ≤ 65536) (pos : Int) :
    Calls Tryd.prog 128 #[.slice A xs.length c, .int .i64 pos] w (RetOI w (lowL pos xs)) := by
  have Hmem := Lib.hid (unk_mem xs 0)
  have HU := Lib.hid (setU_all (fun _ => pos) xs)
  have hul : (unk xs 0).length ≤ 65536 := by
    have : ∀ (xs : List Int) (k : Nat), (unk xs k).length ≤ xs.length := by
      intro xs
      induction xs with
      | nil => intro k; simp [unk]
      | cons x xs ih =>
        intro k
        have := ih (k + 1)
        unfold unk
        split <;> simp <;> omega
    have := this xs 0
    omega
  go_enter Tryd.func128, Tryd.ntmps128
  go_wp2_with (fail)
  refine (clone_any w S A c xs hs hl).mono ?_
  rintro e w1 ⟨A1, c1, rfl, ho1, hb1⟩
  go_wp2_with (fail)
  refine (unknown_any w1 S A c xs (hs.keep (Kept.of_below hb1)) hl).mono ?_
  rintro e w2 ⟨A2, c2, rfl, ho2, hb2⟩
  have ho12 := ho1.keep (Kept.of_below hb2)
  have hb12 := hb1.trans (hb2.mono hb1.size)
  have hsz := hb1.size
  have hor : OI w2 (fun g => w.heap.size ≤ g ∧ g < w1.heap.size) A1 c1 xs := (ho1.mono (T := fun g => w.heap.size ≤ g ∧ g < w1.heap.size) (fun g hl hg => ⟨hg, hl⟩)).keep (Kept.of_below hb2)
  clear ho1 ho12 hb1 hb2 hs
  generalize unk xs 0 = us at *
  go_wp2_with (fail)
  go_loopg [13] us.length (fun g i wr => ∃ (j : Nat) (row : List Int), j + g = us.length ∧ i = .int .i64 j ∧ row.length = xs.length ∧ OI wr (fun g => w.heap.size ≤ g ∧ g < w1.heap.size) A1 c1 row ∧ SI wr (fun g => w1.heap.size ≤ g) A2 us ∧ setU (fun _ => pos) us 0 xs = setU (fun _ => pos) (us.drop j) j row ∧ Below w.heap.size w wr)
  case atStart => exact ⟨0, xs, by omega, rfl, rfl, hor, OI.si ho2, rfl, hb12⟩
  case round =>
    clear hor ho2 hb12
    obtain ⟨j, row, hj, rfl, hrl, hor, hou, he, hb⟩ := hrel
    have Hj := Lib.hid hj
    have Hrl := Lib.hid hrl
    have He := Lib.hid he
    clear hj hrl he
    by_cases hlt : j < us.length
    · have hm := Hmem.out us[j] (List.getElem_mem hlt)
      obtain ⟨b2, off2, rfl, _, _, hcu⟩ := hou.at_ hlt
      have hfd := setU_drop (fun _ => pos) us j row hlt
      obtain ⟨dn, hdn⟩ : ∃ dn : Nat, us[j] = (dn : Int) := ⟨us[j].toNat, by omega⟩
      rw [hdn] at hcu hm hfd
      rw [Int.toNat_natCast] at hfd
      have hdl : dn < xs.length := by omega
      have hdr : dn < row.length := by rw [Hrl.out]; exact hdl
      obtain ⟨g4, off4, rfl, hg4, hlt4, hc4, hf4⟩ := hor.at_ hdr
      have Hfd := Lib.hid hfd
      clear hfd hdn hm
      go_wp2_with (fail)
      go_roundg (gk - 1)
      case measure => have := Hj.out; omega
      case rel => exact ⟨j + 1, row.set dn pos, by have := Hj.out; omega, by go_num, by rw [List.length_set]; exact Hrl.out, hor.set dn pos, hou.keep (Kept.setCell (p := ⟨g4, _, none⟩) (by have := hg4.2; show ¬ w1.heap.size ≤ g4; omega) _), by rw [He.out, Hfd.out], hb.setCell (p := ⟨g4, _, none⟩) hg4.1 _⟩
    · have hrow : lowL pos xs = row := by
        have := He.out
        rw [List.drop_of_length_le (by omega)] at this
        unfold lowL
        rw [← HU.out, this]
        rfl
      have Hrow := Lib.hid hrow
      clear hrow
      go_wp2_with (fail)
      go_ret
      rw [Hrow.out]
      exact ⟨A1, c1, by rw [Hrl.out]; rfl, hor.mono (fun g _ hg => hg.1), hb⟩
theorem lowest_any (w : World) (S : Nat → Prop) (A : Option Addr) (c : Nat) (xs : List Int) (hs : SI w S A xs) (hl : xs.length ≤ 65536) :
    Calls Tryd.prog 51 #[.slice A xs.length c] w (RetOI w (lowL 1 xs)) := by
  go_enter Tryd.func51, Tryd.ntmps51
  go_wp2_with (fail)
  refine (fill_any w S A c xs hs hl 1).mono ?_
  rintro e w1 ⟨A1, c1, rfl, ho1, hb1⟩
  go_wp2_with (fail)
  go_ret
  exact ⟨A1, c1, rfl, ho1, hb1⟩
theorem highest_any (w : World) (S : Nat → Prop) (A : Option Addr) (c : Nat) (xs : List Int) (hs : SI w S A xs) (hl : xs.length ≤ 65536) :
    Calls Tryd.prog 53 #[.slice A xs.length c] w (RetOI w (lowL 2 xs)) := by
  go_enter Tryd.func53, Tryd.ntmps53
  go_wp2_with (fail)
  refine (fill_any w S A c xs hs hl 2).mono ?_
  rintro e w1 ⟨A1, c1, rfl, ho1, hb1⟩
  go_wp2_with (fail)
  go_ret
  exact ⟨A1, c1, rfl, ho1, hb1⟩
end Go.Proofs.YtgpcojmdfmngeaaDoor

/-
  Walks of the package of names; sets of names in memory.
-/
import Derived.Test.YtglhplddjjoggaaDoorNet
import Derived.Maps.Own
import Derived.Maps.OwnOps
import Derived.Maps.OwnSet
namespace Go.Proofs.YtglhplddjjoggaaDoor
open Go.RowKit
open Go.Maps (Keyed)
set_option maxHeartbeats 400000
set_option maxRecDepth 100000

/-- the classes of bytes, as the table has them -/
def clsV : List Value := [.int .u8 65, .int .u8 90, .bool true, .int .u8 97, .int .u8 122, .bool true, .int .u8 48, .int .u8 57, .bool false, .int .u8 95, .int .u8 95, .bool false]
/-- the table of classes in a world -/
def TabC (w : World) : Prop := ∀ j u, clsV[j]? = some u → w.cell? ⟨1, j, none⟩ = some u
theorem TabC.lt {w : World} (h : TabC w) : 1 < w.heap.size := World.block_lt_of_cell? w _ (h 0 _ rfl)
theorem TabC.keep {w w' : World} (h : TabC w) (e : w'.heap[1]? = w.heap[1]?) : TabC w' := fun j u hj => (World.cell?_of_block e).trans (h j u hj)
theorem TabC.below {w w' : World} (h : TabC w) (hb : Below w.heap.size w w') : TabC w' := h.keep (hb.block _ h.lt)

def cls : List (Int × Int × Bool) := [(65, 90, true), (97, 122, true), (48, 57, false), (95, 95, false)]
def fitsL (b : Int) (first : Bool) : List (Int × Int × Bool) → Bool
  | [] => false
  | (f, t, x) :: r => if f ≤ b ∧ b ≤ t then x || !first else fitsL b first r
def fitsB (b : Int) (first : Bool) : Bool := fitsL b first cls

theorem idxC0 (w : World) : (Instr.index 157 (.agg #[.int .u8 65, .int .u8 90, .bool true, .int .u8 97, .int .u8 122, .bool true, .int .u8 48, .int .u8 57, .bool false, .int .u8 95, .int .u8 95, .bool false]) (.int .i64 0)).run Tryd.prog w = .ok (.agg #[.int .u8 65, .int .u8 90, .bool true]) w := by kernel_rfl
theorem idxC1 (w : World) : (Instr.index 157 (.agg #[.int .u8 65, .int .u8 90, .bool true, .int .u8 97, .int .u8 122, .bool true, .int .u8 48, .int .u8 57, .bool false, .int .u8 95, .int .u8 95, .bool false]) (.int .i64 1)).run Tryd.prog w = .ok (.agg #[.int .u8 97, .int .u8 122, .bool true]) w := by kernel_rfl
theorem idxC2 (w : World) : (Instr.index 157 (.agg #[.int .u8 65, .int .u8 90, .bool true, .int .u8 97, .int .u8 122, .bool true, .int .u8 48, .int .u8 57, .bool false, .int .u8 95, .int .u8 95, .bool false]) (.int .i64 2)).run Tryd.prog w = .ok (.agg #[.int .u8 48, .int .u8 57, .bool false]) w := by kernel_rfl
theorem idxC3 (w : World) : (Instr.index 157 (.agg #[.int .u8 65, .int .u8 90, .bool true, .int .u8 97, .int .u8 122, .bool true, .int .u8 48, .int .u8 57, .bool false, .int .u8 95, .int .u8 95, .bool false]) (.int .i64 3)).run Tryd.prog w = .ok (.agg #[.int .u8 95, .int .u8 95, .bool false]) w := by kernel_rfl

theorem fits_any (b : Nat) (_hb : b < 256) (first : Bool) (w : World) (h : TabC w) : Calls Tryd.prog 145 #[.int .u8 b, .bool first] w fun e w' => e = .returned (.bool (fitsB b first)) ∧ Below w.heap.size w w' := by
  have h0 := h 0 _ rfl
  have h1 := h 1 _ rfl
  have h2 := h 2 _ rfl
  have h3 := h 3 _ rfl
  have h4 := h 4 _ rfl
  have h5 := h 5 _ rfl
  have h6 := h 6 _ rfl
  have h7 := h 7 _ rfl
  have h8 := h 8 _ rfl
  have h9 := h 9 _ rfl
  have h10 := h 10 _ rfl
  have h11 := h 11 _ rfl
  clear h
  go_enter Tryd.func145, Tryd.ntmps145
  go_wp2
  go_loopg [8] 4 (fun g i wr => ∃ k : Nat, k + g = 4 ∧ i = .int .i64 k ∧ Below w.heap.size w wr ∧ fitsB b first = fitsL b first (cls.drop k))
  case atStart => exact ⟨0, by omega, rfl, Below.refl _ _, rfl⟩
  case round =>
    obtain ⟨k, hk, hi0, hbel, hi⟩ := hrel
    have Hi := Lib.hid hi
    clear hi h0 h1 h2 h3 h4 h5 h6 h7 h8 h9 h10 h11
    have hkk : k = 0 ∨ k = 1 ∨ k = 2 ∨ k = 3 ∨ k = 4 := by omega
    have Hk := Lib.hid hk
    clear hk
    rcases hkk with rfl | rfl | rfl | rfl | rfl
    · obtain rfl : u8 = .int .i64 0 := hi0
      have hx := idxC0
      by_cases c1 : (65 : Int) ≤ b
      · by_cases c2 : (b : Int) ≤ 90
        · have HP := Lib.hid (And.intro c1 c2)
          go_wp2_with (fail)
          go_ret
          refine ⟨?_, by first | exact hbel.alloc hbel.size _ | exact (hbel.alloc hbel.size _).drew | exact hbel⟩
          rw [Hi.out]
          show _ = Ending.returned (.bool (if _ ∧ _ then _ else _))
          rw [if_pos HP.out]
          cases first <;> rfl
        · have HP := Lib.hid (show ¬ ((65 : Int) ≤ (b : Int) ∧ (b : Int) ≤ 90) from fun h => c2 h.2)
          go_wp2_with (fail)
          go_roundg (gk - 1)
          case measure => have := Hk.out; omega
          case rel =>
            refine ⟨1, by have := Hk.out; omega, rfl, hbel.alloc hbel.size _, ?_⟩
            rw [Hi.out]
            show (if _ ∧ _ then _ else _) = _
            rw [if_neg HP.out]
            rfl
      · have HP := Lib.hid (show ¬ ((65 : Int) ≤ (b : Int) ∧ (b : Int) ≤ 90) from fun h => c1 h.1)
        go_wp2_with (fail)
        go_roundg (gk - 1)
        case measure => have := Hk.out; omega
        case rel =>
          refine ⟨1, by have := Hk.out; omega, rfl, hbel.alloc hbel.size _, ?_⟩
          rw [Hi.out]
          show (if _ ∧ _ then _ else _) = _
          rw [if_neg HP.out]
          rfl
    · obtain rfl : u8 = .int .i64 1 := hi0
      have hx := idxC1
      by_cases c1 : (97 : Int) ≤ b
      · by_cases c2 : (b : Int) ≤ 122
        · have HP := Lib.hid (And.intro c1 c2)
          go_wp2_with (fail)
          go_ret
          refine ⟨?_, by first | exact hbel.alloc hbel.size _ | exact (hbel.alloc hbel.size _).drew | exact hbel⟩
          rw [Hi.out]
          show _ = Ending.returned (.bool (if _ ∧ _ then _ else _))
          rw [if_pos HP.out]
          cases first <;> rfl
        · have HP := Lib.hid (show ¬ ((97 : Int) ≤ (b : Int) ∧ (b : Int) ≤ 122) from fun h => c2 h.2)
          go_wp2_with (fail)
          go_roundg (gk - 1)
          case measure => have := Hk.out; omega
          case rel =>
            refine ⟨2, by have := Hk.out; omega, rfl, hbel.alloc hbel.size _, ?_⟩
            rw [Hi.out]
            show (if _ ∧ _ then _ else _) = _
            rw [if_neg HP.out]
            rfl
      · have HP := Lib.hid (show ¬ ((97 : Int) ≤ (b : Int) ∧ (b : Int) ≤ 122) from fun h => c1 h.1)
        go_wp2_with (fail)
        go_roundg (gk - 1)
        case measure => have := Hk.out; omega
        case rel =>
          refine ⟨2, by have := Hk.out; omega, rfl, hbel.alloc hbel.size _, ?_⟩
          rw [Hi.out]
          show (if _ ∧ _ then _ else _) = _
          rw [if_neg HP.out]
          rfl
    · obtain rfl : u8 = .int .i64 2 := hi0
      have hx := idxC2
      by_cases c1 : (48 : Int) ≤ b
      · by_cases c2 : (b : Int) ≤ 57
        · have HP := Lib.hid (And.intro c1 c2)
          go_wp2_with (fail)
          go_ret
          refine ⟨?_, by first | exact hbel.alloc hbel.size _ | exact (hbel.alloc hbel.size _).drew | exact hbel⟩
          rw [Hi.out]
          show _ = Ending.returned (.bool (if _ ∧ _ then _ else _))
          rw [if_pos HP.out]
          cases first <;> rfl
        · have HP := Lib.hid (show ¬ ((48 : Int) ≤ (b : Int) ∧ (b : Int) ≤ 57) from fun h => c2 h.2)
          go_wp2_with (fail)
          go_roundg (gk - 1)
          case measure => have := Hk.out; omega
          case rel =>
            refine ⟨3, by have := Hk.out; omega, rfl, hbel.alloc hbel.size _, ?_⟩
            rw [Hi.out]
            show (if _ ∧ _ then _ else _) = _
            rw [if_neg HP.out]
            rfl
      · have HP := Lib.hid (show ¬ ((48 : Int) ≤ (b : Int) ∧ (b : Int) ≤ 57) from fun h => c1 h.1)
        go_wp2_with (fail)
        go_roundg (gk - 1)
        case measure => have := Hk.out; omega
        case rel =>
          refine ⟨3, by have := Hk.out; omega, rfl, hbel.alloc hbel.size _, ?_⟩
          rw [Hi.out]
          show (if _ ∧ _ then _ else _) = _
          rw [if_neg HP.out]
          rfl
    · obtain rfl : u8 = .int .i64 3 := hi0
      have hx := idxC3
      by_cases c1 : (95 : Int) ≤ b
      · by_cases c2 : (b : Int) ≤ 95
        · have HP := Lib.hid (And.intro c1 c2)
          go_wp2_with (fail)
          go_ret
          refine ⟨?_, by first | exact hbel.alloc hbel.size _ | exact (hbel.alloc hbel.size _).drew | exact hbel⟩
          rw [Hi.out]
          show _ = Ending.returned (.bool (if _ ∧ _ then _ else _))
          rw [if_pos HP.out]
          cases first <;> rfl
        · have HP := Lib.hid (show ¬ ((95 : Int) ≤ (b : Int) ∧ (b : Int) ≤ 95) from fun h => c2 h.2)
          go_wp2_with (fail)
          go_roundg (gk - 1)
          case measure => have := Hk.out; omega
          case rel =>
            refine ⟨4, by have := Hk.out; omega, rfl, hbel.alloc hbel.size _, ?_⟩
            rw [Hi.out]
            show (if _ ∧ _ then _ else _) = _
            rw [if_neg HP.out]
            rfl
      · have HP := Lib.hid (show ¬ ((95 : Int) ≤ (b : Int) ∧ (b : Int) ≤ 95) from fun h => c1 h.1)
        go_wp2_with (fail)
        go_roundg (gk - 1)
        case measure => have := Hk.out; omega
        case rel =>
          refine ⟨4, by have := Hk.out; omega, rfl, hbel.alloc hbel.size _, ?_⟩
          rw [Hi.out]
          show (if _ ∧ _ then _ else _) = _
          rw [if_neg HP.out]
          rfl
    · obtain rfl : u8 = .int .i64 4 := hi0
      go_wp2_with (fail)
      go_ret
      exact ⟨by rw [Hi.out]; rfl, hbel⟩

def okBytes : List UInt8 → Bool → Bool
  | [], _ => true
  | c :: r, f => fitsB (c.toNat : Int) f && okBytes r false
def nameB (s : ByteArray) : Bool := okBytes s.data.toList true && decide (1 ≤ s.size) && decide (s.size ≤ 12)
theorem retB {a b : Bool} (h : a = b) : Ending.returned (.bool a) = .returned (.bool b) := by rw [h]
theorem okBytes_drop (s : ByteArray) (k : Nat) (f : Bool) (h : k < s.size) : okBytes (s.data.toList.drop k) f = (fitsB (s[k].toNat : Int) f && okBytes (s.data.toList.drop (k + 1)) false) := by
  rw [List.drop_eq_getElem_cons (by simpa using h)]
  rfl

theorem name_yes (s : ByteArray) (w : World) (h : TabC w) (hs : s.size ≤ maxLen) : Calls Tryd.prog 100 #[.string s] w fun e w' => e = .returned (.bool (nameB s)) ∧ Below w.heap.size w w' := by
  unfold maxLen at hs
  go_enter Tryd.func100, Tryd.ntmps100
  go_wp2_with (fail)
  go_loopg [6] s.size (fun g i wr => ∃ k : Nat, k + g = s.size ∧ i = .int .i64 k ∧ Below w.heap.size w wr ∧ okBytes s.data.toList true = okBytes (s.data.toList.drop k) (decide (k = 0)))
  case atStart => exact ⟨0, by omega, rfl, Below.refl _ _, rfl⟩
  case round =>
    obtain ⟨k, hk, rfl, hbel, hi⟩ := hrel
    have Hi := Lib.hid hi
    have Hk := Lib.hid hk
    clear hi hk
    by_cases hlt : k < s.size
    · have hc : s[k].toNat < 256 := s[k].toNat_lt
      by_cases h0 : k = 0
      · have h0' : ((k : Int) == 0) = true := by simp [h0]
        have e0 : decide (k = 0) = true := by simp [h0]
        have Hd := Lib.hid (okBytes_drop s k (decide (k = 0)) hlt)
        rw [e0] at Hd
        have Hi := Hi
        rw [e0] at Hi
        clear h0 e0
        go_wp2_with (fail)
        refine (fits_any s[k].toNat hc true wr (h.below hbel)).mono ?_
        rintro e w1 ⟨rfl, hb1⟩
        generalize fitsB (s[k].toNat : Int) true = fv at *
        cases fv
        · go_wp2_with (fail)
          go_ret
          refine ⟨retB ?_, hbel.trans (hb1.mono hbel.size)⟩
          unfold nameB
          rw [Hi.out, Hd.out]
          simp
        · go_wp2_with (fail)
          go_roundg (gk - 1)
          case measure => have := Hk.out; omega
          case rel =>
            refine ⟨k + 1, by have := Hk.out; omega, by go_num, hbel.trans (hb1.mono hbel.size), ?_⟩
            rw [Hi.out, Hd.out]
            simp
      · have h0' : ((k : Int) == 0) = false := by simp [h0]
        have e0 : decide (k = 0) = false := by simp [h0]
        have Hd := Lib.hid (okBytes_drop s k (decide (k = 0)) hlt)
        rw [e0] at Hd
        have Hi := Hi
        rw [e0] at Hi
        clear h0 e0
        go_wp2_with (fail)
        refine (fits_any s[k].toNat hc false wr (h.below hbel)).mono ?_
        rintro e w1 ⟨rfl, hb1⟩
        generalize fitsB (s[k].toNat : Int) false = fv at *
        cases fv
        · go_wp2_with (fail)
          go_ret
          refine ⟨retB ?_, hbel.trans (hb1.mono hbel.size)⟩
          unfold nameB
          rw [Hi.out, Hd.out]
          simp
        · go_wp2_with (fail)
          go_roundg (gk - 1)
          case measure => have := Hk.out; omega
          case rel =>
            refine ⟨k + 1, by have := Hk.out; omega, by go_num, hbel.trans (hb1.mono hbel.size), ?_⟩
            rw [Hi.out, Hd.out]
            simp
    · have hn : nameB s = (decide (1 ≤ s.size) && decide (s.size ≤ 12)) := by
        unfold nameB
        rw [Hi.out, List.drop_of_length_le (by simp; omega)]
        simp [okBytes]
      have Hn := Lib.hid hn
      clear hn
      go_wp2_with (fail)
      all_goals
        go_ret
        refine ⟨retB ?_, hbel⟩
        rw [Hn.out]
        first | (rw [decide_eq_true (p := 1 ≤ s.size) (by omega), Bool.true_and]; apply Bool.eq_iff_iff.2; simp only [decide_eq_true_eq]; omega) | (rw [decide_eq_false (p := 1 ≤ s.size) (by omega)]; rfl)

theorem nameB_size {s : ByteArray} (h : nameB s = true) : 1 ≤ s.size ∧ s.size ≤ 12 := by
  unfold nameB at h
  simp only [Bool.and_eq_true, decide_eq_true_eq] at h
  exact ⟨h.1.2, h.2⟩

theorem lawS : Keyed Tryd.prog 9 := Maps.string_keyed Tryd.underlying9
theorem zeroB (w : World) : (zeroValue 4).run Tryd.prog w = .ok (.bool false) w := by kernel_rfl

/-- Block b is a set of names. -/
def USet (w : World) (b n : Nat) (used : List (List UInt8)) : Prop :=
  ∃ D : DataW Unit, w.ownsMap Tryd.prog 9 (plainElem Tryd.prog 4) b n D ∧ ∀ s : List UInt8, D.atKey (.string s) (.lit (.bool false)) = .lit (.bool (decide (s ∈ used)))

theorem USet.made (w : World) : USet (w.alloc (.map #[] 0)) w.heap.size 0 [] := ⟨_, World.ownsMap_made w _ _ _, fun s => by simp; rfl⟩
theorem USet.lt {w : World} {b n : Nat} {used : List (List UInt8)} (h : USet w b n used) : b < w.heap.size := by
  obtain ⟨D, h, _⟩ := h
  exact h.lt
theorem USet.keep {w w' : World} {b n : Nat} {used : List (List UInt8)} (h : USet w b n used) (hb : Below w.heap.size w w') : USet w' b n used := by
  obtain ⟨D, h, hD⟩ := h
  obtain ⟨es, clock, h1, F, hs, e⟩ := h
  exact ⟨D, ⟨es, clock, (hb.block b (Array.getElem?_eq_some_iff.1 h1).1).trans h1, F, hs, e⟩, hD⟩
theorem USet.look {w : World} {b n : Nat} {used : List (List UInt8)} (h : USet w b n used) {s : ByteArray} (hs : s.size ≤ maxLen) : (Instr.lookup 110 (.map (some b)) (.string s) false).run Tryd.prog w = .ok (.bool (decide (s.data.toList ∈ used))) w := by
  obtain ⟨D, h, hD⟩ := h
  obtain ⟨v, ps, hrun, hv⟩ := h.lookup lawS Tryd.underlying110 (zeroB w) (plainElem_bool Tryd.underlying4 false) (WideMaps.keyOf_string_mk Tryd.underlying9 hs)
  rw [hD s.data.toList] at hv
  rw [hrun]
  unfold plainElem at hv
  rw [Tryd.underlying4] at hv
  cases v <;> simp at hv
  rw [hv.1]
theorem USet.put {w : World} {b n : Nat} {used : List (List UInt8)} (h : USet w b n used) (hn : n < maxLen) {s : ByteArray} (hs : s.size ≤ maxLen) :
    ∃ w', (Instr.mapUpdate 110 (.map (some b)) (.string s) (.bool true)).run Tryd.prog w = .ok () w' ∧ USet w' b (n + 1) (s.data.toList :: used) ∧ w.grownBy w' (some b) := by
  obtain ⟨D, h, hD⟩ := h
  obtain ⟨w', hrun, h1, hg⟩ := h.update lawS Tryd.underlying110 hn (WideMaps.keyOf_string_mk Tryd.underlying9 hs) (plainElem_bool Tryd.underlying4 true)
  refine ⟨w', hrun, ⟨_, h1, fun s' => ?_⟩, hg⟩
  by_cases e : s' = s.data.toList
  · subst e
    rw [Maps.atKey_put_same h.isMap (by trivial)]
    simp
  · rw [Maps.atKey_put_other (fun h => e (by injection h with h)), hD s']
    simp [e]
end Go.Proofs.YtglhplddjjoggaaDoor

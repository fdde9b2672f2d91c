/-
  Walks of the deck that makes numbers: New, Next, One, Few; what is known of it: its numbers lie below their bounds, and it changes itself alone.
-/
import Derived.Test.YtglhplddjjoggaaDoorBase
namespace Go.Proofs.YtglhplddjjoggaaDoor
open Go.RowKit
set_option maxHeartbeats 400000

/-- Block bd is a deck. -/
def Deck (w : World) (bd : Nat) : Prop :=
  ∃ (A : Option Addr) (c : Nat) (xs : List Int) (i : Nat) (s : Int), w.heap[bd]? = some (.cells #[.slice A xs.length c, .int .i64 i, .int .u64 s] 107 (0, 0)) ∧ SI w (fun b => b < bd) A xs ∧ xs.length ≤ 400 ∧ i ≤ xs.length ∧ 0 ≤ s ∧ s < 18446744073709551616

theorem Deck.lt {w : World} {bd : Nat} (h : Deck w bd) : bd < w.heap.size := by
  obtain ⟨A, c, xs, i, s, h, _⟩ := h
  exact (Array.getElem?_eq_some_iff.1 h).1
/-- A deck stays one while its block and all other old ones are kept. -/
theorem Deck.keep {w w' : World} {bd : Nat} (h : Deck w bd) (k : ∀ b, b ≤ bd → w'.heap[b]? = w.heap[b]?) (hz : w.heap.size ≤ w'.heap.size) : Deck w' bd := by
  obtain ⟨A, c, xs, i, s, h1, h2, h3⟩ := h
  exact ⟨A, c, xs, i, s, (k bd (Nat.le_refl _)).trans h1, h2.keep ⟨hz, fun b hb _ => k b (Nat.le_of_lt hb)⟩, h3⟩
theorem Deck.below {w w' : World} {bd : Nat} (h : Deck w bd) (hb : Below w.heap.size w w') : Deck w' bd := h.keep (fun b hle => hb.block b (by have := h.lt; omega)) hb.size
theorem Deck.belowB {w w' : World} {bd B : Nat} (h : Deck w bd) (hb : Below B w w') (hB : bd < B) : Deck w' bd := h.keep (fun b hle => hb.block b (by omega)) hb.size

theorem few_any (w : World) (A : Option Addr) (n c : Nat) : Calls Tryd.prog 15 #[.slice A n c] w fun e w' => e = .returned (.bool (decide ((n : Int) ≤ 400))) ∧ w = w' := by
  go_enter Tryd.func15, Tryd.ntmps15
  go_wp2
  go_ret
  exact ⟨rfl, rfl⟩

theorem new_any (w : World) (S : Nat → Prop) (A : Option Addr) (c : Nat) (xs : List Int) (hs : SI w S A xs) (hl : xs.length ≤ 400) :
    Calls Tryd.prog 18 #[.slice A xs.length c] w fun e w' => e = .returned (.pointer (some ⟨w.heap.size, 0, none⟩)) ∧ Deck w' w.heap.size ∧ Below w.heap.size w w' ∧ w'.heap.size = w.heap.size + 1 := by
  go_enter Tryd.func18, Tryd.ntmps18
  go_wp2
  go_ret
  refine ⟨rfl, ⟨A, c, xs, 0, _, heap_alloc_new w _, (hs.mono (T := fun b => b < w.heap.size) (fun b hb _ => hb)).keep (Kept.alloc _ _ _), hl, Nat.zero_le _, by decide, by decide⟩, (Below.refl _ _).alloc (Nat.le_refl _) _, by simp⟩

theorem wrapu (x : Int) : 0 ≤ IntKind.u64.wrap x ∧ IntKind.u64.wrap x < 18446744073709551616 := by
  have h := Int.emod_nonneg x (show (18446744073709551616 : Int) ≠ 0 by decide)
  have h2 := Int.emod_lt_of_pos x (show (0 : Int) < 18446744073709551616 by decide)
  have e : IntKind.u64.wrap x = x % 18446744073709551616 := by simp [IntKind.wrap, IntKind.bits, IntKind.signed]
  rw [e]; exact ⟨h, h2⟩

theorem next_val (x n : Int) (h1 : 1 ≤ n) (h2 : n ≤ 1000) : ∃ r : Nat, wrap64 ((IntKind.u64.wrap x / 8589934592).tmod n) = r ∧ (r : Int) < n := by
  have h := (wrapu x).1
  generalize IntKind.u64.wrap x = y at *
  have h3 : 0 ≤ y / 8589934592 := Int.ediv_nonneg h (by decide)
  rw [Int.tmod_eq_emod_of_nonneg h3]
  have h4 := Int.emod_nonneg (y / 8589934592) (show n ≠ 0 by omega)
  have h5 := Int.emod_lt_of_pos (y / 8589934592) (show 0 < n by omega)
  refine ⟨((y / 8589934592) % n).toNat, ?_, by omega⟩
  rw [IntWalk.wrap64_in _ ⟨by omega, by omega⟩]; omega

theorem deck_after {w : World} {bd : Nat} {A : Option Addr} {c : Nat} {xs : List Int} {i j : Nat} {s x : Int} (k : Nat)
    (hb : w.heap[bd]? = some (.cells #[.slice A xs.length c, .int .i64 i, .int .u64 s] 107 (0, 0))) (hs : SI w (fun b => b < bd) A xs) (hl : xs.length ≤ 400) (hj : j ≤ xs.length) :
    Deck (((w.drewN k).setCell ⟨bd, 1, none⟩ (.int .i64 j)).setCell ⟨bd, 2, none⟩ (.int .u64 (IntKind.u64.wrap x))) bd ∧
    w.grownBy (((w.drewN k).setCell ⟨bd, 1, none⟩ (.int .i64 j)).setCell ⟨bd, 2, none⟩ (.int .u64 (IntKind.u64.wrap x))) (some bd) ∧
    (((w.drewN k).setCell ⟨bd, 1, none⟩ (.int .i64 j)).setCell ⟨bd, 2, none⟩ (.int .u64 (IntKind.u64.wrap x))).heap.size = w.heap.size := by
  have hg : ∀ b, b ≠ bd → (((w.drewN k).setCell ⟨bd, 1, none⟩ (.int .i64 j)).setCell ⟨bd, 2, none⟩ (.int .u64 (IntKind.u64.wrap x))).heap[b]? = w.heap[b]? := fun b hne => by
    rw [Below.heap_setCell _ _ _ _ hne, Below.heap_setCell _ _ _ _ hne]; rfl
  have hz : (((w.drewN k).setCell ⟨bd, 1, none⟩ (.int .i64 j)).setCell ⟨bd, 2, none⟩ (.int .u64 (IntKind.u64.wrap x))).heap.size = w.heap.size := by simp [World.setCell, World.drewN]
  refine ⟨⟨A, c, xs, j, _, ?_, hs.keep ⟨by rw [hz]; exact Nat.le_refl _, fun b hne _ => hg b (Nat.ne_of_lt hne)⟩, hl, hj, (wrapu x).1, (wrapu x).2⟩, ⟨rfl, rfl, rfl, by rw [hz]; exact Nat.le_refl _, fun b _ hne => hg b (by intro e; exact hne (by rw [e]))⟩, hz⟩
  simp [World.setCell, Array.getElem?_modify, hb]

theorem deck_after1 {w : World} {bd : Nat} {A : Option Addr} {c : Nat} {xs : List Int} {i : Nat} {s x : Int} (k : Nat)
    (hb : w.heap[bd]? = some (.cells #[.slice A xs.length c, .int .i64 i, .int .u64 s] 107 (0, 0))) (hs : SI w (fun b => b < bd) A xs) (hl : xs.length ≤ 400) (hj : i ≤ xs.length) :
    Deck ((w.drewN k).setCell ⟨bd, 2, none⟩ (.int .u64 (IntKind.u64.wrap x))) bd ∧
    w.grownBy ((w.drewN k).setCell ⟨bd, 2, none⟩ (.int .u64 (IntKind.u64.wrap x))) (some bd) ∧
    ((w.drewN k).setCell ⟨bd, 2, none⟩ (.int .u64 (IntKind.u64.wrap x))).heap.size = w.heap.size := by
  have hg : ∀ b, b ≠ bd → ((w.drewN k).setCell ⟨bd, 2, none⟩ (.int .u64 (IntKind.u64.wrap x))).heap[b]? = w.heap[b]? := fun b hne => by
    rw [Below.heap_setCell _ _ _ _ hne]; rfl
  have hz : ((w.drewN k).setCell ⟨bd, 2, none⟩ (.int .u64 (IntKind.u64.wrap x))).heap.size = w.heap.size := by simp [World.setCell, World.drewN]
  refine ⟨⟨A, c, xs, i, _, ?_, hs.keep ⟨by rw [hz]; exact Nat.le_refl _, fun b hne _ => hg b (Nat.ne_of_lt hne)⟩, hl, hj, (wrapu x).1, (wrapu x).2⟩, ⟨rfl, rfl, rfl, by rw [hz]; exact Nat.le_refl _, fun b _ hne => hg b (by intro e; exact hne (by rw [e]))⟩, hz⟩
  simp [World.setCell, Array.getElem?_modify, hb]

/-- What a deck gives. -/
def RetNext (w : World) (bd : Nat) (n : Int) (e : Ending) (w' : World) : Prop :=
  ∃ r : Nat, e = .returned (.int .i64 r) ∧ (1 ≤ n → (r : Int) < n) ∧ (n < 1 → r = 0) ∧ Deck w' bd ∧ w.grownBy w' (some bd) ∧ w'.heap.size = w.heap.size

theorem next_any (w : World) (bd : Nat) (h : Deck w bd) (n : Int) (hn : n ≤ 1000) : Calls Tryd.prog 28 #[.pointer (some ⟨bd, 0, none⟩), .int .i64 n] w (RetNext w bd n) := by
  obtain ⟨A, c, xs, i, s, hb, hs, hl, hi, hs0, hs1⟩ := h
  have c0 : w.cell? ⟨bd, 0, none⟩ = some (.slice A xs.length c) := by rw [cell_of_row w bd 0 _ _ _ hb]; rfl
  have c1 : w.cell? ⟨bd, 1, none⟩ = some (.int .i64 i) := by rw [cell_of_row w bd 1 _ _ _ hb]; rfl
  have c2 : w.cell? ⟨bd, 2, none⟩ = some (.int .u64 s) := by rw [cell_of_row w bd 2 _ _ _ hb]; rfl
  have f1 : w.frozen? ⟨bd, 1, none⟩ = false := by simp [World.frozen?, hb]
  have f2 : w.frozen? ⟨bd, 2, none⟩ = false := by simp [World.frozen?, hb]
  have Hb := Lib.hid hb
  clear hb
  by_cases hlt : i < xs.length
  · obtain ⟨b, off, rfl, hne, hbl, hc⟩ := hs.at_ hlt
    go_enter Tryd.func28, Tryd.ntmps28
    go_wp2_with (fail)
    go_quiet (fail)
    go_wp2_with (fail)
    go_quiet (fail)
    go_wp2_with (fail)
    all_goals go_ret
    · have hn1 : n < 1 := by assumption
      obtain ⟨d1, d2, d3⟩ := deck_after (j := i + 1) (x := IntKind.u64.wrap (IntKind.u64.wrap (s * 6364136223846793005) + IntKind.u64.wrap xs[i]) + 1442695040888963407) _ Hb.out hs hl hlt
      exact ⟨0, rfl, by omega, fun _ => rfl, d1, d2, d3⟩
    · have hn1 : 1 ≤ n := by assumption
      obtain ⟨r, hr, hr2⟩ := next_val (IntKind.u64.wrap (IntKind.u64.wrap (s * 6364136223846793005) + IntKind.u64.wrap xs[i]) + 1442695040888963407) n hn1 hn
      obtain ⟨d1, d2, d3⟩ := deck_after (j := i + 1) (x := IntKind.u64.wrap (IntKind.u64.wrap (s * 6364136223846793005) + IntKind.u64.wrap xs[i]) + 1442695040888963407) _ Hb.out hs hl hlt
      exact ⟨r, by rw [← hr]; rfl, fun _ => hr2, by omega, d1, d2, d3⟩
  · go_enter Tryd.func28, Tryd.ntmps28
    go_wp2_with (fail)
    go_quiet (fail)
    go_wp2_with (fail)
    all_goals go_ret
    · have hn1 : n < 1 := by assumption
      obtain ⟨d1, d2, d3⟩ := deck_after1 (x := IntKind.u64.wrap (IntKind.u64.wrap (s * 6364136223846793005)) + 1442695040888963407) _ Hb.out hs hl hi
      exact ⟨0, rfl, by omega, fun _ => rfl, d1, d2, d3⟩
    · have hn1 : 1 ≤ n := by assumption
      obtain ⟨r, hr, hr2⟩ := next_val (IntKind.u64.wrap (IntKind.u64.wrap (s * 6364136223846793005)) + 1442695040888963407) n hn1 hn
      obtain ⟨d1, d2, d3⟩ := deck_after1 (x := IntKind.u64.wrap (IntKind.u64.wrap (s * 6364136223846793005)) + 1442695040888963407) _ Hb.out hs hl hi
      exact ⟨r, by rw [← hr]; rfl, fun _ => hr2, by omega, d1, d2, d3⟩

/-- What One gives. -/
def RetOne (w : World) (bd : Nat) (e : Ending) (w' : World) : Prop :=
  ∃ b : Bool, e = .returned (.bool b) ∧ Deck w' bd ∧ w.grownBy w' (some bd) ∧ w'.heap.size = w.heap.size

theorem one_any (w : World) (bd : Nat) (h : Deck w bd) (n : Int) (hn : n ≤ 1000) : Calls Tryd.prog 20 #[.pointer (some ⟨bd, 0, none⟩), .int .i64 n] w (RetOne w bd) := by
  go_enter Tryd.func20, Tryd.ntmps20
  go_wp2_with (go_at_call 28; refine (next_any _ _ h _ hn).mono ?_; rintro e w1 ⟨r, rfl, _, _, d1, d2, d3⟩)
  go_ret
  exact ⟨_, rfl, d1, d2, d3⟩

/-- a name: a letter and two digits -/
def nm (letter : List UInt8) (k : Nat) : ByteArray := ⟨(letter ++ [48 + UInt8.ofNat (k / 10), 48 + UInt8.ofNat (k % 10)]).toArray⟩

theorem conv2 (W : World) (x y : Int) : (convert 144 9 (.slice (some ⟨W.heap.size, 0, none⟩) 2 2)).run Tryd.prog (W.alloc (.cells #[.int .u8 x, .int .u8 y] 5)) =
    .ok (.string ⟨#[UInt8.ofNat x.toNat, UInt8.ofNat y.toNat]⟩) (W.alloc (.cells #[.int .u8 x, .int .u8 y] 5)) := by
  rw [run_convert_bytes_string _ _ _ 5 _ _ _ Tryd.underlying144 Tryd.underlying5 Tryd.underlying9]
  rw [run_bytesToString _ _ 2 2 [x, y] (by
    refine run_loadCells_list _ ⟨W.heap.size, 0, none⟩ [.int .u8 x, .int .u8 y] (fun j u hj => ?_)
    rw [Addr.add_lit, cell_of_row _ W.heap.size (0 + j) _ _ _ (heap_alloc_new W _)]
    simpa using hj)]
  rfl

theorem name_exact (w : World) (l : List UInt8) (k : Nat) (hk : k < 100) (hl : l.length ≤ 10) : Calls Tryd.prog 98 #[.string ⟨l.toArray⟩, .int .i64 k] w fun e w' => e = .returned (.string (nm l k)) ∧ w.alloc (.cells #[.int .u8 (48 + k / 10), .int .u8 (48 + k % 10)] 5) = w' := by
  have hcv := conv2
  have hnl : ¬ 9223372036854775807 < l.length + 2 := by omega
  go_enter Tryd.func98, Tryd.ntmps98
  go_wp2
  go_ret
  refine ⟨?_, rfl⟩
  show Ending.returned (.string (⟨l.toArray⟩ ++ ⟨#[48 + UInt8.ofNat (k / 10), 48 + UInt8.ofNat (k % 10)]⟩)) = _
  unfold nm
  rw [ByteArray.mk_append_mk]
theorem name_any (w : World) (l : List UInt8) (k : Nat) (hk : k < 100) (hl : l.length ≤ 10) : Calls Tryd.prog 98 #[.string ⟨l.toArray⟩, .int .i64 k] w fun e w' => e = .returned (.string (nm l k)) ∧ Below w.heap.size w w' :=
  (name_exact w l k hk hl).mono fun _ _ ⟨h1, h2⟩ => ⟨h1, by subst h2; exact (Below.refl _ _).alloc (Nat.le_refl _) _⟩
end Go.Proofs.YtglhplddjjoggaaDoor

/-
  Walks: awake of the law package of masks.
-/
import Derived.Test.YtgpcojmdfmngeaaDoorW06c
namespace Go.Proofs.YtgpcojmdfmngeaaDoor
open Go.RowKit
set_option maxHeartbeats 400000
set_option maxRecDepth 100000

theorem all_err (w : World) (h : Tab w) (S : Nat → Prop) (A : Option Addr) (c : Nat) (xs : List Int) (hs : SI w S A xs) (hl : xs.length ≤ 65536) (n e : Int) (he : cnt xs = (n, e)) (hne : (e != 0) = true) :
    Calls Tryd.prog 43 #[.slice A xs.length c] w fun e' w' => e' = .returned (.tuple #[.slice none 0 0, .int .i64 e]) ∧ Below w.heap.size w w' := by
  have Hc := count_any w h S A c xs hs hl
  rw [he] at Hc
  have Hc := Lib.hid Hc
  clear he
  go_enter Tryd.func43, Tryd.ntmps43
  go_wp2_with (go_at_call 41; (with_reducible refine (Hc.out).mono ?_); rintro e w1 ⟨rfl, hb1⟩)
  go_ret2
  exact ⟨rfl, hb1⟩

theorem SR.at_ {w : World} {S : Nat → Prop} {A : Option Addr} {xss : List (List Int)} (h : SR w S A xss) {k : Nat} (hk : k < xss.length) :
    ∃ b off A' c', A = some ⟨b, off, none⟩ ∧ w.cell? ⟨b, off + k, none⟩ = some (.slice A' xss[k].length c') ∧ xss[k].length ≤ c' ∧ SI w S A' xss[k] := by
  obtain ⟨vs, hl, hv, hr⟩ := h
  obtain ⟨A', c', e1, e2, e3⟩ := hr k _ (List.getElem?_eq_getElem hk)
  obtain ⟨b, off, e, _, _, hc⟩ := hv (by intro h0; subst h0; simp at hl; omega)
  exact ⟨b, off, A', c', e, hc k _ e1, e2, e3⟩
theorem SR.keep {w w' : World} {S : Nat → Prop} {A : Option Addr} {xss : List (List Int)} (h : SR w S A xss) (k : Kept S w w') : SR w' S A xss := by
  obtain ⟨vs, hl, hv, hr⟩ := h
  refine ⟨vs, hl, hv.keep k, fun i xs hx => ?_⟩
  obtain ⟨A', c', e1, e2, e3⟩ := hr i xs hx
  exact ⟨A', c', e1, e2, e3.keep k⟩
theorem SR.mono {w : World} {S T : Nat → Prop} {A : Option Addr} {xss : List (List Int)} (h : SR w S A xss) (hST : ∀ b, b < w.heap.size → S b → T b) : SR w T A xss := by
  obtain ⟨vs, hl, hv, hr⟩ := h
  refine ⟨vs, hl, hv.mono hST, fun i xs hx => ?_⟩
  obtain ⟨A', c', e1, e2, e3⟩ := hr i xs hx
  exact ⟨A', c', e1, e2, e3.mono hST⟩

theorem OI.lit' (w : World) (b : Nat) (hb : b = w.heap.size) (xs : List Int) (h : xs.length ≤ maxLen) : OI (w.alloc (.cells (ints xs).toArray 3)) (fun g => w.heap.size ≤ g) (some ⟨b, 0, none⟩) xs.length xs := by
  subst hb; exact OI.lit w xs h

/-- A call hands back true, and nothing that was there has changed. -/
def RetTrue (w : World) (e : Ending) (w' : World) : Prop := e = .returned (.bool true) ∧ Below w.heap.size w w'

theorem ints_b (w : World) (S T : Nat → Prop) (A B : Option Addr) (c d : Nat) (xs ys : List Int) (hs : SI w S A xs) (ht : SI w T B ys) (hl : xs.length ≤ 65536) (hl2 : ys.length ≤ 65536) :
    Calls Tryd.prog 23 #[.slice A xs.length c, .slice B ys.length d] w fun e w' => e = .returned (.bool (decide (xs = ys))) ∧ Below w.heap.size w w' :=
  (ints_any w S T A B c d xs ys hs ht hl hl2).mono fun _ _ ⟨he, n, hn⟩ => ⟨he, by subst hn; exact ⟨rfl, rfl, rfl, Nat.le_refl _, fun _ _ => rfl⟩⟩

theorem awake06 (w : World) (h : Tab w) : Calls Tryd.prog 37 #[] w (RetTrue w) := by
  go_enter Tryd.func37, Tryd.ntmps37
  go_wp2_with (fail)
  refine (all_any _ (h.below ((Below.refl _ _).alloc (Nat.le_refl _) _)) _ _ 2 [1, 3] (OI.lit w [1, 3] (by decide)).si (by decide) (by decide) (by decide)).mono ?_
  rintro e w1 ⟨A1, c1, rfl, hr1, hb1⟩
  have hb01 : Below w.heap.size w w1 := ((Below.refl _ _).alloc (Nat.le_refl _) _).trans (hb1.mono (by simp))
  have e1 : (allL [1, 3]).length = 2 := by decide
  clear hb1
  go_wp2_with (fail)
  have hbm : Below w.heap.size w ((w1.alloc (.cells (ints [3, 1]).toArray 3)).alloc (.cells (ints [2, 3]).toArray 3)) := (hb01.alloc hb01.size _).alloc (by have := hb01.size; simp; omega) _
  refine (meet_yes _ (h.below hbm) _ _ _ _ 2 2 [3, 1] [2, 3] ((OI.lit' w1 _ rfl [3, 1] (by decide)).si.keep (Kept.alloc _ _ _)) (OI.lit' _ (w1.heap.size + 1) (by simp) [2, 3] (by decide)).si (by decide) (by decide) (by decide)).mono ?_
  rintro e w2 ⟨A2, c2, rfl, ho2, hb2⟩
  have hb02 : Below w.heap.size w w2 := hbm.trans (hb2.mono hbm.size)
  have hr2 := (hr1.mono (T := fun g => g < w1.heap.size) (fun b hb _ => hb)).keep (w' := w2) ⟨Nat.le_trans (by simp; omega) hb2.size, fun b hb _ => (hb2.block b (by simp; omega)).trans ((Below.heap_alloc _ _ b (by simp; omega)).trans (Below.heap_alloc _ _ b hb))⟩
  have e2 : List.zipWith andM [3, 1] [2, 3] = [2, 1] := by decide
  rw [e2] at ho2
  have E0 := Lib.hid (show (allL [1, 3])[0]'(by decide) = [1, 1] from by decide)
  have E1 := Lib.hid (show (allL [1, 3])[1]'(by decide) = [1, 2] from by decide)
  clear hr1 e1 e2 hb2 hbm
  obtain ⟨b, off, A3, c3, rfl, hc3, _, hs3⟩ := hr2.at_ (k := 0) (by decide)
  rw [E0.out] at hc3 hs3
  have hc3' : w2.cell? ⟨b, off, none⟩ = some (.slice A3 2 c3) := hc3
  clear hc3
  go_wp2_with (fail)
  refine (ints_b _ _ _ A3 _ c3 2 [1, 1] [1, 1] (hs3.keep (Kept.alloc _ _ _)) (OI.lit' w2 _ rfl [1, 1] (by decide)).si (by decide) (by decide)).mono ?_
  rintro e w3 ⟨rfl, hb3⟩
  have hr3 := hr2.keep ((Kept.alloc _ _ _).trans (Kept.of_below hb3))
  have ho3 := ho2.keep ((Kept.alloc _ _ _).trans (Kept.of_below hb3))
  have hb03 : Below w.heap.size w w3 := (hb02.alloc hb02.size _).trans (hb3.mono (by have := hb02.size; simp; omega))
  clear hr2 ho2 hc3' hs3 hb3
  obtain ⟨b', off', A4, c4, e4, hc4, _, hs4⟩ := hr3.at_ (k := 1) (by decide)
  injection e4 with e4
  injection e4 with e4 e5
  subst e4
  subst e5
  rw [E1.out] at hc4 hs4
  have hc4' : w3.cell? ⟨b, off + 1, none⟩ = some (.slice A4 2 c4) := hc4
  clear hc4
  go_wp2_with (fail)
  refine (ints_b _ _ _ A4 _ c4 2 [1, 2] [1, 2] (hs4.keep (Kept.alloc _ _ _)) (OI.lit' w3 _ rfl [1, 2] (by decide)).si (by decide) (by decide)).mono ?_
  rintro e w4 ⟨rfl, hb4⟩
  have ho4 := ho3.keep ((Kept.alloc _ _ _).trans (Kept.of_below hb4))
  have hb04 : Below w.heap.size w w4 := (hb03.alloc hb03.size _).trans (hb4.mono (by have := hb03.size; simp; omega))
  clear hr3 ho3 hc4' hs4 hb4
  go_wp2_with (fail)
  refine (ints_b _ _ _ A2 _ c2 2 [2, 1] [2, 1] (ho4.si.keep (Kept.alloc _ _ _)) (OI.lit' w4 _ rfl [2, 1] (by decide)).si (by decide) (by decide)).mono ?_
  rintro e w5 ⟨rfl, hb5⟩
  have hb05 : Below w.heap.size w w5 := (hb04.alloc hb04.size _).trans (hb5.mono (by have := hb04.size; simp; omega))
  go_wp2_with (fail)
  go_ret
  exact ⟨rfl, hb05⟩
end Go.Proofs.YtgpcojmdfmngeaaDoor

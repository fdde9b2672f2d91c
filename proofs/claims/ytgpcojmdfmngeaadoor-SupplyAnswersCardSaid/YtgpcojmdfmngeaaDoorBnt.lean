/-
  The walk of mk.Bent.
-/
import Derived.Test.YtgpcojmdfmngeaaDoorGa
import Derived.Test.YtgpcojmdfmngeaaDoorGb
namespace Go.Proofs.YtgpcojmdfmngeaaDoor
open Go.RowKit
set_option maxHeartbeats 400000
set_option maxRecDepth 100000

def RetBent (w : World) (bd n : Nat) (e : Ending) (w' : World) : Prop :=
  ∃ A c ys, e = .returned (.slice A ys.length c) ∧ ys.length ≤ n + 1 ∧ SI w' (fun g => w.heap.size ≤ g) A ys ∧ Deck w' bd ∧ Fr w.heap.size bd w w'
theorem SI.tail {w : World} {S : Nat → Prop} {g o : Nat} {x : Int} {xs : List Int} (h : SI w S (some ⟨g, o, none⟩) (x :: xs)) : SI w S (some ⟨g, o + 1, none⟩) xs := fun hne => by
  obtain ⟨b, off, e, hs, hb, hc⟩ := h (by simp [ints])
  injection e with e
  injection e with e1 e2
  subst e1 e2
  refine ⟨_, _, rfl, hs, hb, fun j u hj => ?_⟩
  rw [show o + 1 + j = o + (j + 1) by omega]
  exact hc (j + 1) u (by simpa [ints] using hj)

set_option maxHeartbeats 2000000 in
theorem bent_any (w : World) (bd : Nat) (h : Deck w bd) (S : Nat → Prop) (hS : ∀ b, S b → b ≠ bd) (A : Option Addr) (c : Nat) (xs : List Int) (hs : SI w S A xs) (hl : xs.length ≤ 1000)
    (V : Option Addr) (cv : Nat) (vs : List Int) (hv : SI w S V vs) (hv1 : 1 ≤ vs.length) (hv2 : vs.length ≤ 1000) :
    Calls Tryd.prog 40 #[.pointer (some ⟨bd, 0, none⟩), .slice A xs.length c, .slice V vs.length cv] w (RetBent w bd xs.length) := by
  have hbl := h.lt
  by_cases hx : xs = []
  · subst hx
    go_enter Tryd.func40, Tryd.ntmps40
    go_wp2_with (at_builtin; go_must (refine wpList_pushAll (B := w.heap.size) (xs := []) (ys := []) (T := S) rfl (.const (.slice none 0 0)) (.tmp 8) rfl rfl rfl rfl rfl (OI.nil _ _) hs (by simp) (Nat.le_refl _) ?_); intro A1 c1 w1 ho1 hb1 _ _)
    have hd1 := h.belowB hb1 hbl
    have hv1' := hv.keep (w' := w1) ⟨hb1.size, fun b _ hb => hb1.block b hb⟩
    have hz1 := hb1.size
    refine (next_any w1 bd hd1 vs.length (by omega)).mono ?_
    rintro e w2 ⟨r, rfl, hr, hr0, hd2, hg2, hz2⟩
    have hrv : r < vs.length := by have := hr (by omega); omega
    have ho2 := ho1.keep (w' := w2) (Kept.grown hg2 (fun b hb _ e => by injection e with e; have hb : w.heap.size ≤ b := hb; omega))
    obtain ⟨b1, f1, rfl, _, _, q1⟩ := (hv1'.keep (w' := w2) (Kept.grown hg2 (fun b hb _ e => by injection e with e; exact hS b hb e))).at_ hrv
    have hf2 := (Fr.of_below hb1 (bd := bd)).trans (Fr.of_grown hg2 hz1)
    have hsz := hf2.size
    clear hr hr0 hz2 hg2 ho1 hd1 hb1
    go_wp2_with (at_builtin; go_must (refine wpList_push (B := w.heap.size) rfl (.tmp 17) (.tmp 25) rfl rfl rfl rfl (ho2.keep (Kept.alloc _ _ _)) (new_cell _ _ _) (by simp) (by simp; omega) ?_); intro A3 c3 w3 ho3 hb3 _ _)
    go_ret
    have hbx := ((Below.refl w.heap.size w2).alloc hsz _).trans hb3
    exact ⟨A3, c3, _, rfl, by simp, ho3.si, hd2.belowB hbx hbl, hf2.trans (Fr.of_below hbx)⟩
  · have hl0 : ((xs.length : Int) == 0) = false := by simpa using hx
    have hxl : 0 < xs.length := by rcases xs with _ | ⟨x, t⟩; exact absurd rfl hx; simp
    go_enter Tryd.func40, Tryd.ntmps40
    go_wp2_with (at_builtin; go_must (refine wpList_pushAll (B := w.heap.size) (xs := []) (ys := xs) (T := S) rfl (.const (.slice none 0 0)) (.tmp 8) rfl rfl rfl rfl rfl (OI.nil _ _) hs (by simp; omega) (Nat.le_refl _) ?_); intro A1 c1 w1 ho1 hb1 _ _; rw [List.nil_append] at ho1 ⊢)
    have hd1 := h.belowB hb1 hbl
    have hv1' := hv.keep (w' := w1) ⟨hb1.size, fun b _ hb => hb1.block b hb⟩
    have hz1 := hb1.size
    refine (one_any w1 bd hd1 5 (by decide)).mono ?_
    rintro e w2 ⟨b5, rfl, hd2, hg2, hz2⟩
    have ho2 := ho1.keep (w' := w2) (Kept.grown hg2 (fun b hb _ e => by injection e with e; have hb : w.heap.size ≤ b := hb; omega))
    have hv2' := hv1'.keep (w' := w2) (Kept.grown hg2 (fun b hb _ e => by injection e with e; exact hS b hb e))
    have hf2 := (Fr.of_below hb1 (bd := bd)).trans (Fr.of_grown hg2 hz1)
    have hsz := hf2.size
    clear hz2 hg2 ho1 hd1 hb1 hv1'
    cases b5
    · go_wp2_with (fail)
      refine (one_any w2 bd hd2 4 (by decide)).mono ?_
      rintro e w3 ⟨b4, rfl, hd3, hg3, hz3⟩
      have ho3 := ho2.keep (w' := w3) (Kept.grown hg3 (fun b hb _ e => by injection e with e; have hb : w.heap.size ≤ b := hb; omega))
      have hv3' := hv2'.keep (w' := w3) (Kept.grown hg3 (fun b hb _ e => by injection e with e; exact hS b hb e))
      have hf3 := hf2.trans (Fr.of_grown hg3 hsz)
      have hsz3 := hf3.size
      clear hz3 hg3 ho2 hd2 hv2' hf2 hsz
      cases b4
      · go_wp2_with (fail)
        refine (next_any w3 bd hd3 xs.length (by omega)).mono ?_
        rintro e w4 ⟨r, rfl, hr, hr0, hd4, hg4, hz4⟩
        have hrx : r < xs.length := by have := hr (by omega); omega
        have ho4 := ho3.keep (w' := w4) (Kept.grown hg4 (fun b hb _ e => by injection e with e; have hb : w.heap.size ≤ b := hb; omega))
        have hv4' := hv3'.keep (w' := w4) (Kept.grown hg4 (fun b hb _ e => by injection e with e; exact hS b hb e))
        have hf4 := hf3.trans (Fr.of_grown hg4 hsz3)
        have hsz4 := hf4.size
        clear hr hr0 hz4 hg4 ho3 hd3 hv3' hf3 hsz3
        go_wp2_with (fail)
        refine (next_any w4 bd hd4 vs.length (by omega)).mono ?_
        rintro e w5 ⟨r2, rfl, hr, hr0, hd5, hg5, hz5⟩
        have hrv : r2 < vs.length := by have := hr (by omega); omega
        have ho5 := ho4.keep (w' := w5) (Kept.grown hg5 (fun b hb _ e => by injection e with e; have hb : w.heap.size ≤ b := hb; omega))
        obtain ⟨b1, f1, rfl, _, _, q1⟩ := (hv4'.keep (w' := w5) (Kept.grown hg5 (fun b hb _ e => by injection e with e; exact hS b hb e))).at_ hrv
        have hf5 := hf4.trans (Fr.of_grown hg5 hsz4)
        obtain ⟨g, o, rfl, hgg, hgl, y1, y2⟩ := ho5.at_ hrx
        clear hr hr0 hz5 hg5 ho4 hd4 hv4' hf4 hsz4
        go_wp2_with (fail)
        go_ret
        have hs5 := ho5.set r vs[r2]
        refine ⟨some ⟨g, o, none⟩, c1, _, by rw [List.length_set]; rfl, by rw [List.length_set]; omega, hs5.si, hd5.keep (fun b hb => Below.heap_setCell _ _ _ _ (by show b ≠ g; omega)) (by simp [World.setCell]), hf5.trans ⟨rfl, rfl, rfl, by simp [World.setCell], fun k hk hn => Below.heap_setCell _ _ _ _ (by show k ≠ g; omega)⟩⟩
      · obtain ⟨g, o, rfl, hgg, hgl, y1, y2⟩ := ho3.at_ hxl
        have hcc : xs.length ≤ c1 := ho3.1
        have hcm : c1 ≤ maxLen := ho3.2.1
        unfold maxLen at hcm
        by_cases hc1 : c1 = 1
        · subst hc1
          have hx1 : xs.length = 1 := by omega
          go_wp2_with (fail)
          go_ret
          exact ⟨some ⟨g, o, none⟩, 0, [], rfl, by simp, fun hne => absurd rfl hne, hd3, hf3⟩
        · go_wp2_with (fail)
          go_ret
          rcases xs with _ | ⟨x, tl⟩
          · exact absurd rfl hx
          · exact ⟨some ⟨g, o + 1, none⟩, c1 - 1, tl, rfl, by simp; omega, ho3.si.tail, hd3, hf3⟩
    · go_wp2_with (fail)
      refine (next_any w2 bd hd2 vs.length (by omega)).mono ?_
      rintro e w3 ⟨r, rfl, hr, hr0, hd3, hg3, hz3⟩
      have hrv : r < vs.length := by have := hr (by omega); omega
      have ho3 := ho2.keep (w' := w3) (Kept.grown hg3 (fun b hb _ e => by injection e with e; have hb : w.heap.size ≤ b := hb; omega))
      obtain ⟨b1, f1, rfl, _, _, q1⟩ := (hv2'.keep (w' := w3) (Kept.grown hg3 (fun b hb _ e => by injection e with e; exact hS b hb e))).at_ hrv
      have hf3 := hf2.trans (Fr.of_grown hg3 hsz)
      have hsz3 := hf3.size
      clear hr hr0 hz3 hg3 ho2 hd2 hf2
      go_wp2_with (at_builtin; go_must (refine wpList_push (B := w.heap.size) rfl (.tmp 17) (.tmp 25) rfl rfl rfl rfl (ho3.keep (Kept.alloc _ _ _)) (new_cell _ _ _) (by omega) (by simp; omega) ?_); intro A4 c4 w4 ho4 hb4 _ _)
      go_ret
      have hbx := ((Below.refl w.heap.size w3).alloc hsz3 _).trans hb4
      exact ⟨A4, c4, _, by simp, by simp, ho4.si, hd3.belowB hbx hbl, hf3.trans (Fr.of_below hbx)⟩
end Go.Proofs.YtgpcojmdfmngeaaDoor

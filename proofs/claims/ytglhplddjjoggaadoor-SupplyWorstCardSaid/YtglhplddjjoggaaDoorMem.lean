/-
  Memory words: cells that lie somewhere, slices that are read, slices that the call owns (from any offset of their block), and one law for append.
-/
import Derived.WalkKit
import Derived.WalkSpells
import Derived.WalkLawsBesides
import Derived.Deep.QuietTactic
import Derived.BigQuiet
import Derived.Deep.LoopGhost
import Derived.Lib.Hide
import Derived.Outline
namespace Go.Proofs.YtglhplddjjoggaaDoor
open Go.RowKit

/-- The cells xs lie in w from (b, off) on. -/
def Lie (w : World) (b off : Nat) (xs : List Value) : Prop := ∀ j u, xs[j]? = some u → w.cell? ⟨b, off + j, none⟩ = some u

/-- A slice's address A: its cells xs lie in w, in a block of the class S. -/
def SV (w : World) (S : Nat → Prop) (A : Option Addr) (xs : List Value) : Prop :=
  xs ≠ [] → ∃ b off, A = some ⟨b, off, none⟩ ∧ S b ∧ b < w.heap.size ∧ Lie w b off xs

/-- A slice that the call owns: n elements of type e (size cells each), capacity c, in a block of the class S that is not frozen. -/
def OV (w : World) (S : Nat → Prop) (e : TypeId) (size : Nat) (A : Option Addr) (n c : Nat) (xs : List Value) : Prop :=
  n ≤ c ∧ c ≤ maxLen ∧ xs.length = n * size ∧
  ((A = none ∧ c = 0) ∨ ∃ g off cur, A = some ⟨g, off, none⟩ ∧ S g ∧ w.heap[g]? = some (.cells cur e (0, 0)) ∧ off + c * size ≤ cur.size ∧ ∀ j u, xs[j]? = some u → cur[off + j]? = some u)

/-- All old blocks of the class S are as they were. -/
def Kept (S : Nat → Prop) (w w' : World) : Prop := w.heap.size ≤ w'.heap.size ∧ ∀ b, S b → b < w.heap.size → w'.heap[b]? = w.heap[b]?

section
variable {S T : Nat → Prop} {w w' : World} {A : Option Addr} {xs : List Value} {e : TypeId} {size n c : Nat}

theorem Kept.of_below (h : Below w.heap.size w w') : Kept S w w' := ⟨h.size, fun b _ hb => h.block b hb⟩
theorem Kept.refl (S : Nat → Prop) (w : World) : Kept S w w := ⟨Nat.le_refl _, fun _ _ _ => rfl⟩
theorem Kept.trans {a b c : World} (h : Kept S a b) (k : Kept S b c) : Kept S a c :=
  ⟨Nat.le_trans h.1 k.1, fun i hs hi => (k.2 i hs (Nat.lt_of_lt_of_le hi h.1)).trans (h.2 i hs hi)⟩
theorem Kept.mono (h : Kept T w w') (hs : ∀ b, S b → T b) : Kept S w w' := ⟨h.1, fun b hb hlt => h.2 b (hs b hb) hlt⟩

theorem Kept.alloc (S : Nat → Prop) (w : World) (o : Obj) : Kept S w (w.alloc o) := ⟨by simp, fun b _ hb => Below.heap_alloc w o b hb⟩
theorem Kept.setCell {p : Addr} (hp : ¬ S p.block) (u : Value) : Kept S w (w.setCell p u) := ⟨by simp [World.setCell], fun b hs _ => Below.heap_setCell w p u b (fun e => hp (e ▸ hs))⟩
theorem Kept.drew (S : Nat → Prop) (w : World) : Kept S w w.drew := ⟨Nat.le_refl _, fun _ _ _ => rfl⟩
theorem Kept.drewN (S : Nat → Prop) (w : World) (k : Nat) : Kept S w (w.drewN k) := ⟨Nat.le_refl _, fun _ _ _ => rfl⟩
theorem Kept.grown {row : Option Nat} (h : w.grownBy w' row) (hr : ∀ b, S b → b < w.heap.size → some b ≠ row) : Kept S w w' := ⟨h.size, fun b hs hb => h.block b hb (hr b hs hb)⟩

theorem Lie.keep {b off : Nat} (h : Lie w b off xs) (e : w'.heap[b]? = w.heap[b]?) : Lie w' b off xs := fun j u hj => (World.cell?_of_block e).trans (h j u hj)

theorem SV.nil : SV w S A [] := fun h => absurd rfl h
theorem SV.keep (h : SV w S A xs) (k : Kept S w w') : SV w' S A xs := fun hx => by
  obtain ⟨b, off, e, hs, hb, hc⟩ := h hx
  exact ⟨b, off, e, hs, Nat.lt_of_lt_of_le hb k.1, hc.keep (k.2 b hs hb)⟩
theorem SV.mono (h : SV w S A xs) (hST : ∀ b, b < w.heap.size → S b → T b) : SV w T A xs := fun hx => by
  obtain ⟨b, off, e, hs, hb, hc⟩ := h hx
  exact ⟨b, off, e, hST b hb hs, hb, hc⟩
theorem SV.cells (h : SV w S A xs) (hx : xs ≠ []) : ∃ ad, A = some ad ∧ ∀ j u, xs[j]? = some u → w.cell? (ad.add j) = some u := by
  obtain ⟨b, off, e, _, _, hc⟩ := h hx
  exact ⟨_, e, fun j u hj => by rw [Addr.add_lit]; exact hc j u hj⟩

theorem OV.nil (w : World) (S : Nat → Prop) (e : TypeId) (size : Nat) : OV w S e size none 0 0 [] := ⟨Nat.le_refl _, Nat.zero_le _, by simp, .inl ⟨rfl, rfl⟩⟩
theorem OV.keep (h : OV w S e size A n c xs) (k : Kept S w w') : OV w' S e size A n c xs := by
  obtain ⟨h1, h2, h3, h4⟩ := h
  refine ⟨h1, h2, h3, ?_⟩
  rcases h4 with h4 | ⟨g, off, cur, e1, hs, hg, hsz, hc⟩
  · exact .inl h4
  · exact .inr ⟨g, off, cur, e1, hs, (k.2 g hs (Array.getElem?_eq_some_iff.1 hg).1).trans hg, hsz, hc⟩
theorem OV.mono (h : OV w S e size A n c xs) (hST : ∀ b, b < w.heap.size → S b → T b) : OV w T e size A n c xs := by
  obtain ⟨h1, h2, h3, h4⟩ := h
  refine ⟨h1, h2, h3, ?_⟩
  rcases h4 with h4 | ⟨g, off, cur, e1, hs, hg, hsz, hc⟩
  · exact .inl h4
  · exact .inr ⟨g, off, cur, e1, hST g (Array.getElem?_eq_some_iff.1 hg).1 hs, hg, hsz, hc⟩
theorem OV.sv (h : OV w S e size A n c xs) : SV w S A xs := fun hx => by
  obtain ⟨h1, h2, h3, h4⟩ := h
  rcases h4 with ⟨_, h4⟩ | ⟨g, off, cur, e1, hs, hg, hsz, hc⟩
  · have : xs.length = 0 := by rw [h3, show n = 0 by omega]; simp
    exact absurd (List.eq_nil_of_length_eq_zero this) hx
  · refine ⟨g, off, e1, hs, (Array.getElem?_eq_some_iff.1 hg).1, fun j u hj => ?_⟩
    rw [cell_of_row w g (off + j) cur e (0, 0) hg]
    exact hc j u hj
/-- A cell of an owned slice, where it is not empty. -/
theorem OV.cell (h : OV w S e size A n c xs) {j : Nat} (hj : j < xs.length) : ∃ g off, A = some ⟨g, off, none⟩ ∧ S g ∧ g < w.heap.size ∧ w.cell? ⟨g, off + j, none⟩ = some xs[j] ∧ w.frozen? ⟨g, off + j, none⟩ = false := by
  obtain ⟨h1, h2, h3, h4⟩ := h
  rcases h4 with ⟨_, h4⟩ | ⟨g, off, cur, e1, hs, hg, hsz, hc⟩
  · have : xs.length = 0 := by rw [h3, show n = 0 by omega]; simp
    omega
  · refine ⟨g, off, e1, hs, (Array.getElem?_eq_some_iff.1 hg).1, ?_, by simp [World.frozen?, hg]⟩
    rw [cell_of_row w g (off + j) cur e (0, 0) hg]
    exact hc j _ (List.getElem?_eq_getElem hj)
/-- A store into a cell of an owned slice. -/
theorem OV.set {g off : Nat} (h : OV w S e size (some ⟨g, off, none⟩) n c xs) (j : Nat) (u : Value) : OV (w.setCell ⟨g, off + j, none⟩ u) S e size (some ⟨g, off, none⟩) n c (xs.set j u) := by
  obtain ⟨h1, h2, h3, h4⟩ := h
  refine ⟨h1, h2, by simpa using h3, ?_⟩
  rcases h4 with ⟨h4, _⟩ | ⟨g', off', cur, e1, hs, hg, hsz, hc⟩
  · cases h4
  · injection e1 with e1
    injection e1 with e1 e2
    subst e1 e2
    refine .inr ⟨g, off, cur.setIfInBounds (off + j) u, rfl, hs, by simp [World.setCell, Array.getElem?_modify, hg], by simpa using hsz, fun i v hi => ?_⟩
    rw [List.getElem?_set] at hi
    rw [Array.getElem?_setIfInBounds]
    by_cases hij : j = i
    · subst hij
      simp only [if_true] at hi ⊢
      by_cases hl : j < xs.length
      · rw [if_pos hl] at hi
        have := hc j _ (List.getElem?_eq_getElem hl)
        have := (Array.getElem?_eq_some_iff.1 this).1
        rw [if_pos this]; exact hi
      · rw [if_neg hl] at hi; cases hi
    · rw [if_neg hij] at hi
      rw [if_neg (by omega)]
      exact hc i v hi
/-- Cut at the front: s[k:]. -/
theorem OV.cut {g off : Nat} (h : OV w S e size (some ⟨g, off, none⟩) n c xs) (k : Nat) (hk : k ≤ n) : OV w S e size (some ⟨g, off + k * size, none⟩) (n - k) (c - k) (xs.drop (k * size)) := by
  obtain ⟨h1, h2, h3, h4⟩ := h
  refine ⟨by omega, by omega, by rw [List.length_drop, h3, Nat.sub_mul], ?_⟩
  rcases h4 with ⟨h4, _⟩ | ⟨g', off', cur, e1, hs, hg, hsz, hc⟩
  · cases h4
  · injection e1 with e1
    injection e1 with e1 e2
    subst e1 e2
    refine .inr ⟨g, _, cur, rfl, hs, hg, ?_, fun i v hi => ?_⟩
    · have := Nat.mul_le_mul_right size (show k ≤ c by omega)
      rw [Nat.sub_mul]; omega
    · rw [List.getElem?_drop] at hi
      rw [Nat.add_assoc]
      exact hc _ v hi
end

/-- What append gives: the world has new blocks, and of the old ones only the owned one may have been written. -/
def blockOf : Option Addr → Option Nat
  | some a => some a.block
  | none => none

theorem run_append_OV {P : Program} (w : World) (S : Nat → Prop) (t ty e : TypeId) (i : TypeInfo) (z : Value) (size bytes : Nat) (ht : P.underlying t = some (.slice e)) (hi : P.info? e = some i) (hz : i.zero = some z)
    (hsize : i.size = size) (hby : i.bytes = bytes) (hzs : z.cells.size = size) (hsz : 0 < size)
    (A : Option Addr) (n c : Nat) (xs : List Value) (hown : OV w S e size A n c xs)
    (T : Nat → Prop) (B : Option Addr) (m c2 : Nat) (news : List Value) (hl : news.length = m * size) (hnews : SV w T B news) (h1 : ∀ u ∈ news, u.oneCell' = true)
    (h63 : n + m ≤ maxLen) (hbytes : (n + m) * bytes ≤ 140737488355328) :
    ∃ A' c' w', (Builtin.append_ #[t, t] ty #[.slice A n c, .slice B m c2]).run P w = .ok (.slice A' (n + m) c') w' ∧ OV w' (fun g => S g ∨ g = w.heap.size) e size A' (n + m) c' (xs ++ news) ∧
      w.grownBy w' (blockOf A) ∧ (blockOf A' = blockOf A ∨ blockOf A' = some w.heap.size) := by
  subst hsize
  subst hby
  obtain ⟨hnc, hcm, hxl, hcase⟩ := hown
  have hsmall : n + m ≤ 9223372036854775807 := by simp only [maxLen] at h63; omega
  have hlen : (xs ++ news).length = (n + m) * i.size := by rw [List.length_append, hxl, hl, Nat.add_mul]
  -- what is appended can be read, in the drawn world too
  have hfirst : ∀ W : World, (∀ p, W.cell? p = w.cell? p) → (Builtin.firstCells i.size m (.slice B m c2)).run P W = .ok news.toArray W := by
    intro W hW
    by_cases hx : news = []
    · subst hx
      have hm : m = 0 := by
        rcases Nat.mul_eq_zero.1 (show m * i.size = 0 by rw [← hl]; rfl) with h | h
        · exact h
        · omega
      subst hm
      cases B with
      | none => exact run_firstCells_none W _ _ _ _
      | some ad => exact run_firstCells_some W i.size 0 ad 0 c2 [] (by simp) (by simp)
    · obtain ⟨ad, rfl, hc⟩ := hnews.cells hx
      exact run_firstCells_some W i.size m ad m c2 news hl (fun j u hj => (hW _).trans (hc j u hj))
  by_cases hroom : n + m ≤ c
  · rcases hcase with ⟨rfl, rfl⟩ | ⟨g, off, cur, rfl, hs, hg, hfit, hcell⟩
    · have hn : n = 0 := by omega
      have hm : m = 0 := by omega
      subst hn hm
      have e1 : xs = [] := List.eq_nil_of_length_eq_zero (by simpa using hxl)
      have e2 : news = [] := List.eq_nil_of_length_eq_zero (by simpa using hl)
      subst e1 e2
      refine ⟨none, 0, w, ?_, OV.nil w _ e i.size, World.grownBy.refl w _, .inl rfl⟩
      have hf := hfirst w (fun _ => rfl)
      simp [Builtin.append_, run_underlying ht, sizeOf, typeInfo, hi, Builtin.lenOf, hf]
    · have hspace : off + n * i.size + news.length ≤ cur.size := by
        have := Nat.mul_le_mul_right i.size hroom
        rw [Nat.add_mul] at this
        omega
      have hf := hfirst w (fun _ => rfl)
      have hst := run_storeCells_at P g (off + n * i.size) e news 0 cur w hg (by simpa using hspace) h1
      simp only [Nat.add_zero] at hst
      refine ⟨some ⟨g, off, none⟩, c, _, by simp [Builtin.append_, run_underlying ht, sizeOf, typeInfo, hi, Builtin.lenOf, hroom, hf, Addr.add_lit, hst]; rfl, ⟨hroom, hcm, hlen, .inr ⟨g, off, _, rfl, .inl hs, setRow_heap w g cur _ e _ hg, ?_, ?_⟩⟩,
        ⟨rfl, rfl, rfl, by simp, fun k _ hk => setRow_other w g k _ (fun e => hk (by simp [blockOf, e]))⟩, .inl rfl⟩
      · simp only [List.size_toArray, List.length_append, List.length_take, List.length_drop, Array.length_toList]
        omega
      · intro j u hj
        simp only [List.getElem?_toArray]
        have htl : (cur.toList.take (off + n * i.size)).length = off + n * i.size := by
          rw [List.length_take, Array.length_toList]; omega
        rw [List.getElem?_append] at hj ⊢
        rw [htl]
        by_cases hjx : j < xs.length
        · rw [if_pos hjx] at hj
          rw [if_pos (by rw [hxl] at hjx; omega), List.getElem?_take, if_pos (by rw [hxl] at hjx; omega)]
          simpa using hcell j u hj
        · rw [if_neg hjx] at hj
          have hjn : j - xs.length < news.length := (List.getElem?_eq_some_iff.1 hj).1
          rw [if_neg (by rw [hxl] at hjx; omega), List.getElem?_append, if_pos (by rw [hxl] at hjx hjn; omega)]
          rw [← hj]; congr 1; rw [hxl]; omega
  · have hge := grownCap_ge w (n + m) c e
    have hcm' : grownCap w (n + m) c e ≤ maxLen := grownCap_le_maxLen w (n + m) c e h63
    have hf := hfirst w.drew (fun _ => rfl)
    have hold : (Builtin.firstCells i.size n (.slice A n c)).run P w.drew = .ok xs.toArray w.drew := by
      rcases hcase with ⟨rfl, rfl⟩ | ⟨g, off, cur, rfl, hs, hg, hfit, hcell⟩
      · have hn : n = 0 := by omega
        subst hn
        have e1 : xs = [] := List.eq_nil_of_length_eq_zero (by simpa using hxl)
        subst e1
        exact run_firstCells_none w.drew _ _ _ _
      · refine run_firstCells_some w.drew i.size n ⟨g, off, none⟩ n c xs hxl (fun j u hj => ?_)
        rw [Addr.add_lit]
        show w.cell? _ = _
        rw [cell_of_row w g (off + j) cur e (0, 0) hg]
        exact hcell j u hj
    have hn : ¬ (n + m ≤ c) := hroom
    have h63' : ¬ (9223372036854775807 < ((n : Int) + (m : Int))) := by omega
    have h48' : ¬ (281474976710656 < Builtin.nextslicecap (n + m) c * i.bytes) := by
      have := growslice_fits (need := n + m) (old := c) (bytes := i.bytes) (by omega) hbytes
      omega
    refine ⟨some ⟨w.heap.size, 0, none⟩, grownCap w (n + m) c e, w.drew.alloc (.cells (xs.toArray ++ news.toArray ++ Builtin.zeroCells z.cells (grownCap w (n + m) c e - (n + m))) e), ?_,
      ⟨hge, hcm', hlen, .inr ⟨w.heap.size, 0, _, rfl, .inr rfl, heap_alloc_new w.drew _, ?_, ?_⟩⟩, ⟨rfl, rfl, rfl, by simp, fun k hk _ => Below.heap_alloc w.drew _ k hk⟩, .inr rfl⟩
    · simp [Builtin.append_, run_underlying ht, sizeOf, typeInfo, zeroValue, hi, hz, Builtin.lenOf, hn, h63', h48', Question.forced, hf, hold, newRow, grownCap]
      congr 2
      apply Array.ext'
      simp [List.append_assoc]
    · simp only [Array.size_append, List.size_toArray, size_zeroCells, hzs, hxl, hl, ← Nat.add_mul, Nat.zero_add]
      apply Nat.mul_le_mul_right
      omega
    · intro j u hj
      have hjl : j < (xs ++ news).length := (List.getElem?_eq_some_iff.1 hj).1
      rw [Nat.zero_add, Array.getElem?_append, if_pos (by simpa using hjl)]
      simpa using hj
end Go.Proofs.YtglhplddjjoggaaDoor

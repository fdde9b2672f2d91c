/-
  Memory words: cells that lie somewhere, slices that are read, slices that the call owns (from any offset of their block), and one law for append.
  Slices of ints, read and owned; append at an operation; function values that can be called.
  Lists of records of a fixed number of cells: read, owned, made.
  append of one record of a fixed number of cells.
  A region that draws its order, whose operations read, make new memory or call: one obligation for each operation serves every order. The last operation comes behind all others.
  A region that draws its order: an invariant over what has been done so far, kept by each operation, serves every order.
  Plain theory of breadth-first search and of steps between nodes; nothing of the program is in sight.
  Walks of the deck that makes numbers: New, Next, One, Few; what is known of it: its numbers lie below their bounds, and it changes itself alone.
  Networks in memory: nodes and devices as rows of cells; append of a struct; the network that is being made, and the walk of the function that adds a device.
  A region that draws its order, of which some operations write no slot; and the one operation append.
  A region that draws its order, of which some operations are guarded: an invariant over what has been done so far serves every order.
  Walks of the package of names; sets of names in memory.
  Walks of the mask's small functions and of the functions of package slices that they call.
  Walks: Count, Clone, Ints, Mod, pairs, Meet.
-/
import Derived.WalkKit
import Derived.WalkSpells
import Derived.WalkLawsBesides
import Derived.Deep.QuietTactic
import Derived.BigQuiet
import Derived.Deep.LoopGhost
import Derived.Lib.Hide
import Derived.Outline
import Derived.Test.YtgpcojmdfmngeaaDoorProg
import Derived.StillTailTactics
import Derived.Deep.OwnRows
import Derived.Laws.MakeOwn
import Derived.Deep.Draws
import Derived.Deep.RegionHeld3
import Derived.Deep.DeepCutAuto
import Derived.Maps.Own
import Derived.Maps.OwnOps
import Derived.Maps.OwnSet
namespace Go.Proofs.YtgpcojmdfmngeaaDoor
open Go.RowKit

/-- The cells xs lie in w from (b, off) on. -/
def Lie (w : World) (b off : Nat) (xs : List Value) : Prop := ∀ j u, xs[j]? = some u → w.cell? ⟨b, off + j, none⟩ = some u

/-- A slice's address A: its cells xs lie in w, in a block of the class S. -/
def SV (w : World) (S : Nat → Prop) (A : Option Addr) (xs : List Value) : Prop :=
  xs ≠ [] → ∃ b off, A = some ⟨b, off, none⟩ ∧ S b ∧ b < w.heap.size ∧ Lie w b off xs

/-- A slice that the call owns: n elements of type e (size cells each), capacity c, in a block of the class S that is not frozen. -/
def OV (w : World) (S : Nat → Prop) (e : TypeId) (size : Nat) (A : Option Addr) (n c : Nat) (xs : List Value) : Prop :=
  n ≤ c ∧ c ≤ maxLen ∧ xs.length = n * size ∧
  ((A = none ∧ c = 0) ∨ ∃ g off cur, A = some ⟨g, off, none⟩ ∧ S g ∧ w.heap[g]? = some (.cells cur e (0, 0)) ∧ off + c * size ≤ cur.size ∧ ∀ j u, xs[j]? = some u → cur[off + j]? = some u)

/-- All old blocks of the class S are as they were. -/
def Kept (S : Nat → Prop) (w w' : World) : Prop := w.heap.size ≤ w'.heap.size ∧ ∀ b, S b → b < w.heap.size → w'.heap[b]? = w.heap[b]?

section
variable {S T : Nat → Prop} {w w' : World} {A : Option Addr} {xs : List Value} {e : TypeId} {size n c : Nat}

theorem Kept.of_below (h : Below w.heap.size w w') : Kept S w w' := ⟨h.size, fun b _ hb => h.block b hb⟩
theorem Kept.refl (S : Nat → Prop) (w : World) : Kept S w w := ⟨Nat.le_refl _, fun _ _ _ => rfl⟩
theorem Kept.trans {a b c : World} (h : Kept S a b) (k : Kept S b c) : Kept S a c :=
  ⟨Nat.le_trans h.1 k.1, fun i hs hi => (k.2 i hs (Nat.lt_of_lt_of_le hi h.1)).trans (h.2 i hs hi)⟩
theorem Kept.mono (h : Kept T w w') (hs : ∀ b, S b → T b) : Kept S w w' := ⟨h.1, fun b hb hlt => h.2 b (hs b hb) hlt⟩

theorem Kept.alloc (S : Nat → Prop) (w : World) (o : Obj) : Kept S w (w.alloc o) := ⟨by simp, fun b _ hb => Below.heap_alloc w o b hb⟩
theorem Kept.setCell {p : Addr} (hp : ¬ S p.block) (u : Value) : Kept S w (w.setCell p u) := ⟨by simp [World.setCell], fun b hs _ => Below.heap_setCell w p u b (fun e => hp (e ▸ hs))⟩
theorem Kept.drew (S : Nat → Prop) (w : World) : Kept S w w.drew := ⟨Nat.le_refl _, fun _ _ _ => rfl⟩
theorem Kept.drewN (S : Nat → Prop) (w : World) (k : Nat) : Kept S w (w.drewN k) := ⟨Nat.le_refl _, fun _ _ _ => rfl⟩
theorem Kept.grown {row : Option Nat} (h : w.grownBy w' row) (hr : ∀ b, S b → b < w.heap.size → some b ≠ row) : Kept S w w' := ⟨h.size, fun b hs hb => h.block b hb (hr b hs hb)⟩

theorem Lie.keep {b off : Nat} (h : Lie w b off xs) (e : w'.heap[b]? = w.heap[b]?) : Lie w' b off xs := fun j u hj => (World.cell?_of_block e).trans (h j u hj)

theorem SV.nil : SV w S A [] := fun h => absurd rfl h
theorem SV.keep (h : SV w S A xs) (k : Kept S w w') : SV w' S A xs := fun hx => by
  obtain ⟨b, off, e, hs, hb, hc⟩ := h hx
  exact ⟨b, off, e, hs, Nat.lt_of_lt_of_le hb k.1, hc.keep (k.2 b hs hb)⟩
theorem SV.mono (h : SV w S A xs) (hST : ∀ b, b < w.heap.size → S b → T b) : SV w T A xs := fun hx => by
  obtain ⟨b, off, e, hs, hb, hc⟩ := h hx
  exact ⟨b, off, e, hST b hb hs, hb, hc⟩
theorem SV.cells (h : SV w S A xs) (hx : xs ≠ []) : ∃ ad, A = some ad ∧ ∀ j u, xs[j]? = some u → w.cell? (ad.add j) = some u := by
  obtain ⟨b, off, e, _, _, hc⟩ := h hx
  exact ⟨_, e, fun j u hj => by rw [Addr.add_lit]; exact hc j u hj⟩

theorem OV.nil (w : World) (S : Nat → Prop) (e : TypeId) (size : Nat) : OV w S e size none 0 0 [] := ⟨Nat.le_refl _, Nat.zero_le _, by simp, .inl ⟨rfl, rfl⟩⟩
theorem OV.keep (h : OV w S e size A n c xs) (k : Kept S w w') : OV w' S e size A n c xs := by
  obtain ⟨h1, h2, h3, h4⟩ := h
  refine ⟨h1, h2, h3, ?_⟩
  rcases h4 with h4 | ⟨g, off, cur, e1, hs, hg, hsz, hc⟩
  · exact .inl h4
  · exact .inr ⟨g, off, cur, e1, hs, (k.2 g hs (Array.getElem?_eq_some_iff.1 hg).1).trans hg, hsz, hc⟩
theorem OV.mono (h : OV w S e size A n c xs) (hST : ∀ b, b < w.heap.size → S b → T b) : OV w T e size A n c xs := by
  obtain ⟨h1, h2, h3, h4⟩ := h
  refine ⟨h1, h2, h3, ?_⟩
  rcases h4 with h4 | ⟨g, off, cur, e1, hs, hg, hsz, hc⟩
  · exact .inl h4
  · exact .inr ⟨g, off, cur, e1, hST g (Array.getElem?_eq_some_iff.1 hg).1 hs, hg, hsz, hc⟩
theorem OV.sv (h : OV w S e size A n c xs) : SV w S A xs := fun hx => by
  obtain ⟨h1, h2, h3, h4⟩ := h
  rcases h4 with ⟨_, h4⟩ | ⟨g, off, cur, e1, hs, hg, hsz, hc⟩
  · have : xs.length = 0 := by rw [h3, show n = 0 by omega]; simp
    exact absurd (List.eq_nil_of_length_eq_zero this) hx
  · refine ⟨g, off, e1, hs, (Array.getElem?_eq_some_iff.1 hg).1, fun j u hj => ?_⟩
    rw [cell_of_row w g (off + j) cur e (0, 0) hg]
    exact hc j u hj
/-- A cell of an owned slice, where it is not empty. -/
theorem OV.cell (h : OV w S e size A n c xs) {j : Nat} (hj : j < xs.length) : ∃ g off, A = some ⟨g, off, none⟩ ∧ S g ∧ g < w.heap.size ∧ w.cell? ⟨g, off + j, none⟩ = some xs[j] ∧ w.frozen? ⟨g, off + j, none⟩ = false := by
  obtain ⟨h1, h2, h3, h4⟩ := h
  rcases h4 with ⟨_, h4⟩ | ⟨g, off, cur, e1, hs, hg, hsz, hc⟩
  · have : xs.length = 0 := by rw [h3, show n = 0 by omega]; simp
    omega
  · refine ⟨g, off, e1, hs, (Array.getElem?_eq_some_iff.1 hg).1, ?_, by simp [World.frozen?, hg]⟩
    rw [cell_of_row w g (off + j) cur e (0, 0) hg]
    exact hc j _ (List.getElem?_eq_getElem hj)
/-- A store into a cell of an owned slice. -/
theorem OV.set {g off : Nat} (h : OV w S e size (some ⟨g, off, none⟩) n c xs) (j : Nat) (u : Value) : OV (w.setCell ⟨g, off + j, none⟩ u) S e size (some ⟨g, off, none⟩) n c (xs.set j u) := by
  obtain ⟨h1, h2, h3, h4⟩ := h
  refine ⟨h1, h2, by simpa using h3, ?_⟩
  rcases h4 with ⟨h4, _⟩ | ⟨g', off', cur, e1, hs, hg, hsz, hc⟩
  · cases h4
  · injection e1 with e1
    injection e1 with e1 e2
    subst e1 e2
    refine .inr ⟨g, off, cur.setIfInBounds (off + j) u, rfl, hs, by simp [World.setCell, Array.getElem?_modify, hg], by simpa using hsz, fun i v hi => ?_⟩
    rw [List.getElem?_set] at hi
    rw [Array.getElem?_setIfInBounds]
    by_cases hij : j = i
    · subst hij
      simp only [if_true] at hi ⊢
      by_cases hl : j < xs.length
      · rw [if_pos hl] at hi
        have := hc j _ (List.getElem?_eq_getElem hl)
        have := (Array.getElem?_eq_some_iff.1 this).1
        rw [if_pos this]; exact hi
      · rw [if_neg hl] at hi; cases hi
    · rw [if_neg hij] at hi
      rw [if_neg (by omega)]
      exact hc i v hi
/-- Cut at the front: s[k:]. -/
theorem OV.cut {g off : Nat} (h : OV w S e size (some ⟨g, off, none⟩) n c xs) (k : Nat) (hk : k ≤ n) : OV w S e size (some ⟨g, off + k * size, none⟩) (n - k) (c - k) (xs.drop (k * size)) := by
  obtain ⟨h1, h2, h3, h4⟩ := h
  refine ⟨by omega, by omega, by rw [List.length_drop, h3, Nat.sub_mul], ?_⟩
  rcases h4 with ⟨h4, _⟩ | ⟨g', off', cur, e1, hs, hg, hsz, hc⟩
  · cases h4
  · injection e1 with e1
    injection e1 with e1 e2
    subst e1 e2
    refine .inr ⟨g, _, cur, rfl, hs, hg, ?_, fun i v hi => ?_⟩
    · have := Nat.mul_le_mul_right size (show k ≤ c by omega)
      rw [Nat.sub_mul]; omega
    · rw [List.getElem?_drop] at hi
      rw [Nat.add_assoc]
      exact hc _ v hi
end

/-- What append gives: the world has new blocks, and of the old ones only the owned one may have been written. -/
def blockOf : Option Addr → Option Nat
  | some a => some a.block
  | none => none

theorem run_append_OV {P : Program} (w : World) (S : Nat → Prop) (t ty e : TypeId) (i : TypeInfo) (z : Value) (size bytes : Nat) (ht : P.underlying t = some (.slice e)) (hi : P.info? e = some i) (hz : i.zero = some z)
    (hsize : i.size = size) (hby : i.bytes = bytes) (hzs : z.cells.size = size) (hsz : 0 < size)
    (A : Option Addr) (n c : Nat) (xs : List Value) (hown : OV w S e size A n c xs)
    (T : Nat → Prop) (B : Option Addr) (m c2 : Nat) (news : List Value) (hl : news.length = m * size) (hnews : SV w T B news) (h1 : ∀ u ∈ news, u.oneCell' = true)
    (h63 : n + m ≤ maxLen) (hbytes : (n + m) * bytes ≤ 140737488355328) :
    ∃ A' c' w', (Builtin.append_ #[t, t] ty #[.slice A n c, .slice B m c2]).run P w = .ok (.slice A' (n + m) c') w' ∧ OV w' (fun g => S g ∨ g = w.heap.size) e size A' (n + m) c' (xs ++ news) ∧
      w.grownBy w' (blockOf A) ∧ (blockOf A' = blockOf A ∨ blockOf A' = some w.heap.size) := by
  subst hsize
  subst hby
  obtain ⟨hnc, hcm, hxl, hcase⟩ := hown
  have hsmall : n + m ≤ 9223372036854775807 := by simp only [maxLen] at h63; omega
  have hlen : (xs ++ news).length = (n + m) * i.size := by rw [List.length_append, hxl, hl, Nat.add_mul]
  -- what is appended can be read, in the drawn world too
  have hfirst : ∀ W : World, (∀ p, W.cell? p = w.cell? p) → (Builtin.firstCells i.size m (.slice B m c2)).run P W = .ok news.toArray W := by
    intro W hW
    by_cases hx : news = []
    · subst hx
      have hm : m = 0 := by
        rcases Nat.mul_eq_zero.1 (show m * i.size = 0 by rw [← hl]; rfl) with h | h
        · exact h
        · omega
      subst hm
      cases B with
      | none => exact run_firstCells_none W _ _ _ _
      | some ad => exact run_firstCells_some W i.size 0 ad 0 c2 [] (by simp) (by simp)
    · obtain ⟨ad, rfl, hc⟩ := hnews.cells hx
      exact run_firstCells_some W i.size m ad m c2 news hl (fun j u hj => (hW _).trans (hc j u hj))
  by_cases hroom : n + m ≤ c
  · rcases hcase with ⟨rfl, rfl⟩ | ⟨g, off, cur, rfl, hs, hg, hfit, hcell⟩
    · have hn : n = 0 := by omega
      have hm : m = 0 := by omega
      subst hn hm
      have e1 : xs = [] := List.eq_nil_of_length_eq_zero (by simpa using hxl)
      have e2 : news = [] := List.eq_nil_of_length_eq_zero (by simpa using hl)
      subst e1 e2
      refine ⟨none, 0, w, ?_, OV.nil w _ e i.size, World.grownBy.refl w _, .inl rfl⟩
      have hf := hfirst w (fun _ => rfl)
      simp [Builtin.append_, run_underlying ht, sizeOf, typeInfo, hi, Builtin.lenOf, hf]
    · have hspace : off + n * i.size + news.length ≤ cur.size := by
        have := Nat.mul_le_mul_right i.size hroom
        rw [Nat.add_mul] at this
        omega
      have hf := hfirst w (fun _ => rfl)
      have hst := run_storeCells_at P g (off + n * i.size) e news 0 cur w hg (by simpa using hspace) h1
      simp only [Nat.add_zero] at hst
      refine ⟨some ⟨g, off, none⟩, c, _, by simp [Builtin.append_, run_underlying ht, sizeOf, typeInfo, hi, Builtin.lenOf, hroom, hf, Addr.add_lit, hst]; rfl, ⟨hroom, hcm, hlen, .inr ⟨g, off, _, rfl, .inl hs, setRow_heap w g cur _ e _ hg, ?_, ?_⟩⟩,
        ⟨rfl, rfl, rfl, by simp, fun k _ hk => setRow_other w g k _ (fun e => hk (by simp [blockOf, e]))⟩, .inl rfl⟩
      · simp only [List.size_toArray, List.length_append, List.length_take, List.length_drop, Array.length_toList]
        omega
      · intro j u hj
        simp only [List.getElem?_toArray]
        have htl : (cur.toList.take (off + n * i.size)).length = off + n * i.size := by
          rw [List.length_take, Array.length_toList]; omega
        rw [List.getElem?_append] at hj ⊢
        rw [htl]
        by_cases hjx : j < xs.length
        · rw [if_pos hjx] at hj
          rw [if_pos (by rw [hxl] at hjx; omega), List.getElem?_take, if_pos (by rw [hxl] at hjx; omega)]
          simpa using hcell j u hj
        · rw [if_neg hjx] at hj
          have hjn : j - xs.length < news.length := (List.getElem?_eq_some_iff.1 hj).1
          rw [if_neg (by rw [hxl] at hjx; omega), List.getElem?_append, if_pos (by rw [hxl] at hjx hjn; omega)]
          rw [← hj]; congr 1; rw [hxl]; omega
  · have hge := grownCap_ge w (n + m) c e
    have hcm' : grownCap w (n + m) c e ≤ maxLen := grownCap_le_maxLen w (n + m) c e h63
    have hf := hfirst w.drew (fun _ => rfl)
    have hold : (Builtin.firstCells i.size n (.slice A n c)).run P w.drew = .ok xs.toArray w.drew := by
      rcases hcase with ⟨rfl, rfl⟩ | ⟨g, off, cur, rfl, hs, hg, hfit, hcell⟩
      · have hn : n = 0 := by omega
        subst hn
        have e1 : xs = [] := List.eq_nil_of_length_eq_zero (by simpa using hxl)
        subst e1
        exact run_firstCells_none w.drew _ _ _ _
      · refine run_firstCells_some w.drew i.size n ⟨g, off, none⟩ n c xs hxl (fun j u hj => ?_)
        rw [Addr.add_lit]
        show w.cell? _ = _
        rw [cell_of_row w g (off + j) cur e (0, 0) hg]
        exact hcell j u hj
    have hn : ¬ (n + m ≤ c) := hroom
    have h63' : ¬ (9223372036854775807 < ((n : Int) + (m : Int))) := by omega
    have h48' : ¬ (281474976710656 < Builtin.nextslicecap (n + m) c * i.bytes) := by
      have := growslice_fits (need := n + m) (old := c) (bytes := i.bytes) (by omega) hbytes
      omega
    refine ⟨some ⟨w.heap.size, 0, none⟩, grownCap w (n + m) c e, w.drew.alloc (.cells (xs.toArray ++ news.toArray ++ Builtin.zeroCells z.cells (grownCap w (n + m) c e - (n + m))) e), ?_,
      ⟨hge, hcm', hlen, .inr ⟨w.heap.size, 0, _, rfl, .inr rfl, heap_alloc_new w.drew _, ?_, ?_⟩⟩, ⟨rfl, rfl, rfl, by simp, fun k hk _ => Below.heap_alloc w.drew _ k hk⟩, .inr rfl⟩
    · simp [Builtin.append_, run_underlying ht, sizeOf, typeInfo, zeroValue, hi, hz, Builtin.lenOf, hn, h63', h48', Question.forced, hf, hold, newRow, grownCap]
      congr 2
      apply Array.ext'
      simp [List.append_assoc]
    · simp only [Array.size_append, List.size_toArray, size_zeroCells, hzs, hxl, hl, ← Nat.add_mul, Nat.zero_add]
      apply Nat.mul_le_mul_right
      omega
    · intro j u hj
      have hjl : j < (xs ++ news).length := (List.getElem?_eq_some_iff.1 hj).1
      rw [Nat.zero_add, Array.getElem?_append, if_pos (by simpa using hjl)]
      simpa using hj
end Go.Proofs.YtgpcojmdfmngeaaDoor

namespace Go.Proofs.YtgpcojmdfmngeaaDoor
open Go.RowKit
set_option maxHeartbeats 400000

abbrev ints (xs : List Int) : List Value := xs.map (Value.int .i64)
def SI (w : World) (S : Nat → Prop) (A : Option Addr) (xs : List Int) : Prop := SV w S A (ints xs)
def OI (w : World) (S : Nat → Prop) (A : Option Addr) (c : Nat) (xs : List Int) : Prop := OV w S 3 1 A xs.length c (ints xs)

theorem intInfo : (Tryd.prog.info? 3).map (fun i => (i.zero, i.size, i.bytes)) = some (some (.int .i64 0), 1, 8) := by kernel_rfl

section
variable {S T : Nat → Prop} {w w' : World} {A : Option Addr} {xs : List Int} {c : Nat}
theorem SI.nil : SI w S A [] := SV.nil
theorem SI.keep (h : SI w S A xs) (k : Kept S w w') : SI w' S A xs := SV.keep h k
theorem SI.mono (h : SI w S A xs) (hST : ∀ b, b < w.heap.size → S b → T b) : SI w T A xs := SV.mono h hST
theorem SI.at_ (h : SI w S A xs) {k : Nat} (hk : k < xs.length) : ∃ b off, A = some ⟨b, off, none⟩ ∧ S b ∧ b < w.heap.size ∧ w.cell? ⟨b, off + k, none⟩ = some (.int .i64 xs[k]) := by
  obtain ⟨b, off, e, hs, hb, hc⟩ := h (by intro hx; have : xs = [] := by simpa [ints] using hx
                                          subst this; simp at hk)
  exact ⟨b, off, e, hs, hb, hc k _ (by simp [ints, List.getElem?_eq_getElem hk])⟩
theorem OI.nil (w : World) (S : Nat → Prop) : OI w S none 0 [] := OV.nil w S _ _
theorem OI.keep (h : OI w S A c xs) (k : Kept S w w') : OI w' S A c xs := OV.keep h k
theorem OI.mono (h : OI w S A c xs) (hST : ∀ b, b < w.heap.size → S b → T b) : OI w T A c xs := OV.mono h hST
theorem OI.si (h : OI w S A c xs) : SI w S A xs := OV.sv h
theorem OI.cap (h : OI w S A c xs) : xs.length ≤ c ∧ c ≤ maxLen := ⟨h.1, h.2.1⟩
theorem OI.at_ (h : OI w S A c xs) {k : Nat} (hk : k < xs.length) : ∃ g off, A = some ⟨g, off, none⟩ ∧ S g ∧ g < w.heap.size ∧ w.cell? ⟨g, off + k, none⟩ = some (.int .i64 xs[k]) ∧ w.frozen? ⟨g, off + k, none⟩ = false := by
  obtain ⟨g, off, e, hs, hb, hc, hf⟩ := OV.cell h (j := k) (by simpa [ints] using hk)
  exact ⟨g, off, e, hs, hb, by simpa [ints] using hc, hf⟩
theorem OI.set {g off : Nat} (h : OI w S (some ⟨g, off, none⟩) c xs) (k : Nat) (x : Int) : OI (w.setCell ⟨g, off + k, none⟩ (.int .i64 x)) S (some ⟨g, off, none⟩) c (xs.set k x) := by
  have := OV.set h k (.int .i64 x)
  unfold OI
  rw [List.length_set, ints, List.map_set]
  exact this
end

/-- append of a slice of ints that can be read onto an owned one. -/
theorem wpList_app {w : World} {ops : Array Oper} {rest : List Oper} {o : Oper} {a : Act} {Q : Exit → Act → World → Prop} (hgd : o.guard = none) (s x : Operand)
    (ho : o.op = .call { callee := .builtin .append, args := #[s, x], argTypes := #[22, 22] })
    {S T : Nat → Prop} {A B : Option Addr} {n m c c2 : Nat} {xs ys : List Int} (hs : a.eval s = .slice A n c) (hx : a.eval x = .slice B m c2) (hn : n = xs.length) (hm : m = ys.length)
    (hown : OI w S A c xs) (hnews : SI w T B ys) (hb : xs.length + ys.length ≤ 17592186044416)
    (h : ∀ A' c' w', OI w' (fun g => S g ∨ g = w.heap.size) A' c' (xs ++ ys) → w.grownBy w' (blockOf A) → (blockOf A' = blockOf A ∨ blockOf A' = some w.heap.size) →
      wpList Tryd.prog ops Q rest (a.put o.dst (.slice A' (xs ++ ys).length c')) w') : wpList Tryd.prog ops Q (o :: rest) a w := by
  subst hn hm
  obtain ⟨i0, hi, hz0, hz1, hz2⟩ := info_parts intInfo
  obtain ⟨A', c', w', hr, h2, h3, h4⟩ := run_append_OV (P := Tryd.prog) w S 22 o.type 3 i0 _ 1 8 Tryd.underlying22 hi hz0 hz1 hz2 rfl (by decide) A xs.length c (ints xs) hown T B ys.length c2 (ints ys) (by simp [ints]) hnews
    (ints_oneCell _ _) (by simp only [maxLen]; omega) (by omega)
  refine wpList_plain hgd fun K hK => ?_
  unfold Oper.wp execOp
  simp only [ho, resolve, invoke, builtin, Sem.run_bind, Sem.run_pure, Result.andThen_ok, List.map_toArray, List.map_cons, List.map_nil, hs, hx, hr]
  refine hK _ _ ?_
  have e1 : (xs ++ ys).length = xs.length + ys.length := by simp
  have := h A' c' w' (by unfold OI; rw [e1]; simpa [ints] using h2) h3 h4
  rw [e1] at this
  exact this

/-- append of one int. -/
theorem wpList_app1 {w : World} {ops : Array Oper} {rest : List Oper} {o : Oper} {a : Act} {Q : Exit → Act → World → Prop} (hgd : o.guard = none) (s x : Operand)
    (ho : o.op = .call { callee := .builtin .append, args := #[s, x], argTypes := #[22, 22] })
    {S : Nat → Prop} {A : Option Addr} {n b c c2 : Nat} {y : Int} {xs : List Int} (hs : a.eval s = .slice A n c) (hx : a.eval x = .slice (some ⟨b, 0, none⟩) 1 c2) (hn : n = xs.length)
    (hown : OI w S A c xs) (hc : w.cell? ⟨b, 0, none⟩ = some (.int .i64 y)) (hb : xs.length + 1 ≤ 17592186044416)
    (h : ∀ A' c' w', OI w' (fun g => S g ∨ g = w.heap.size) A' c' (xs ++ [y]) → w.grownBy w' (blockOf A) → (blockOf A' = blockOf A ∨ blockOf A' = some w.heap.size) →
      wpList Tryd.prog ops Q rest (a.put o.dst (.slice A' (xs.length + 1) c')) w') : wpList Tryd.prog ops Q (o :: rest) a w := by
  refine wpList_app (T := fun _ => True) (ys := [y]) hgd s x ho hs hx hn rfl hown (fun _ => ⟨b, 0, rfl, trivial, World.block_lt_of_cell? w _ hc, fun j u hj => ?_⟩) (by simpa using hb) (fun A' c' w' h1 h2 h3 => ?_)
  · cases j with
    | zero => simp [ints] at hj; subst hj; exact hc
    | succ j => simp [ints] at hj
  · have := h A' c' w' h1 h2 h3
    simpa using this

theorem OV.block {w : World} {S : Nat → Prop} {e : TypeId} {size n c : Nat} {A : Option Addr} {xs : List Value} (h : OV w S e size A n c xs) : ∀ g, blockOf A = some g → S g ∧ g < w.heap.size := by
  intro g hg
  rcases h.2.2.2 with ⟨rfl, _⟩ | ⟨g', off, cur, rfl, hs, hh, _⟩
  · simp [blockOf] at hg
  · simp [blockOf] at hg
    subst hg
    exact ⟨hs, (Array.getElem?_eq_some_iff.1 hh).1⟩

theorem new_cell (w : World) (u : Value) (t : TypeId) : (w.alloc (.cells #[u] t)).cell? ⟨w.heap.size, 0, none⟩ = some u := by
  rw [cell_of_row _ w.heap.size 0 #[u] t (0, 0) (heap_alloc_new w _)]; rfl

/-- A new block that holds just the ints xs. -/
theorem OI.lit (w : World) (xs : List Int) (h : xs.length ≤ maxLen) : OI (w.alloc (.cells (ints xs).toArray 3)) (fun g => w.heap.size ≤ g) (some ⟨w.heap.size, 0, none⟩) xs.length xs :=
  ⟨Nat.le_refl _, h, by simp [ints], .inr ⟨w.heap.size, 0, _, rfl, Nat.le_refl _, heap_alloc_new w _, by simp [ints], fun j u hj => by simpa using hj⟩⟩
theorem SI.none_nil {w : World} {S : Nat → Prop} {xs : List Int} (h : SI w S none xs) : xs = [] := by
  cases xs with
  | nil => rfl
  | cons x xs =>
    obtain ⟨b, off, e, _⟩ := h (by simp [ints])
    cases e

/-- append of one int onto a slice of the call's own (blocks from B on). -/
theorem wpList_push {w : World} {ops : Array Oper} {rest : List Oper} {o : Oper} {a : Act} {Q : Exit → Act → World → Prop} (hgd : o.guard = none) (s x : Operand)
    (ho : o.op = .call { callee := .builtin .append, args := #[s, x], argTypes := #[22, 22] })
    {B : Nat} {A : Option Addr} {n b c c2 : Nat} {y : Int} {xs : List Int} (hs : a.eval s = .slice A n c) (hx : a.eval x = .slice (some ⟨b, 0, none⟩) 1 c2) (hn : n = xs.length)
    (hown : OI w (fun g => B ≤ g) A c xs) (hc : w.cell? ⟨b, 0, none⟩ = some (.int .i64 y)) (hb : xs.length + 1 ≤ 17592186044416) (hB : B ≤ w.heap.size)
    (h : ∀ A' c' w', OI w' (fun g => B ≤ g) A' c' (xs ++ [y]) → Below B w w' → w.grownBy w' (blockOf A) → (blockOf A' = blockOf A ∨ blockOf A' = some w.heap.size) →
      wpList Tryd.prog ops Q rest (a.put o.dst (.slice A' (xs.length + 1) c')) w') : wpList Tryd.prog ops Q (o :: rest) a w :=
  wpList_app1 hgd s x ho hs hx hn hown hc hb fun A' c' w' h1 h2 h3 =>
    h A' c' w' (h1.mono fun g _ hg => by rcases hg with hg | hg <;> omega) ((Below.refl B w).grown h2 hB fun g hg => (OV.block hown g hg).1) h2 h3

/-- append of a slice of ints onto one of the call's own. -/
theorem wpList_pushAll {w : World} {ops : Array Oper} {rest : List Oper} {o : Oper} {a : Act} {Q : Exit → Act → World → Prop} (hgd : o.guard = none) (s x : Operand)
    (ho : o.op = .call { callee := .builtin .append, args := #[s, x], argTypes := #[22, 22] })
    {B : Nat} {T : Nat → Prop} {A A2 : Option Addr} {n m c c2 : Nat} {xs ys : List Int} (hs : a.eval s = .slice A n c) (hx : a.eval x = .slice A2 m c2) (hn : n = xs.length) (hm : m = ys.length)
    (hown : OI w (fun g => B ≤ g) A c xs) (hnews : SI w T A2 ys) (hb : xs.length + ys.length ≤ 17592186044416) (hB : B ≤ w.heap.size)
    (h : ∀ A' c' w', OI w' (fun g => B ≤ g) A' c' (xs ++ ys) → Below B w w' → w.grownBy w' (blockOf A) → (blockOf A' = blockOf A ∨ blockOf A' = some w.heap.size) →
      wpList Tryd.prog ops Q rest (a.put o.dst (.slice A' (xs ++ ys).length c')) w') : wpList Tryd.prog ops Q (o :: rest) a w :=
  wpList_app hgd s x ho hs hx hn hm hown hnews hb fun A' c' w' h1 h2 h3 =>
    h A' c' w' (h1.mono fun g _ hg => by rcases hg with hg | hg <;> omega) ((Below.refl B w).grown h2 hB fun g hg => (OV.block hown g hg).1) h2 h3

/-- make([]T, n), T of one cell. -/
theorem wpList_makeV {w : World} {ops : Array Oper} {rest : List Oper} {o : Oper} {a : Act} {Q : Exit → Act → World → Prop}
    (hg : o.guard = none) (l c : Operand) (t : TypeId) (hop : o.op = Op.makeSlice t l c)
    (e : TypeId) (z : Value) (bytes : Nat) (ht : Tryd.prog.underlying t = some (.slice e)) (hinfo : (Tryd.prog.info? e).map (fun i => (i.zero, i.size, i.bytes)) = some (some z, 1, bytes)) (hz1 : z.cells = #[z])
    (kl kc : IntKind) (n : Nat) (hl : a.eval l = .int kl (n : Int)) (hc : a.eval c = .int kc (n : Int)) (hbytes : bytes * n ≤ 281474976710656) (h63 : n ≤ 9223372036854775807)
    (hK : ∀ w', OV w' (fun g => g = w.heap.size) e 1 (some ⟨w.heap.size, 0, none⟩) n n (List.replicate n z) → Below w.heap.size w w' → w'.heap.size = w.heap.size + 1 →
      wpList Tryd.prog ops Q rest (a.put o.dst (.slice (some ⟨w.heap.size, 0, none⟩) n n)) w') :
    wpList Tryd.prog ops Q (o :: rest) a w := by
  refine wpList_plain hg fun K hK' => ?_
  have hrun := run_make_row' (P := Tryd.prog) t e z bytes ht hinfo hz1 kl kc n hbytes h63 w
  unfold Oper.wp
  simp [execOp, hop, hl, hc, hrun, Result.andThen]
  refine hK' _ _ (hK _ ⟨Nat.le_refl _, by simp only [maxLen]; omega, by simp, .inr ⟨w.heap.size, 0, _, rfl, rfl, heap_alloc_new w _, by simp [size_madeCells], fun j u hj => ?_⟩⟩ ((Below.refl _ _).alloc (Nat.le_refl _) _) (by simp))
  rw [List.getElem?_replicate] at hj
  split at hj
  · rename_i hlt
    simp at hj
    subst hj
    simp [madeCells, hlt, Nat.mod_one]
  · cases hj

/-- A slice that is filled place by place. -/
def filled {α : Type} (Z : List α) (z : α) (k : Nat) : List α := Z.take k ++ List.replicate (Z.length - k) z
theorem filled_len {α : Type} (Z : List α) (z : α) (k : Nat) (h : k ≤ Z.length) : (filled Z z k).length = Z.length := by simp [filled]; omega
theorem filled_step {α : Type} (Z : List α) (z : α) (k : Nat) (h : k < Z.length) : (filled Z z k).set k Z[k] = filled Z z (k + 1) := by
  unfold filled
  have hl : (Z.take k).length = k := by simp; omega
  rw [List.set_append_right _ _ (by omega), hl, Nat.sub_self, show Z.length - k = (Z.length - (k + 1)) + 1 by omega, List.replicate_succ, List.set_cons_zero, List.take_succ_eq_append_getElem h, List.append_assoc]
  rfl
theorem filled_all {α : Type} (Z : List α) (z : α) (k : Nat) (h : Z.length ≤ k) : filled Z z k = Z := by
  unfold filled; rw [List.take_of_length_le h, show Z.length - k = 0 by omega]; simp
theorem filled_zero {α : Type} (Z : List α) (z : α) : filled Z z 0 = List.replicate Z.length z := by simp [filled]

/-- A function value may be called: it has a body. -/
def Goes (f : FuncId) : Prop := ∀ args w, (callFunc f args).run Tryd.prog w = .ok (.enter f args) w
end Go.Proofs.YtgpcojmdfmngeaaDoor

namespace Go.Proofs.YtgpcojmdfmngeaaDoor
open Go.RowKit
set_option maxHeartbeats 400000

def recV {α : Type} (f : α → List Value) (xs : List α) : List Value := xs.flatMap f
section
variable {α : Type} {f : α → List Value} {m : Nat}
theorem recV_len (hf : ∀ x, (f x).length = m) : ∀ xs : List α, (recV f xs).length = xs.length * m
  | [] => by simp [recV]
  | x :: xs => by
    have := recV_len hf xs
    unfold recV at *
    rw [List.flatMap_cons, List.length_append, this, hf, List.length_cons, Nat.add_mul]; omega
theorem recV_snoc (xs : List α) (x : α) : recV f (xs ++ [x]) = recV f xs ++ f x := by simp [recV]
theorem recV_at (hf : ∀ x, (f x).length = m) : ∀ (xs : List α) (i : Nat) (x : α), xs[i]? = some x → ∀ j, j < m → (recV f xs)[i * m + j]? = (f x)[j]?
  | [], i, x, h => by simp at h
  | y :: ys, 0, x, h => by
    intro j hj
    simp at h
    subst h
    simp only [recV, List.flatMap_cons]
    rw [List.getElem?_append_left (by rw [hf]; omega)]
    simp
  | y :: ys, i + 1, x, h => by
    intro j hj
    simp at h
    have := recV_at hf ys i x h j hj
    simp only [recV, List.flatMap_cons] at this ⊢
    rw [List.getElem?_append_right (by rw [hf, Nat.add_mul]; omega), hf, ← this]
    congr 1
    rw [Nat.add_mul]; omega
theorem recV_set (hf : ∀ x, (f x).length = m) : ∀ (xs : List α) (i : Nat) (hi : i < xs.length) (j : Nat) (_ : j < m) (u : Value) (y : α), f y = (f xs[i]).set j u → (recV f xs).set (i * m + j) u = recV f (xs.set i y)
  | [], i, h => by simp at h
  | x :: xs, 0, _ => by
    intro j hj u y h
    simp only [recV, List.flatMap_cons, List.set_cons_zero, Nat.zero_mul, Nat.zero_add]
    rw [List.set_append_left _ _ (by rw [hf]; exact hj), h]
    rfl
  | x :: xs, i + 1, hi => by
    intro j hj u y h
    have := recV_set hf xs i (by simpa using hi) j hj u y h
    simp only [recV, List.flatMap_cons, List.set_cons_succ] at this ⊢
    rw [List.set_append_right _ _ (by rw [hf, Nat.add_mul]; omega), hf, ← this]
    congr 2
    rw [Nat.add_mul]; omega

/-- Cells of a record that is read. -/
theorem SV.rec {w : World} {S : Nat → Prop} {A : Option Addr} {xs : List α} (h : SV w S A (recV f xs)) (hf : ∀ x, (f x).length = m) (hm : 0 < m) {k : Nat} (hk : k < xs.length) :
    ∃ b off, A = some ⟨b, off, none⟩ ∧ S b ∧ b < w.heap.size ∧ ∀ j u, (f xs[k])[j]? = some u → w.cell? ⟨b, off + k * m + j, none⟩ = some u := by
  have hne : recV f xs ≠ [] := fun e => by
    have := recV_len hf xs
    rw [e] at this
    have : 0 < xs.length * m := Nat.mul_pos (by omega) hm
    simp at *; omega
  obtain ⟨b, off, e, hs, hb, hc⟩ := h hne
  refine ⟨b, off, e, hs, hb, fun j u hj => ?_⟩
  have hjm : j < m := by rw [← hf xs[k]]; exact (List.getElem?_eq_some_iff.1 hj).1
  have := hc (k * m + j) u ((recV_at hf xs k _ (List.getElem?_eq_getElem hk) j hjm).trans hj)
  rw [← Nat.add_assoc] at this
  exact this
/-- Cells of a record that is owned. -/
theorem OV.rec {w : World} {S : Nat → Prop} {t : TypeId} {A : Option Addr} {c : Nat} {xs : List α} (h : OV w S t m A xs.length c (recV f xs)) (hf : ∀ x, (f x).length = m) {k : Nat} (hk : k < xs.length) (hm : 0 < m) :
    ∃ g off, A = some ⟨g, off, none⟩ ∧ S g ∧ g < w.heap.size ∧ ∀ j u, (f xs[k])[j]? = some u → w.cell? ⟨g, off + k * m + j, none⟩ = some u ∧ w.frozen? ⟨g, off + k * m + j, none⟩ = false := by
  have hlen := recV_len hf xs
  have hkm : k * m + m ≤ xs.length * m := by rw [← Nat.succ_mul]; exact Nat.mul_le_mul_right m hk
  obtain ⟨g, off, e, hs, hb, -, -⟩ := OV.cell h (j := k * m) (by omega)
  subst e
  refine ⟨g, off, rfl, hs, hb, fun j u hj => ?_⟩
  have hjm : j < m := by rw [← hf xs[k]]; exact (List.getElem?_eq_some_iff.1 hj).1
  obtain ⟨g', off', e, -, -, hc, hfz⟩ := OV.cell h (j := k * m + j) (by omega)
  injection e with e
  injection e with e e'
  subst e e'
  rw [← Nat.add_assoc] at hc hfz
  refine ⟨hc.trans ?_, hfz⟩
  have := recV_at hf xs k _ (List.getElem?_eq_getElem hk) j hjm
  rw [hj] at this
  rw [← List.getElem?_eq_getElem, this]
theorem OV.recSet {w : World} {S : Nat → Prop} {t : TypeId} {g off c : Nat} {xs : List α} (h : OV w S t m (some ⟨g, off, none⟩) xs.length c (recV f xs)) (hf : ∀ x, (f x).length = m) {k : Nat} (hk : k < xs.length) {j : Nat} (hj : j < m) (u : Value) (y : α) (hy : f y = (f xs[k]).set j u) :
    OV (w.setCell ⟨g, off + k * m + j, none⟩ u) S t m (some ⟨g, off, none⟩) (xs.set k y).length c (recV f (xs.set k y)) := by
  have := OV.set h (k * m + j) u
  rw [recV_set hf xs k hk j hj u y hy, ← Nat.add_assoc] at this
  rw [List.length_set]
  exact this

/-- make([]T, n), T of m cells. -/
theorem wpList_makeR {w : World} {ops : Array Oper} {rest : List Oper} {o : Oper} {a : Act} {Q : Exit → Act → World → Prop}
    (hg : o.guard = none) (l c : Operand) (t : TypeId) (hop : o.op = Op.makeSlice t l c)
    (e : TypeId) (z : Value) (bytes : Nat) (ht : Tryd.prog.underlying t = some (.slice e)) (hinfo : (Tryd.prog.info? e).map (fun i => (i.zero, i.size, i.bytes)) = some (some z, m, bytes)) (z0 : α) (hz1 : z.cells = (f z0).toArray) (hf : ∀ x, (f x).length = m) (hm : 0 < m)
    (kl kc : IntKind) (n : Nat) (hl : a.eval l = .int kl (n : Int)) (hc : a.eval c = .int kc (n : Int)) (hbytes : bytes * n ≤ 281474976710656) (h63 : n ≤ maxLen)
    (hK : ∀ w', OV w' (fun g => g = w.heap.size) e m (some ⟨w.heap.size, 0, none⟩) (List.replicate n z0).length n (recV f (List.replicate n z0)) → Below w.heap.size w w' → w'.heap.size = w.heap.size + 1 →
      wpList Tryd.prog ops Q rest (a.put o.dst (.slice (some ⟨w.heap.size, 0, none⟩) n n)) w') :
    wpList Tryd.prog ops Q (o :: rest) a w := by
  refine wpList_plain hg fun K hK' => ?_
  obtain ⟨i, hi, hz0, hsz, hby⟩ := info_parts hinfo
  subst hsz hby
  have h63' : (n : Int) ≤ 9223372036854775807 := by
    have h := h63
    simp [maxLen] at h
    omega
  have hb' : (i.bytes : Int) * (n : Int) ≤ 281474976710656 := by
    have h : ((i.bytes * n : Nat) : Int) ≤ 281474976710656 := by omega
    rwa [Int.natCast_mul] at h
  have hrun := run_make (P := Tryd.prog) w t e i z ht hi hz0 kl kc n n (by omega) (Int.le_refl _) hb' h63'
  simp only [Int.toNat_natCast] at hrun
  unfold Oper.wp
  simp only [execOp, hop, hl, hc, Sem.run_bind, hrun, Result.andThen_ok, Sem.run_pure]
  refine hK' _ _ (hK _ ⟨by simp, by exact h63, by rw [recV_len hf], .inr ⟨w.heap.size, 0, _, rfl, rfl, heap_alloc_new w _, by rw [size_madeCells]; omega, fun j u hj => ?_⟩⟩ ((Below.refl _ _).alloc (Nat.le_refl _) _) (by simp))
  have hjl : j < n * i.size := by
    have := (List.getElem?_eq_some_iff.1 hj).1
    rw [recV_len hf, List.length_replicate] at this
    exact this
  have hd : j / i.size < n := Nat.div_lt_of_lt_mul (by rw [Nat.mul_comm]; exact hjl)
  have hmod : j % i.size < i.size := Nat.mod_lt _ hm
  have hat := recV_at hf (List.replicate n z0) (j / i.size) z0 (by rw [List.getElem?_replicate, if_pos hd]) (j % i.size) hmod
  rw [Nat.mul_comm, Nat.div_add_mod, hj] at hat
  have hfl := hf z0
  simp [madeCells, hjl, hz1, hfl, ← hat]
end
end Go.Proofs.YtgpcojmdfmngeaaDoor

namespace Go.Proofs.YtgpcojmdfmngeaaDoor
open Go.RowKit
set_option maxHeartbeats 400000

theorem wpList_pushRec {α : Type} {f : α → List Value} {m : Nat} (hf : ∀ x, (f x).length = m) (hm : 0 < m) {w : World} {ops : Array Oper} {rest : List Oper} {o : Oper} {a : Act} {Q : Exit → Act → World → Prop}
    (t e : TypeId) (z : Value) (bytes : Nat) (ht : Tryd.prog.underlying t = some (.slice e)) (hinfo : (Tryd.prog.info? e).map (fun i => (i.zero, i.size, i.bytes)) = some (some z, m, bytes)) (hzs : z.cells.size = m) (hby : bytes ≤ 1000)
    (hgd : o.guard = none) (s x : Operand) (ho : o.op = .call { callee := .builtin .append, args := #[s, x], argTypes := #[t, t] })
    {B : Nat} {A : Option Addr} {n b c c2 : Nat} (y : α) {xs : List α} (h1 : ∀ u ∈ f y, u.oneCell' = true) (hs : a.eval s = .slice A n c) (hx : a.eval x = .slice (some ⟨b, 0, none⟩) 1 c2) (hn : n = xs.length)
    (hown : OV w (fun g => B ≤ g) e m A xs.length c (recV f xs)) (hc : ∀ j u, (f y)[j]? = some u → w.cell? ⟨b, j, none⟩ = some u) (hb : xs.length + 1 ≤ 65536) (hB : B ≤ w.heap.size)
    (h : ∀ A' c' w', OV w' (fun g => B ≤ g) e m A' (xs ++ [y]).length c' (recV f (xs ++ [y])) → Below B w w' → w.grownBy w' (blockOf A) → (blockOf A' = blockOf A ∨ blockOf A' = some w.heap.size) →
      wpList Tryd.prog ops Q rest (a.put o.dst (.slice A' (xs.length + 1) c')) w') : wpList Tryd.prog ops Q (o :: rest) a w := by
  subst hn
  obtain ⟨i0, hi, hz0, hz1, hz2⟩ := info_parts hinfo
  have hnews : SV w (fun _ => True) (some ⟨b, 0, none⟩) (f y) := fun hne => by
    have h0 : 0 < (f y).length := by rw [hf]; exact hm
    exact ⟨b, 0, rfl, trivial, World.block_lt_of_cell? w _ (hc 0 _ (List.getElem?_eq_getElem h0)), fun j u hj => by rw [Nat.zero_add]; exact hc j u hj⟩
  have hbb : (xs.length + 1) * bytes ≤ 140737488355328 := Nat.le_trans (Nat.mul_le_mul hb hby) (by decide)
  obtain ⟨A', c', w', hr, h2, h3, h4⟩ := run_append_OV (P := Tryd.prog) w (fun g => B ≤ g) t o.type e i0 z m bytes ht hi hz0 hz1 hz2 hzs hm A xs.length c (recV f xs) hown (fun _ => True) (some ⟨b, 0, none⟩) 1 c2 (f y) (by rw [hf, Nat.one_mul]) hnews h1
    (by simp only [maxLen]; omega) hbb
  refine wpList_plain hgd fun K hK => ?_
  unfold Oper.wp execOp
  simp only [ho, resolve, invoke, builtin, Sem.run_bind, Sem.run_pure, Result.andThen_ok, List.map_toArray, List.map_cons, List.map_nil, hs, hx, hr]
  refine hK _ _ (h A' c' w' ?_ ((Below.refl B w).grown h3 hB fun g hg => (OV.block hown g hg).1) h3 h4)
  have := h2.mono (T := fun g => B ≤ g) (fun g _ hg => by rcases hg with hg | hg <;> omega)
  rw [List.length_append, recV_snoc]
  exact this

/-- changes of a time line -/
structure Chg where
  t : Int
  dev : Int
  pos : Int
def chgV (x : Chg) : List Value := [.int .i64 x.t, .int .i64 x.dev, .int .i64 x.pos]
theorem chgV_len (x : Chg) : (chgV x).length = 3 := rfl
theorem chgV_one (x : Chg) : ∀ u ∈ chgV x, u.oneCell' = true := by
  intro u hu
  simp [chgV] at hu
  rcases hu with rfl | rfl | rfl <;> rfl
theorem chgInfo : (Tryd.prog.info? 86).map (fun i => (i.zero, i.size, i.bytes)) = some (some (.agg #[.int .i64 0, .int .i64 0, .int .i64 0]), 3, 24) := by kernel_rfl
def OC (w : World) (S : Nat → Prop) (A : Option Addr) (c : Nat) (xs : List Chg) : Prop := OV w S 86 3 A xs.length c (recV chgV xs)
/-- changes that are valid for n devices, at times from 0 to hi, in order -/
def OkC (n : Nat) (hi : Int) (xs : List Chg) : Prop := (∀ x ∈ xs, 0 ≤ x.t ∧ x.t ≤ hi ∧ 0 ≤ x.dev ∧ x.dev < n ∧ (x.pos = 1 ∨ x.pos = 2)) ∧ xs.Pairwise (fun a b => a.t ≤ b.t)
theorem OkC.snoc {n : Nat} {hi hi' : Int} {xs : List Chg} (h : OkC n hi xs) (x : Chg) (hh : hi ≤ hi') (hl : ∀ y ∈ xs, y.t ≤ x.t) (hx : 0 ≤ x.t ∧ x.t ≤ hi' ∧ 0 ≤ x.dev ∧ x.dev < n ∧ (x.pos = 1 ∨ x.pos = 2)) : OkC n hi' (xs ++ [x]) := by
  refine ⟨fun y hy => ?_, ?_⟩
  · rcases List.mem_append.1 hy with hy | hy
    · have := h.1 y hy
      exact ⟨this.1, by omega, this.2.2⟩
    · simp at hy; subst hy; exact hx
  · rw [List.pairwise_append]
    exact ⟨h.2, by simp, fun a ha b hb => by simp at hb; subst hb; exact hl a ha⟩
end Go.Proofs.YtgpcojmdfmngeaaDoor

namespace Go.Proofs.YtgpcojmdfmngeaaDoor
open Go

/-- A frame in which the slots ds hold what f says. -/
def upd (l : List Value) (ds : List Nat) (f : Nat → Value) : List Value := l.mapIdx fun t v => if ds.contains t then f t else v
def fr (l : List Value) (ds : List Nat) (df : List Deferred) (f : Nat → Value) : Act := { tmps := (upd l ds f).toArray, defers := df }

theorem upd_put (l : List Value) (ds : List Nat) (f : Nat → Value) (d : Nat) (v : Value) (hd : ds.contains d = true) :
    (upd l ds f).set d v = upd l ds (fun t => if t = d then v else f t) := by
  apply List.ext_getElem?
  intro i
  unfold upd
  rw [List.getElem?_set, List.getElem?_mapIdx, List.getElem?_mapIdx, List.length_mapIdx]
  by_cases hi : d = i
  · subst hi
    simp only [if_true]
    have hm : d ∈ ds := by simpa using hd
    by_cases hl : d < l.length
    · simp [hl, hm]
    · simp [hl]
  · rw [if_neg hi]
    cases l[i]? with
    | none => rfl
    | some x => simp [Ne.symm hi]

theorem fr_put (l : List Value) (ds : List Nat) (df : List Deferred) (f : Nat → Value) (d : Nat) (v : Value) (hd : ds.contains d = true) :
    (fr l ds df f).put (some d) v = fr l ds df (fun t => if t = d then v else f t) := by
  unfold fr
  simp only [Act.put]
  congr 1
  rw [← upd_put l ds f d v hd]
  simp

theorem fr_start (l : List Value) (ds : List Nat) (df : List Deferred) : fr l ds df (fun t => (l[t]?).getD undef) = { tmps := l.toArray, defers := df } := by
  unfold fr
  congr 2
  apply List.ext_getElem?
  intro i
  unfold upd
  rw [List.getElem?_mapIdx]
  cases h : l[i]? with
  | none => rfl
  | some x => simp [h]

theorem fr_in (l : List Value) (ds : List Nat) (df : List Deferred) (f : Nat → Value) (t : Nat) (h : ds.contains t = true) (hl : t < l.length) : (fr l ds df f).tmps[t]?.getD undef = f t := by
  have hm : t ∈ ds := by simpa using h
  simp [fr, upd, hl, hm]
theorem fr_out (l : List Value) (ds : List Nat) (df : List Deferred) (f : Nat → Value) (t : Nat) (v : Value) (h : ds.contains t = false) (hv : l[t]? = some v) : (fr l ds df f).tmps[t]?.getD undef = v := by
  have hm : ¬ t ∈ ds := by simpa using h
  simp [fr, upd, List.getElem?_mapIdx, hv, hm]

/-- What follows, behind a variable. -/
theorem wp_k {P : Program} {o : Oper} {a : Act} {w : World} {K : Act → World → Prop} {Q : Exit → Act → World → Prop} (h : ∀ K' : Act → World → Prop, (∀ a w, K a w → K' a w) → o.wp P a w K' Q) : o.wp P a w K Q := h K (fun _ _ h => h)

def dstOf (ops : Array Oper) (i : Nat) : Option Nat := (ops[i]?).bind (·.dst)

/-- What the kernel checks of the region. -/
def extB (ops : Array Oper) (n : Nat) (ds : List Nat) : Bool :=
  (ops.size == n + 1) && (List.range (n + 1)).all (fun i => match ops[i]? with
    | none => false
    | some o => o.guard.isNone && o.after.all (fun e => decide (e.on < i) && Region.binds .any e) &&
      (if i < n then (match o.dst with | none => false | some d => ds.contains d && (List.range n).all (fun j => decide (j = i) || !(dstOf ops j == some d)))
       else (List.range n).all (fun j => o.after.any (fun e => e.on == j))))

section
variable {P : Program} {ops : Array Oper} {Q : Exit → Act → World → Prop} {l : List Value} {ds : List Nat} {df : List Deferred}
  {n : Nat} {C : World → Prop} {E : World → World → Prop} {T : Nat → Value → World → Prop}

def unl (listed : Array Bool) : Nat := listed.toList.countP (fun b => !b)

theorem unl_set {listed : Array Bool} {i : Nat} (h : listed.getD i true = false) : unl (listed.setIfInBounds i true) + 1 = unl listed := by
  unfold unl
  obtain ⟨L⟩ := listed
  simp only [List.setIfInBounds_toArray] at *
  have h' : L[i]? = some false := by
    have : (L[i]?).getD true = false := by simpa using h
    cases hx : L[i]? with
    | none => rw [hx] at this; simp at this
    | some x => rw [hx] at this; simp at this; rw [this]
  clear h
  induction L generalizing i with
  | nil => simp at h'
  | cons y L ih =>
    cases i with
    | zero => simp at h'; subst h'; simp
    | succ i =>
      have := ih (i := i) (by simpa using h')
      simp only [List.set_cons_succ, List.countP_cons] at this ⊢
      omega

structure ExtInv (ops : Array Oper) (C : World → Prop) (T : Nat → Value → World → Prop) (n : Nat) (listed : Array Bool) (f : Nat → Value) (w : World) : Prop where
  size : listed.size = ops.size
  cls : C w
  known : ∀ i d, i < n → dstOf ops i = some d → listed.getD i false = true → T d (f d) w
  open_ : listed.getD n true = false

theorem extB_at (hB : extB ops n ds = true) {i : Nat} (hi : i ≤ n) : ∃ o, ops[i]? = some o ∧ o.guard = none ∧ (∀ e ∈ o.after, e.on < i ∧ Region.binds .any e = true) ∧
    (i < n → ∃ d, o.dst = some d ∧ ds.contains d = true ∧ ∀ j, j < n → j ≠ i → dstOf ops j ≠ some d) ∧ (i = n → ∀ j, j < n → ∃ e ∈ o.after, e.on = j) := by
  unfold extB at hB
  simp only [Bool.and_eq_true, beq_iff_eq, List.all_eq_true, List.mem_range] at hB
  have h := hB.2 i (by omega)
  cases ho : ops[i]? with
  | none => rw [ho] at h; simp at h
  | some o =>
    rw [ho] at h
    simp only [Bool.and_eq_true] at h
    obtain ⟨⟨h1, h2⟩, h3⟩ := h
    refine ⟨o, rfl, by simpa using h1, fun e he => ?_, fun hlt => ?_, fun heq j hj => ?_⟩
    · have := Array.all_eq_true_iff_forall_mem.1 h2 e he
      simpa using this
    · rw [if_pos hlt] at h3
      cases hd : o.dst with
      | none => rw [hd] at h3; simp at h3
      | some d =>
        rw [hd] at h3
        simp only [Bool.and_eq_true, List.all_eq_true, List.mem_range] at h3
        refine ⟨d, rfl, h3.1, fun j hj hne he => ?_⟩
        have := h3.2 j hj
        simp [hne, he] at this
    · rw [if_neg (by omega)] at h3
      have := List.all_eq_true.1 h3 j (by simpa using hj)
      obtain ⟨e, he, hb⟩ := Array.any_eq_true'.1 this
      exact ⟨e, he, by simpa using hb⟩

theorem ext_main (hB : extB ops n ds = true)
    (hst : ∀ d v w w', C w → E w w' → T d v w → T d v w')
    (exec : ∀ i o d, i < n → ops[i]? = some o → o.dst = some d → ∀ f w, C w → (∀ e ∈ o.after, ∀ d', dstOf ops e.on = some d' → T d' (f d') w) →
      o.wp P (fr l ds df f) w (fun a' w' => ∃ v, a' = (fr l ds df f).put (some d) v ∧ E w w' ∧ C w' ∧ T d v w') Q)
    (last : ∀ o, ops[n]? = some o → ∀ f w, C w → (∀ i d, i < n → dstOf ops i = some d → T d (f d) w) → o.wp P (fr l ds df f) w (fun a' w' => Q .normal a' w') Q) :
    ∀ (fuel : Nat) (listed : Array Bool) (f : Nat → Value) (w : World), ExtInv ops C T n listed f w → unl listed = fuel → wpAny P .any ops Q fuel listed (fr l ds df f) w := by
  have hsz : ops.size = n + 1 := by
    unfold extB at hB
    simp only [Bool.and_eq_true, beq_iff_eq] at hB
    exact hB.1
  have hpos : ∀ (listed : Array Bool) (f : Nat → Value) (w : World), ExtInv ops C T n listed f w → 0 < unl listed := by
    intro listed f w inv
    have := unl_set inv.open_
    omega
  -- some operation is ready
  have hready : ∀ (listed : Array Bool) (f : Nat → Value) (w : World), ExtInv ops C T n listed f w → Region.ready .any ops listed ≠ [] := by
    intro listed f w inv h0
    have key : ∀ k, k ≤ n → listed.getD k true = false → False := by
      intro k
      induction k using Nat.strongRecOn with
      | _ k ih =>
        intro hk hun
        obtain ⟨o, ho, _, haft, _⟩ := extB_at hB hk
        by_cases hall : ∀ e ∈ o.after, listed.getD e.on false = true
        · have : k ∈ Region.ready .any ops listed := mem_ready.2 ⟨hun, o, ho, fun e he _ => hall e he⟩
          rw [h0] at this; cases this
        · have : ∃ e ∈ o.after, listed.getD e.on false ≠ true := Classical.byContradiction fun hc => hall fun e he => Classical.byContradiction fun hn => hc ⟨e, he, hn⟩
          obtain ⟨e, he, hne⟩ := this
          have hlt := (haft e he).1
          refine ih e.on hlt (by omega) ?_
          have hin : e.on < listed.size := by rw [inv.size, hsz]; omega
          simp [hin] at hne ⊢
          exact hne
    exact key n (Nat.le_refl _) inv.open_
  intro fuel
  induction fuel with
  | zero =>
    intro listed f w inv h0
    have := hpos listed f w inv
    omega
  | succ fuel ih =>
    intro listed f w inv hu
    refine ⟨fun h0 => absurd h0 (hready listed f w inv), fun i hi => ?_⟩
    obtain ⟨hun, o, ho, hall⟩ := mem_ready.1 hi
    have hilt : i < ops.size := (Array.getElem?_eq_some_iff.1 ho).1
    obtain ⟨o', ho', hg, haft, hdst, hlast⟩ := extB_at hB (i := i) (by omega)
    obtain rfl : o' = o := Option.some.inj (ho'.symm.trans ho)
    have hlisted : ∀ e ∈ o'.after, listed.getD e.on false = true := fun e he => hall e he (haft e he).2
    unfold wpOp
    rw [ho]
    have hw : Region.wanted o' (yielded ops (fr l ds df f).tmps) = true := by simp [Region.wanted, hg]
    simp only [hw, if_true]
    left
    by_cases hin : i < n
    · obtain ⟨d, hd, hdm, hdu⟩ := hdst hin
      have hx := exec i o' d hin ho hd f w inv.cls (fun e he d' hd' => inv.known e.on d' (by have := (haft e he).1; omega) hd' (hlisted e he))
      refine Oper.wp_mono (fun a' w' hk => ?_) hx
      obtain ⟨v, rfl, hE, hC, hT⟩ := hk
      rw [fr_put _ _ _ _ _ _ hdm]
      refine ih _ _ _ ⟨by simpa using inv.size, hC, fun j d' hj hd' hl => ?_, by rw [getD_set_ne true (by omega)]; exact inv.open_⟩ (by have := unl_set hun; omega)
      by_cases hji : j = i
      · subst hji
        have : d' = d := by
          have : dstOf ops j = some d := by simp [dstOf, ho, hd]
          rw [this] at hd'; injection hd' with h; exact h.symm
        subst this
        simpa using hT
      · have hne : d' ≠ d := fun e => hdu j hj hji (e ▸ hd')
        rw [getD_set_ne false (Ne.symm hji)] at hl
        simp only [if_neg hne]
        exact hst d' _ w w' inv.cls hE (inv.known j d' hj hd' hl)
    · have hin' : i = n := by omega
      have hall' : ∀ j d, j < n → dstOf ops j = some d → T d (f d) w := fun j d hj hd => by
        obtain ⟨e, he, rfl⟩ := hlast hin' j hj
        exact inv.known _ d hj hd (hlisted e he)
      have hx := last o' (hin' ▸ ho) f w inv.cls hall'
      refine Oper.wp_mono (fun a' w' hk => ?_) hx
      -- all others are listed
      have hzero : unl (listed.setIfInBounds i true) = 0 := by
        unfold unl
        rw [List.countP_eq_zero]
        intro b hb
        obtain ⟨j, hj, rfl⟩ := List.getElem_of_mem hb
        have hjl : j < listed.size := by simpa using hj
        by_cases hji : i = j
        · subst hji; simp
        · have hjn : j < n := by rw [inv.size, hsz] at hjl; omega
          obtain ⟨e, he, rfl⟩ := hlast hin' j hjn
          have := hlisted e he
          simp [hjl] at this
          simp [hji, this]
      have hf0 : fuel = 0 := by have := unl_set hun; omega
      subst hf0
      refine ⟨?_, hk⟩
      apply List.eq_nil_iff_forall_not_mem.2
      intro j hj
      obtain ⟨hjun, oj, hoj, _⟩ := mem_ready.1 hj
      have hjs : j < ops.size := (Array.getElem?_eq_some_iff.1 hoj).1
      have hjl : j < listed.size := by rw [inv.size]; exact hjs
      by_cases hji : i = j
      · subst hji
        simp [hjl] at hjun
      · obtain ⟨e, he, rfl⟩ := hlast hin' j (by omega)
        have h1 := hlisted e he
        rw [getD_set_ne true hji] at hjun
        simp [hjl] at h1 hjun
        rw [h1] at hjun; cases hjun

theorem wp_region_ext {id : Nat} {w : World} (hm : P.follows .mixedOrders = true) (n : Nat) (ds : List Nat) (C : World → Prop) (E : World → World → Prop) (T : Nat → Value → World → Prop)
    (hB : extB ops n ds = true) (hC : C w.drew)
    (hst : ∀ d v w w', C w → E w w' → T d v w → T d v w')
    (exec : ∀ i o d, i < n → ops[i]? = some o → o.dst = some d → ∀ f w, C w → (∀ e ∈ o.after, ∀ d', dstOf ops e.on = some d' → T d' (f d') w) →
      ∀ K : Act → World → Prop, (∀ v w', E w w' → C w' → T d v w' → K ((fr l ds df f).put (some d) v) w') → o.wp P (fr l ds df f) w K Q)
    (last : ∀ o, ops[n]? = some o → ∀ f w, C w → (∀ i d, i < n → dstOf ops i = some d → T d (f d) w) → ∀ K : Act → World → Prop, (∀ a w, Q .normal a w → K a w) → o.wp P (fr l ds df f) w K Q) :
    (Code.region id ops true).wp P Q { tmps := l.toArray, defers := df } w := by
  have hsz : ops.size = n + 1 := by
    unfold extB at hB
    simp only [Bool.and_eq_true, beq_iff_eq] at hB
    exact hB.1
  refine wp_region_any hm ?_
  rw [← fr_start l ds df]
  refine ext_main hB hst (fun i o d hi ho hd f w hC hdep => exec i o d hi ho hd f w hC hdep _ (fun v w' h1 h2 h3 => ⟨v, rfl, h1, h2, h3⟩)) (fun o ho f w hC hall => last o ho f w hC hall _ (fun _ _ h => h)) _ _ _ _ ⟨by simp, hC, fun i d _ _ h => ?_, by simp [hsz]⟩ ?_
  · rw [show (Array.replicate ops.size false).getD i false = false by rcases Nat.lt_or_ge i ops.size with h | h <;> simp [h]] at h
    cases h
  · unfold unl; simp [List.countP_replicate]

/-- What the kernel checks of a region all of whose operations have a slot of their own. -/
def ext0B (ops : Array Oper) (n : Nat) (ds : List Nat) : Bool :=
  (ops.size == n) && (List.range n).all (fun i => match ops[i]? with
    | none => false
    | some o => o.guard.isNone && o.after.all (fun e => decide (e.on < i)) &&
      (match o.dst with | none => false | some d => ds.contains d && (List.range n).all (fun j => decide (j = i) || !(dstOf ops j == some d))))

theorem ext0B_at (hB : ext0B ops n ds = true) {i : Nat} (hi : i < n) : ∃ o d, ops[i]? = some o ∧ o.guard = none ∧ (∀ e ∈ o.after, e.on < i) ∧
    o.dst = some d ∧ ds.contains d = true ∧ ∀ j, j < n → j ≠ i → dstOf ops j ≠ some d := by
  unfold ext0B at hB
  simp only [Bool.and_eq_true, beq_iff_eq, List.all_eq_true, List.mem_range] at hB
  have h := hB.2 i hi
  cases ho : ops[i]? with
  | none => rw [ho] at h; simp at h
  | some o =>
    rw [ho] at h
    simp only [Bool.and_eq_true] at h
    obtain ⟨⟨h1, h2⟩, h3⟩ := h
    cases hd : o.dst with
    | none => rw [hd] at h3; simp at h3
    | some d =>
      rw [hd] at h3
      simp only [Bool.and_eq_true, List.all_eq_true, List.mem_range] at h3
      refine ⟨o, d, rfl, by simpa using h1, fun e he => ?_, hd, h3.1, fun j hj hne he => ?_⟩
      · have := Array.all_eq_true_iff_forall_mem.1 h2 e he
        simpa using this
      · have := h3.2 j hj
        simp [hne, he] at this

theorem ext0_main (hB : ext0B ops n ds = true)
    (hst : ∀ d v w w', C w → E w w' → T d v w → T d v w')
    (exec : ∀ i o d, i < n → ops[i]? = some o → o.dst = some d → ∀ f w, C w → (∀ e ∈ o.after, Region.binds .any e = true → ∀ d', dstOf ops e.on = some d' → T d' (f d') w) →
      o.wp P (fr l ds df f) w (fun a' w' => ∃ v, a' = (fr l ds df f).put (some d) v ∧ E w w' ∧ C w' ∧ T d v w') Q)
    (fin : ∀ f w, C w → (∀ i d, i < n → dstOf ops i = some d → T d (f d) w) → Q .normal (fr l ds df f) w) :
    ∀ (fuel : Nat) (listed : Array Bool) (f : Nat → Value) (w : World), listed.size = n → C w → (∀ i d, i < n → dstOf ops i = some d → listed.getD i false = true → T d (f d) w) → unl listed = fuel →
      wpAny P .any ops Q fuel listed (fr l ds df f) w := by
  have hsz : ops.size = n := by
    unfold ext0B at hB
    simp only [Bool.and_eq_true, beq_iff_eq] at hB
    exact hB.1
  have hall : ∀ (listed : Array Bool), listed.size = n → unl listed = 0 → ∀ i, i < n → listed.getD i false = true := by
    intro listed hl h0 i hi
    unfold unl at h0
    have := List.countP_eq_zero.1 h0 (listed[i]'(by omega)) (by simp)
    simp [show i < listed.size by omega]
    simpa using this
  intro fuel
  induction fuel with
  | zero =>
    intro listed f w hl hC hk hu
    refine ⟨?_, fin f w hC (fun i d hi hd => hk i d hi hd (hall listed hl hu i hi))⟩
    apply List.eq_nil_iff_forall_not_mem.2
    intro j hj
    obtain ⟨hjun, oj, hoj, _⟩ := mem_ready.1 hj
    have hjs : j < n := by rw [← hsz]; exact (Array.getElem?_eq_some_iff.1 hoj).1
    have h1 := hall listed hl hu j hjs
    simp [show j < listed.size by omega] at h1 hjun
    rw [h1] at hjun; cases hjun
  | succ fuel ih =>
    intro listed f w hl hC hk hu
    have hready : Region.ready .any ops listed ≠ [] := by
      intro h0
      have key : ∀ k, k < n → listed.getD k true = false → False := by
        intro k
        induction k using Nat.strongRecOn with
        | _ k ihk =>
          intro hk hun
          obtain ⟨o, d, ho, _, haft, _⟩ := ext0B_at hB hk
          by_cases ha : ∀ e ∈ o.after, listed.getD e.on false = true
          · have : k ∈ Region.ready .any ops listed := mem_ready.2 ⟨hun, o, ho, fun e he _ => ha e he⟩
            rw [h0] at this; cases this
          · have : ∃ e ∈ o.after, listed.getD e.on false ≠ true := Classical.byContradiction fun hc => ha fun e he => Classical.byContradiction fun hn => hc ⟨e, he, hn⟩
            obtain ⟨e, he, hne⟩ := this
            have hlt := haft e he
            refine ihk e.on hlt (by omega) ?_
            have hin : e.on < listed.size := by omega
            simp [hin] at hne ⊢
            exact hne
      have hz : unl listed = 0 := by
        unfold unl
        rw [List.countP_eq_zero]
        intro b hb
        obtain ⟨j, hj, rfl⟩ := List.getElem_of_mem hb
        have hjl : j < listed.size := by simpa using hj
        have : ¬ listed.getD j true = false := fun h => key j (by omega) h
        simp [hjl] at this ⊢
        exact this
      omega
    refine ⟨fun h0 => absurd h0 hready, fun i hi => ?_⟩
    obtain ⟨hun, o, ho, hal⟩ := mem_ready.1 hi
    have hilt : i < n := by rw [← hsz]; exact (Array.getElem?_eq_some_iff.1 ho).1
    obtain ⟨o', d, ho', hg, haft, hd, hdm, hdu⟩ := ext0B_at hB hilt
    obtain rfl : o' = o := Option.some.inj (ho'.symm.trans ho)
    have hlisted : ∀ e ∈ o'.after, Region.binds .any e = true → listed.getD e.on false = true := fun e he hb => hal e he hb
    unfold wpOp
    rw [ho]
    have hw : Region.wanted o' (yielded ops (fr l ds df f).tmps) = true := by simp [Region.wanted, hg]
    simp only [hw, if_true]
    left
    have hx := exec i o' d hilt ho hd f w hC (fun e he hb d' hd' => hk e.on d' (by have := haft e he; omega) hd' (hlisted e he hb))
    refine Oper.wp_mono (fun a' w' hk' => ?_) hx
    obtain ⟨v, rfl, hE, hC', hT⟩ := hk'
    rw [fr_put _ _ _ _ _ _ hdm]
    refine ih _ _ _ (by simpa using hl) hC' (fun j d' hj hd' hlj => ?_) (by have := unl_set hun; omega)
    by_cases hji : j = i
    · subst hji
      have : d' = d := by
        have : dstOf ops j = some d := by simp [dstOf, ho, hd]
        rw [this] at hd'; injection hd' with h; exact h.symm
      subst this
      simpa using hT
    · have hne : d' ≠ d := fun e => hdu j hj hji (e ▸ hd')
      rw [getD_set_ne false (Ne.symm hji)] at hlj
      simp only [if_neg hne]
      exact hst d' _ w w' hC hE (hk j d' hj hd' hlj)

theorem wp_region_ext0 {id : Nat} {w : World} (hm : P.follows .mixedOrders = true) (n : Nat) (ds : List Nat) (C : World → Prop) (E : World → World → Prop) (T : Nat → Value → World → Prop)
    (hB : ext0B ops n ds = true) (hC : C w.drew)
    (hst : ∀ d v w w', C w → E w w' → T d v w → T d v w')
    (exec : ∀ i o d, i < n → ops[i]? = some o → o.dst = some d → ∀ f w, C w → (∀ e ∈ o.after, Region.binds .any e = true → ∀ d', dstOf ops e.on = some d' → T d' (f d') w) →
      ∀ K : Act → World → Prop, (∀ v w', E w w' → C w' → T d v w' → K ((fr l ds df f).put (some d) v) w') → o.wp P (fr l ds df f) w K Q)
    (fin : ∀ f w, C w → (∀ i d, i < n → dstOf ops i = some d → T d (f d) w) → Q .normal (fr l ds df f) w) :
    (Code.region id ops true).wp P Q { tmps := l.toArray, defers := df } w := by
  have hsz : ops.size = n := by
    unfold ext0B at hB
    simp only [Bool.and_eq_true, beq_iff_eq] at hB
    exact hB.1
  refine wp_region_any hm ?_
  rw [← fr_start l ds df]
  refine ext0_main hB hst (fun i o d hi ho hd f w hC hdep => exec i o d hi ho hd f w hC hdep _ (fun v w' h1 h2 h3 => ⟨v, rfl, h1, h2, h3⟩)) fin _ _ _ _ (by simp [hsz]) hC (fun i d _ _ h => ?_) ?_
  · rw [show (Array.replicate ops.size false).getD i false = false by rcases Nat.lt_or_ge i ops.size with h | h <;> simp [h]] at h
    cases h
  · unfold unl; simp [List.countP_replicate]
end
end Go.Proofs.YtgpcojmdfmngeaaDoor

namespace Go.Proofs.YtgpcojmdfmngeaaDoor
open Go

/-- What the kernel checks of a region all of whose operations have a slot of their own (edges that do not bind may lead anywhere). -/
def ext1B (ops : Array Oper) (n : Nat) (ds : List Nat) : Bool :=
  (ops.size == n) && (List.range n).all (fun i => match ops[i]? with
    | none => false
    | some o => o.guard.isNone && o.after.all (fun e => decide (e.on < i) || !Region.binds .any e) &&
      (match o.dst with | none => false | some d => ds.contains d && (List.range n).all (fun j => decide (j = i) || !(dstOf ops j == some d))))
theorem ext1B_at {ops : Array Oper} {n : Nat} {ds : List Nat} (hB : ext1B ops n ds = true) {i : Nat} (hi : i < n) : ∃ o d, ops[i]? = some o ∧ o.guard = none ∧ (∀ e ∈ o.after, Region.binds .any e = true → e.on < i) ∧
    o.dst = some d ∧ ds.contains d = true ∧ ∀ j, j < n → j ≠ i → dstOf ops j ≠ some d := by
  unfold ext1B at hB
  simp only [Bool.and_eq_true, beq_iff_eq, List.all_eq_true, List.mem_range] at hB
  have h := hB.2 i hi
  cases ho : ops[i]? with
  | none => rw [ho] at h; simp at h
  | some o =>
    rw [ho] at h
    simp only [Bool.and_eq_true] at h
    obtain ⟨⟨h1, h2⟩, h3⟩ := h
    cases hd : o.dst with
    | none => rw [hd] at h3; simp at h3
    | some d =>
      rw [hd] at h3
      simp only [Bool.and_eq_true, List.all_eq_true, List.mem_range] at h3
      refine ⟨o, d, rfl, by simpa using h1, fun e he hb => ?_, hd, h3.1, fun j hj hne he => ?_⟩
      · have := Array.all_eq_true_iff_forall_mem.1 h2 e he
        simpa [hb] using this
      · have := h3.2 j hj
        simp [hne, he] at this

section
variable {P : Program} {ops : Array Oper} {Q : Exit → Act → World → Prop} {l : List Value} {ds : List Nat} {df : List Deferred} {n : Nat} {I : (Nat → Bool) → (Nat → Value) → World → Prop}

theorem gen_main (hB : ext1B ops n ds = true)
    (exec : ∀ i o d, i < n → ops[i]? = some o → o.dst = some d → ∀ dn f w, I dn f w → dn i = false → (∀ e ∈ o.after, Region.binds .any e = true → dn e.on = true) →
      o.wp P (fr l ds df f) w (fun a' w' => ∃ v, a' = (fr l ds df f).put (some d) v ∧ I (fun j => dn j || decide (j = i)) (fun t => if t = d then v else f t) w') Q)
    (fin : ∀ dn f w, I dn f w → (∀ i, i < n → dn i = true) → Q .normal (fr l ds df f) w) :
    ∀ (fuel : Nat) (listed : Array Bool) (f : Nat → Value) (w : World), listed.size = n → I (fun j => listed.getD j false) f w → unl listed = fuel → wpAny P .any ops Q fuel listed (fr l ds df f) w := by
  have hsz : ops.size = n := by
    unfold ext1B at hB
    simp only [Bool.and_eq_true, beq_iff_eq] at hB
    exact hB.1
  have hall : ∀ (listed : Array Bool), listed.size = n → unl listed = 0 → ∀ i, i < n → listed.getD i false = true := by
    intro listed hl h0 i hi
    unfold unl at h0
    have := List.countP_eq_zero.1 h0 (listed[i]'(by omega)) (by simp)
    simp [show i < listed.size by omega]
    simpa using this
  intro fuel
  induction fuel with
  | zero =>
    intro listed f w hl hI hu
    refine ⟨?_, fin _ f w hI (hall listed hl hu)⟩
    apply List.eq_nil_iff_forall_not_mem.2
    intro j hj
    obtain ⟨hjun, oj, hoj, _⟩ := mem_ready.1 hj
    have hjs : j < n := by rw [← hsz]; exact (Array.getElem?_eq_some_iff.1 hoj).1
    have h1 := hall listed hl hu j hjs
    simp [show j < listed.size by omega] at h1 hjun
    rw [h1] at hjun; cases hjun
  | succ fuel ih =>
    intro listed f w hl hI hu
    have hready : Region.ready .any ops listed ≠ [] := by
      intro h0
      have key : ∀ k, k < n → listed.getD k true = false → False := by
        intro k
        induction k using Nat.strongRecOn with
        | _ k ihk =>
          intro hk hun
          obtain ⟨o, d, ho, _, haft, _⟩ := ext1B_at hB hk
          by_cases ha : ∀ e ∈ o.after, Region.binds .any e = true → listed.getD e.on false = true
          · have : k ∈ Region.ready .any ops listed := mem_ready.2 ⟨hun, o, ho, ha⟩
            rw [h0] at this; cases this
          · have : ∃ e ∈ o.after, Region.binds .any e = true ∧ listed.getD e.on false ≠ true := Classical.byContradiction fun hc => ha fun e he hb => Classical.byContradiction fun hn => hc ⟨e, he, hb, hn⟩
            obtain ⟨e, he, hb, hne⟩ := this
            have hlt := haft e he hb
            refine ihk e.on hlt (by omega) ?_
            have hin : e.on < listed.size := by omega
            simp [hin] at hne ⊢
            exact hne
      have hz : unl listed = 0 := by
        unfold unl
        rw [List.countP_eq_zero]
        intro b hb
        obtain ⟨j, hj, rfl⟩ := List.getElem_of_mem hb
        have hjl : j < listed.size := by simpa using hj
        have : ¬ listed.getD j true = false := fun h => key j (by omega) h
        simp [hjl] at this ⊢
        exact this
      omega
    refine ⟨fun h0 => absurd h0 hready, fun i hi => ?_⟩
    obtain ⟨hun, o, ho, hal⟩ := mem_ready.1 hi
    have hilt : i < n := by rw [← hsz]; exact (Array.getElem?_eq_some_iff.1 ho).1
    obtain ⟨o', d, ho', hg, haft, hd, hdm, hdu⟩ := ext1B_at hB hilt
    obtain rfl : o' = o := Option.some.inj (ho'.symm.trans ho)
    unfold wpOp
    rw [ho]
    have hw : Region.wanted o' (yielded ops (fr l ds df f).tmps) = true := by simp [Region.wanted, hg]
    simp only [hw, if_true]
    left
    have hil : i < listed.size := by omega
    have hx := exec i o' d hilt ho hd _ f w hI (by simp [hil] at hun ⊢; exact hun) (fun e he hb => hal e he hb)
    refine Oper.wp_mono (fun a' w' hk' => ?_) hx
    obtain ⟨v, rfl, hI'⟩ := hk'
    rw [fr_put _ _ _ _ _ _ hdm]
    refine ih _ _ _ (by simpa using hl) ?_ (by have := unl_set hun; omega)
    have e : (fun j => (listed.setIfInBounds i true).getD j false) = (fun j => listed.getD j false || decide (j = i)) := by
      funext j
      by_cases hji : j = i
      · subst hji; simp [hil]
      · rw [getD_set_ne false (Ne.symm hji)]; simp [hji]
    rw [e]
    exact hI'

theorem wp_region_gen {id : Nat} {w : World} (hm : P.follows .mixedOrders = true) (n : Nat) (ds : List Nat) (I : (Nat → Bool) → (Nat → Value) → World → Prop)
    (hB : ext1B ops n ds = true) (h0 : I (fun _ => false) (fun t => (l[t]?).getD undef) w.drew)
    (exec : ∀ i o d, i < n → ops[i]? = some o → o.dst = some d → ∀ dn f w, I dn f w → dn i = false → (∀ e ∈ o.after, Region.binds .any e = true → dn e.on = true) →
      ∀ K : Act → World → Prop, (∀ v w', I (fun j => dn j || decide (j = i)) (fun t => if t = d then v else f t) w' → K ((fr l ds df f).put (some d) v) w') → o.wp P (fr l ds df f) w K Q)
    (fin : ∀ dn f w, I dn f w → (∀ i, i < n → dn i = true) → Q .normal (fr l ds df f) w) :
    (Code.region id ops true).wp P Q { tmps := l.toArray, defers := df } w := by
  have hsz : ops.size = n := by
    unfold ext1B at hB
    simp only [Bool.and_eq_true, beq_iff_eq] at hB
    exact hB.1
  refine wp_region_any hm ?_
  rw [← fr_start l ds df]
  refine gen_main hB (fun i o d hi ho hd dn f w hI hn hdep => exec i o d hi ho hd dn f w hI hn hdep _ (fun v w' h => ⟨v, rfl, h⟩)) fin _ _ _ _ (by simp [hsz]) ?_ ?_
  · have e : (fun j => (Array.replicate ops.size false).getD j false) = (fun _ => false) := by
      funext j
      rcases Nat.lt_or_ge j ops.size with h | h <;> simp [h]
    rw [e]; exact h0
  · unfold unl; simp [List.countP_replicate]
end

/-- What the kernel checks of a region of which some operations write no slot. -/
def ext2B (ops : Array Oper) (n : Nat) (ds : List Nat) : Bool :=
  (ops.size == n) && (List.range n).all (fun i => match ops[i]? with
    | none => false
    | some o => o.guard.isNone && o.after.all (fun e => decide (e.on < i) || !Region.binds .any e) &&
      (match o.dst with | none => true | some d => ds.contains d && (List.range n).all (fun j => decide (j = i) || !(dstOf ops j == some d))))
/-- The slots behind an operation. -/
def nextF (f : Nat → Value) (d : Option Nat) (v : Value) : Nat → Value := match d with | none => f | some d => fun t => if t = d then v else f t

theorem ext2B_at {ops : Array Oper} {n : Nat} {ds : List Nat} (hB : ext2B ops n ds = true) {i : Nat} (hi : i < n) : ∃ o, ops[i]? = some o ∧ o.guard = none ∧ (∀ e ∈ o.after, Region.binds .any e = true → e.on < i) ∧ ∀ d, o.dst = some d → ds.contains d = true := by
  unfold ext2B at hB
  simp only [Bool.and_eq_true, beq_iff_eq, List.all_eq_true, List.mem_range] at hB
  have h := hB.2 i hi
  cases ho : ops[i]? with
  | none => rw [ho] at h; simp at h
  | some o =>
    rw [ho] at h
    simp only [Bool.and_eq_true] at h
    obtain ⟨⟨h1, h2⟩, h3⟩ := h
    refine ⟨o, rfl, by simpa using h1, fun e he hb => ?_, fun d hd => ?_⟩
    · have := Array.all_eq_true_iff_forall_mem.1 h2 e he
      simpa [hb] using this
    · rw [hd] at h3
      simp only [Bool.and_eq_true] at h3
      exact h3.1

section
variable {P : Program} {ops : Array Oper} {Q : Exit → Act → World → Prop} {l : List Value} {ds : List Nat} {df : List Deferred} {n : Nat} {I : (Nat → Bool) → (Nat → Value) → World → Prop}

theorem gen2_main (hB : ext2B ops n ds = true)
    (exec : ∀ i o, i < n → ops[i]? = some o → ∀ dn f w, I dn f w → dn i = false → (∀ e ∈ o.after, Region.binds .any e = true → dn e.on = true) →
      o.wp P (fr l ds df f) w (fun a' w' => ∃ v, a' = (fr l ds df f).put o.dst v ∧ I (fun j => dn j || decide (j = i)) (nextF f o.dst v) w') Q)
    (fin : ∀ dn f w, I dn f w → (∀ i, i < n → dn i = true) → Q .normal (fr l ds df f) w) :
    ∀ (fuel : Nat) (listed : Array Bool) (f : Nat → Value) (w : World), listed.size = n → I (fun j => listed.getD j false) f w → unl listed = fuel → wpAny P .any ops Q fuel listed (fr l ds df f) w := by
  have hsz : ops.size = n := by
    unfold ext2B at hB
    simp only [Bool.and_eq_true, beq_iff_eq] at hB
    exact hB.1
  have hall : ∀ (listed : Array Bool), listed.size = n → unl listed = 0 → ∀ i, i < n → listed.getD i false = true := by
    intro listed hl h0 i hi
    unfold unl at h0
    have := List.countP_eq_zero.1 h0 (listed[i]'(by omega)) (by simp)
    simp [show i < listed.size by omega]
    simpa using this
  intro fuel
  induction fuel with
  | zero =>
    intro listed f w hl hI hu
    refine ⟨?_, fin _ f w hI (hall listed hl hu)⟩
    apply List.eq_nil_iff_forall_not_mem.2
    intro j hj
    obtain ⟨hjun, oj, hoj, _⟩ := mem_ready.1 hj
    have hjs : j < n := by rw [← hsz]; exact (Array.getElem?_eq_some_iff.1 hoj).1
    have h1 := hall listed hl hu j hjs
    simp [show j < listed.size by omega] at h1 hjun
    rw [h1] at hjun; cases hjun
  | succ fuel ih =>
    intro listed f w hl hI hu
    have hready : Region.ready .any ops listed ≠ [] := by
      intro h0
      have key : ∀ k, k < n → listed.getD k true = false → False := by
        intro k
        induction k using Nat.strongRecOn with
        | _ k ihk =>
          intro hk hun
          obtain ⟨o, ho, _, haft, _⟩ := ext2B_at hB hk
          by_cases ha : ∀ e ∈ o.after, Region.binds .any e = true → listed.getD e.on false = true
          · have : k ∈ Region.ready .any ops listed := mem_ready.2 ⟨hun, o, ho, ha⟩
            rw [h0] at this; cases this
          · have : ∃ e ∈ o.after, Region.binds .any e = true ∧ listed.getD e.on false ≠ true := Classical.byContradiction fun hc => ha fun e he hb => Classical.byContradiction fun hn => hc ⟨e, he, hb, hn⟩
            obtain ⟨e, he, hb, hne⟩ := this
            have hlt := haft e he hb
            refine ihk e.on hlt (by omega) ?_
            have hin : e.on < listed.size := by omega
            simp [hin] at hne ⊢
            exact hne
      have hz : unl listed = 0 := by
        unfold unl
        rw [List.countP_eq_zero]
        intro b hb
        obtain ⟨j, hj, rfl⟩ := List.getElem_of_mem hb
        have hjl : j < listed.size := by simpa using hj
        have : ¬ listed.getD j true = false := fun h => key j (by omega) h
        simp [hjl] at this ⊢
        exact this
      omega
    refine ⟨fun h0 => absurd h0 hready, fun i hi => ?_⟩
    obtain ⟨hun, o, ho, hal⟩ := mem_ready.1 hi
    have hilt : i < n := by rw [← hsz]; exact (Array.getElem?_eq_some_iff.1 ho).1
    obtain ⟨o', ho', hg, haft, hdm⟩ := ext2B_at hB hilt
    obtain rfl : o' = o := Option.some.inj (ho'.symm.trans ho)
    unfold wpOp
    rw [ho]
    have hw : Region.wanted o' (yielded ops (fr l ds df f).tmps) = true := by simp [Region.wanted, hg]
    simp only [hw, if_true]
    left
    have hil : i < listed.size := by omega
    have hx := exec i o' hilt ho _ f w hI (by simp [hil] at hun ⊢; exact hun) (fun e he hb => hal e he hb)
    refine Oper.wp_mono (fun a' w' hk' => ?_) hx
    obtain ⟨v, rfl, hI'⟩ := hk'
    have eput : (fr l ds df f).put o'.dst v = fr l ds df (nextF f o'.dst v) := by
      cases hdd : o'.dst with
      | none => rfl
      | some d => exact fr_put _ _ _ _ _ _ (hdm d hdd)
    rw [eput]
    refine ih _ _ _ (by simpa using hl) ?_ (by have := unl_set hun; omega)
    have e : (fun j => (listed.setIfInBounds i true).getD j false) = (fun j => listed.getD j false || decide (j = i)) := by
      funext j
      by_cases hji : j = i
      · subst hji; simp [hil]
      · rw [getD_set_ne false (Ne.symm hji)]; simp [hji]
    rw [e]
    exact hI'

theorem wp_region_gen2 {id : Nat} {w : World} (hm : P.follows .mixedOrders = true) (n : Nat) (ds : List Nat) (I : (Nat → Bool) → (Nat → Value) → World → Prop)
    (hB : ext2B ops n ds = true) (h0 : I (fun _ => false) (fun t => (l[t]?).getD undef) w.drew)
    (exec : ∀ i o, i < n → ops[i]? = some o → ∀ dn f w, I dn f w → dn i = false → (∀ e ∈ o.after, Region.binds .any e = true → dn e.on = true) →
      ∀ K : Act → World → Prop, (∀ v w', I (fun j => dn j || decide (j = i)) (nextF f o.dst v) w' → K ((fr l ds df f).put o.dst v) w') → o.wp P (fr l ds df f) w K Q)
    (fin : ∀ dn f w, I dn f w → (∀ i, i < n → dn i = true) → Q .normal (fr l ds df f) w) :
    (Code.region id ops true).wp P Q { tmps := l.toArray, defers := df } w := by
  have hsz : ops.size = n := by
    unfold ext2B at hB
    simp only [Bool.and_eq_true, beq_iff_eq] at hB
    exact hB.1
  refine wp_region_any hm ?_
  rw [← fr_start l ds df]
  refine gen2_main hB (fun i o hi ho dn f w hI hn hdep => exec i o hi ho dn f w hI hn hdep _ (fun v w' h => ⟨v, rfl, h⟩)) fin _ _ _ _ (by simp [hsz]) ?_ ?_
  · have e : (fun j => (Array.replicate ops.size false).getD j false) = (fun _ => false) := by
      funext j
      rcases Nat.lt_or_ge j ops.size with h | h <;> simp [h]
    rw [e]; exact h0
  · unfold unl; simp [List.countP_replicate]
end

section
variable {P : Program} {ops : Array Oper} {Q : Exit → Act → World → Prop} {l : List Value} {df : List Deferred}
/-- As wp_region_ext0, with one thing more that is kept: X, of what has been done. -/
theorem wp_region_extX {id : Nat} {w : World} (hm : P.follows .mixedOrders = true) (n : Nat) (ds : List Nat) (C : World → Prop) (E : World → World → Prop) (T : Nat → Value → World → Prop) (X : (Nat → Bool) → (Nat → Value) → World → Prop)
    (hB : ext1B ops n ds = true) (hC : C w.drew) (hX : X (fun _ => false) (fun t => (l[t]?).getD undef) w.drew)
    (hst : ∀ d v w w', C w → E w w' → T d v w → T d v w')
    (exec : ∀ i o d, i < n → ops[i]? = some o → o.dst = some d → ∀ dn f w, C w → X dn f w → (∀ j d', j < n → dstOf ops j = some d' → dn j = true → T d' (f d') w) → dn i = false → (∀ e ∈ o.after, Region.binds .any e = true → dn e.on = true) →
      ∀ K : Act → World → Prop, (∀ v w', E w w' → C w' → T d v w' → X (fun j => dn j || decide (j = i)) (fun t => if t = d then v else f t) w' → K ((fr l ds df f).put (some d) v) w') → o.wp P (fr l ds df f) w K Q)
    (fin : ∀ dn f w, C w → X dn f w → (∀ i, i < n → dn i = true) → (∀ i d, i < n → dstOf ops i = some d → T d (f d) w) → Q .normal (fr l ds df f) w) :
    (Code.region id ops true).wp P Q { tmps := l.toArray, defers := df } w := by
  refine wp_region_gen hm n ds (fun dn f w => C w ∧ X dn f w ∧ ∀ j d', j < n → dstOf ops j = some d' → dn j = true → T d' (f d') w) hB ⟨hC, hX, fun j d' _ _ h => by cases h⟩ ?_ (fun dn f w h hall => fin dn f w h.1 h.2.1 hall (fun i d hi hd => h.2.2 i d hi hd (hall i hi)))
  intro i o d hi ho hd dn f w h hni hdep K hK
  refine exec i o d hi ho hd dn f w h.1 h.2.1 h.2.2 hni hdep K (fun v w' hE hC' hT hX' => hK v w' ⟨hC', hX', fun j d' hj hd' hdn => ?_⟩)
  obtain ⟨o', d0, ho', _, _, hd0, _, hdu⟩ := ext1B_at hB hi
  obtain rfl : o' = o := Option.some.inj (ho'.symm.trans ho)
  obtain rfl : d0 = d := Option.some.inj (hd0.symm.trans hd)
  by_cases hji : j = i
  · subst hji
    have : d' = d0 := by
      have : dstOf ops j = some d0 := by simp [dstOf, ho, hd]
      rw [this] at hd'; injection hd' with h; exact h.symm
    subst this
    simpa using hT
  · have hne : d' ≠ d0 := fun e => hdu j hj hji (e ▸ hd')
    simp only [if_neg hne]
    have hdn' : dn j = true := by simpa [hji] using hdn
    exact hst d' _ w w' h.1 hE (h.2.2 j d' hj hd' hdn')

theorem wp_region_ext1 {id : Nat} {w : World} (hm : P.follows .mixedOrders = true) (n : Nat) (ds : List Nat) (C : World → Prop) (E : World → World → Prop) (T : Nat → Value → World → Prop)
    (hB : ext1B ops n ds = true) (hC : C w.drew)
    (hst : ∀ d v w w', C w → E w w' → T d v w → T d v w')
    (exec : ∀ i o d, i < n → ops[i]? = some o → o.dst = some d → ∀ f w, C w → (∀ e ∈ o.after, Region.binds .any e = true → ∀ d', dstOf ops e.on = some d' → T d' (f d') w) →
      ∀ K : Act → World → Prop, (∀ v w', E w w' → C w' → T d v w' → K ((fr l ds df f).put (some d) v) w') → o.wp P (fr l ds df f) w K Q)
    (fin : ∀ f w, C w → (∀ i d, i < n → dstOf ops i = some d → T d (f d) w) → Q .normal (fr l ds df f) w) :
    (Code.region id ops true).wp P Q { tmps := l.toArray, defers := df } w :=
  wp_region_extX hm n ds C E T (fun _ _ _ => True) hB hC trivial hst
    (fun i o d hi ho hd dn f w hC _ hT _ hdn K hK => exec i o d hi ho hd f w hC (fun e he hb d' hd' => by
      obtain ⟨o', d0, ho', _, haft, _⟩ := ext1B_at hB hi
      obtain rfl : o' = o := Option.some.inj (ho'.symm.trans ho)
      exact hT e.on d' (by have := haft e he hb; omega) hd' (hdn e he hb)) K (fun v w' h1 h2 h3 => hK v w' h1 h2 h3 trivial))
    (fun _ f w hC _ _ hT => fin f w hC hT)
end
end Go.Proofs.YtgpcojmdfmngeaaDoor

namespace Go.Proofs.YtgpcojmdfmngeaaDoor
namespace PO

/-- The value at a place, -1 outside. -/
def at_ (out : List Int) (v : Nat) : Int := (out[v]?).getD (-1)

theorem at_set (out : List Int) (w v : Nat) (x : Int) : at_ (out.set w x) v = if w = v ∧ v < out.length then x else at_ out v := by
  unfold at_
  rw [List.getElem?_set]
  by_cases h : w = v
  · subst h
    by_cases h2 : w < out.length
    · simp [h2]
    · simp [h2]
  · simp [h]

def scan (x : Int) : List Nat → List Int → List Nat → List Int × List Nat
  | [], out, q => (out, q)
  | w :: ws, out, q => if at_ out w < 0 then scan x ws (out.set w x) (q ++ [w]) else scan x ws out q

def bfs (nb : Nat → List Nat) : Nat → List Int → List Nat → List Int
  | 0, out, _ => out
  | _ + 1, out, [] => out
  | f + 1, out, v :: q => bfs nb f (scan (at_ out v + 1) (nb v) out q).1 (scan (at_ out v + 1) (nb v) out q).2

def negs (out : List Int) : Nat := out.countP (fun x => decide (x < 0))

theorem negs_set {out : List Int} {w : Nat} {x : Int} (hw : w < out.length) (h : at_ out w < 0) (hx : 0 ≤ x) : negs (out.set w x) + 1 = negs out := by
  induction out generalizing w with
  | nil => simp at hw
  | cons y l ih =>
    cases w with
    | zero =>
      have hy : y < 0 := by simpa [at_] using h
      have hx' : ¬ x < 0 := by omega
      simp [negs, hy, hx']
    | succ w =>
      have h1 : at_ l w < 0 := by simpa [at_] using h
      have h2 := ih (by simpa using hw) h1
      simp only [negs, List.set_cons_succ, List.countP_cons] at h2 ⊢
      omega

structure Scanned (N : Nat) (x : Int) (ws : List Nat) (out : List Int) (q : List Nat) (out' : List Int) (q' : List Nat) : Prop where
  len : out'.length = out.length
  old : ∀ u, 0 ≤ at_ out u → at_ out' u = at_ out u
  new : ∃ l, q' = q ++ l ∧ (∀ u ∈ l, at_ out u < 0 ∧ at_ out' u = x ∧ u ∈ ws) ∧ (∀ u, at_ out u < 0 → 0 ≤ at_ out' u → u ∈ l)
  all : ∀ u ∈ ws, 0 ≤ at_ out' u
  neg : negs out' + q'.length = negs out + q.length
  low : ∀ u, at_ out u < 0 → at_ out' u = at_ out u ∨ at_ out' u = x

theorem scanned {N : Nat} {x : Int} (hx : 0 ≤ x) : ∀ (ws : List Nat) (out : List Int) (q : List Nat), (∀ w ∈ ws, w < N) → out.length = N →
    Scanned N x ws out q (scan x ws out q).1 (scan x ws out q).2
  | [], out, q, _, _ => ⟨rfl, fun _ _ => rfl, ⟨[], by simp [scan], by simp, fun u h1 h2 => absurd h2 (by simp [scan]; omega)⟩, by simp, rfl, fun _ _ => .inl rfl⟩
  | w :: ws, out, q, hw, hl => by
    have hwN : w < N := hw w (by simp)
    have hws : ∀ w ∈ ws, w < N := fun u hu => hw u (by simp [hu])
    simp only [scan]
    by_cases h : at_ out w < 0
    · rw [if_pos h]
      have ih := scanned hx ws (out.set w x) (q ++ [w]) hws (by simpa using hl)
      generalize hr : scan x ws (out.set w x) (q ++ [w]) = r at ih
      obtain ⟨len, old, ⟨l, hq, hnew, hall⟩, all, neg, low⟩ := ih
      have hset : ∀ v, at_ (out.set w x) v = if w = v then x else at_ out v := fun v => by
        rw [at_set]
        by_cases e : w = v
        · subst e; simp [hl, hwN]
        · simp [e]
      refine ⟨by simpa using len, fun u hu => ?_, ⟨w :: l, by simp [hq], fun u hu => ?_, fun u h1 h2 => ?_⟩, fun u hu => ?_, ?_, fun u hu => ?_⟩
      · have e : w ≠ u := by rintro rfl; omega
        rw [old u (by rw [hset, if_neg e]; exact hu), hset, if_neg e]
      · rcases List.mem_cons.1 hu with rfl | hu
        · refine ⟨h, ?_, by simp⟩
          rw [old _ (by rw [hset, if_pos rfl]; exact hx), hset, if_pos rfl]
        · obtain ⟨g1, g2, g3⟩ := hnew u hu
          rw [hset] at g1
          by_cases e : w = u
          · rw [if_pos e] at g1; omega
          · rw [if_neg e] at g1
            exact ⟨g1, g2, by simp [g3]⟩
      · by_cases e : w = u
        · subst e; simp
        · exact List.mem_cons_of_mem _ (hall u (by rw [hset, if_neg e]; exact h1) h2)
      · rcases List.mem_cons.1 hu with rfl | hu
        · rw [old _ (by rw [hset, if_pos rfl]; exact hx), hset, if_pos rfl]; exact hx
        · exact all u hu
      · have := negs_set (out := out) (x := x) (by omega) h hx
        simp at neg ⊢
        omega
      · by_cases e : w = u
        · subst e
          right
          rw [old _ (by rw [hset, if_pos rfl]; exact hx), hset, if_pos rfl]
        · have := low u (by rw [hset, if_neg e]; exact hu)
          rwa [hset, if_neg e] at this
    · rw [if_neg h]
      have ih := scanned hx ws out q hws hl
      obtain ⟨len, old, ⟨l, hq, hnew, hall⟩, all, neg, low⟩ := ih
      refine ⟨len, old, ⟨l, hq, fun u hu => ?_, hall⟩, fun u hu => ?_, neg, low⟩
      · obtain ⟨g1, g2, g3⟩ := hnew u hu
        exact ⟨g1, g2, by simp [g3]⟩
      · rcases List.mem_cons.1 hu with rfl | hu
        · rw [old _ (by omega)]; omega
        · exact all u hu

structure Inv (N : Nat) (nb : Nat → List Nat) (goals : List Nat) (out : List Int) (q : List Nat) : Prop where
  len : out.length = N
  low : ∀ v, -1 ≤ at_ out v
  qge : ∀ v ∈ q, 0 ≤ at_ out v
  sorted : q.Pairwise (fun u v => at_ out u ≤ at_ out v)
  near : ∀ u ∈ q, ∀ v ∈ q, at_ out v ≤ at_ out u + 1
  doneLe : ∀ u, 0 ≤ at_ out u → u ∉ q → ∀ v ∈ q, at_ out u ≤ at_ out v
  doneNb : ∀ u, 0 ≤ at_ out u → u ∉ q → ∀ v ∈ nb u, 0 ≤ at_ out v ∧ at_ out v ≤ at_ out u + 1
  pred : ∀ v, 0 < at_ out v → ∃ u, v ∈ nb u ∧ 0 ≤ at_ out u ∧ at_ out v = at_ out u + 1
  zero : ∀ v, at_ out v = 0 ↔ v ∈ goals

theorem inv_step {N : Nat} {nb : Nat → List Nat} {goals : List Nat} (hnb : ∀ v, ∀ w ∈ nb v, w < N) {out : List Int} {v : Nat} {q : List Nat} (h : Inv N nb goals out (v :: q)) :
    Inv N nb goals (scan (at_ out v + 1) (nb v) out q).1 (scan (at_ out v + 1) (nb v) out q).2 := by
  have hv : 0 ≤ at_ out v := h.qge v (by simp)
  have hs := scanned (N := N) (x := at_ out v + 1) (by omega) (nb v) out q (hnb v) h.len
  generalize scan (at_ out v + 1) (nb v) out q = r at hs
  obtain ⟨out', q'⟩ := r
  obtain ⟨len, old, ⟨l, hq, hnew, hall⟩, all, neg, low⟩ := hs
  simp only at hq hnew hall all old low ⊢
  have hsor := List.pairwise_cons.1 h.sorted
  have oldq : ∀ u ∈ q, at_ out' u = at_ out u := fun u hu => old u (h.qge u (by simp [hu]))
  have vle : ∀ u ∈ q, at_ out v ≤ at_ out u := hsor.1
  have ule : ∀ u ∈ q, at_ out u ≤ at_ out v + 1 := fun u hu => h.near v (by simp) u (by simp [hu])
  -- what was found before: the value is that of before, or new
  have cases_ : ∀ u, 0 ≤ at_ out' u → (0 ≤ at_ out u ∧ at_ out' u = at_ out u) ∨ (u ∈ l ∧ at_ out' u = at_ out v + 1) := fun u hu => by
    by_cases h0 : 0 ≤ at_ out u
    · exact .inl ⟨h0, old u h0⟩
    · have hm := hall u (by omega) hu
      exact .inr ⟨hm, (hnew u hm).2.1⟩
  -- all found ones are at most one more than v
  have top : ∀ u, u ∈ nb v → at_ out' u ≤ at_ out v + 1 := fun u hu => by
    rcases cases_ u (all u hu) with ⟨h0, e⟩ | ⟨_, e⟩
    · rw [e]
      by_cases hm : u ∈ v :: q
      · exact h.near v (by simp) u hm
      · have := h.doneLe u h0 hm v (by simp); omega
    · omega
  refine ⟨by rw [len]; exact h.len, fun u => ?_, fun u hu => ?_, ?_, fun u hu w hw => ?_, fun u hu hn w hw => ?_, fun u hu hn w hw => ?_, fun u hu => ?_, fun u => ?_⟩
  · by_cases h0 : 0 ≤ at_ out u
    · rw [old u h0]; omega
    · rcases low u (by omega) with e | e
      · rw [e]; exact h.low u
      · omega
  · rw [hq] at hu
    rcases List.mem_append.1 hu with hu | hu
    · rw [oldq u hu]; exact h.qge u (by simp [hu])
    · rw [(hnew u hu).2.1]; omega
  · rw [hq, List.pairwise_append]
    refine ⟨?_, ?_, fun a ha b hb => ?_⟩
    · refine List.Pairwise.imp_of_mem (fun ha hb hab => ?_) hsor.2
      rw [oldq _ ha, oldq _ hb]; exact hab
    · refine List.Pairwise.imp_of_mem (R := fun _ _ => True) (fun ha hb _ => ?_) (List.pairwise_of_forall (fun _ _ => trivial))
      rw [(hnew _ ha).2.1, (hnew _ hb).2.1]; omega
    · rw [oldq a ha, (hnew b hb).2.1]; exact ule a ha
  · have lo : ∀ y ∈ q', at_ out v ≤ at_ out' y ∧ at_ out' y ≤ at_ out v + 1 := fun y hy => by
      rw [hq] at hy
      rcases List.mem_append.1 hy with hy | hy
      · rw [oldq y hy]; exact ⟨vle y hy, ule y hy⟩
      · rw [(hnew y hy).2.1]; omega
    have a := lo u hu; have b := lo w hw; omega
  · have hw' : at_ out v ≤ at_ out' w := by
      rw [hq] at hw
      rcases List.mem_append.1 hw with hw | hw
      · rw [oldq w hw]; exact vle w hw
      · rw [(hnew w hw).2.1]; omega
    rcases cases_ u hu with ⟨h0, e⟩ | ⟨hm, _⟩
    · rw [e]
      by_cases hm : u ∈ v :: q
      · rcases List.mem_cons.1 hm with rfl | hm
        · exact hw'
        · exact absurd (by rw [hq]; simp [hm]) hn
      · have := h.doneLe u h0 hm v (by simp); omega
    · exact absurd (by rw [hq]; simp [hm]) hn
  · rcases cases_ u hu with ⟨h0, e⟩ | ⟨hm, _⟩
    · by_cases hm : u ∈ v :: q
      · rcases List.mem_cons.1 hm with rfl | hm
        · rw [e]; exact ⟨all w hw, top w hw⟩
        · exact absurd (by rw [hq]; simp [hm]) hn
      · have := h.doneNb u h0 hm w hw
        rw [old w this.1, e]; exact this
    · exact absurd (by rw [hq]; simp [hm]) hn
  · rcases cases_ u (by omega) with ⟨h0, e⟩ | ⟨hm, e⟩
    · obtain ⟨p, hp1, hp2, hp3⟩ := h.pred u (by omega)
      exact ⟨p, hp1, by rw [old p hp2]; exact hp2, by rw [e, old p hp2]; exact hp3⟩
    · exact ⟨v, (hnew u hm).2.2, by rw [old v hv]; exact hv, by rw [e, old v hv]⟩
  · rw [← h.zero u]
    constructor
    · intro hu
      rcases cases_ u (by omega) with ⟨_, e⟩ | ⟨_, e⟩
      · omega
      · omega
    · intro hu
      rw [old u (by omega)]; exact hu

theorem inv_bfs {N : Nat} {nb : Nat → List Nat} {goals : List Nat} (hnb : ∀ v, ∀ w ∈ nb v, w < N) : ∀ (f : Nat) (out : List Int) (q : List Nat), Inv N nb goals out q → negs out + q.length ≤ f →
    Inv N nb goals (bfs nb f out q) []
  | 0, out, q, h, hf => by
    have : q = [] := List.eq_nil_of_length_eq_zero (by omega)
    subst this; exact h
  | f + 1, out, [], h, _ => h
  | f + 1, out, v :: q, h, hf => by
    simp only [bfs]
    have hs := scanned (N := N) (x := at_ out v + 1) (by have := h.qge v (by simp); omega) (nb v) out q (hnb v) h.len
    exact inv_bfs hnb f _ _ (inv_step hnb h) (by have := hs.neg; simp at hf; omega)

/-- What the distances are in the end. -/
structure Dist (N : Nat) (nb : Nat → List Nat) (goals : List Nat) (out : List Int) : Prop where
  len : out.length = N
  low : ∀ v, -1 ≤ at_ out v
  edge : ∀ u, 0 ≤ at_ out u → ∀ v ∈ nb u, 0 ≤ at_ out v ∧ at_ out v ≤ at_ out u + 1
  pred : ∀ v, 0 < at_ out v → ∃ u, v ∈ nb u ∧ 0 ≤ at_ out u ∧ at_ out v = at_ out u + 1
  zero : ∀ v, at_ out v = 0 ↔ v ∈ goals

theorem Inv.dist {N : Nat} {nb : Nat → List Nat} {goals : List Nat} {out : List Int} (h : Inv N nb goals out []) : Dist N nb goals out :=
  ⟨h.len, h.low, fun u hu v hv => h.doneNb u hu (by simp) v hv, h.pred, h.zero⟩

def mark (out : List Int) : List Nat → List Int
  | [] => out
  | g :: gs => mark (out.set g 0) gs

theorem mark_len : ∀ (gs : List Nat) (out : List Int), (mark out gs).length = out.length
  | [], _ => rfl
  | g :: gs, out => by simp [mark, mark_len gs]

theorem at_mark : ∀ (gs : List Nat) (out : List Int) (v : Nat), (∀ g ∈ gs, g < out.length) → at_ (mark out gs) v = if v ∈ gs then 0 else at_ out v
  | [], _, _, _ => by simp [mark]
  | g :: gs, out, v, h => by
    simp only [mark]
    rw [at_mark gs _ v (by intro x hx; simp; exact h x (by simp [hx])), at_set]
    have := h g (by simp)
    by_cases e : g = v
    · subst e; simp [this]
    · by_cases m : v ∈ gs
      · simp [m]
      · simp [m, e, Ne.symm e]

theorem at_rep (n v : Nat) : at_ (List.replicate n (-1)) v = -1 := by
  unfold at_
  rw [List.getElem?_replicate]
  split <;> rfl

theorem inv_start {N : Nat} {nb : Nat → List Nat} {goals : List Nat} (hg : ∀ g ∈ goals, g < N) : Inv N nb goals (mark (List.replicate N (-1)) goals) goals := by
  have hat : ∀ v, at_ (mark (List.replicate N (-1)) goals) v = if v ∈ goals then 0 else -1 := fun v => by
    rw [at_mark _ _ _ (by simpa using hg), at_rep]
  refine ⟨by simp [mark_len], fun v => ?_, fun v hv => ?_, ?_, fun u hu v hv => ?_, fun u hu hn => ?_, fun u hu hn => ?_, fun v hv => ?_, fun v => ?_⟩
  · rw [hat]; split <;> omega
  · rw [hat, if_pos hv]; omega
  · refine List.Pairwise.imp_of_mem (R := fun _ _ => True) (fun ha hb _ => ?_) (List.pairwise_of_forall (fun _ _ => trivial))
    rw [hat, if_pos ha, hat, if_pos hb]; omega
  · rw [hat, hat, if_pos hu, if_pos hv]; omega
  · rw [hat, if_neg hn] at hu; omega
  · rw [hat, if_neg hn] at hu; omega
  · rw [hat] at hv; split at hv <;> omega
  · rw [hat]; by_cases m : v ∈ goals <;> simp [m]

end PO
namespace PO
def Steps (nb : Nat → List Nat) : Nat → Nat → Nat → Prop
  | 0, u, v => u = v
  | n + 1, u, v => ∃ m, m ∈ nb u ∧ Steps nb n m v
theorem Steps.snoc {nb : Nat → List Nat} : ∀ {n u m v : Nat}, Steps nb n u m → v ∈ nb m → Steps nb (n + 1) u v
  | 0, u, m, v, h, hv => by
    have h : u = m := h
    subst h
    exact ⟨v, hv, rfl⟩
  | n + 1, u, m, v, ⟨x, hx, h⟩, hv => ⟨x, hx, Steps.snoc h hv⟩
theorem Steps.symm {nb : Nat → List Nat} (hs : ∀ u v, v ∈ nb u → u ∈ nb v) : ∀ {n u v : Nat}, Steps nb n u v → Steps nb n v u
  | 0, u, v, h => by
    have h : u = v := h
    exact h.symm
  | n + 1, u, v, ⟨x, hx, h⟩ => (Steps.symm hs h).snoc (hs u x hx)
theorem Steps.mono {nb nb' : Nat → List Nat} (hs : ∀ u v, v ∈ nb u → v ∈ nb' u) : ∀ {n u v : Nat}, Steps nb n u v → Steps nb' n u v
  | 0, _, _, h => h
  | _ + 1, u, _, ⟨x, hx, h⟩ => ⟨x, hs u x hx, Steps.mono hs h⟩
theorem Steps.trans {nb : Nat → List Nat} : ∀ {n m u x v : Nat}, Steps nb n u x → Steps nb m x v → ∃ k, Steps nb k u v
  | 0, m, u, x, v, h, h2 => by
    have h : u = x := h
    subst h
    exact ⟨m, h2⟩
  | n + 1, m, u, x, v, ⟨y, hy, h⟩, h2 => by
    obtain ⟨k, hk⟩ := Steps.trans h h2
    exact ⟨k + 1, y, hy, hk⟩

theorem Dist.le {N : Nat} {nb : Nat → List Nat} {goals : List Nat} {out : List Int} (h : Dist N nb goals out) : ∀ {n u v : Nat}, 0 ≤ at_ out u → Steps nb n u v → 0 ≤ at_ out v ∧ at_ out v ≤ at_ out u + n
  | 0, u, v, hu, hs => by
    have hs : u = v := hs
    subst hs
    omega
  | n + 1, u, v, hu, ⟨x, hx, hs⟩ => by
    have h1 := h.edge u hu x hx
    have h2 := Dist.le h h1.1 hs
    omega
theorem Dist.path {N : Nat} {nb : Nat → List Nat} {goals : List Nat} {out : List Int} (h : Dist N nb goals out) : ∀ (k v : Nat), at_ out v = k → ∃ g, g ∈ goals ∧ Steps nb k g v
  | 0, v, hk => ⟨v, (h.zero v).1 hk, rfl⟩
  | k + 1, v, hk => by
    obtain ⟨u, hu, h0, e⟩ := h.pred v (by omega)
    obtain ⟨g, hg, hs⟩ := Dist.path h k u (by omega)
    exact ⟨g, hg, hs.snoc hu⟩
/-- The distance of two nodes is one, whichever is the goal. -/
theorem Dist.symm {N : Nat} {nb : Nat → List Nat} {a b : Nat} {o1 o2 : List Int} (hs : ∀ u v, v ∈ nb u → u ∈ nb v) (h1 : Dist N nb [a] o1) (h2 : Dist N nb [b] o2) : at_ o1 b = at_ o2 a := by
  have key : ∀ {a b : Nat} {o1 o2 : List Int}, Dist N nb [a] o1 → Dist N nb [b] o2 → 0 ≤ at_ o1 b → 0 ≤ at_ o2 a ∧ at_ o2 a ≤ at_ o1 b := by
    intro a b o1 o2 h1 h2 h0
    obtain ⟨g, hg, hst⟩ := h1.path (at_ o1 b).toNat b (by omega)
    obtain rfl : g = a := by simpa using hg
    have := h2.le (u := b) (by rw [(h2.zero b).2 (by simp)]; omega) (hst.symm hs)
    rw [(h2.zero b).2 (by simp)] at this
    omega
  have l1 := h1.low b
  have l2 := h2.low a
  by_cases c1 : 0 ≤ at_ o1 b
  · have := key h1 h2 c1
    have := key h2 h1 this.1
    omega
  · by_cases c2 : 0 ≤ at_ o2 a
    · have := key h2 h1 c2; omega
    · omega
theorem Dist.mono {N : Nat} {nb nb' : Nat → List Nat} {gs : List Nat} {o1 o2 : List Int} (hs : ∀ u v, v ∈ nb u → v ∈ nb' u) (h1 : Dist N nb gs o1) (h2 : Dist N nb' gs o2) (v : Nat) (h0 : 0 ≤ at_ o1 v) : 0 ≤ at_ o2 v ∧ at_ o2 v ≤ at_ o1 v := by
  obtain ⟨g, hg, hst⟩ := h1.path (at_ o1 v).toNat v (by omega)
  have z := (h2.zero g).2 hg
  have := h2.le (u := g) (by omega) (hst.mono hs)
  omega
theorem pig : ∀ (N : Nat) (l : List Nat), l.Nodup → (∀ x ∈ l, x < N) → l.length ≤ N
  | 0, l, _, h => by
    cases l with
    | nil => simp
    | cons x l => exact absurd (h x (by simp)) (by omega)
  | N + 1, l, hn, h => by
    have ih := pig N (l.erase N) (hn.erase N) (fun x hx => by
      have := (hn.mem_erase_iff).1 hx
      have := h x this.2
      omega)
    rw [List.length_erase] at ih
    split at ih <;> omega
end PO
end Go.Proofs.YtgpcojmdfmngeaaDoor

namespace Go.Proofs.YtgpcojmdfmngeaaDoor
open Go.RowKit
set_option maxHeartbeats 400000

/-- Block bd is a deck. -/
def Deck (w : World) (bd : Nat) : Prop :=
  ∃ (A : Option Addr) (c : Nat) (xs : List Int) (i : Nat) (s : Int), w.heap[bd]? = some (.cells #[.slice A xs.length c, .int .i64 i, .int .u64 s] 107 (0, 0)) ∧ SI w (fun b => b < bd) A xs ∧ xs.length ≤ 400 ∧ i ≤ xs.length ∧ 0 ≤ s ∧ s < 18446744073709551616

theorem Deck.lt {w : World} {bd : Nat} (h : Deck w bd) : bd < w.heap.size := by
  obtain ⟨A, c, xs, i, s, h, _⟩ := h
  exact (Array.getElem?_eq_some_iff.1 h).1
/-- A deck stays one while its block and all other old ones are kept. -/
theorem Deck.keep {w w' : World} {bd : Nat} (h : Deck w bd) (k : ∀ b, b ≤ bd → w'.heap[b]? = w.heap[b]?) (hz : w.heap.size ≤ w'.heap.size) : Deck w' bd := by
  obtain ⟨A, c, xs, i, s, h1, h2, h3⟩ := h
  exact ⟨A, c, xs, i, s, (k bd (Nat.le_refl _)).trans h1, h2.keep ⟨hz, fun b hb _ => k b (Nat.le_of_lt hb)⟩, h3⟩
theorem Deck.below {w w' : World} {bd : Nat} (h : Deck w bd) (hb : Below w.heap.size w w') : Deck w' bd := h.keep (fun b hle => hb.block b (by have := h.lt; omega)) hb.size
theorem Deck.belowB {w w' : World} {bd B : Nat} (h : Deck w bd) (hb : Below B w w') (hB : bd < B) : Deck w' bd := h.keep (fun b hle => hb.block b (by omega)) hb.size

theorem few_any (w : World) (A : Option Addr) (n c : Nat) : Calls Tryd.prog 9 #[.slice A n c] w fun e w' => e = .returned (.bool (decide ((n : Int) ≤ 400))) ∧ w = w' := by
  go_enter Tryd.func9, Tryd.ntmps9
  go_wp2
  go_ret
  exact ⟨rfl, rfl⟩

theorem new_any (w : World) (S : Nat → Prop) (A : Option Addr) (c : Nat) (xs : List Int) (hs : SI w S A xs) (hl : xs.length ≤ 400) :
    Calls Tryd.prog 12 #[.slice A xs.length c] w fun e w' => e = .returned (.pointer (some ⟨w.heap.size, 0, none⟩)) ∧ Deck w' w.heap.size ∧ Below w.heap.size w w' ∧ w'.heap.size = w.heap.size + 1 := by
  go_enter Tryd.func12, Tryd.ntmps12
  go_wp2
  go_ret
  refine ⟨rfl, ⟨A, c, xs, 0, _, heap_alloc_new w _, (hs.mono (T := fun b => b < w.heap.size) (fun b hb _ => hb)).keep (Kept.alloc _ _ _), hl, Nat.zero_le _, by decide, by decide⟩, (Below.refl _ _).alloc (Nat.le_refl _) _, by simp⟩

theorem wrapu (x : Int) : 0 ≤ IntKind.u64.wrap x ∧ IntKind.u64.wrap x < 18446744073709551616 := by
  have h := Int.emod_nonneg x (show (18446744073709551616 : Int) ≠ 0 by decide)
  have h2 := Int.emod_lt_of_pos x (show (0 : Int) < 18446744073709551616 by decide)
  have e : IntKind.u64.wrap x = x % 18446744073709551616 := by simp [IntKind.wrap, IntKind.bits, IntKind.signed]
  rw [e]; exact ⟨h, h2⟩

theorem next_val (x n : Int) (h1 : 1 ≤ n) (h2 : n ≤ 1000) : ∃ r : Nat, wrap64 ((IntKind.u64.wrap x / 8589934592).tmod n) = r ∧ (r : Int) < n := by
  have h := (wrapu x).1
  generalize IntKind.u64.wrap x = y at *
  have h3 : 0 ≤ y / 8589934592 := Int.ediv_nonneg h (by decide)
  rw [Int.tmod_eq_emod_of_nonneg h3]
  have h4 := Int.emod_nonneg (y / 8589934592) (show n ≠ 0 by omega)
  have h5 := Int.emod_lt_of_pos (y / 8589934592) (show 0 < n by omega)
  refine ⟨((y / 8589934592) % n).toNat, ?_, by omega⟩
  rw [IntWalk.wrap64_in _ ⟨by omega, by omega⟩]; omega

theorem deck_after {w : World} {bd : Nat} {A : Option Addr} {c : Nat} {xs : List Int} {i j : Nat} {s x : Int} (k : Nat)
    (hb : w.heap[bd]? = some (.cells #[.slice A xs.length c, .int .i64 i, .int .u64 s] 107 (0, 0))) (hs : SI w (fun b => b < bd) A xs) (hl : xs.length ≤ 400) (hj : j ≤ xs.length) :
    Deck (((w.drewN k).setCell ⟨bd, 1, none⟩ (.int .i64 j)).setCell ⟨bd, 2, none⟩ (.int .u64 (IntKind.u64.wrap x))) bd ∧
    w.grownBy (((w.drewN k).setCell ⟨bd, 1, none⟩ (.int .i64 j)).setCell ⟨bd, 2, none⟩ (.int .u64 (IntKind.u64.wrap x))) (some bd) ∧
    (((w.drewN k).setCell ⟨bd, 1, none⟩ (.int .i64 j)).setCell ⟨bd, 2, none⟩ (.int .u64 (IntKind.u64.wrap x))).heap.size = w.heap.size := by
  have hg : ∀ b, b ≠ bd → (((w.drewN k).setCell ⟨bd, 1, none⟩ (.int .i64 j)).setCell ⟨bd, 2, none⟩ (.int .u64 (IntKind.u64.wrap x))).heap[b]? = w.heap[b]? := fun b hne => by
    rw [Below.heap_setCell _ _ _ _ hne, Below.heap_setCell _ _ _ _ hne]; rfl
  have hz : (((w.drewN k).setCell ⟨bd, 1, none⟩ (.int .i64 j)).setCell ⟨bd, 2, none⟩ (.int .u64 (IntKind.u64.wrap x))).heap.size = w.heap.size := by simp [World.setCell, World.drewN]
  refine ⟨⟨A, c, xs, j, _, ?_, hs.keep ⟨by rw [hz]; exact Nat.le_refl _, fun b hne _ => hg b (Nat.ne_of_lt hne)⟩, hl, hj, (wrapu x).1, (wrapu x).2⟩, ⟨rfl, rfl, rfl, by rw [hz]; exact Nat.le_refl _, fun b _ hne => hg b (by intro e; exact hne (by rw [e]))⟩, hz⟩
  simp [World.setCell, Array.getElem?_modify, hb]

theorem deck_after1 {w : World} {bd : Nat} {A : Option Addr} {c : Nat} {xs : List Int} {i : Nat} {s x : Int} (k : Nat)
    (hb : w.heap[bd]? = some (.cells #[.slice A xs.length c, .int .i64 i, .int .u64 s] 107 (0, 0))) (hs : SI w (fun b => b < bd) A xs) (hl : xs.length ≤ 400) (hj : i ≤ xs.length) :
    Deck ((w.drewN k).setCell ⟨bd, 2, none⟩ (.int .u64 (IntKind.u64.wrap x))) bd ∧
    w.grownBy ((w.drewN k).setCell ⟨bd, 2, none⟩ (.int .u64 (IntKind.u64.wrap x))) (some bd) ∧
    ((w.drewN k).setCell ⟨bd, 2, none⟩ (.int .u64 (IntKind.u64.wrap x))).heap.size = w.heap.size := by
  have hg : ∀ b, b ≠ bd → ((w.drewN k).setCell ⟨bd, 2, none⟩ (.int .u64 (IntKind.u64.wrap x))).heap[b]? = w.heap[b]? := fun b hne => by
    rw [Below.heap_setCell _ _ _ _ hne]; rfl
  have hz : ((w.drewN k).setCell ⟨bd, 2, none⟩ (.int .u64 (IntKind.u64.wrap x))).heap.size = w.heap.size := by simp [World.setCell, World.drewN]
  refine ⟨⟨A, c, xs, i, _, ?_, hs.keep ⟨by rw [hz]; exact Nat.le_refl _, fun b hne _ => hg b (Nat.ne_of_lt hne)⟩, hl, hj, (wrapu x).1, (wrapu x).2⟩, ⟨rfl, rfl, rfl, by rw [hz]; exact Nat.le_refl _, fun b _ hne => hg b (by intro e; exact hne (by rw [e]))⟩, hz⟩
  simp [World.setCell, Array.getElem?_modify, hb]

/-- What a deck gives. -/
def RetNext (w : World) (bd : Nat) (n : Int) (e : Ending) (w' : World) : Prop :=
  ∃ r : Nat, e = .returned (.int .i64 r) ∧ (1 ≤ n → (r : Int) < n) ∧ (n < 1 → r = 0) ∧ Deck w' bd ∧ w.grownBy w' (some bd) ∧ w'.heap.size = w.heap.size

theorem next_any (w : World) (bd : Nat) (h : Deck w bd) (n : Int) (hn : n ≤ 1000) : Calls Tryd.prog 22 #[.pointer (some ⟨bd, 0, none⟩), .int .i64 n] w (RetNext w bd n) := by
  obtain ⟨A, c, xs, i, s, hb, hs, hl, hi, hs0, hs1⟩ := h
  have c0 : w.cell? ⟨bd, 0, none⟩ = some (.slice A xs.length c) := by rw [cell_of_row w bd 0 _ _ _ hb]; rfl
  have c1 : w.cell? ⟨bd, 1, none⟩ = some (.int .i64 i) := by rw [cell_of_row w bd 1 _ _ _ hb]; rfl
  have c2 : w.cell? ⟨bd, 2, none⟩ = some (.int .u64 s) := by rw [cell_of_row w bd 2 _ _ _ hb]; rfl
  have f1 : w.frozen? ⟨bd, 1, none⟩ = false := by simp [World.frozen?, hb]
  have f2 : w.frozen? ⟨bd, 2, none⟩ = false := by simp [World.frozen?, hb]
  have Hb := Lib.hid hb
  clear hb
  by_cases hlt : i < xs.length
  · obtain ⟨b, off, rfl, hne, hbl, hc⟩ := hs.at_ hlt
    go_enter Tryd.func22, Tryd.ntmps22
    go_wp2_with (fail)
    go_quiet (fail)
    go_wp2_with (fail)
    go_quiet (fail)
    go_wp2_with (fail)
    all_goals go_ret
    · have hn1 : n < 1 := by assumption
      obtain ⟨d1, d2, d3⟩ := deck_after (j := i + 1) (x := IntKind.u64.wrap (IntKind.u64.wrap (s * 6364136223846793005) + IntKind.u64.wrap xs[i]) + 1442695040888963407) _ Hb.out hs hl hlt
      exact ⟨0, rfl, by omega, fun _ => rfl, d1, d2, d3⟩
    · have hn1 : 1 ≤ n := by assumption
      obtain ⟨r, hr, hr2⟩ := next_val (IntKind.u64.wrap (IntKind.u64.wrap (s * 6364136223846793005) + IntKind.u64.wrap xs[i]) + 1442695040888963407) n hn1 hn
      obtain ⟨d1, d2, d3⟩ := deck_after (j := i + 1) (x := IntKind.u64.wrap (IntKind.u64.wrap (s * 6364136223846793005) + IntKind.u64.wrap xs[i]) + 1442695040888963407) _ Hb.out hs hl hlt
      exact ⟨r, by rw [← hr]; rfl, fun _ => hr2, by omega, d1, d2, d3⟩
  · go_enter Tryd.func22, Tryd.ntmps22
    go_wp2_with (fail)
    go_quiet (fail)
    go_wp2_with (fail)
    all_goals go_ret
    · have hn1 : n < 1 := by assumption
      obtain ⟨d1, d2, d3⟩ := deck_after1 (x := IntKind.u64.wrap (IntKind.u64.wrap (s * 6364136223846793005)) + 1442695040888963407) _ Hb.out hs hl hi
      exact ⟨0, rfl, by omega, fun _ => rfl, d1, d2, d3⟩
    · have hn1 : 1 ≤ n := by assumption
      obtain ⟨r, hr, hr2⟩ := next_val (IntKind.u64.wrap (IntKind.u64.wrap (s * 6364136223846793005)) + 1442695040888963407) n hn1 hn
      obtain ⟨d1, d2, d3⟩ := deck_after1 (x := IntKind.u64.wrap (IntKind.u64.wrap (s * 6364136223846793005)) + 1442695040888963407) _ Hb.out hs hl hi
      exact ⟨r, by rw [← hr]; rfl, fun _ => hr2, by omega, d1, d2, d3⟩

/-- What One gives. -/
def RetOne (w : World) (bd : Nat) (e : Ending) (w' : World) : Prop :=
  ∃ b : Bool, e = .returned (.bool b) ∧ Deck w' bd ∧ w.grownBy w' (some bd) ∧ w'.heap.size = w.heap.size

theorem one_any (w : World) (bd : Nat) (h : Deck w bd) (n : Int) (hn : n ≤ 1000) : Calls Tryd.prog 14 #[.pointer (some ⟨bd, 0, none⟩), .int .i64 n] w (RetOne w bd) := by
  go_enter Tryd.func14, Tryd.ntmps14
  go_wp2_with (go_at_call 22; refine (next_any _ _ h _ hn).mono ?_; rintro e w1 ⟨r, rfl, _, _, d1, d2, d3⟩)
  go_ret
  exact ⟨_, rfl, d1, d2, d3⟩

/-- a name: a letter and two digits -/
def nm (letter : List UInt8) (k : Nat) : ByteArray := ⟨(letter ++ [48 + UInt8.ofNat (k / 10), 48 + UInt8.ofNat (k % 10)]).toArray⟩

theorem conv2 (W : World) (x y : Int) : (convert 152 9 (.slice (some ⟨W.heap.size, 0, none⟩) 2 2)).run Tryd.prog (W.alloc (.cells #[.int .u8 x, .int .u8 y] 5)) =
    .ok (.string ⟨#[UInt8.ofNat x.toNat, UInt8.ofNat y.toNat]⟩) (W.alloc (.cells #[.int .u8 x, .int .u8 y] 5)) := by
  rw [run_convert_bytes_string _ _ _ 5 _ _ _ Tryd.underlying152 Tryd.underlying5 Tryd.underlying9]
  rw [run_bytesToString _ _ 2 2 [x, y] (by
    refine run_loadCells_list _ ⟨W.heap.size, 0, none⟩ [.int .u8 x, .int .u8 y] (fun j u hj => ?_)
    rw [Addr.add_lit, cell_of_row _ W.heap.size (0 + j) _ _ _ (heap_alloc_new W _)]
    simpa using hj)]
  rfl

theorem name_exact (w : World) (l : List UInt8) (k : Nat) (hk : k < 100) (hl : l.length ≤ 10) : Calls Tryd.prog 105 #[.string ⟨l.toArray⟩, .int .i64 k] w fun e w' => e = .returned (.string (nm l k)) ∧ w.alloc (.cells #[.int .u8 (48 + k / 10), .int .u8 (48 + k % 10)] 5) = w' := by
  have hcv := conv2
  have hnl : ¬ 9223372036854775807 < l.length + 2 := by omega
  go_enter Tryd.func105, Tryd.ntmps105
  go_wp2
  go_ret
  refine ⟨?_, rfl⟩
  show Ending.returned (.string (⟨l.toArray⟩ ++ ⟨#[48 + UInt8.ofNat (k / 10), 48 + UInt8.ofNat (k % 10)]⟩)) = _
  unfold nm
  rw [ByteArray.mk_append_mk]
theorem name_any (w : World) (l : List UInt8) (k : Nat) (hk : k < 100) (hl : l.length ≤ 10) : Calls Tryd.prog 105 #[.string ⟨l.toArray⟩, .int .i64 k] w fun e w' => e = .returned (.string (nm l k)) ∧ Below w.heap.size w w' :=
  (name_exact w l k hk hl).mono fun _ _ ⟨h1, h2⟩ => ⟨h1, by subst h2; exact (Below.refl _ _).alloc (Nat.le_refl _) _⟩
end Go.Proofs.YtgpcojmdfmngeaaDoor

namespace Go.Proofs.YtgpcojmdfmngeaaDoor
open Go.RowKit
set_option maxHeartbeats 400000

structure Node where
  name : ByteArray
  cust : Int
  comp : Int
structure Dev where
  name : ByteArray
  kind : Int
  a : Int
  b : Int
  comp : Int

def nodeCells (x : Node) : List Value := [.string x.name, .int .i64 x.cust, .int .i64 x.comp]
def devCells (d : Dev) : List Value := [.string d.name, .int .i64 d.kind, .int .i64 d.a, .int .i64 d.b, .int .i64 d.comp]
def nodesV (xs : List Node) : List Value := xs.flatMap nodeCells
def devsV (xs : List Dev) : List Value := xs.flatMap devCells

theorem nodesV_len (xs : List Node) : (nodesV xs).length = xs.length * 3 := by
  induction xs with
  | nil => rfl
  | cons x xs ih => simp [nodesV, nodeCells] at ih ⊢; omega
theorem devsV_len (xs : List Dev) : (devsV xs).length = xs.length * 5 := by
  induction xs with
  | nil => rfl
  | cons x xs ih => simp [devsV, devCells] at ih ⊢; omega
theorem nodesV_snoc (xs : List Node) (x : Node) : nodesV (xs ++ [x]) = nodesV xs ++ nodeCells x := by simp [nodesV]
theorem devsV_snoc (xs : List Dev) (x : Dev) : devsV (xs ++ [x]) = devsV xs ++ devCells x := by simp [devsV]

theorem nodesV_at : ∀ (xs : List Node) (i : Nat) (x : Node), xs[i]? = some x → ∀ j, j < 3 → (nodesV xs)[i * 3 + j]? = (nodeCells x)[j]?
  | [], i, x, h => by simp at h
  | y :: ys, 0, x, h => by
    intro j hj
    simp at h
    subst h
    simp only [nodesV, List.flatMap_cons]
    rw [List.getElem?_append_left (by simp [nodeCells]; omega)]
    simp
  | y :: ys, i + 1, x, h => by
    intro j hj
    have ih := nodesV_at ys i x (by simpa using h) j hj
    simp only [nodesV, List.flatMap_cons] at ih ⊢
    rw [List.getElem?_append_right (by simp [nodeCells]; omega), ← ih]
    congr 1; simp [nodeCells]; omega
theorem devsV_at : ∀ (xs : List Dev) (i : Nat) (x : Dev), xs[i]? = some x → ∀ j, j < 5 → (devsV xs)[i * 5 + j]? = (devCells x)[j]?
  | [], i, x, h => by simp at h
  | y :: ys, 0, x, h => by
    intro j hj
    simp at h
    subst h
    simp only [devsV, List.flatMap_cons]
    rw [List.getElem?_append_left (by simp [devCells]; omega)]
    simp
  | y :: ys, i + 1, x, h => by
    intro j hj
    have ih := devsV_at ys i x (by simpa using h) j hj
    simp only [devsV, List.flatMap_cons] at ih ⊢
    rw [List.getElem?_append_right (by simp [devCells]; omega), ← ih]
    congr 1; simp [devCells]; omega

theorem nodeInfo : (Tryd.prog.info? 104).map (fun i => (i.zero, i.size, i.bytes)) = some (some (.agg #[.string ⟨#[]⟩, .int .i64 0, .int .i64 0]), 3, 32) := by kernel_rfl
theorem devInfo : (Tryd.prog.info? 78).map (fun i => (i.zero, i.size, i.bytes)) = some (some (.agg #[.string ⟨#[]⟩, .int .i64 0, .int .i64 0, .int .i64 0, .int .i64 0]), 5, 48) := by kernel_rfl

/-- append of one element of whatever type, whose cells lie in a block of their own, onto an owned slice. -/
theorem wpList_pushG {w : World} {ops : Array Oper} {rest : List Oper} {o : Oper} {a : Act} {Q : Exit → Act → World → Prop} (hgd : o.guard = none) (s x : Operand) (t e : TypeId) (z : Value) (size bytes : Nat)
    (ho : o.op = .call { callee := .builtin .append, args := #[s, x], argTypes := #[t, t] }) (ht : Tryd.prog.underlying t = some (.slice e))
    (hinfo : (Tryd.prog.info? e).map (fun i => (i.zero, i.size, i.bytes)) = some (some z, size, bytes)) (hzs : z.cells.size = size) (hsz : 0 < size)
    {S : Nat → Prop} {A : Option Addr} {n b c c2 : Nat} {xs ys : List Value} (hs : a.eval s = .slice A n c) (hx : a.eval x = .slice (some ⟨b, 0, none⟩) 1 c2)
    (hown : OV w S e size A n c xs) (hyl : ys.length = size) (hy1 : ∀ u ∈ ys, u.oneCell' = true) (hc : Lie w b 0 ys) (hbl : b < w.heap.size) (hb : n ≤ 65536) (hby : bytes ≤ 1048576)
    (h : ∀ A' c' w', OV w' (fun g => S g ∨ g = w.heap.size) e size A' (n + 1) c' (xs ++ ys) → w.grownBy w' (blockOf A) → (blockOf A' = blockOf A ∨ blockOf A' = some w.heap.size) →
      wpList Tryd.prog ops Q rest (a.put o.dst (.slice A' (n + 1) c')) w') : wpList Tryd.prog ops Q (o :: rest) a w := by
  obtain ⟨i0, hi, hz0, hz1, hz2⟩ := info_parts hinfo
  have hbytes : (n + 1) * bytes ≤ 140737488355328 := Nat.le_trans (Nat.mul_le_mul (show n + 1 ≤ 65537 by omega) hby) (by decide)
  obtain ⟨A', c', w', hr, h2, h3, h4⟩ := run_append_OV (P := Tryd.prog) w S t o.type e i0 z size bytes ht hi hz0 hz1 hz2 hzs hsz A n c xs hown (fun _ => True) (some ⟨b, 0, none⟩) 1 c2 ys (by omega)
    (fun _ => ⟨b, 0, rfl, trivial, hbl, hc⟩) hy1 (by simp only [maxLen]; omega) hbytes
  refine wpList_plain hgd fun K hK => ?_
  unfold Oper.wp execOp
  simp only [ho, resolve, invoke, builtin, Sem.run_bind, Sem.run_pure, Result.andThen_ok, List.map_toArray, List.map_cons, List.map_nil, hs, hx, hr]
  exact hK _ _ (h A' c' w' h2 h3 h4)

theorem OV.keep1 {w w' : World} {S : Nat → Prop} {e : TypeId} {size n c : Nat} {A : Option Addr} {xs : List Value} (h : OV w S e size A n c xs) (k : ∀ g, blockOf A = some g → w'.heap[g]? = w.heap[g]?) : OV w' S e size A n c xs := by
  obtain ⟨h1, h2, h3, h4⟩ := h
  refine ⟨h1, h2, h3, ?_⟩
  rcases h4 with h4 | ⟨g, off, cur, rfl, hs, hg, hsz, hc⟩
  · exact .inl h4
  · exact .inr ⟨g, off, cur, rfl, hs, (k g rfl).trans hg, hsz, hc⟩
/-- The block of an owned slice has its element's type. -/
theorem OV.type {w : World} {S : Nat → Prop} {e : TypeId} {size n c : Nat} {A : Option Addr} {xs : List Value} (h : OV w S e size A n c xs) : ∀ g, blockOf A = some g → S g ∧ ∃ cur, w.heap[g]? = some (.cells cur e (0, 0)) := by
  intro g hg
  rcases h.2.2.2 with ⟨rfl, _⟩ | ⟨g', off, cur, rfl, hs, hh, _⟩
  · simp [blockOf] at hg
  · simp [blockOf] at hg
    subst hg
    exact ⟨hs, cur, hh⟩
theorem ne_of_type {w : World} {g h : Nat} {cs ds : Array Value} {t u : TypeId} (hg : w.heap[g]? = some (.cells cs t (0, 0))) (hh : w.heap[h]? = some (.cells ds u (0, 0))) (ht : t ≠ u) : g ≠ h := by
  rintro rfl
  rw [hg] at hh
  injection hh with hh
  injection hh with _ e
  exact ht e

theorem Lie.new (w : World) (cs : List Value) (t : TypeId) : Lie (w.alloc (.cells cs.toArray t)) w.heap.size 0 cs := fun j u hj => by
  rw [cell_of_row _ w.heap.size (0 + j) cs.toArray t (0, 0) (heap_alloc_new w _)]; simpa using hj

/-- Of the blocks below B only bd may have changed. -/
structure Fr (B bd : Nat) (w w' : World) : Prop where
  os : w'.os = w.os
  tape : w'.tape = w.tape
  output : w'.output = w.output
  size : w.heap.size ≤ w'.heap.size
  block : ∀ k, k < B → k ≠ bd → w'.heap[k]? = w.heap[k]?
theorem Fr.refl (B bd : Nat) (w : World) : Fr B bd w w := ⟨rfl, rfl, rfl, Nat.le_refl _, fun _ _ _ => rfl⟩
theorem Fr.trans {B bd : Nat} {a b c : World} (h : Fr B bd a b) (k : Fr B bd b c) : Fr B bd a c :=
  ⟨k.os.trans h.os, k.tape.trans h.tape, k.output.trans h.output, Nat.le_trans h.size k.size, fun i hi hn => (k.block i hi hn).trans (h.block i hi hn)⟩
theorem Fr.of_below {B bd : Nat} {w w' : World} (h : Below B w w') : Fr B bd w w' := ⟨h.os, h.tape, h.output, h.size, fun k hk _ => h.block k hk⟩
theorem Fr.of_grown {B bd : Nat} {w w' : World} (h : w.grownBy w' (some bd)) (hB : B ≤ w.heap.size) : Fr B bd w w' := ⟨h.os, h.tape, h.output, h.size, fun k hk hn => h.block k (by omega) (by intro e; injection e with e; exact hn e)⟩

/-- The network that is being made. -/
def NB (w : World) (B gn gm gp bd : Nat) (M : Nat) (ns : List Node) (ds : List Dev) : Prop :=
  (∃ A1 c1 A2 c2, w.heap[gn]? = some (.cells #[.slice A1 ns.length c1, .slice A2 ds.length c2] 26 (0, 0)) ∧ OV w (fun g => B ≤ g) 104 3 A1 ns.length c1 (nodesV ns) ∧ OV w (fun g => B ≤ g) 78 5 A2 ds.length c2 (devsV ds)) ∧
  w.heap[gm]? = some (.cells #[.int .i64 M] 3 (0, 0)) ∧ w.heap[gp]? = some (.cells #[.pointer (some ⟨bd, 0, none⟩)] 31 (0, 0)) ∧ Deck w bd ∧ B ≤ gn ∧ gm ≠ bd ∧ gp ≠ bd ∧ bd < B

def letter (kind : Nat) : List UInt8 := match kind with | 1 => [76] | 2 => [81] | 3 => [68] | 4 => [69] | 5 => [83] | 6 => [71] | _ => []
def kindsCells : Array Value := #[.string ⟨#[]⟩, .string ⟨#[76]⟩, .string ⟨#[81]⟩, .string ⟨#[68]⟩, .string ⟨#[69]⟩, .string ⟨#[83]⟩, .string ⟨#[71]⟩]

/-- What the slots of the device's making hold. -/
def AddT (w0 : World) (gn kind k5 : Nat) (A2 : Option Addr) (c2 : Nat) (a b : Int) (d : Nat) (v : Value) (w : World) : Prop :=
  match d with
  | 15 => ∃ g, v = .slice (some ⟨g, 0, none⟩) 7 7 ∧ w.heap[g]? = some (.cells kindsCells 9 (0, 0))
  | 16 => v = .int .i64 kind
  | 17 => ∃ g, v = .pointer (some ⟨g, kind, none⟩) ∧ w.heap[g]? = some (.cells kindsCells 9 (0, 0))
  | 18 => v = .string ⟨(letter kind).toArray⟩
  | 19 => v = .pointer (some ⟨gn, 1, none⟩)
  | 20 => v = .slice A2 k5 c2
  | 21 => v = .int .i64 k5
  | 22 => v = .string (nm (letter kind) k5)
  | 23 => v = .int .i64 kind
  | 24 => v = .int .i64 a
  | 25 => v = .int .i64 b
  | 26 => v = .agg #[.string (nm (letter kind) k5), .int .i64 kind, .int .i64 a, .int .i64 b, .int .i64 0]
  | 9 => ∃ g, v = .pointer (some ⟨g, 0, none⟩) ∧ w0.heap.size ≤ g ∧ w.heap[g]? = some (.cells #[.string ⟨#[]⟩, .int .i64 0, .int .i64 0, .int .i64 0, .int .i64 0] 78 (0, 0))
  | _ => True

theorem AddT.stable {w0 : World} {gn kind k5 : Nat} {A2 : Option Addr} {c2 : Nat} {a b : Int} (d : Nat) (v : Value) (w w' : World) (h : Below w.heap.size w w') (ht : AddT w0 gn kind k5 A2 c2 a b d v w) : AddT w0 gn kind k5 A2 c2 a b d v w' := by
  have hk : ∀ (g : Nat) (o : Obj), w.heap[g]? = some o → w'.heap[g]? = some o := fun g o hg => (h.block g (Array.getElem?_eq_some_iff.1 hg).1).trans hg
  unfold AddT at *
  split at ht <;> first
    | exact ht
    | (obtain ⟨g, h1, h2⟩ := ht; exact ⟨g, h1, hk g _ h2⟩)
    | (obtain ⟨g, h1, h2, h3⟩ := ht; exact ⟨g, h1, h2, hk g _ h3⟩)

set_option maxHeartbeats 1000000 in
theorem add_any (w : World) (B gn gm gp bd M : Nat) (ns : List Node) (ds : List Dev) (hM : M ≤ 60) (h : NB w B gn gm gp bd M ns ds) (kind : Nat) (hk : 1 ≤ kind) (hk6 : kind ≤ 6) (a b : Int) :
    Calls Tryd.prog 106 #[.int .i64 kind, .int .i64 a, .int .i64 b, .pointer (some ⟨gn, 0, none⟩), .pointer (some ⟨gm, 0, none⟩), .pointer (some ⟨gp, 0, none⟩)] w
      fun e w' => e = .returned (.tuple #[]) ∧ Fr B bd w w' ∧ ((M ≤ ds.length ∧ NB w' B gn gm gp bd M ns ds) ∨
        (ds.length < M ∧ ∃ comp : Nat, comp ≤ 2 ∧ NB w' B gn gm gp bd M ns (ds ++ [⟨nm (letter kind) ds.length, kind, a, b, comp⟩]))) := by
  obtain ⟨⟨A1, c1, A2, c2, hgn, ho1, ho2⟩, hgm, hgp, hd, b1, b2, b3, b4⟩ := h
  have cn : w.cell? ⟨gn, 1, none⟩ = some (.slice A2 ds.length c2) := by rw [cell_of_row w gn 1 _ _ _ hgn]; rfl
  have cm : w.cell? ⟨gm, 0, none⟩ = some (.int .i64 M) := by rw [cell_of_row w gm 0 _ _ _ hgm]; rfl
  have cp : w.cell? ⟨gp, 0, none⟩ = some (.pointer (some ⟨bd, 0, none⟩)) := by rw [cell_of_row w gp 0 _ _ _ hgp]; rfl
  have Hgn := Lib.hid hgn
  have Hgm := Lib.hid hgm
  have Hgp := Lib.hid hgp
  clear hgn hgm hgp
  by_cases hfull : M ≤ ds.length
  · go_enter Tryd.func106, Tryd.ntmps106
    go_wp2_with (fail)
    refine bodyPost_ret (results_none rfl _ _ _) rfl ?_
    exact ⟨rfl, Fr.refl _ _ _, .inl ⟨hfull, ⟨A1, c1, A2, c2, Hgn.out, ho1, ho2⟩, Hgm.out, Hgp.out, hd, b1, b2, b3, b4⟩⟩
  · have hgnl : gn < w.heap.size := World.block_lt_of_cell? w _ cn
    have hkc : ∀ W : World, (W.alloc (.cells kindsCells 9)).cell? ⟨W.heap.size, kind, none⟩ = some (.string ⟨(letter kind).toArray⟩) := fun W => by
      rw [cell_of_row _ W.heap.size kind _ _ _ (heap_alloc_new W _)]
      have : kind = 1 ∨ kind = 2 ∨ kind = 3 ∨ kind = 4 ∨ kind = 5 ∨ kind = 6 := by omega
      rcases this with rfl | rfl | rfl | rfl | rfl | rfl <;> rfl
    have hkc' : kindsCells[kind]? = some (.string ⟨(letter kind).toArray⟩) := by
      have : kind = 1 ∨ kind = 2 ∨ kind = 3 ∨ kind = 4 ∨ kind = 5 ∨ kind = 6 := by omega
      rcases this with rfl | rfl | rfl | rfl | rfl | rfl <;> rfl
    clear hkc
    have Hkc := Lib.hid hkc'
    clear hkc'
    go_enter Tryd.func106, Tryd.ntmps106
    go_upto_region 1 with fail
    go_cut [9] (fun s9 wx => ∃ g : Nat, s9 = .pointer (some ⟨g, 0, none⟩) ∧ w.heap.size ≤ g ∧ wx.heap[g]? = some (.cells #[.string (nm (letter kind) ds.length), .int .i64 kind, .int .i64 a, .int .i64 b, .int .i64 0] 78 (0, 0)) ∧ Below w.heap.size w wx)
    case first =>
      refine wp_region_ext (by kernel_rfl) 13 [15, 16, 17, 18, 19, 20, 21, 22, 23, 24, 25, 26, 9] (fun w' => Below w.heap.size w w') (fun w1 w2 => Below w1.heap.size w1 w2) (AddT w gn kind ds.length A2 c2 a b) (by kernel_rfl) ((Below.refl _ _).drew) (fun d v w1 w2 _ h ht => AddT.stable d v w1 w2 h ht) ?_ ?_
      · have k2 : (kind : Int) < 7 := by omega
        clear Hgn Hgm Hgp ho1 ho2 hd cm cp b1 b2 b3 b4
        intro i o d hi ho hd f w1 hC hdep K hK
        have hi' : i = 0 ∨ i = 1 ∨ i = 2 ∨ i = 3 ∨ i = 4 ∨ i = 5 ∨ i = 6 ∨ i = 7 ∨ i = 8 ∨ i = 9 ∨ i = 10 ∨ i = 11 ∨ i = 12 := by omega
        rcases hi' with rfl | rfl | rfl | rfl | rfl | rfl | rfl | rfl | rfl | rfl | rfl | rfl | rfl
        · simp only [List.getElem?_toArray, List.getElem?_cons_zero, Option.some.injEq] at ho
          subst ho
          simp only [Option.some.injEq] at hd
          subst hd
          generalize hA : fr _ _ _ f = A at hK ⊢
          clear hA hdep
          go_simp
          exact hK _ _ ((Below.refl _ _).alloc (Nat.le_refl _) _) (hC.alloc hC.size _) ⟨w1.heap.size, rfl, heap_alloc_new w1 _⟩
        · simp only [List.getElem?_toArray, List.getElem?_cons_zero, List.getElem?_cons_succ, Option.some.injEq] at ho
          subst ho
          simp only [Option.some.injEq] at hd
          subst hd
          generalize hA : fr _ _ _ f = A at hK ⊢
          have e0 : A.tmps[0]?.getD undef = .int .i64 kind := by rw [← hA]; exact fr_out _ _ _ _ 0 _ (by decide) rfl
          clear hA hdep
          go_simp
          exact hK _ _ (Below.refl _ _) hC rfl
        · simp only [List.getElem?_toArray, List.getElem?_cons_zero, List.getElem?_cons_succ, Option.some.injEq] at ho
          subst ho
          simp only [Option.some.injEq] at hd
          subst hd
          have h15 : AddT w gn kind ds.length A2 c2 a b 15 (f 15) w1 := hdep { on := 0, ground := .data } (by simp) 15 rfl
          have h16 : AddT w gn kind ds.length A2 c2 a b 16 (f 16) w1 := hdep { on := 1, ground := .data } (by simp) 16 rfl
          generalize hA : fr _ _ _ f = A at hK ⊢
          have e15 : A.tmps[15]?.getD undef = f 15 := by rw [← hA]; exact fr_in _ _ _ _ 15 (by decide) (by simp)
          have e16 : A.tmps[16]?.getD undef = f 16 := by rw [← hA]; exact fr_in _ _ _ _ 16 (by decide) (by simp)
          clear hA hdep
          obtain ⟨g, h15, hg⟩ := h15
          have h16' : f 16 = .int .i64 kind := h16
          rw [h15] at e15
          rw [h16'] at e16
          clear h15 h16 h16'
          have Hg := Lib.hid hg
          clear hg
          go_simp
          exact hK _ _ (Below.refl _ _) hC ⟨g, rfl, Hg.out⟩
        · simp only [List.getElem?_toArray, List.getElem?_cons_zero, List.getElem?_cons_succ, Option.some.injEq] at ho
          subst ho
          simp only [Option.some.injEq] at hd
          subst hd
          have h17 : AddT w gn kind ds.length A2 c2 a b 17 (f 17) w1 := hdep { on := 2, ground := .data } (by simp) 17 rfl
          generalize hA : fr _ _ _ f = A at hK ⊢
          have e17 : A.tmps[17]?.getD undef = f 17 := by rw [← hA]; exact fr_in _ _ _ _ 17 (by decide) (by simp)
          clear hA hdep
          obtain ⟨g, h17, hg⟩ := h17
          rw [h17] at e17
          have hcell : w1.cell? ⟨g, kind, none⟩ = some (.string ⟨(letter kind).toArray⟩) := by rw [cell_of_row w1 g kind _ _ _ hg]; exact Hkc.out
          clear h17 hg
          go_simp
          exact hK _ _ (Below.refl _ _) hC rfl
        · simp only [List.getElem?_toArray, List.getElem?_cons_zero, List.getElem?_cons_succ, Option.some.injEq] at ho
          subst ho
          simp only [Option.some.injEq] at hd
          subst hd
          generalize hA : fr _ _ _ f = A at hK ⊢
          have e3 : A.tmps[3]?.getD undef = .pointer (some ⟨gn, 0, none⟩) := by rw [← hA]; exact fr_out _ _ _ _ 3 _ (by decide) rfl
          clear hA hdep
          go_simp
          exact hK _ _ (Below.refl _ _) hC rfl
        · simp only [List.getElem?_toArray, List.getElem?_cons_zero, List.getElem?_cons_succ, Option.some.injEq] at ho
          subst ho
          simp only [Option.some.injEq] at hd
          subst hd
          have h19 : AddT w gn kind ds.length A2 c2 a b 19 (f 19) w1 := hdep { on := 4, ground := .data } (by simp) 19 rfl
          generalize hA : fr _ _ _ f = A at hK ⊢
          have e19 : A.tmps[19]?.getD undef = f 19 := by rw [← hA]; exact fr_in _ _ _ _ 19 (by decide) (by simp)
          clear hA hdep
          have h19' : f 19 = .pointer (some ⟨gn, 1, none⟩) := h19
          rw [h19'] at e19
          have hcell : w1.cell? ⟨gn, 1, none⟩ = some (.slice A2 ds.length c2) := (hC.cell (p := ⟨gn, 1, none⟩) hgnl).trans cn
          clear h19 h19'
          go_simp
          exact hK _ _ (Below.refl _ _) hC rfl
        · simp only [List.getElem?_toArray, List.getElem?_cons_zero, List.getElem?_cons_succ, Option.some.injEq] at ho
          subst ho
          simp only [Option.some.injEq] at hd
          subst hd
          have h20 : AddT w gn kind ds.length A2 c2 a b 20 (f 20) w1 := hdep { on := 5, ground := .data } (by simp) 20 rfl
          generalize hA : fr _ _ _ f = A at hK ⊢
          have e20 : A.tmps[20]?.getD undef = f 20 := by rw [← hA]; exact fr_in _ _ _ _ 20 (by decide) (by simp)
          clear hA hdep
          have h20' : f 20 = .slice A2 ds.length c2 := h20
          rw [h20'] at e20
          clear h20 h20'
          go_simp
          exact hK _ _ (Below.refl _ _) hC rfl
        · simp only [List.getElem?_toArray, List.getElem?_cons_zero, List.getElem?_cons_succ, Option.some.injEq] at ho
          subst ho
          simp only [Option.some.injEq] at hd
          subst hd
          have h18 : AddT w gn kind ds.length A2 c2 a b 18 (f 18) w1 := hdep { on := 3, ground := .data } (by simp) 18 rfl
          have h21 : AddT w gn kind ds.length A2 c2 a b 21 (f 21) w1 := hdep { on := 6, ground := .data } (by simp) 21 rfl
          generalize hA : fr _ _ _ f = A at hK ⊢
          have e18 : A.tmps[18]?.getD undef = f 18 := by rw [← hA]; exact fr_in _ _ _ _ 18 (by decide) (by simp)
          have e21 : A.tmps[21]?.getD undef = f 21 := by rw [← hA]; exact fr_in _ _ _ _ 21 (by decide) (by simp)
          clear hA hdep
          have h18' : f 18 = .string ⟨(letter kind).toArray⟩ := h18
          have h21' : f 21 = .int .i64 ds.length := h21
          rw [h18'] at e18
          rw [h21'] at e21
          clear h18 h18' h21 h21'
          go_simp
          refine (name_any _ (letter kind) ds.length (by omega) (by unfold letter; split <;> decide)).mono ?_
          rintro e w2 ⟨rfl, hb2⟩
          exact hK _ _ hb2 (hC.trans (hb2.mono hC.size)) rfl
        · simp only [List.getElem?_toArray, List.getElem?_cons_zero, List.getElem?_cons_succ, Option.some.injEq] at ho
          subst ho
          simp only [Option.some.injEq] at hd
          subst hd
          generalize hA : fr _ _ _ f = A at hK ⊢
          have e0 : A.tmps[0]?.getD undef = .int .i64 kind := by rw [← hA]; exact fr_out _ _ _ _ 0 _ (by decide) rfl
          clear hA hdep
          go_simp
          exact hK _ _ (Below.refl _ _) hC rfl
        · simp only [List.getElem?_toArray, List.getElem?_cons_zero, List.getElem?_cons_succ, Option.some.injEq] at ho
          subst ho
          simp only [Option.some.injEq] at hd
          subst hd
          generalize hA : fr _ _ _ f = A at hK ⊢
          have e1 : A.tmps[1]?.getD undef = .int .i64 a := by rw [← hA]; exact fr_out _ _ _ _ 1 _ (by decide) rfl
          clear hA hdep
          go_simp
          exact hK _ _ (Below.refl _ _) hC rfl
        · simp only [List.getElem?_toArray, List.getElem?_cons_zero, List.getElem?_cons_succ, Option.some.injEq] at ho
          subst ho
          simp only [Option.some.injEq] at hd
          subst hd
          generalize hA : fr _ _ _ f = A at hK ⊢
          have e2 : A.tmps[2]?.getD undef = .int .i64 b := by rw [← hA]; exact fr_out _ _ _ _ 2 _ (by decide) rfl
          clear hA hdep
          go_simp
          exact hK _ _ (Below.refl _ _) hC rfl
        · simp only [List.getElem?_toArray, List.getElem?_cons_zero, List.getElem?_cons_succ, Option.some.injEq] at ho
          subst ho
          simp only [Option.some.injEq] at hd
          subst hd
          have h22 : AddT w gn kind ds.length A2 c2 a b 22 (f 22) w1 := hdep { on := 7, ground := .data } (by simp) 22 rfl
          have h23 : AddT w gn kind ds.length A2 c2 a b 23 (f 23) w1 := hdep { on := 8, ground := .data } (by simp) 23 rfl
          have h24 : AddT w gn kind ds.length A2 c2 a b 24 (f 24) w1 := hdep { on := 9, ground := .data } (by simp) 24 rfl
          have h25 : AddT w gn kind ds.length A2 c2 a b 25 (f 25) w1 := hdep { on := 10, ground := .data } (by simp) 25 rfl
          generalize hA : fr _ _ _ f = A at hK ⊢
          have e22 : A.tmps[22]?.getD undef = f 22 := by rw [← hA]; exact fr_in _ _ _ _ 22 (by decide) (by simp)
          have e23 : A.tmps[23]?.getD undef = f 23 := by rw [← hA]; exact fr_in _ _ _ _ 23 (by decide) (by simp)
          have e24 : A.tmps[24]?.getD undef = f 24 := by rw [← hA]; exact fr_in _ _ _ _ 24 (by decide) (by simp)
          have e25 : A.tmps[25]?.getD undef = f 25 := by rw [← hA]; exact fr_in _ _ _ _ 25 (by decide) (by simp)
          clear hA hdep
          have h22' : f 22 = .string (nm (letter kind) ds.length) := h22
          have h23' : f 23 = .int .i64 kind := h23
          have h24' : f 24 = .int .i64 a := h24
          have h25' : f 25 = .int .i64 b := h25
          rw [h22'] at e22
          rw [h23'] at e23
          rw [h24'] at e24
          rw [h25'] at e25
          clear h22 h22' h23 h23' h24 h24' h25 h25'
          go_simp
          exact hK _ _ (Below.refl _ _) hC rfl
        · simp only [List.getElem?_toArray, List.getElem?_cons_zero, List.getElem?_cons_succ, Option.some.injEq] at ho
          subst ho
          simp only [Option.some.injEq] at hd
          subst hd
          generalize hA : fr _ _ _ f = A at hK ⊢
          clear hA hdep
          go_simp
          exact hK _ _ ((Below.refl _ _).alloc (Nat.le_refl _) _) (hC.alloc hC.size _) ⟨w1.heap.size, rfl, hC.size, heap_alloc_new w1 _⟩
      · intro o ho f w1 hC hall K hK
        simp only [List.getElem?_toArray, List.getElem?_cons_zero, List.getElem?_cons_succ, Option.some.injEq] at ho
        subst ho
        have h9 : AddT w gn kind ds.length A2 c2 a b 9 (f 9) w1 := hall 12 9 (by decide) rfl
        have h26 : AddT w gn kind ds.length A2 c2 a b 26 (f 26) w1 := hall 11 26 (by decide) rfl
        clear hall
        have HK := Lib.hid hK
        clear hK
        generalize hA : fr _ _ _ f = A
        have e9 : A.tmps[9]?.getD undef = f 9 := by rw [← hA]; exact fr_in _ _ _ _ 9 (by decide) (by simp)
        have e26 : A.tmps[26]?.getD undef = f 26 := by rw [← hA]; exact fr_in _ _ _ _ 26 (by decide) (by simp)
        have HA := Lib.hid hA
        clear hA
        have hx : ∃ g, f 9 = .pointer (some ⟨g, 0, none⟩) ∧ w.heap.size ≤ g ∧ w1.heap[g]? = some (.cells #[.string ⟨#[]⟩, .int .i64 0, .int .i64 0, .int .i64 0, .int .i64 0] 78 (0, 0)) := h9
        obtain ⟨g, h9', hg9, hb9⟩ := hx
        have h26' : f 26 = .agg #[.string (nm (letter kind) ds.length), .int .i64 kind, .int .i64 a, .int .i64 b, .int .i64 0] := h26
        rw [h9'] at e9
        rw [h26'] at e26
        have q0 : w1.cell? ⟨g, 0, none⟩ = some (.string ⟨#[]⟩) := by rw [cell_of_row w1 g 0 _ _ _ hb9]; rfl
        have q1 : w1.cell? ⟨g, 1, none⟩ = some (.int .i64 0) := by rw [cell_of_row w1 g 1 _ _ _ hb9]; rfl
        have q2 : w1.cell? ⟨g, 2, none⟩ = some (.int .i64 0) := by rw [cell_of_row w1 g 2 _ _ _ hb9]; rfl
        have q3 : w1.cell? ⟨g, 3, none⟩ = some (.int .i64 0) := by rw [cell_of_row w1 g 3 _ _ _ hb9]; rfl
        have q4 : w1.cell? ⟨g, 4, none⟩ = some (.int .i64 0) := by rw [cell_of_row w1 g 4 _ _ _ hb9]; rfl
        have fz : ∀ o, w1.frozen? ⟨g, o, none⟩ = false := fun o => by simp [World.frozen?, hb9]
        have Hb9 := Lib.hid hb9
        have HF := Lib.hid (And.intro h9' h26')
        clear hb9 h9 h26 h9' h26'
        go_simp
        refine HK.out _ _ ?_
        rw [← HA.out]
        simp only [fr, upd, List.mapIdx_cons, List.mapIdx_nil]
        simp
        go_wp2_with fail
        go_meet
        case rel =>
          refine ⟨g, HF.out.1, hg9, ?_, ((((hC.setCell hg9 _).setCell hg9 _).setCell hg9 _).setCell hg9 _).setCell hg9 _⟩
          simp [World.setCell, Array.getElem?_modify, Hb9.out]
    case rest =>
      obtain ⟨g, rfl, hg, hbg, hbel⟩ := hcut
      have Hbg := Lib.hid hbg
      clear hbg Hkc
      have hgml : gm < w.heap.size := World.block_lt_of_cell? w _ cm
      have hgpl : gp < w.heap.size := World.block_lt_of_cell? w _ cp
      have cp' : wc.cell? ⟨gp, 0, none⟩ = some (.pointer (some ⟨bd, 0, none⟩)) := (hbel.cell (p := ⟨gp, 0, none⟩) hgpl).trans cp
      have hdc : Deck wc bd := hd.below hbel
      go_upto_if 28 with (go_at_call 14; refine (one_any _ _ hdc _ (by decide)).mono ?_; rintro e w2 ⟨bb, rfl, hd2, hg2, hz2⟩)
      have hfr2 : Fr w.heap.size bd w w2 := (Fr.of_below hbel).trans (Fr.of_grown hg2 (by have := hbel.size; omega))
      have hbd : bd < w.heap.size := by omega
      have hb2 : w2.heap[g]? = some (.cells #[.string (nm (letter kind) ds.length), .int .i64 kind, .int .i64 a, .int .i64 b, .int .i64 0] 78 (0, 0)) :=
        (hg2.block g (Array.getElem?_eq_some_iff.1 Hbg.out).1 (by intro e; injection e with e; omega)).trans Hbg.out
      have Hb2 := Lib.hid hb2
      have HC := Lib.hid (And.intro cn (And.intro cm cp))
      clear hb2 Hbg cp' hdc hbel hg2 hz2 cn cm cp wc
      go_cut [] (fun wx => ∃ comp : Nat, comp ≤ 2 ∧ wx.heap[g]? = some (.cells #[.string (nm (letter kind) ds.length), .int .i64 kind, .int .i64 a, .int .i64 b, .int .i64 comp] 78 (0, 0)) ∧ Deck wx bd ∧ Fr w.heap.size bd w wx)
      case first =>
        cases bb
        · go_wp2_with fail
          go_meet
          case rel => exact ⟨0, by omega, Hb2.out, hd2, hfr2⟩
        · have cp2 : w2.cell? ⟨gp, 0, none⟩ = some (.pointer (some ⟨bd, 0, none⟩)) := (World.cell?_of_block (a := ⟨gp, 0, none⟩) (hfr2.block gp hgpl (by omega))).trans HC.out.2.2
          go_wp2_with fail
          refine (next_any _ _ hd2 _ (by decide)).mono ?_
          rintro e w3 ⟨r, rfl, hr1, _, hd3, hg3, hz3⟩
          have hr2 : r < 2 := by have := hr1 (by decide); omega
          clear hr1
          have hb3 : w3.heap[g]? = some (.cells #[.string (nm (letter kind) ds.length), .int .i64 kind, .int .i64 a, .int .i64 b, .int .i64 0] 78 (0, 0)) :=
            (hg3.block g (Array.getElem?_eq_some_iff.1 Hb2.out).1 (by intro e; injection e with e; omega)).trans Hb2.out
          have q4 : w3.cell? ⟨g, 4, none⟩ = some (.int .i64 0) := by rw [cell_of_row w3 g 4 _ _ _ hb3]; rfl
          have f4 : w3.frozen? ⟨g, 4, none⟩ = false := by simp [World.frozen?, hb3]
          have Hb3 := Lib.hid hb3
          clear hb3 cp2
          go_wp2_with fail
          go_meet
          case rel =>
            refine ⟨1 + r, by omega, ?_, hd3.keep (fun b hb => Below.heap_setCell _ _ _ _ (by show b ≠ g; omega)) (by simp [World.setCell]), (hfr2.trans (Fr.of_grown hg3 (by have := hfr2.size; omega))).trans ⟨rfl, rfl, rfl, by simp [World.setCell], fun k hk _ => Below.heap_setCell _ _ _ _ (by show k ≠ g; omega)⟩⟩
            simp [World.setCell, Array.getElem?_modify, Hb3.out]
      case rest =>
        obtain ⟨comp, hcomp, hbg, hdx, hfr⟩ := hcut
        have hgnx : wc.heap[gn]? = some (.cells #[.slice A1 ns.length c1, .slice A2 ds.length c2] 26 (0, 0)) := (hfr.block gn hgnl (by omega)).trans Hgn.out
        have n1 : wc.cell? ⟨gn, 1, none⟩ = some (.slice A2 ds.length c2) := by rw [cell_of_row wc gn 1 _ _ _ hgnx]; rfl
        have q0 : wc.cell? ⟨g, 0, none⟩ = some (.string (nm (letter kind) ds.length)) := by rw [cell_of_row wc g 0 _ _ _ hbg]; rfl
        have q1 : wc.cell? ⟨g, 1, none⟩ = some (.int .i64 kind) := by rw [cell_of_row wc g 1 _ _ _ hbg]; rfl
        have q2 : wc.cell? ⟨g, 2, none⟩ = some (.int .i64 a) := by rw [cell_of_row wc g 2 _ _ _ hbg]; rfl
        have q3 : wc.cell? ⟨g, 3, none⟩ = some (.int .i64 b) := by rw [cell_of_row wc g 3 _ _ _ hbg]; rfl
        have q4 : wc.cell? ⟨g, 4, none⟩ = some (.int .i64 comp) := by rw [cell_of_row wc g 4 _ _ _ hbg]; rfl
        have ho2x : OV wc (fun g => B ≤ g) 78 5 A2 ds.length c2 (devsV ds) := ho2.keep1 (fun k hk => by
          have := (ho2.block k hk); exact hfr.block k this.2 (by have := this.1; omega))
        have Hgnx := Lib.hid hgnx
        have Hbg := Lib.hid hbg
        clear hgnx hbg
        go_wp2_with (at_builtin; go_must (refine wpList_pushG (S := fun g => B ≤ g) (ys := devCells ⟨nm (letter kind) ds.length, kind, a, b, comp⟩) rfl (.tmp 34) (.tmp 36) 24 78 _ 5 48 rfl Tryd.underlying24 devInfo rfl (by decide) rfl rfl (ho2x.keep (Kept.alloc _ _ _)) rfl (by intro u hu; simp [devCells] at hu; rcases hu with rfl | rfl | rfl | rfl | rfl <;> rfl) ?_ (by simp) (by omega) (by decide) ?_))
        · exact Lie.new wc (devCells ⟨nm (letter kind) ds.length, kind, a, b, comp⟩) _
        · intro A' c' w5 ho5 hg5 hor5
          have hsz : w.heap.size ≤ wc.heap.size := hfr.size
          have hsz5 : wc.heap.size + 1 ≤ w5.heap.size := by have := hg5.size; simpa using this
          -- which blocks are as they were
          have hkeep : ∀ k, k < w.heap.size → k ≠ bd → some k ≠ blockOf A2 → w5.heap[k]? = w.heap[k]? := fun k h1 h2 h3 =>
            (hg5.block k (by simp; omega) h3).trans ((Below.heap_alloc _ _ k (by omega)).trans (hfr.block k h1 h2))
          have hne : ∀ k cs u, w.heap[k]? = some (.cells cs u (0, 0)) → u ≠ 78 → some k ≠ blockOf A2 := fun k cs u hk hu e => by
            obtain ⟨_, cur, hcur⟩ := ho2.type k e.symm
            exact ne_of_type hk hcur hu rfl
          have hgn5 : w5.heap[gn]? = some (.cells #[.slice A1 ns.length c1, .slice A2 ds.length c2] 26 (0, 0)) := (hkeep gn hgnl (by omega) (hne gn _ _ Hgn.out (by decide))).trans Hgn.out
          have n5 : w5.cell? ⟨gn, 1, none⟩ = some (.slice A2 ds.length c2) := by rw [cell_of_row w5 gn 1 _ _ _ hgn5]; rfl
          have f5 : w5.frozen? ⟨gn, 1, none⟩ = false := by simp [World.frozen?, hgn5]
          have Hgn5 := Lib.hid hgn5
          have Hho5 := Lib.hid ho5
          have Hkeep := Lib.hid hkeep
          have Hne := Lib.hid hne
          clear hgn5 ho5 hkeep hne n1 q0 q1 q2 q3 q4
          go_wp2_with fail
          go_end0
          have hBw : B ≤ w.heap.size := by omega
          have hA2B : ∀ k, blockOf A2 = some k → B ≤ k := fun k hk => (ho2.type k hk).1
          have hset : ∀ k, k ≠ gn → (w5.setCell ⟨gn, 1, none⟩ (.slice A' (ds.length + 1) c')).heap[k]? = w5.heap[k]? := fun k hk => Below.heap_setCell _ _ _ _ hk
          have hgnk : ∀ k cs u, w.heap[k]? = some (.cells cs u (0, 0)) → u ≠ 26 → k ≠ gn := fun k cs u hk hu => ne_of_type hk Hgn.out hu
          have hlen : (ds ++ [(⟨nm (letter kind) ds.length, kind, a, b, comp⟩ : Dev)]).length = ds.length + 1 := by simp
          refine ⟨rfl, ⟨?_, ?_, ?_, ?_, ?_⟩, .inr ⟨by omega, comp, hcomp, ⟨A1, c1, A', c', ?_, ?_, ?_⟩, ?_, ?_, ?_, b1, b2, b3, b4⟩⟩
          · exact hg5.os.trans hfr.os
          · exact hg5.tape.trans hfr.tape
          · exact hg5.output.trans hfr.output
          · simp [World.setCell]; omega
          · intro k hk hkb
            rw [hset k (by omega)]
            exact Hkeep.out k (by omega) hkb (fun e => by have := hA2B k e.symm; omega)
          · rw [hlen]; simp [World.setCell, Array.getElem?_modify, Hgn5.out]
          · refine ho1.keep1 (fun k hk => ?_)
            obtain ⟨hBk, cur, hcur⟩ := ho1.type k hk
            rw [hset k (hgnk k _ _ hcur (by decide))]
            exact Hkeep.out k (Array.getElem?_eq_some_iff.1 hcur).1 (by omega) (Hne.out k _ _ hcur (by decide))
          · rw [hlen, devsV_snoc]
            have h1 := Hho5.out.mono (T := fun g => B ≤ g) (fun g _ hg => by
              rcases hg with hg | hg
              · exact hg
              · have h2 : g = wc.heap.size + 1 := by simpa using hg
                show B ≤ g; omega)
            refine h1.keep1 (fun k hk => hset k ?_)
            rcases hor5 with e | e
            · rw [e] at hk
              obtain ⟨_, cur, hcur⟩ := ho2.type k hk
              exact hgnk k _ _ hcur (by decide)
            · rw [e] at hk
              injection hk with hk
              rw [← hk]; simp; omega
          · rw [hset gm (hgnk gm _ _ Hgm.out (by decide))]
            exact (Hkeep.out gm hgml (by omega) (Hne.out gm _ _ Hgm.out (by decide))).trans Hgm.out
          · rw [hset gp (hgnk gp _ _ Hgp.out (by decide))]
            exact (Hkeep.out gp hgpl (by omega) (Hne.out gp _ _ Hgp.out (by decide))).trans Hgp.out
          · refine hdx.keep (fun k hk => ?_) (by simp [World.setCell]; omega)
            rw [hset k (by omega)]
            exact (hg5.block k (by simp; omega) (fun e => by have := hA2B k e.symm; omega)).trans (Below.heap_alloc _ _ k (by omega))
end Go.Proofs.YtgpcojmdfmngeaaDoor

namespace Go.Proofs.YtgpcojmdfmngeaaDoor
open Go

section
variable {P : Program} {ops : Array Oper} {Q : Exit → Act → World → Prop} {l : List Value} {df : List Deferred}
theorem ext2B_own {n : Nat} {ds : List Nat} (hB : ext2B ops n ds = true) {i : Nat} (hi : i < n) {o : Oper} {d : Nat} (ho : ops[i]? = some o) (hd : o.dst = some d) : ∀ j, j < n → j ≠ i → dstOf ops j ≠ some d := by
  unfold ext2B at hB
  simp only [Bool.and_eq_true, beq_iff_eq, List.all_eq_true, List.mem_range] at hB
  have h := hB.2 i hi
  rw [ho] at h
  simp only [Bool.and_eq_true] at h
  have h3 := h.2
  rw [hd] at h3
  simp only [Bool.and_eq_true, List.all_eq_true, List.mem_range] at h3
  intro j hj hne he
  have := h3.2 j hj
  simp [hne, he] at this
/-- As wp_region_extX, where some operations write no slot. -/
theorem wp_region_ext2X {id : Nat} {w : World} (hm : P.follows .mixedOrders = true) (n : Nat) (ds : List Nat) (E : World → World → Prop) (T : Nat → Value → World → Prop) (X : (Nat → Bool) → (Nat → Value) → World → Prop)
    (hB : ext2B ops n ds = true) (hX : X (fun _ => false) (fun t => (l[t]?).getD undef) w.drew)
    (hst : ∀ d v w w', E w w' → T d v w → T d v w')
    (exec : ∀ i o, i < n → ops[i]? = some o → ∀ dn f w, X dn f w → (∀ j d', j < n → dstOf ops j = some d' → dn j = true → T d' (f d') w) → dn i = false → (∀ e ∈ o.after, Region.binds .any e = true → dn e.on = true) →
      ∀ K : Act → World → Prop, (∀ v w', E w w' → (∀ d, o.dst = some d → T d v w') → X (fun j => dn j || decide (j = i)) (nextF f o.dst v) w' → K ((fr l ds df f).put o.dst v) w') → o.wp P (fr l ds df f) w K Q)
    (fin : ∀ dn f w, X dn f w → (∀ i, i < n → dn i = true) → (∀ i d, i < n → dstOf ops i = some d → T d (f d) w) → Q .normal (fr l ds df f) w) :
    (Code.region id ops true).wp P Q { tmps := l.toArray, defers := df } w := by
  refine wp_region_gen2 hm n ds (fun dn f w => X dn f w ∧ ∀ j d', j < n → dstOf ops j = some d' → dn j = true → T d' (f d') w) hB ⟨hX, fun j d' _ _ h => by cases h⟩ ?_ (fun dn f w h hall => fin dn f w h.1 hall (fun i d hi hd => h.2 i d hi hd (hall i hi)))
  intro i o hi ho dn f w h hni hdep K hK
  refine exec i o hi ho dn f w h.1 h.2 hni hdep K (fun v w' hE hT hX' => hK v w' ⟨hX', fun j d' hj hd' hdn => ?_⟩)
  by_cases hji : j = i
  · subst hji
    have hd : o.dst = some d' := by simpa [dstOf, ho] using hd'
    have := hT d' hd
    unfold nextF
    rw [hd]
    simpa using this
  · have hdn' : dn j = true := by simpa [hji] using hdn
    have ht := hst d' _ w w' hE (h.2 j d' hj hd' hdn')
    cases hd : o.dst with
    | none => exact ht
    | some d =>
      have hne : d' ≠ d := fun e => ext2B_own hB hi ho hd j hj hji (e ▸ hd')
      unfold nextF
      simp only [if_neg hne]
      exact ht
end

theorem wp_append {P : Program} {o : Oper} {a : Act} {w w' : World} {K : Act → World → Prop} {Q : Exit → Act → World → Prop} (s x : Operand) (t : TypeId)
    (ho : o.op = .call { callee := .builtin .append, args := #[s, x], argTypes := #[t, t] }) {vs vx v : Value} (hs : a.eval s = vs) (hx : a.eval x = vx)
    (hr : (Builtin.append_ #[t, t] o.type #[vs, vx]).run P w = .ok v w') (h : K (a.put o.dst v) w') : o.wp P a w K Q := by
  unfold Oper.wp execOp
  simp only [ho, resolve, invoke, builtin, Sem.run_bind, Sem.run_pure, Result.andThen_ok, List.map_toArray, List.map_cons, List.map_nil, hs, hx, hr]
  exact h
end Go.Proofs.YtgpcojmdfmngeaaDoor

namespace Go.Proofs.YtgpcojmdfmngeaaDoor
open Go

/-- What the kernel checks of a region: every operation has a slot of its own; a guard is an operation that must have been done before. -/
def ext4B (ops : Array Oper) (n : Nat) (ds : List Nat) : Bool :=
  (ops.size == n) && (List.range n).all (fun i => match ops[i]? with
    | none => false
    | some o => (match o.guard with | none => true | some (g, _) => decide (g < n) && o.after.toList.any (fun e => decide (e.on = g) && Region.binds .any e)) && o.after.all (fun e => decide (e.on < i) || !Region.binds .any e) &&
      (match o.dst with | none => false | some d => ds.contains d && (List.range n).all (fun j => decide (j = i) || !(dstOf ops j == some d))))
theorem ext4B_at {ops : Array Oper} {n : Nat} {ds : List Nat} (hB : ext4B ops n ds = true) {i : Nat} (hi : i < n) : ∃ o d, ops[i]? = some o ∧ (∀ g b, o.guard = some (g, b) → g < n ∧ ∃ e ∈ o.after, e.on = g ∧ Region.binds .any e = true) ∧ (∀ e ∈ o.after, Region.binds .any e = true → e.on < i) ∧
    o.dst = some d ∧ ds.contains d = true ∧ ∀ j, j < n → j ≠ i → dstOf ops j ≠ some d := by
  unfold ext4B at hB
  simp only [Bool.and_eq_true, beq_iff_eq, List.all_eq_true, List.mem_range] at hB
  have h := hB.2 i hi
  cases ho : ops[i]? with
  | none => rw [ho] at h; simp at h
  | some o =>
    rw [ho] at h
    simp only [Bool.and_eq_true] at h
    obtain ⟨⟨h1, h2⟩, h3⟩ := h
    cases hd : o.dst with
    | none => rw [hd] at h3; simp at h3
    | some d =>
      rw [hd] at h3
      simp only [Bool.and_eq_true, List.all_eq_true, List.mem_range] at h3
      refine ⟨o, d, rfl, fun g b hg => ?_, fun e he hb => ?_, hd, h3.1, fun j hj hne he => ?_⟩
      · rw [hg] at h1
        simp only [Bool.and_eq_true, decide_eq_true_eq] at h1
        obtain ⟨e, he, h⟩ := List.any_eq_true.1 h1.2
        simp only [Bool.and_eq_true, decide_eq_true_eq] at h
        exact ⟨h1.1, e, by simpa using he, h.1, h.2⟩
      · have := Array.all_eq_true_iff_forall_mem.1 h2 e he
        simpa [hb] using this
      · have := h3.2 j hj
        simp [hne, he] at this

section
variable {P : Program} {ops : Array Oper} {Q : Exit → Act → World → Prop} {l : List Value} {ds : List Nat} {df : List Deferred} {n : Nat} {I : (Nat → Bool) → (Nat → Value) → World → Prop}

theorem gen4_main (hB : ext4B ops n ds = true)
    (exec : ∀ i o d, i < n → ops[i]? = some o → o.dst = some d → ∀ dn f w, I dn f w → dn i = false → (∀ e ∈ o.after, Region.binds .any e = true → dn e.on = true) →
      wpOp P ops Q i (fun a' w' => ∃ v, a' = (fr l ds df f).put (some d) v ∧ I (fun j => dn j || decide (j = i)) (fun t => if t = d then v else f t) w') (fr l ds df f) w)
    (fin : ∀ dn f w, I dn f w → (∀ i, i < n → dn i = true) → Q .normal (fr l ds df f) w) :
    ∀ (fuel : Nat) (listed : Array Bool) (f : Nat → Value) (w : World), listed.size = n → I (fun j => listed.getD j false) f w → unl listed = fuel → wpAny P .any ops Q fuel listed (fr l ds df f) w := by
  have hsz : ops.size = n := by
    unfold ext4B at hB
    simp only [Bool.and_eq_true, beq_iff_eq] at hB
    exact hB.1
  have hall : ∀ (listed : Array Bool), listed.size = n → unl listed = 0 → ∀ i, i < n → listed.getD i false = true := by
    intro listed hl h0 i hi
    unfold unl at h0
    have := List.countP_eq_zero.1 h0 (listed[i]'(by omega)) (by simp)
    simp [show i < listed.size by omega]
    simpa using this
  intro fuel
  induction fuel with
  | zero =>
    intro listed f w hl hI hu
    refine ⟨?_, fin _ f w hI (hall listed hl hu)⟩
    apply List.eq_nil_iff_forall_not_mem.2
    intro j hj
    obtain ⟨hjun, oj, hoj, _⟩ := mem_ready.1 hj
    have hjs : j < n := by rw [← hsz]; exact (Array.getElem?_eq_some_iff.1 hoj).1
    have h1 := hall listed hl hu j hjs
    simp [show j < listed.size by omega] at h1 hjun
    rw [h1] at hjun; cases hjun
  | succ fuel ih =>
    intro listed f w hl hI hu
    have hready : Region.ready .any ops listed ≠ [] := by
      intro h0
      have key : ∀ k, k < n → listed.getD k true = false → False := by
        intro k
        induction k using Nat.strongRecOn with
        | _ k ihk =>
          intro hk hun
          obtain ⟨o, d, ho, _, haft, _⟩ := ext4B_at hB hk
          by_cases ha : ∀ e ∈ o.after, Region.binds .any e = true → listed.getD e.on false = true
          · have : k ∈ Region.ready .any ops listed := mem_ready.2 ⟨hun, o, ho, ha⟩
            rw [h0] at this; cases this
          · have : ∃ e ∈ o.after, Region.binds .any e = true ∧ listed.getD e.on false ≠ true := Classical.byContradiction fun hc => ha fun e he hb => Classical.byContradiction fun hn => hc ⟨e, he, hb, hn⟩
            obtain ⟨e, he, hb, hne⟩ := this
            have hlt := haft e he hb
            refine ihk e.on hlt (by omega) ?_
            have hin : e.on < listed.size := by omega
            simp [hin] at hne ⊢
            exact hne
      have hz : unl listed = 0 := by
        unfold unl
        rw [List.countP_eq_zero]
        intro b hb
        obtain ⟨j, hj, rfl⟩ := List.getElem_of_mem hb
        have hjl : j < listed.size := by simpa using hj
        have : ¬ listed.getD j true = false := fun h => key j (by omega) h
        simp [hjl] at this ⊢
        exact this
      omega
    refine ⟨fun h0 => absurd h0 hready, fun i hi => ?_⟩
    obtain ⟨hun, o, ho, hal⟩ := mem_ready.1 hi
    have hilt : i < n := by rw [← hsz]; exact (Array.getElem?_eq_some_iff.1 ho).1
    obtain ⟨o', d, ho', _, haft, hd, hdm, hdu⟩ := ext4B_at hB hilt
    obtain rfl : o' = o := Option.some.inj (ho'.symm.trans ho)
    have hil : i < listed.size := by omega
    have hx := exec i o' d hilt ho hd _ f w hI (by simp [hil] at hun ⊢; exact hun) (fun e he hb => hal e he hb)
    refine wpOp_mono (fun a' w' hk' => ?_) hx
    obtain ⟨v, rfl, hI'⟩ := hk'
    rw [fr_put _ _ _ _ _ _ hdm]
    refine ih _ _ _ (by simpa using hl) ?_ (by have := unl_set hun; omega)
    have e : (fun j => (listed.setIfInBounds i true).getD j false) = (fun j => listed.getD j false || decide (j = i)) := by
      funext j
      by_cases hji : j = i
      · subst hji; simp [hil]
      · rw [getD_set_ne false (Ne.symm hji)]; simp [hji]
    rw [e]
    exact hI'

theorem wp_region_gen4 {id : Nat} {w : World} (hm : P.follows .mixedOrders = true) (n : Nat) (ds : List Nat) (I : (Nat → Bool) → (Nat → Value) → World → Prop)
    (hB : ext4B ops n ds = true) (h0 : I (fun _ => false) (fun t => (l[t]?).getD undef) w.drew)
    (exec : ∀ i o d, i < n → ops[i]? = some o → o.dst = some d → ∀ dn f w, I dn f w → dn i = false → (∀ e ∈ o.after, Region.binds .any e = true → dn e.on = true) →
      wpOp P ops Q i (fun a' w' => ∃ v, a' = (fr l ds df f).put (some d) v ∧ I (fun j => dn j || decide (j = i)) (fun t => if t = d then v else f t) w') (fr l ds df f) w)
    (fin : ∀ dn f w, I dn f w → (∀ i, i < n → dn i = true) → Q .normal (fr l ds df f) w) :
    (Code.region id ops true).wp P Q { tmps := l.toArray, defers := df } w := by
  have hsz : ops.size = n := by
    unfold ext4B at hB
    simp only [Bool.and_eq_true, beq_iff_eq] at hB
    exact hB.1
  refine wp_region_any hm ?_
  rw [← fr_start l ds df]
  refine gen4_main hB exec fin _ _ _ _ (by simp [hsz]) ?_ ?_
  · have e : (fun j => (Array.replicate ops.size false).getD j false) = (fun _ => false) := by
      funext j
      rcases Nat.lt_or_ge j ops.size with h | h <;> simp [h]
    rw [e]; exact h0
  · unfold unl; simp [List.countP_replicate]
end

/-- Is operation i wanted, if the slots of guards hold what tv says? -/
def wantB (ops : Array Oper) (tv : List (Nat × Bool)) (i : Nat) : Bool :=
  match ops[i]? with
  | none => false
  | some o => match o.guard with
    | none => true
    | some (g, b) => match dstOf ops g with
      | none => false
      | some d => tv.contains (d, b)
/-- What the kernel checks of the guards: tv says what their slots hold; us are the slots of what is not wanted. -/
def guardB (ops : Array Oper) (n : Nat) (tv : List (Nat × Bool)) (us : List Nat) : Bool :=
  (List.range n).all fun i => match ops[i]? with
    | none => false
    | some o => match o.guard with
      | none => true
      | some (g, b) => match dstOf ops g with
        | none => false
        | some d => tv.contains (d, b) || (tv.contains (d, !b) && (match o.dst with | some d' => us.contains d' | none => false))

section
variable {P : Program} {ops : Array Oper} {Q : Exit → Act → World → Prop} {l : List Value} {df : List Deferred}
theorem yielded_fr {ds : List Nat} {f : Nat → Value} {g d : Nat} {b : Bool} (hd : dstOf ops g = some d) (hc : ds.contains d = true) (hl : d < l.length) (hf : f d = .bool b) : yielded ops (fr l ds df f).tmps g = some b := by
  unfold yielded
  have h1 : ((ops[g]?).bind (·.dst)) = some d := hd
  have h2 := fr_in l ds df f d hc hl
  rw [h1]
  simp only [Option.bind_some]
  have hs : d < (fr l ds df f).tmps.size := by simp [fr, upd, hl]
  rw [Array.getElem?_eq_getElem hs] at h2 ⊢
  simp only [Option.getD_some] at h2
  rw [h2, hf]

/-- A region that draws its order, with guards: every guard's slot holds what tv says. -/
theorem wp_region_extG {id : Nat} {w : World} (hm : P.follows .mixedOrders = true) (n : Nat) (ds : List Nat) (tv : List (Nat × Bool)) (us : List Nat) (C : World → Prop) (E : World → World → Prop) (T : Nat → Value → World → Prop)
    (hB : ext4B ops n ds = true) (hG : guardB ops n tv us = true) (hlen : ∀ d ∈ ds, d < l.length) (hC : C w.drew) (hE : ∀ w, E w w)
    (htv : ∀ p ∈ tv, ∀ v w, T p.1 v w → v = .bool p.2) (hus : ∀ d ∈ us, ∀ w, T d undef w)
    (hst : ∀ d v w w', C w → E w w' → T d v w → T d v w')
    (exec : ∀ i o d, i < n → wantB ops tv i = true → ops[i]? = some o → o.dst = some d → ∀ f w, C w → (∀ e ∈ o.after, Region.binds .any e = true → ∀ d', dstOf ops e.on = some d' → T d' (f d') w) →
      ∀ K : Act → World → Prop, (∀ v w', E w w' → C w' → T d v w' → K ((fr l ds df f).put (some d) v) w') → o.wp P (fr l ds df f) w K Q)
    (fin : ∀ f w, C w → (∀ i d, i < n → dstOf ops i = some d → T d (f d) w) → Q .normal (fr l ds df f) w) :
    (Code.region id ops true).wp P Q { tmps := l.toArray, defers := df } w := by
  refine wp_region_gen4 hm n ds (fun dn f w => C w ∧ ∀ j d', j < n → dstOf ops j = some d' → dn j = true → T d' (f d') w) hB ⟨hC, fun j d' _ _ h => by cases h⟩ ?_ (fun dn f w h hall => fin f w h.1 (fun i d hi hd => h.2 i d hi hd (hall i hi)))
  intro i o d hi ho hd dn f w h hni hdep
  obtain ⟨o', d0, ho', hgd, haft, hd0, hdm, hdu⟩ := ext4B_at hB hi
  obtain rfl : o' = o := Option.some.inj (ho'.symm.trans ho)
  obtain rfl : d0 = d := Option.some.inj (hd0.symm.trans hd)
  have next : ∀ v w', E w w' → C w' → T d0 v w' → (C w' ∧ ∀ j d', j < n → dstOf ops j = some d' → (dn j || decide (j = i)) = true → T d' ((fun t => if t = d0 then v else f t) d') w') := by
    intro v w' hE' hC' hT
    refine ⟨hC', fun j d' hj hd' hdn => ?_⟩
    by_cases hji : j = i
    · subst hji
      have : d' = d0 := by
        have : dstOf ops j = some d0 := by simp [dstOf, ho, hd]
        rw [this] at hd'; injection hd' with h; exact h.symm
      subst this
      simpa using hT
    · have hne : d' ≠ d0 := fun e => hdu j hj hji (e ▸ hd')
      simp only [if_neg hne]
      have hdn' : dn j = true := by simpa [hji] using hdn
      exact hst d' _ w w' h.1 hE' (h.2 j d' hj hd' hdn')
  have run : wantB ops tv i = true → o'.wp P (fr l ds df f) w (fun a' w' => ∃ v, a' = (fr l ds df f).put (some d0) v ∧ C w' ∧ ∀ j d', j < n → dstOf ops j = some d' → (dn j || decide (j = i)) = true → T d' ((fun t => if t = d0 then v else f t) d') w') Q := fun hw =>
    exec i o' d0 hi hw ho hd f w h.1 (fun e he hb d' hd' => h.2 e.on d' (by have := haft e he hb; omega) hd' (hdep e he hb)) _ (fun v w' h1 h2 h3 => ⟨v, rfl, next v w' h1 h2 h3⟩)
  unfold wpOp
  rw [ho]
  cases hg : o'.guard with
  | none =>
    have hw : Region.wanted o' (yielded ops (fr l ds df f).tmps) = true := by simp [Region.wanted, hg]
    simp only [hw, if_true]
    left
    exact run (by unfold wantB; rw [ho]; simp [hg])
  | some p =>
    obtain ⟨g, b⟩ := p
    obtain ⟨hgn, e, he, rfl, hb⟩ := hgd g b hg
    unfold guardB at hG
    have hGi := List.all_eq_true.1 hG i (List.mem_range.2 hi)
    rw [ho] at hGi
    simp only [hg] at hGi
    cases hdg : dstOf ops e.on with
    | none => rw [hdg] at hGi; simp at hGi
    | some d' =>
      rw [hdg] at hGi
      simp only [Bool.or_eq_true, Bool.and_eq_true] at hGi
      have hTg := h.2 e.on d' hgn hdg (hdep e he hb)
      obtain ⟨og, dg, hog, _, _, hdg', hdgm, _⟩ := ext4B_at hB hgn
      obtain rfl : dg = d' := by
        have : dstOf ops e.on = some dg := by simp [dstOf, hog, hdg']
        rw [this] at hdg; injection hdg
      have hdl := hlen dg (by simpa using hdgm)
      rcases hGi with h1 | ⟨h1, h2⟩
      · have hf := htv (dg, b) (by simpa using h1) _ _ hTg
        have hy := yielded_fr (l := l) (df := df) (ds := ds) (f := f) hdg hdgm hdl hf
        have hw : Region.wanted o' (yielded ops (fr l ds df f).tmps) = true := by simp [Region.wanted, hg, hy]
        simp only [hw, if_true]
        left
        refine run ?_
        unfold wantB
        rw [ho]
        simp only [hg, hdg]
        exact h1
      · have hf := htv (dg, !b) (by simpa using h1) _ _ hTg
        have hy := yielded_fr (l := l) (df := df) (ds := ds) (f := f) hdg hdgm hdl hf
        have hw : Region.wanted o' (yielded ops (fr l ds df f).tmps) = false := by cases b <;> simp [Region.wanted, hg, hy]
        simp only [hw]
        rw [hd] at h2 ⊢
        exact ⟨undef, rfl, next undef w (hE w) h.1 (hus d0 (by simpa using h2) w)⟩
end
end Go.Proofs.YtgpcojmdfmngeaaDoor

namespace Go.Proofs.YtgpcojmdfmngeaaDoor
open Go.RowKit
open Go.Maps (Keyed)
set_option maxHeartbeats 400000
set_option maxRecDepth 100000

/-- the classes of bytes, as the table has them -/
def clsV : List Value := [.int .u8 65, .int .u8 90, .bool true, .int .u8 97, .int .u8 122, .bool true, .int .u8 48, .int .u8 57, .bool false, .int .u8 95, .int .u8 95, .bool false]
/-- the table of classes in a world -/
def TabC (w : World) : Prop := ∀ j u, clsV[j]? = some u → w.cell? ⟨1, j, none⟩ = some u
theorem TabC.lt {w : World} (h : TabC w) : 1 < w.heap.size := World.block_lt_of_cell? w _ (h 0 _ rfl)
theorem TabC.keep {w w' : World} (h : TabC w) (e : w'.heap[1]? = w.heap[1]?) : TabC w' := fun j u hj => (World.cell?_of_block e).trans (h j u hj)
theorem TabC.below {w w' : World} (h : TabC w) (hb : Below w.heap.size w w') : TabC w' := h.keep (hb.block _ h.lt)

def cls : List (Int × Int × Bool) := [(65, 90, true), (97, 122, true), (48, 57, false), (95, 95, false)]
def fitsL (b : Int) (first : Bool) : List (Int × Int × Bool) → Bool
  | [] => false
  | (f, t, x) :: r => if f ≤ b ∧ b ≤ t then x || !first else fitsL b first r
def fitsB (b : Int) (first : Bool) : Bool := fitsL b first cls

theorem idxC0 (w : World) : (Instr.index 165 (.agg #[.int .u8 65, .int .u8 90, .bool true, .int .u8 97, .int .u8 122, .bool true, .int .u8 48, .int .u8 57, .bool false, .int .u8 95, .int .u8 95, .bool false]) (.int .i64 0)).run Tryd.prog w = .ok (.agg #[.int .u8 65, .int .u8 90, .bool true]) w := by kernel_rfl
theorem idxC1 (w : World) : (Instr.index 165 (.agg #[.int .u8 65, .int .u8 90, .bool true, .int .u8 97, .int .u8 122, .bool true, .int .u8 48, .int .u8 57, .bool false, .int .u8 95, .int .u8 95, .bool false]) (.int .i64 1)).run Tryd.prog w = .ok (.agg #[.int .u8 97, .int .u8 122, .bool true]) w := by kernel_rfl
theorem idxC2 (w : World) : (Instr.index 165 (.agg #[.int .u8 65, .int .u8 90, .bool true, .int .u8 97, .int .u8 122, .bool true, .int .u8 48, .int .u8 57, .bool false, .int .u8 95, .int .u8 95, .bool false]) (.int .i64 2)).run Tryd.prog w = .ok (.agg #[.int .u8 48, .int .u8 57, .bool false]) w := by kernel_rfl
theorem idxC3 (w : World) : (Instr.index 165 (.agg #[.int .u8 65, .int .u8 90, .bool true, .int .u8 97, .int .u8 122, .bool true, .int .u8 48, .int .u8 57, .bool false, .int .u8 95, .int .u8 95, .bool false]) (.int .i64 3)).run Tryd.prog w = .ok (.agg #[.int .u8 95, .int .u8 95, .bool false]) w := by kernel_rfl

theorem fits_any (b : Nat) (_hb : b < 256) (first : Bool) (w : World) (h : TabC w) : Calls Tryd.prog 156 #[.int .u8 b, .bool first] w fun e w' => e = .returned (.bool (fitsB b first)) ∧ Below w.heap.size w w' := by
  have h0 := h 0 _ rfl
  have h1 := h 1 _ rfl
  have h2 := h 2 _ rfl
  have h3 := h 3 _ rfl
  have h4 := h 4 _ rfl
  have h5 := h 5 _ rfl
  have h6 := h 6 _ rfl
  have h7 := h 7 _ rfl
  have h8 := h 8 _ rfl
  have h9 := h 9 _ rfl
  have h10 := h 10 _ rfl
  have h11 := h 11 _ rfl
  clear h
  go_enter Tryd.func156, Tryd.ntmps156
  go_wp2
  go_loopg [8] 4 (fun g i wr => ∃ k : Nat, k + g = 4 ∧ i = .int .i64 k ∧ Below w.heap.size w wr ∧ fitsB b first = fitsL b first (cls.drop k))
  case atStart => exact ⟨0, by omega, rfl, Below.refl _ _, rfl⟩
  case round =>
    obtain ⟨k, hk, hi0, hbel, hi⟩ := hrel
    have Hi := Lib.hid hi
    clear hi h0 h1 h2 h3 h4 h5 h6 h7 h8 h9 h10 h11
    have hkk : k = 0 ∨ k = 1 ∨ k = 2 ∨ k = 3 ∨ k = 4 := by omega
    have Hk := Lib.hid hk
    clear hk
    rcases hkk with rfl | rfl | rfl | rfl | rfl
    · obtain rfl : u8 = .int .i64 0 := hi0
      have hx := idxC0
      by_cases c1 : (65 : Int) ≤ b
      · by_cases c2 : (b : Int) ≤ 90
        · have HP := Lib.hid (And.intro c1 c2)
          go_wp2_with (fail)
          go_ret
          refine ⟨?_, by first | exact hbel.alloc hbel.size _ | exact (hbel.alloc hbel.size _).drew | exact hbel⟩
          rw [Hi.out]
          show _ = Ending.returned (.bool (if _ ∧ _ then _ else _))
          rw [if_pos HP.out]
          cases first <;> rfl
        · have HP := Lib.hid (show ¬ ((65 : Int) ≤ (b : Int) ∧ (b : Int) ≤ 90) from fun h => c2 h.2)
          go_wp2_with (fail)
          go_roundg (gk - 1)
          case measure => have := Hk.out; omega
          case rel =>
            refine ⟨1, by have := Hk.out; omega, rfl, hbel.alloc hbel.size _, ?_⟩
            rw [Hi.out]
            show (if _ ∧ _ then _ else _) = _
            rw [if_neg HP.out]
            rfl
      · have HP := Lib.hid (show ¬ ((65 : Int) ≤ (b : Int) ∧ (b : Int) ≤ 90) from fun h => c1 h.1)
        go_wp2_with (fail)
        go_roundg (gk - 1)
        case measure => have := Hk.out; omega
        case rel =>
          refine ⟨1, by have := Hk.out; omega, rfl, hbel.alloc hbel.size _, ?_⟩
          rw [Hi.out]
          show (if _ ∧ _ then _ else _) = _
          rw [if_neg HP.out]
          rfl
    · obtain rfl : u8 = .int .i64 1 := hi0
      have hx := idxC1
      by_cases c1 : (97 : Int) ≤ b
      · by_cases c2 : (b : Int) ≤ 122
        · have HP := Lib.hid (And.intro c1 c2)
          go_wp2_with (fail)
          go_ret
          refine ⟨?_, by first | exact hbel.alloc hbel.size _ | exact (hbel.alloc hbel.size _).drew | exact hbel⟩
          rw [Hi.out]
          show _ = Ending.returned (.bool (if _ ∧ _ then _ else _))
          rw [if_pos HP.out]
          cases first <;> rfl
        · have HP := Lib.hid (show ¬ ((97 : Int) ≤ (b : Int) ∧ (b : Int) ≤ 122) from fun h => c2 h.2)
          go_wp2_with (fail)
          go_roundg (gk - 1)
          case measure => have := Hk.out; omega
          case rel =>
            refine ⟨2, by have := Hk.out; omega, rfl, hbel.alloc hbel.size _, ?_⟩
            rw [Hi.out]
            show (if _ ∧ _ then _ else _) = _
            rw [if_neg HP.out]
            rfl
      · have HP := Lib.hid (show ¬ ((97 : Int) ≤ (b : Int) ∧ (b : Int) ≤ 122) from fun h => c1 h.1)
        go_wp2_with (fail)
        go_roundg (gk - 1)
        case measure => have := Hk.out; omega
        case rel =>
          refine ⟨2, by have := Hk.out; omega, rfl, hbel.alloc hbel.size _, ?_⟩
          rw [Hi.out]
          show (if _ ∧ _ then _ else _) = _
          rw [if_neg HP.out]
          rfl
    · obtain rfl : u8 = .int .i64 2 := hi0
      have hx := idxC2
      by_cases c1 : (48 : Int) ≤ b
      · by_cases c2 : (b : Int) ≤ 57
        · have HP := Lib.hid (And.intro c1 c2)
          go_wp2_with (fail)
          go_ret
          refine ⟨?_, by first | exact hbel.alloc hbel.size _ | exact (hbel.alloc hbel.size _).drew | exact hbel⟩
          rw [Hi.out]
          show _ = Ending.returned (.bool (if _ ∧ _ then _ else _))
          rw [if_pos HP.out]
          cases first <;> rfl
        · have HP := Lib.hid (show ¬ ((48 : Int) ≤ (b : Int) ∧ (b : Int) ≤ 57) from fun h => c2 h.2)
          go_wp2_with (fail)
          go_roundg (gk - 1)
          case measure => have := Hk.out; omega
          case rel =>
            refine ⟨3, by have := Hk.out; omega, rfl, hbel.alloc hbel.size _, ?_⟩
            rw [Hi.out]
            show (if _ ∧ _ then _ else _) = _
            rw [if_neg HP.out]
            rfl
      · have HP := Lib.hid (show ¬ ((48 : Int) ≤ (b : Int) ∧ (b : Int) ≤ 57) from fun h => c1 h.1)
        go_wp2_with (fail)
        go_roundg (gk - 1)
        case measure => have := Hk.out; omega
        case rel =>
          refine ⟨3, by have := Hk.out; omega, rfl, hbel.alloc hbel.size _, ?_⟩
          rw [Hi.out]
          show (if _ ∧ _ then _ else _) = _
          rw [if_neg HP.out]
          rfl
    · obtain rfl : u8 = .int .i64 3 := hi0
      have hx := idxC3
      by_cases c1 : (95 : Int) ≤ b
      · by_cases c2 : (b : Int) ≤ 95
        · have HP := Lib.hid (And.intro c1 c2)
          go_wp2_with (fail)
          go_ret
          refine ⟨?_, by first | exact hbel.alloc hbel.size _ | exact (hbel.alloc hbel.size _).drew | exact hbel⟩
          rw [Hi.out]
          show _ = Ending.returned (.bool (if _ ∧ _ then _ else _))
          rw [if_pos HP.out]
          cases first <;> rfl
        · have HP := Lib.hid (show ¬ ((95 : Int) ≤ (b : Int) ∧ (b : Int) ≤ 95) from fun h => c2 h.2)
          go_wp2_with (fail)
          go_roundg (gk - 1)
          case measure => have := Hk.out; omega
          case rel =>
            refine ⟨4, by have := Hk.out; omega, rfl, hbel.alloc hbel.size _, ?_⟩
            rw [Hi.out]
            show (if _ ∧ _ then _ else _) = _
            rw [if_neg HP.out]
            rfl
      · have HP := Lib.hid (show ¬ ((95 : Int) ≤ (b : Int) ∧ (b : Int) ≤ 95) from fun h => c1 h.1)
        go_wp2_with (fail)
        go_roundg (gk - 1)
        case measure => have := Hk.out; omega
        case rel =>
          refine ⟨4, by have := Hk.out; omega, rfl, hbel.alloc hbel.size _, ?_⟩
          rw [Hi.out]
          show (if _ ∧ _ then _ else _) = _
          rw [if_neg HP.out]
          rfl
    · obtain rfl : u8 = .int .i64 4 := hi0
      go_wp2_with (fail)
      go_ret
      exact ⟨by rw [Hi.out]; rfl, hbel⟩

def okBytes : List UInt8 → Bool → Bool
  | [], _ => true
  | c :: r, f => fitsB (c.toNat : Int) f && okBytes r false
def nameB (s : ByteArray) : Bool := okBytes s.data.toList true && decide (1 ≤ s.size) && decide (s.size ≤ 12)
theorem retB {a b : Bool} (h : a = b) : Ending.returned (.bool a) = .returned (.bool b) := by rw [h]
theorem okBytes_drop (s : ByteArray) (k : Nat) (f : Bool) (h : k < s.size) : okBytes (s.data.toList.drop k) f = (fitsB (s[k].toNat : Int) f && okBytes (s.data.toList.drop (k + 1)) false) := by
  rw [List.drop_eq_getElem_cons (by simpa using h)]
  rfl

theorem name_yes (s : ByteArray) (w : World) (h : TabC w) (hs : s.size ≤ maxLen) : Calls Tryd.prog 107 #[.string s] w fun e w' => e = .returned (.bool (nameB s)) ∧ Below w.heap.size w w' := by
  unfold maxLen at hs
  go_enter Tryd.func107, Tryd.ntmps107
  go_wp2_with (fail)
  go_loopg [6] s.size (fun g i wr => ∃ k : Nat, k + g = s.size ∧ i = .int .i64 k ∧ Below w.heap.size w wr ∧ okBytes s.data.toList true = okBytes (s.data.toList.drop k) (decide (k = 0)))
  case atStart => exact ⟨0, by omega, rfl, Below.refl _ _, rfl⟩
  case round =>
    obtain ⟨k, hk, rfl, hbel, hi⟩ := hrel
    have Hi := Lib.hid hi
    have Hk := Lib.hid hk
    clear hi hk
    by_cases hlt : k < s.size
    · have hc : s[k].toNat < 256 := s[k].toNat_lt
      by_cases h0 : k = 0
      · have h0' : ((k : Int) == 0) = true := by simp [h0]
        have e0 : decide (k = 0) = true := by simp [h0]
        have Hd := Lib.hid (okBytes_drop s k (decide (k = 0)) hlt)
        rw [e0] at Hd
        have Hi := Hi
        rw [e0] at Hi
        clear h0 e0
        go_wp2_with (fail)
        refine (fits_any s[k].toNat hc true wr (h.below hbel)).mono ?_
        rintro e w1 ⟨rfl, hb1⟩
        generalize fitsB (s[k].toNat : Int) true = fv at *
        cases fv
        · go_wp2_with (fail)
          go_ret
          refine ⟨retB ?_, hbel.trans (hb1.mono hbel.size)⟩
          unfold nameB
          rw [Hi.out, Hd.out]
          simp
        · go_wp2_with (fail)
          go_roundg (gk - 1)
          case measure => have := Hk.out; omega
          case rel =>
            refine ⟨k + 1, by have := Hk.out; omega, by go_num, hbel.trans (hb1.mono hbel.size), ?_⟩
            rw [Hi.out, Hd.out]
            simp
      · have h0' : ((k : Int) == 0) = false := by simp [h0]
        have e0 : decide (k = 0) = false := by simp [h0]
        have Hd := Lib.hid (okBytes_drop s k (decide (k = 0)) hlt)
        rw [e0] at Hd
        have Hi := Hi
        rw [e0] at Hi
        clear h0 e0
        go_wp2_with (fail)
        refine (fits_any s[k].toNat hc false wr (h.below hbel)).mono ?_
        rintro e w1 ⟨rfl, hb1⟩
        generalize fitsB (s[k].toNat : Int) false = fv at *
        cases fv
        · go_wp2_with (fail)
          go_ret
          refine ⟨retB ?_, hbel.trans (hb1.mono hbel.size)⟩
          unfold nameB
          rw [Hi.out, Hd.out]
          simp
        · go_wp2_with (fail)
          go_roundg (gk - 1)
          case measure => have := Hk.out; omega
          case rel =>
            refine ⟨k + 1, by have := Hk.out; omega, by go_num, hbel.trans (hb1.mono hbel.size), ?_⟩
            rw [Hi.out, Hd.out]
            simp
    · have hn : nameB s = (decide (1 ≤ s.size) && decide (s.size ≤ 12)) := by
        unfold nameB
        rw [Hi.out, List.drop_of_length_le (by simp; omega)]
        simp [okBytes]
      have Hn := Lib.hid hn
      clear hn
      go_wp2_with (fail)
      all_goals
        go_ret
        refine ⟨retB ?_, hbel⟩
        rw [Hn.out]
        first | (rw [decide_eq_true (p := 1 ≤ s.size) (by omega), Bool.true_and]; apply Bool.eq_iff_iff.2; simp only [decide_eq_true_eq]; omega) | (rw [decide_eq_false (p := 1 ≤ s.size) (by omega)]; rfl)

theorem nameB_size {s : ByteArray} (h : nameB s = true) : 1 ≤ s.size ∧ s.size ≤ 12 := by
  unfold nameB at h
  simp only [Bool.and_eq_true, decide_eq_true_eq] at h
  exact ⟨h.1.2, h.2⟩

theorem lawS : Keyed Tryd.prog 9 := Maps.string_keyed Tryd.underlying9
theorem zeroB (w : World) : (zeroValue 4).run Tryd.prog w = .ok (.bool false) w := by kernel_rfl

/-- Block b is a set of names. -/
def USet (w : World) (b n : Nat) (used : List (List UInt8)) : Prop :=
  ∃ D : DataW Unit, w.ownsMap Tryd.prog 9 (plainElem Tryd.prog 4) b n D ∧ ∀ s : List UInt8, D.atKey (.string s) (.lit (.bool false)) = .lit (.bool (decide (s ∈ used)))

theorem USet.made (w : World) : USet (w.alloc (.map #[] 0)) w.heap.size 0 [] := ⟨_, World.ownsMap_made w _ _ _, fun s => by simp; rfl⟩
theorem USet.lt {w : World} {b n : Nat} {used : List (List UInt8)} (h : USet w b n used) : b < w.heap.size := by
  obtain ⟨D, h, _⟩ := h
  exact h.lt
theorem USet.keep {w w' : World} {b n : Nat} {used : List (List UInt8)} (h : USet w b n used) (hb : Below w.heap.size w w') : USet w' b n used := by
  obtain ⟨D, h, hD⟩ := h
  obtain ⟨es, clock, h1, F, hs, e⟩ := h
  exact ⟨D, ⟨es, clock, (hb.block b (Array.getElem?_eq_some_iff.1 h1).1).trans h1, F, hs, e⟩, hD⟩
theorem USet.look {w : World} {b n : Nat} {used : List (List UInt8)} (h : USet w b n used) {s : ByteArray} (hs : s.size ≤ maxLen) : (Instr.lookup 110 (.map (some b)) (.string s) false).run Tryd.prog w = .ok (.bool (decide (s.data.toList ∈ used))) w := by
  obtain ⟨D, h, hD⟩ := h
  obtain ⟨v, ps, hrun, hv⟩ := h.lookup lawS Tryd.underlying110 (zeroB w) (plainElem_bool Tryd.underlying4 false) (WideMaps.keyOf_string_mk Tryd.underlying9 hs)
  rw [hD s.data.toList] at hv
  rw [hrun]
  unfold plainElem at hv
  rw [Tryd.underlying4] at hv
  cases v <;> simp at hv
  rw [hv.1]
theorem USet.put {w : World} {b n : Nat} {used : List (List UInt8)} (h : USet w b n used) (hn : n < maxLen) {s : ByteArray} (hs : s.size ≤ maxLen) :
    ∃ w', (Instr.mapUpdate 110 (.map (some b)) (.string s) (.bool true)).run Tryd.prog w = .ok () w' ∧ USet w' b (n + 1) (s.data.toList :: used) ∧ w.grownBy w' (some b) := by
  obtain ⟨D, h, hD⟩ := h
  obtain ⟨w', hrun, h1, hg⟩ := h.update lawS Tryd.underlying110 hn (WideMaps.keyOf_string_mk Tryd.underlying9 hs) (plainElem_bool Tryd.underlying4 true)
  refine ⟨w', hrun, ⟨_, h1, fun s' => ?_⟩, hg⟩
  by_cases e : s' = s.data.toList
  · subst e
    rw [Maps.atKey_put_same h.isMap (by trivial)]
    simp
  · rw [Maps.atKey_put_other (fun h => e (by injection h with h)), hD s']
    simp [e]
end Go.Proofs.YtgpcojmdfmngeaaDoor

namespace Go.Proofs.YtgpcojmdfmngeaaDoor
open Go.RowKit
set_option maxHeartbeats 400000

/-- the table of masks in a world -/
def Tab (w : World) : Prop :=
  w.cell? ⟨0, 0, none⟩ = some (.bool false) ∧ w.cell? ⟨0, 1, none⟩ = some (.bool false) ∧ w.cell? ⟨0, 2, none⟩ = some (.bool true) ∧ w.cell? ⟨0, 3, none⟩ = some (.bool true) ∧
  w.cell? ⟨0, 4, none⟩ = some (.bool true) ∧ w.cell? ⟨0, 5, none⟩ = some (.bool true) ∧ w.cell? ⟨0, 6, none⟩ = some (.bool true) ∧ w.cell? ⟨0, 7, none⟩ = some (.bool false)

theorem Tab.lt {w : World} (h : Tab w) : 0 < w.heap.size := World.block_lt_of_cell? w _ h.1
theorem Tab.keep {w w' : World} (h : Tab w) (e : w'.heap[0]? = w.heap[0]?) : Tab w' := by
  unfold Tab at *
  have hc : ∀ o, w'.cell? ⟨0, o, none⟩ = w.cell? ⟨0, o, none⟩ := fun o => World.cell?_of_block e
  simpa only [hc] using h
theorem Tab.below {w w' : World} (h : Tab w) (hb : Below w.heap.size w w') : Tab w' := h.keep (hb.block _ h.lt)

def isMask (m : Int) : Bool := decide (1 ≤ m) && decide (m ≤ 3)

theorem is_any (m : Int) (w : World) (h : Tab w) : Calls Tryd.prog 125 #[.int .i64 m] w fun e w' => e = .returned (.bool (isMask m)) ∧ w = w' := by
  obtain ⟨h0, h1, h2, h3, h4, h5, h6, h7⟩ := h
  by_cases a : 0 ≤ m
  · by_cases b : m < 4
    · have : m = 0 ∨ m = 1 ∨ m = 2 ∨ m = 3 := by omega
      rcases this with rfl | rfl | rfl | rfl
      all_goals
        go_enter Tryd.func125, Tryd.ntmps125
        go_wp2
        go_ret
        exact ⟨rfl, rfl⟩
    · go_enter Tryd.func125, Tryd.ntmps125
      go_wp2
      go_ret
      exact ⟨by simp [isMask]; omega, rfl⟩
  · go_enter Tryd.func125, Tryd.ntmps125
    go_wp2
    go_ret
    exact ⟨by simp [isMask]; omega, rfl⟩

theorem notis_any (m : Int) (w : World) (h : Tab w) : Calls Tryd.prog 159 #[.int .i64 m] w fun e w' => e = .returned (.bool (!isMask m)) ∧ w = w' := by
  go_enter Tryd.func159, Tryd.ntmps159
  go_wp2_with (go_at_call 125; refine (is_any _ _ h).mono ?_; rintro e w' ⟨rfl, rfl⟩)
  go_ret
  exact ⟨rfl, rfl⟩

/-- the first place at which p holds, from k on -/
def idx (p : Int → Bool) : List Int → Nat → Int
  | [], _ => -1
  | x :: xs, k => if p x then k else idx p xs (k + 1)

theorem idx_drop (p : Int → Bool) (xs : List Int) (k : Nat) (h : k < xs.length) : idx p (xs.drop k) k = if p xs[k] then (k : Int) else idx p (xs.drop (k + 1)) (k + 1) := by
  rw [List.drop_eq_getElem_cons h]; rfl
theorem idx_any (p : Int → Bool) : ∀ (xs : List Int) (k : Nat), decide (0 ≤ idx p xs k) = xs.any p
  | [], k => by simp [idx]
  | x :: xs, k => by
    simp only [idx, List.any_cons]
    by_cases h : p x
    · simp [h]
    · simp [h, idx_any p xs (k + 1)]

theorem indexFunc_any (f : FuncId) (hgo : Goes f) (p : Int → Bool) (w : World) (S : Nat → Prop) (A : Option Addr) (c : Nat) (xs : List Int) (hs : SI w S A xs) (hl : xs.length ≤ 65536)
    (hf : ∀ x, Calls Tryd.prog f #[.int .i64 x] w fun e w' => e = .returned (.bool (p x)) ∧ w = w') :
    Calls Tryd.prog 161 #[.slice A xs.length c, .func (.func f) #[] #[]] w fun e w' => e = .returned (.int .i64 (idx p xs 0)) ∧ w = w' := by
  unfold Goes at hgo
  have HF := Lib.hid hf
  clear hf
  go_enter Tryd.func161, Tryd.ntmps161
  go_wp2
  go_loopg [8] xs.length (fun g i wr => wr = w ∧ ∃ k : Nat, k + g = xs.length ∧ i = .int .i64 k ∧ idx p xs 0 = idx p (xs.drop k) k)
  case atStart => exact ⟨rfl, 0, by omega, rfl, rfl⟩
  case round =>
    obtain ⟨rfl, k, hk, rfl, hi⟩ := hrel
    have Hi := Lib.hid hi
    clear hi
    have Hk := Lib.hid hk
    clear hk
    by_cases hlt : k < xs.length
    · obtain ⟨b, off, rfl, _, _, hc⟩ := hs.at_ hlt
      have hd := idx_drop p xs k hlt
      have Hd := Lib.hid hd
      clear hd
      go_wp2_with (fail)
      refine (HF.out _).mono ?_
      rintro e w' ⟨rfl, rfl⟩
      go_wp2_with (fail)
      · go_ret
        refine ⟨?_, rfl⟩
        rw [Hi.out, Hd.out, if_pos (by assumption)]
        rfl
      · go_roundg (gk - 1)
        case measure => have := Hk.out; omega
        case rel =>
          have := Hk.out
          refine ⟨rfl, k + 1, by omega, by go_num, ?_⟩
          rw [Hi.out, Hd.out, if_neg (by simp_all)]
    · go_wp2_with (fail)
      go_ret
      refine ⟨?_, rfl⟩
      rw [Hi.out, List.drop_of_length_le (by omega)]
      rfl

theorem containsFunc_any (f : FuncId) (hgo : Goes f) (p : Int → Bool) (w : World) (S : Nat → Prop) (A : Option Addr) (c : Nat) (xs : List Int) (hs : SI w S A xs) (hl : xs.length ≤ 65536)
    (hf : ∀ x, Calls Tryd.prog f #[.int .i64 x] w fun e w' => e = .returned (.bool (p x)) ∧ w = w') :
    Calls Tryd.prog 135 #[.slice A xs.length c, .func (.func f) #[] #[]] w fun e w' => e = .returned (.bool (xs.any p)) ∧ w = w' := by
  have HF := Lib.hid hf
  have HG := Lib.hid hgo
  clear hf hgo
  go_enter Tryd.func135, Tryd.ntmps135
  go_wp2_with (go_at_call 161; refine (indexFunc_any f HG.out p _ S A c xs hs hl HF.out).mono ?_; rintro e w' ⟨rfl, rfl⟩)
  go_ret
  exact ⟨by rw [← idx_any p xs 0]; rfl, rfl⟩

theorem index_any (y : Int) (w : World) (S : Nat → Prop) (A : Option Addr) (c : Nat) (xs : List Int) (hs : SI w S A xs) (hl : xs.length ≤ 65536) :
    Calls Tryd.prog 160 #[.slice A xs.length c, .int .i64 y] w fun e w' => e = .returned (.int .i64 (idx (fun x => y == x) xs 0)) ∧ w = w' := by
  go_enter Tryd.func160, Tryd.ntmps160
  go_wp2
  go_loopg [8] xs.length (fun g i wr => wr = w ∧ ∃ k : Nat, k + g = xs.length ∧ i = .int .i64 k ∧ idx (fun x => y == x) xs 0 = idx (fun x => y == x) (xs.drop k) k)
  case atStart => exact ⟨rfl, 0, by omega, rfl, rfl⟩
  case round =>
    obtain ⟨rfl, k, hk, rfl, hi⟩ := hrel
    have Hi := Lib.hid hi
    clear hi
    have Hk := Lib.hid hk
    clear hk
    by_cases hlt : k < xs.length
    · obtain ⟨b, off, rfl, _, _, hc⟩ := hs.at_ hlt
      have hd := idx_drop (fun x => y == x) xs k hlt
      have Hd := Lib.hid hd
      clear hd
      go_wp2_with (fail)
      · go_ret
        refine ⟨?_, rfl⟩
        rw [Hi.out, Hd.out, if_pos (by assumption)]
        rfl
      · go_roundg (gk - 1)
        case measure => have := Hk.out; omega
        case rel =>
          have := Hk.out
          refine ⟨rfl, k + 1, by omega, by go_num, ?_⟩
          rw [Hi.out, Hd.out, if_neg (by simp_all)]
    · go_wp2_with (fail)
      go_ret
      refine ⟨?_, rfl⟩
      rw [Hi.out, List.drop_of_length_le (by omega)]
      rfl

theorem contains_any (y : Int) (w : World) (S : Nat → Prop) (A : Option Addr) (c : Nat) (xs : List Int) (hs : SI w S A xs) (hl : xs.length ≤ 65536) :
    Calls Tryd.prog 132 #[.slice A xs.length c, .int .i64 y] w fun e w' => e = .returned (.bool (xs.any (fun x => y == x))) ∧ w = w' := by
  go_enter Tryd.func132, Tryd.ntmps132
  go_wp2_with (go_at_call 160; refine (index_any y _ S A c xs hs hl).mono ?_; rintro e w' ⟨rfl, rfl⟩)
  go_ret
  exact ⟨by rw [← idx_any _ xs 0]; rfl, rfl⟩

theorem goes_valid1 : Goes 159 := fun args w => by kernel_rfl

theorem any_not (p : Int → Bool) (xs : List Int) : (!xs.any (fun x => !p x)) = xs.all p := by
  induction xs with
  | nil => rfl
  | cons x xs ih => simp [← ih]

theorem valid_any (w : World) (h : Tab w) (S : Nat → Prop) (A : Option Addr) (c : Nat) (xs : List Int) (hs : SI w S A xs) (hl : xs.length ≤ 65536) :
    Calls Tryd.prog 121 #[.slice A xs.length c] w fun e w' => e = .returned (.bool (xs.all isMask)) ∧ w = w' := by
  go_enter Tryd.func121, Tryd.ntmps121
  go_wp2_with (go_at_call 135; refine (containsFunc_any 159 goes_valid1 (fun x => !isMask x) _ S A c xs hs hl (fun x => notis_any x _ h)).mono ?_; rintro e w' ⟨rfl, rfl⟩)
  go_ret
  exact ⟨by rw [← any_not]; rfl, rfl⟩

/-- A call hands back a new slice of ints. -/
def RetOI (w : World) (ys : List Int) (e : Ending) (w' : World) : Prop := ∃ A c, e = .returned (.slice A ys.length c) ∧ OI w' (fun g => w.heap.size ≤ g) A c ys ∧ Below w.heap.size w w'

/-- the places that are unknown, from k on -/
def unk : List Int → Nat → List Int
  | [], _ => []
  | m :: ms, k => if m = 3 then (k : Int) :: unk ms (k + 1) else unk ms (k + 1)
theorem unk_drop (xs : List Int) (k : Nat) (h : k < xs.length) : unk (xs.drop k) k = if xs[k] = 3 then (k : Int) :: unk (xs.drop (k + 1)) (k + 1) else unk (xs.drop (k + 1)) (k + 1) := by
  rw [List.drop_eq_getElem_cons h]; rfl

theorem unknown_any (w : World) (S : Nat → Prop) (A : Option Addr) (c : Nat) (xs : List Int) (hs : SI w S A xs) (hl : xs.length ≤ 65536) :
    Calls Tryd.prog 49 #[.slice A xs.length c] w (RetOI w (unk xs 0)) := by
  go_enter Tryd.func49, Tryd.ntmps49
  go_wp2
  go_loopg [3, 8] xs.length (fun g v i wr => ∃ (k : Nat) (A' : Option Addr) (c' : Nat) (ys : List Int), k + g = xs.length ∧ i = .int .i64 k ∧ v = .slice A' ys.length c' ∧ OI wr (fun g => w.heap.size ≤ g) A' c' ys ∧ Below w.heap.size w wr ∧
    ys ++ unk (xs.drop k) k = unk xs 0 ∧ ys.length ≤ k)
  case atStart => exact ⟨0, none, 0, [], by omega, rfl, rfl, OI.nil _ _, Below.refl _ _, rfl, Nat.le_refl _⟩
  case round =>
    obtain ⟨k, A', c', ys, hk, rfl, rfl, hown, hbel, hi, hyl⟩ := hrel
    have Hi := Lib.hid hi
    clear hi
    have Hk := Lib.hid hk
    clear hk
    have hs' := hs.keep (Kept.of_below hbel)
    by_cases hlt : k < xs.length
    · obtain ⟨b, off, rfl, _, _, hc⟩ := hs'.at_ hlt
      have hd := unk_drop xs k hlt
      have Hd := Lib.hid hd
      clear hd
      go_wp2_with (at_builtin; go_must (refine wpList_push (B := w.heap.size) rfl (.tmp 15) (.tmp 17) rfl rfl rfl rfl (hown.keep (Kept.alloc _ _ _)) (new_cell _ _ _) (by omega) (by simp; have := hbel.size; omega) ?_); intro A1 c1 w1 ho1 hb1 _ _)
      · go_roundg (gk - 1)
        case measure => have := Hk.out; omega
        case rel =>
          have := Hk.out
          refine ⟨k + 1, _, _, _, by omega, by go_num, ?_, ho1, (hbel.alloc hbel.size _).trans hb1, ?_, ?_⟩
          · simp
          · rw [← Hi.out, Hd.out, if_pos (by simp_all)]; simp
          · simp; omega
      · go_roundg (gk - 1)
        case measure => have := Hk.out; omega
        case rel =>
          have := Hk.out
          refine ⟨k + 1, _, _, _, by omega, by go_num, rfl, hown, hbel, ?_, by omega⟩
          rw [← Hi.out, Hd.out, if_neg (by simp_all)]
    · go_wp2_with (fail)
      go_ret
      refine ⟨A', c', ?_, ?_, hbel⟩
      · rw [← Hi.out, List.drop_of_length_le (by omega)]; simp [unk]
      · have := Hi.out
        rw [List.drop_of_length_le (by omega)] at this
        simp [unk] at this
        rw [← this]; exact hown

end Go.Proofs.YtgpcojmdfmngeaaDoor

namespace Go.Proofs.YtgpcojmdfmngeaaDoor
open Go.RowKit
set_option maxHeartbeats 400000
set_option maxRecDepth 100000

def cnt (xs : List Int) : Int × Int := if xs.all isMask then (if 8 < (unk xs 0).length then (0, 1) else (2 ^ (unk xs 0).length, 0)) else (0, 10)

def RetPair (w : World) (p : Int × Int) (e : Ending) (w' : World) : Prop := e = .returned (.tuple #[.int .i64 p.1, .int .i64 p.2]) ∧ Below w.heap.size w w'

theorem wrap_pow (k : Nat) (h : k ≤ 8) : wrap64 ((2 : Int) ^ k) = 2 ^ k := by
  have : k = 0 ∨ k = 1 ∨ k = 2 ∨ k = 3 ∨ k = 4 ∨ k = 5 ∨ k = 6 ∨ k = 7 ∨ k = 8 := by omega
  rcases this with rfl | rfl | rfl | rfl | rfl | rfl | rfl | rfl | rfl <;> (unfold wrap64; decide)

theorem count_any (w : World) (h : Tab w) (S : Nat → Prop) (A : Option Addr) (c : Nat) (xs : List Int) (hs : SI w S A xs) (hl : xs.length ≤ 65536) :
    Calls Tryd.prog 41 #[.slice A xs.length c] w (RetPair w (cnt xs)) := by
  have hval := valid_any w h S A c xs hs hl
  have hunk := unknown_any w S A c xs hs hl
  have hc : cnt xs = if xs.all isMask then (if 8 < (unk xs 0).length then (0, 1) else (2 ^ (unk xs 0).length, 0)) else (0, 10) := rfl
  generalize xs.all isMask = bv at hval hc
  generalize unk xs 0 = us at hunk hc
  generalize cnt xs = r at hc ⊢
  have Hc := Lib.hid hc
  have Hv := Lib.hid hval
  have Hu := Lib.hid hunk
  clear hc hval hunk
  cases bv
  · go_enter Tryd.func41, Tryd.ntmps41
    go_wp2_with (go_at_call 121; refine (Hv.out).mono ?_; rintro e w' ⟨rfl, rfl⟩)
    go_ret2
    exact ⟨by rw [Hc.out]; rfl, Below.refl _ _⟩
  · by_cases h8 : 8 < us.length
    · go_enter Tryd.func41, Tryd.ntmps41
      go_wp2_with (first | (go_at_call 121; refine (Hv.out).mono ?_; rintro e w' ⟨rfl, rfl⟩) | (go_at_call 49; refine (Hu.out).mono ?_; rintro e w1 ⟨A1, c1, rfl, ho, hb⟩))
      go_ret2
      exact ⟨by rw [Hc.out]; simp [h8], hb⟩
    · have h9 := Lib.hid (wrap_pow us.length (by omega))
      go_enter Tryd.func41, Tryd.ntmps41
      go_wp2_with (first | (go_at_call 121; refine (Hv.out).mono ?_; rintro e w' ⟨rfl, rfl⟩) | (go_at_call 49; refine (Hu.out).mono ?_; rintro e w1 ⟨A1, c1, rfl, ho, hb⟩))
      go_ret2
      refine ⟨?_, hb⟩
      show Ending.returned (.tuple #[.int .i64 (wrap64 (2 ^ us.length)), .int .i64 0]) = _
      rw [Hc.out, h9.out]; simp [h8]

theorem clone_any (w : World) (S : Nat → Prop) (A : Option Addr) (c : Nat) (xs : List Int) (hs : SI w S A xs) (hl : xs.length ≤ 65536) :
    Calls Tryd.prog 123 #[.slice A xs.length c] w (RetOI w xs) := by
  have heq := fun (W : World) (a : Option Addr) (n c : Nat) => Lib.run_eql_slice_nil (P := Tryd.prog) W 22 3 a n c 0 0 Tryd.underlying22
  cases A with
  | none =>
    obtain rfl := hs.none_nil
    go_enter Tryd.func123, Tryd.ntmps123
    go_wp2
    go_ret
    exact ⟨none, 0, rfl, OI.nil _ _, Below.refl _ _⟩
  | some ad =>
    go_enter Tryd.func123, Tryd.ntmps123
    go_wp2_with (at_builtin; go_must (refine wpList_pushAll (B := w.heap.size) (xs := []) (ys := xs) (T := S) rfl (.tmp 5) (.tmp 6) rfl rfl rfl rfl rfl (OI.lit w [] (by simp)) (hs.keep (Kept.alloc _ _ _)) (by simp; omega) (by simp) ?_); intro A1 c1 w1 ho1 hb1 _ _)
    go_ret
    exact ⟨A1, c1, rfl, ho1, ((Below.refl _ _).alloc (Nat.le_refl _) _).trans hb1⟩

theorem ret_bool {a b : Bool} (h : a = b) : Ending.returned (.bool a) = .returned (.bool b) := by rw [h]

theorem ints_any (w : World) (S T : Nat → Prop) (A B : Option Addr) (c d : Nat) (xs ys : List Int) (hs : SI w S A xs) (ht : SI w T B ys) (_hl : xs.length ≤ 65536) (hl2 : ys.length ≤ 65536) :
    Calls Tryd.prog 23 #[.slice A xs.length c, .slice B ys.length d] w fun e w' => e = .returned (.bool (decide (xs = ys))) ∧ ∃ n, w' = w.drewN n := by
  by_cases hne : xs.length = ys.length
  · have hb : ((xs.length : Int) != ys.length) = false := by simp [hne]
    have Hne := Lib.hid hne
    have hle : xs.length ≤ ys.length := by omega
    clear hne
    go_enter Tryd.func23, Tryd.ntmps23
    go_wp2
    go_loopg [5] xs.length (fun g i wr => ∃ (k n : Nat), wr = w.drewN n ∧ k + g = xs.length ∧ i = .int .i64 k ∧ xs.take k = ys.take k)
    case atStart => exact ⟨0, 0, rfl, by omega, rfl, rfl⟩
    case round =>
      obtain ⟨k, n, rfl, hk, rfl, hi⟩ := hrel
      have Hi := Lib.hid hi
      clear hi
      have Hk := Lib.hid hk
      clear hk
      by_cases hlt : k < xs.length
      · obtain ⟨b, off, rfl, _, _, hc⟩ := hs.at_ hlt
        obtain ⟨b2, off2, rfl, _, _, hc2⟩ := ht.at_ (show k < ys.length by omega)
        have hlt2 : k < ys.length := by omega
        go_wp2_with (fail)
        go_quiet (fail)
        go_wp2_with (fail)
        · go_ret
          refine ⟨ret_bool ?_, n + nq, World.drewN_drewN _ _ _⟩
          have hx : xs[k] ≠ ys[k] := by simp_all
          have : xs ≠ ys := by rintro rfl; exact hx rfl
          simp [this]
        · go_roundg (gk - 1)
          case measure => have := Hk.out; omega
          case rel =>
            have := Hk.out
            refine ⟨k + 1, _, rfl, by omega, by go_num, ?_⟩
            have hx : xs[k] = ys[k] := by simp_all
            rw [List.take_succ_eq_append_getElem hlt, List.take_succ_eq_append_getElem hlt2, Hi.out, hx]
      · go_wp2_with (fail)
        go_ret
        refine ⟨ret_bool ?_, _, rfl⟩
        have := Hi.out
        have hn := Hne.out
        rw [List.take_of_length_le (by omega), List.take_of_length_le (by omega)] at this
        simp [this]
  · have hb : ((xs.length : Int) != ys.length) = true := by simp; omega
    go_enter Tryd.func23, Tryd.ntmps23
    go_wp2
    go_ret
    refine ⟨ret_bool ?_, 0, rfl⟩
    have : xs ≠ ys := by rintro rfl; exact hne rfl
    simp [this]

theorem goes_meet1 : Goes 131 := fun args w => by kernel_rfl

theorem meet1_any (x y : Int) (w : World) (hx : 1 ≤ x) (hx3 : x ≤ 3) (hy : 1 ≤ y) (hy3 : y ≤ 3) : Calls Tryd.prog 131 #[.int .i64 x, .int .i64 y] w fun e w' => e = .returned (.int .i64 (if x = 3 then y else if y = 3 then x else if x = y then x else 0)) ∧ w = w' := by
  have h1 : x = 1 ∨ x = 2 ∨ x = 3 := by omega
  have h2 : y = 1 ∨ y = 2 ∨ y = 3 := by omega
  rcases h1 with rfl | rfl | rfl <;> rcases h2 with rfl | rfl | rfl
  all_goals
    go_enter Tryd.func131, Tryd.ntmps131
    go_wp2
    go_ret
    exact ⟨rfl, rfl⟩

theorem masks_of {xs : List Int} (h : xs.all isMask = true) : ∀ k (hk : k < xs.length), 1 ≤ xs[k] ∧ xs[k] ≤ 3 := fun k hk => by
  have := List.all_eq_true.1 h xs[k] (List.getElem_mem hk)
  simpa [isMask] using this

theorem pairs_any (f : FuncId) (hgo : Goes f) (p : Int → Int → Int) (w : World) (h : Tab w) (S T : Nat → Prop) (A B : Option Addr) (c d : Nat) (xs ys : List Int) (hs : SI w S A xs) (ht : SI w T B ys) (hl : xs.length ≤ 65536)
    (hlen : xs.length = ys.length) (hx : xs.all isMask = true) (hy : ys.all isMask = true)
    (hf : ∀ (x y : Int) (W : World), 1 ≤ x → x ≤ 3 → 1 ≤ y → y ≤ 3 → Calls Tryd.prog f #[.int .i64 x, .int .i64 y] W fun e w' => e = .returned (.int .i64 (p x y)) ∧ W = w') :
    Calls Tryd.prog 130 #[.slice A xs.length c, .slice B ys.length d, .func (.func f) #[] #[]] w fun e w' => ∃ A' c', e = .returned (.tuple #[.slice A' xs.length c', .bool true]) ∧ OI w' (fun g => w.heap.size ≤ g) A' c' (List.zipWith p xs ys) ∧ Below w.heap.size w w' := by
  have hv1 := valid_any w h S A c xs hs hl
  have hv2 := valid_any w h T B d ys ht (by omega)
  have Hmx := Lib.hid (masks_of hx)
  have Hmy := Lib.hid (masks_of hy)
  rw [hx] at hv1
  rw [hy] at hv2
  have Hv1 := Lib.hid hv1
  have Hv2 := Lib.hid hv2
  have HF := Lib.hid hf
  clear hv1 hv2 hf hx hy
  unfold Goes at hgo
  have hb : ((xs.length : Int) != ys.length) = false := by simp [hlen]
  have Hl := Lib.hid hlen
  have hzl : (List.zipWith p xs ys).length = xs.length := by simp; omega
  generalize hZ : List.zipWith p xs ys = Z at hzl ⊢
  have HZ := Lib.hid hZ
  have Hzl := Lib.hid hzl
  clear hlen hZ hzl
  go_enter Tryd.func130, Tryd.ntmps130
  go_wp2_with (first | (go_at_call 121; (with_reducible refine (Hv1.out).mono ?_); rintro e w' ⟨rfl, rfl⟩) | (go_at_call 121; (with_reducible refine (Hv2.out).mono ?_); rintro e w' ⟨rfl, rfl⟩) | (at_make; go_must (refine wpList_makeV rfl (.tmp 26) (.tmp 26) 22 rfl 3 _ 8 Tryd.underlying22 intInfo rfl _ _ xs.length rfl rfl (by omega) (by omega) ?_); intro w1 ho1 hb1 hz1))
  have Hz := Lib.hid hz1
  clear hz1
  go_loopg [30] xs.length (fun g i wr => ∃ (k : Nat), k + g = xs.length ∧ i = .int .i64 k ∧ OI wr (fun g => g = w.heap.size) (some ⟨w.heap.size, 0, none⟩) xs.length (filled Z 0 k) ∧ Below w.heap.size w wr)
  case atStart =>
    refine ⟨0, by omega, rfl, ?_, hb1⟩
    unfold OI
    rw [filled_zero, Hzl.out, ints, List.map_replicate, List.length_replicate]
    exact ho1
  case round =>
    obtain ⟨k, hk, rfl, hown, hbel⟩ := hrel
    have Hk := Lib.hid hk
    clear hk
    have hs' := hs.keep (Kept.of_below hbel)
    have ht' := ht.keep (Kept.of_below hbel)
    have hl2 : xs.length ≤ ys.length := by have := Hl.out; omega
    by_cases hlt : k < xs.length
    · obtain ⟨b, off, rfl, _, _, hc⟩ := hs'.at_ hlt
      obtain ⟨b2, off2, rfl, _, _, hc2⟩ := ht'.at_ (show k < ys.length by omega)
      have hlt2 : k < ys.length := by omega
      have hk3 : k < (filled Z 0 k).length := by rw [filled_len _ _ _ (by rw [Hzl.out]; omega), Hzl.out]; exact hlt
      obtain ⟨_, _, e1, rfl, hgs, hc3, hf3⟩ := hown.at_ hk3
      injection e1 with e1
      injection e1 with e1 e2
      subst e2
      have hset := hown.set k (p xs[k] ys[k])
      have m1 := Hmx.out k hlt
      have m2 := Hmy.out k hlt2
      have HF2 := Lib.hid (HF.out xs[k] ys[k] wr.drew m1.1 m1.2 m2.1 m2.2)
      clear m1 m2 e1
      have Hset := Lib.hid hset
      clear hset
      simp only [Nat.zero_add] at hc3 hf3
      go_wp2_with (fail)
      go_still_tail 13, (by kernel_rfl)
      still_call (HF2.out.mono fun _ _ h => ⟨h.1, h.2.symm⟩)
      repeat still_step
      refine wpStill_nil ?_
      go_wp2_with (fail)
      go_roundg (gk - 1)
      case measure => have := Hk.out; omega
      case rel =>
        have := Hk.out
        refine ⟨k + 1, by omega, by go_num, ?_, (hbel.setCell (Nat.le_refl _) _).drew⟩
        have hz : k < Z.length := by rw [Hzl.out]; exact hlt
        have e : Z[k] = p xs[k] ys[k] := by
          have := HZ.out
          subst this
          simp
        have h1 := Hset.out
        rw [← e, filled_step Z 0 k hz, Nat.zero_add, e] at h1
        exact h1
    · go_wp2_with (fail)
      go_ret2
      refine ⟨_, _, rfl, ?_, hbel⟩
      rw [filled_all _ _ _ (by rw [Hzl.out]; omega)] at hown
      exact hown.mono (by intro g _ hg; omega)

def okPair (xs ys : List Int) : Bool := decide (xs.length = ys.length) && xs.all isMask && ys.all isMask

theorem pairs_bad (v : Value) (w : World) (h : Tab w) (S T : Nat → Prop) (A B : Option Addr) (c d : Nat) (xs ys : List Int) (hs : SI w S A xs) (ht : SI w T B ys) (hl : xs.length ≤ 65536) (hl2 : ys.length ≤ 65536) (hbad : okPair xs ys = false) :
    Calls Tryd.prog 130 #[.slice A xs.length c, .slice B ys.length d, v] w fun e w' => e = .returned (.tuple #[.slice none 0 0, .bool false]) ∧ w = w' := by
  have Hv1 := Lib.hid (valid_any w h S A c xs hs hl)
  have Hv2 := Lib.hid (valid_any w h T B d ys ht hl2)
  unfold okPair at hbad
  by_cases hlen : xs.length = ys.length
  · have hb : ((xs.length : Int) != ys.length) = false := by simp [hlen]
    have HL := Lib.hid hlen
    rw [show decide (xs.length = ys.length) = true by simp [hlen]] at hbad
    clear hlen
    generalize xs.all isMask = b1 at *
    generalize ys.all isMask = b2 at *
    cases b1
    · clear hbad
      go_enter Tryd.func130, Tryd.ntmps130
      go_wp2_with (go_at_call 121; (with_reducible refine (Hv1.out).mono ?_); rintro e w' ⟨rfl, rfl⟩)
      go_ret2
      exact ⟨rfl, rfl⟩
    · cases b2
      · clear hbad
        go_enter Tryd.func130, Tryd.ntmps130
        go_wp2_with (first | (go_at_call 121; (with_reducible refine (Hv1.out).mono ?_); rintro e w' ⟨rfl, rfl⟩) | (go_at_call 121; (with_reducible refine (Hv2.out).mono ?_); rintro e w' ⟨rfl, rfl⟩))
        go_ret2
        exact ⟨rfl, rfl⟩
      · simp at hbad
  · have hb : ((xs.length : Int) != ys.length) = true := by simp; omega
    clear hbad
    go_enter Tryd.func130, Tryd.ntmps130
    go_wp2
    go_ret2
    exact ⟨rfl, rfl⟩

def andM (x y : Int) : Int := if x = 3 then y else if y = 3 then x else if x = y then x else 0
theorem okPair_parts {xs ys : List Int} (h : okPair xs ys = true) : xs.length = ys.length ∧ xs.all isMask = true ∧ ys.all isMask = true := by
  unfold okPair at h
  simp only [Bool.and_eq_true, decide_eq_true_eq] at h
  exact ⟨h.1.1, h.1.2, h.2⟩

theorem meet_yes (w : World) (h : Tab w) (S T : Nat → Prop) (A B : Option Addr) (c d : Nat) (xs ys : List Int) (hs : SI w S A xs) (ht : SI w T B ys) (hl : xs.length ≤ 65536) (hok : okPair xs ys = true)
    (hz : (List.zipWith andM xs ys).any (fun x => 0 == x) = false) :
    Calls Tryd.prog 55 #[.slice A xs.length c, .slice B ys.length d] w fun e w' => ∃ A' c', e = .returned (.tuple #[.slice A' xs.length c', .bool true]) ∧ OI w' (fun g => w.heap.size ≤ g) A' c' (List.zipWith andM xs ys) ∧ Below w.heap.size w w' := by
  obtain ⟨o1, o2, o3⟩ := okPair_parts hok
  have Hp := Lib.hid (pairs_any _ goes_meet1 andM w h S T A B c d xs ys hs ht hl o1 o2 o3 (fun x y W h1 h2 h3 h4 => meet1_any x y W h1 h2 h3 h4))
  have hzl : (List.zipWith andM xs ys).length = xs.length := by simp; omega
  generalize List.zipWith andM xs ys = Z at *
  have Hzl := Lib.hid hzl
  have Hz := Lib.hid hz
  clear hzl hz o1 o2 o3 hok
  go_enter Tryd.func55, Tryd.ntmps55
  go_wp2_with (go_at_call 130; (with_reducible refine (Hp.out).mono ?_); rintro e w1 ⟨A1, c1, rfl, ho1, hb1⟩)
  have hc := contains_any 0 w1 _ A1 c1 Z ho1.si (by rw [Hzl.out]; exact hl)
  rw [Hz.out, Hzl.out] at hc
  refine hc.mono ?_
  rintro e w' ⟨rfl, rfl⟩
  go_wp2
  go_ret2
  exact ⟨_, _, rfl, ho1, hb1⟩

theorem meet_none (w : World) (h : Tab w) (S T : Nat → Prop) (A B : Option Addr) (c d : Nat) (xs ys : List Int) (hs : SI w S A xs) (ht : SI w T B ys) (hl : xs.length ≤ 65536) (hok : okPair xs ys = true)
    (hz : (List.zipWith andM xs ys).any (fun x => 0 == x) = true) :
    Calls Tryd.prog 55 #[.slice A xs.length c, .slice B ys.length d] w fun e w' => e = .returned (.tuple #[.slice none 0 0, .bool false]) ∧ Below w.heap.size w w' := by
  obtain ⟨o1, o2, o3⟩ := okPair_parts hok
  have Hp := Lib.hid (pairs_any _ goes_meet1 andM w h S T A B c d xs ys hs ht hl o1 o2 o3 (fun x y W h1 h2 h3 h4 => meet1_any x y W h1 h2 h3 h4))
  have hzl : (List.zipWith andM xs ys).length = xs.length := by simp; omega
  generalize List.zipWith andM xs ys = Z at *
  have Hzl := Lib.hid hzl
  have Hz := Lib.hid hz
  clear hzl hz o1 o2 o3 hok
  go_enter Tryd.func55, Tryd.ntmps55
  go_wp2_with (go_at_call 130; (with_reducible refine (Hp.out).mono ?_); rintro e w1 ⟨A1, c1, rfl, ho1, hb1⟩)
  have hc := contains_any 0 w1 _ A1 c1 Z ho1.si (by rw [Hzl.out]; exact hl)
  rw [Hz.out, Hzl.out] at hc
  refine hc.mono ?_
  rintro e w' ⟨rfl, rfl⟩
  go_wp2
  go_ret2
  exact ⟨rfl, hb1⟩

theorem meet_bad (w : World) (h : Tab w) (S T : Nat → Prop) (A B : Option Addr) (c d : Nat) (xs ys : List Int) (hs : SI w S A xs) (ht : SI w T B ys) (hl : xs.length ≤ 65536) (hl2 : ys.length ≤ 65536) (hok : okPair xs ys = false) :
    Calls Tryd.prog 55 #[.slice A xs.length c, .slice B ys.length d] w fun e w' => e = .returned (.tuple #[.slice none 0 0, .bool false]) ∧ w = w' := by
  have Hp := Lib.hid (pairs_bad (.func (.func 131) #[] #[]) w h S T A B c d xs ys hs ht hl hl2 hok)
  clear hok
  go_enter Tryd.func55, Tryd.ntmps55
  go_wp2_with (go_at_call 130; (with_reducible refine (Hp.out).mono ?_); rintro e w1 ⟨rfl, rfl⟩)
  go_ret2
  exact ⟨rfl, rfl⟩

theorem mod_eq (n k : Int) (hk : 1 ≤ k) : (n.tmod k + k).tmod k = n % k := by
  have h1 : -k < n.tmod k := Int.lt_tmod_of_pos n (by omega)
  rw [Int.tmod_eq_emod_of_nonneg (by omega)]
  have : n.tmod k + k = n + k * (1 - n.tdiv k) := by rw [Int.tmod_def, Int.mul_sub]; omega
  rw [this, Int.add_mul_emod_self_left]

theorem mod_any (n k : Int) (w : World) (hk : 1 ≤ k) (hk2 : k ≤ 1000) : Calls Tryd.prog 30 #[.int .i64 n, .int .i64 k] w fun e w' => e = .returned (.int .i64 (n % k)) ∧ w = w' := by
  have h1 : -k < n.tmod k := Int.lt_tmod_of_pos n (by omega)
  have h2 : n.tmod k < k := Int.tmod_lt_of_pos n (by omega)
  have h3 := mod_eq n k hk
  go_enter Tryd.func30, Tryd.ntmps30
  go_wp2
  go_ret
  refine ⟨?_, rfl⟩
  first | rfl | (rw [← h3]; rfl)
end Go.Proofs.YtgpcojmdfmngeaaDoor

/-
  Slices of ints, read and owned; append at an operation; function values that can be called.
-/
import Derived.Test.YtglhplddjjoggaaDoorProg
import Derived.Test.YtglhplddjjoggaaDoorMem
import Derived.StillTailTactics
import Derived.Deep.OwnRows
namespace Go.Proofs.YtglhplddjjoggaaDoor
open Go.RowKit
set_option maxHeartbeats 400000

abbrev ints (xs : List Int) : List Value := xs.map (Value.int .i64)
def SI (w : World) (S : Nat → Prop) (A : Option Addr) (xs : List Int) : Prop := SV w S A (ints xs)
def OI (w : World) (S : Nat → Prop) (A : Option Addr) (c : Nat) (xs : List Int) : Prop := OV w S 3 1 A xs.length c (ints xs)

theorem intInfo : (Tryd.prog.info? 3).map (fun i => (i.zero, i.size, i.bytes)) = some (some (.int .i64 0), 1, 8) := by kernel_rfl

section
variable {S T : Nat → Prop} {w w' : World} {A : Option Addr} {xs : List Int} {c : Nat}
theorem SI.nil : SI w S A [] := SV.nil
theorem SI.keep (h : SI w S A xs) (k : Kept S w w') : SI w' S A xs := SV.keep h k
theorem SI.mono (h : SI w S A xs) (hST : ∀ b, b < w.heap.size → S b → T b) : SI w T A xs := SV.mono h hST
theorem SI.at_ (h : SI w S A xs) {k : Nat} (hk : k < xs.length) : ∃ b off, A = some ⟨b, off, none⟩ ∧ S b ∧ b < w.heap.size ∧ w.cell? ⟨b, off + k, none⟩ = some (.int .i64 xs[k]) := by
  obtain ⟨b, off, e, hs, hb, hc⟩ := h (by intro hx; have : xs = [] := by simpa [ints] using hx
                                          subst this; simp at hk)
  exact ⟨b, off, e, hs, hb, hc k _ (by simp [ints, List.getElem?_eq_getElem hk])⟩
theorem OI.nil (w : World) (S : Nat → Prop) : OI w S none 0 [] := OV.nil w S _ _
theorem OI.keep (h : OI w S A c xs) (k : Kept S w w') : OI w' S A c xs := OV.keep h k
theorem OI.mono (h : OI w S A c xs) (hST : ∀ b, b < w.heap.size → S b → T b) : OI w T A c xs := OV.mono h hST
theorem OI.si (h : OI w S A c xs) : SI w S A xs := OV.sv h
theorem OI.cap (h : OI w S A c xs) : xs.length ≤ c ∧ c ≤ maxLen := ⟨h.1, h.2.1⟩
theorem OI.at_ (h : OI w S A c xs) {k : Nat} (hk : k < xs.length) : ∃ g off, A = some ⟨g, off, none⟩ ∧ S g ∧ g < w.heap.size ∧ w.cell? ⟨g, off + k, none⟩ = some (.int .i64 xs[k]) ∧ w.frozen? ⟨g, off + k, none⟩ = false := by
  obtain ⟨g, off, e, hs, hb, hc, hf⟩ := OV.cell h (j := k) (by simpa [ints] using hk)
  exact ⟨g, off, e, hs, hb, by simpa [ints] using hc, hf⟩
theorem OI.set {g off : Nat} (h : OI w S (some ⟨g, off, none⟩) c xs) (k : Nat) (x : Int) : OI (w.setCell ⟨g, off + k, none⟩ (.int .i64 x)) S (some ⟨g, off, none⟩) c (xs.set k x) := by
  have := OV.set h k (.int .i64 x)
  unfold OI
  rw [List.length_set, ints, List.map_set]
  exact this
end

/-- append of a slice of ints that can be read onto an owned one. -/
theorem wpList_app {w : World} {ops : Array Oper} {rest : List Oper} {o : Oper} {a : Act} {Q : Exit → Act → World → Prop} (hgd : o.guard = none) (s x : Operand)
    (ho : o.op = .call { callee := .builtin .append, args := #[s, x], argTypes := #[22, 22] })
    {S T : Nat → Prop} {A B : Option Addr} {n m c c2 : Nat} {xs ys : List Int} (hs : a.eval s = .slice A n c) (hx : a.eval x = .slice B m c2) (hn : n = xs.length) (hm : m = ys.length)
    (hown : OI w S A c xs) (hnews : SI w T B ys) (hb : xs.length + ys.length ≤ 17592186044416)
    (h : ∀ A' c' w', OI w' (fun g => S g ∨ g = w.heap.size) A' c' (xs ++ ys) → w.grownBy w' (blockOf A) → (blockOf A' = blockOf A ∨ blockOf A' = some w.heap.size) →
      wpList Tryd.prog ops Q rest (a.put o.dst (.slice A' (xs ++ ys).length c')) w') : wpList Tryd.prog ops Q (o :: rest) a w := by
  subst hn hm
  obtain ⟨i0, hi, hz0, hz1, hz2⟩ := info_parts intInfo
  obtain ⟨A', c', w', hr, h2, h3, h4⟩ := run_append_OV (P := Tryd.prog) w S 22 o.type 3 i0 _ 1 8 Tryd.underlying22 hi hz0 hz1 hz2 rfl (by decide) A xs.length c (ints xs) hown T B ys.length c2 (ints ys) (by simp [ints]) hnews
    (ints_oneCell _ _) (by simp only [maxLen]; omega) (by omega)
  refine wpList_plain hgd fun K hK => ?_
  unfold Oper.wp execOp
  simp only [ho, resolve, invoke, builtin, Sem.run_bind, Sem.run_pure, Result.andThen_ok, List.map_toArray, List.map_cons, List.map_nil, hs, hx, hr]
  refine hK _ _ ?_
  have e1 : (xs ++ ys).length = xs.length + ys.length := by simp
  have := h A' c' w' (by unfold OI; rw [e1]; simpa [ints] using h2) h3 h4
  rw [e1] at this
  exact this

/-- append of one int. -/
theorem wpList_app1 {w : World} {ops : Array Oper} {rest : List Oper} {o : Oper} {a : Act} {Q : Exit → Act → World → Prop} (hgd : o.guard = none) (s x : Operand)
    (ho : o.op = .call { callee := .builtin .append, args := #[s, x], argTypes := #[22, 22] })
    {S : Nat → Prop} {A : Option Addr} {n b c c2 : Nat} {y : Int} {xs : List Int} (hs : a.eval s = .slice A n c) (hx : a.eval x = .slice (some ⟨b, 0, none⟩) 1 c2) (hn : n = xs.length)
    (hown : OI w S A c xs) (hc : w.cell? ⟨b, 0, none⟩ = some (.int .i64 y)) (hb : xs.length + 1 ≤ 17592186044416)
    (h : ∀ A' c' w', OI w' (fun g => S g ∨ g = w.heap.size) A' c' (xs ++ [y]) → w.grownBy w' (blockOf A) → (blockOf A' = blockOf A ∨ blockOf A' = some w.heap.size) →
      wpList Tryd.prog ops Q rest (a.put o.dst (.slice A' (xs.length + 1) c')) w') : wpList Tryd.prog ops Q (o :: rest) a w := by
  refine wpList_app (T := fun _ => True) (ys := [y]) hgd s x ho hs hx hn rfl hown (fun _ => ⟨b, 0, rfl, trivial, World.block_lt_of_cell? w _ hc, fun j u hj => ?_⟩) (by simpa using hb) (fun A' c' w' h1 h2 h3 => ?_)
  · cases j with
    | zero => simp [ints] at hj; subst hj; exact hc
    | succ j => simp [ints] at hj
  · have := h A' c' w' h1 h2 h3
    simpa using this

theorem OV.block {w : World} {S : Nat → Prop} {e : TypeId} {size n c : Nat} {A : Option Addr} {xs : List Value} (h : OV w S e size A n c xs) : ∀ g, blockOf A = some g → S g ∧ g < w.heap.size := by
  intro g hg
  rcases h.2.2.2 with ⟨rfl, _⟩ | ⟨g', off, cur, rfl, hs, hh, _⟩
  · simp [blockOf] at hg
  · simp [blockOf] at hg
    subst hg
    exact ⟨hs, (Array.getElem?_eq_some_iff.1 hh).1⟩

theorem new_cell (w : World) (u : Value) (t : TypeId) : (w.alloc (.cells #[u] t)).cell? ⟨w.heap.size, 0, none⟩ = some u := by
  rw [cell_of_row _ w.heap.size 0 #[u] t (0, 0) (heap_alloc_new w _)]; rfl

/-- A new block that holds just the ints xs. -/
theorem OI.lit (w : World) (xs : List Int) (h : xs.length ≤ maxLen) : OI (w.alloc (.cells (ints xs).toArray 3)) (fun g => w.heap.size ≤ g) (some ⟨w.heap.size, 0, none⟩) xs.length xs :=
  ⟨Nat.le_refl _, h, by simp [ints], .inr ⟨w.heap.size, 0, _, rfl, Nat.le_refl _, heap_alloc_new w _, by simp [ints], fun j u hj => by simpa using hj⟩⟩
theorem SI.none_nil {w : World} {S : Nat → Prop} {xs : List Int} (h : SI w S none xs) : xs = [] := by
  cases xs with
  | nil => rfl
  | cons x xs =>
    obtain ⟨b, off, e, _⟩ := h (by simp [ints])
    cases e

/-- append of one int onto a slice of the call's own (blocks from B on). -/
theorem wpList_push {w : World} {ops : Array Oper} {rest : List Oper} {o : Oper} {a : Act} {Q : Exit → Act → World → Prop} (hgd : o.guard = none) (s x : Operand)
    (ho : o.op = .call { callee := .builtin .append, args := #[s, x], argTypes := #[22, 22] })
    {B : Nat} {A : Option Addr} {n b c c2 : Nat} {y : Int} {xs : List Int} (hs : a.eval s = .slice A n c) (hx : a.eval x = .slice (some ⟨b, 0, none⟩) 1 c2) (hn : n = xs.length)
    (hown : OI w (fun g => B ≤ g) A c xs) (hc : w.cell? ⟨b, 0, none⟩ = some (.int .i64 y)) (hb : xs.length + 1 ≤ 17592186044416) (hB : B ≤ w.heap.size)
    (h : ∀ A' c' w', OI w' (fun g => B ≤ g) A' c' (xs ++ [y]) → Below B w w' → w.grownBy w' (blockOf A) → (blockOf A' = blockOf A ∨ blockOf A' = some w.heap.size) →
      wpList Tryd.prog ops Q rest (a.put o.dst (.slice A' (xs.length + 1) c')) w') : wpList Tryd.prog ops Q (o :: rest) a w :=
  wpList_app1 hgd s x ho hs hx hn hown hc hb fun A' c' w' h1 h2 h3 =>
    h A' c' w' (h1.mono fun g _ hg => by rcases hg with hg | hg <;> omega) ((Below.refl B w).grown h2 hB fun g hg => (OV.block hown g hg).1) h2 h3

/-- append of a slice of ints onto one of the call's own. -/
theorem wpList_pushAll {w : World} {ops : Array Oper} {rest : List Oper} {o : Oper} {a : Act} {Q : Exit → Act → World → Prop} (hgd : o.guard = none) (s x : Operand)
    (ho : o.op = .call { callee := .builtin .append, args := #[s, x], argTypes := #[22, 22] })
    {B : Nat} {T : Nat → Prop} {A A2 : Option Addr} {n m c c2 : Nat} {xs ys : List Int} (hs : a.eval s = .slice A n c) (hx : a.eval x = .slice A2 m c2) (hn : n = xs.length) (hm : m = ys.length)
    (hown : OI w (fun g => B ≤ g) A c xs) (hnews : SI w T A2 ys) (hb : xs.length + ys.length ≤ 17592186044416) (hB : B ≤ w.heap.size)
    (h : ∀ A' c' w', OI w' (fun g => B ≤ g) A' c' (xs ++ ys) → Below B w w' → w.grownBy w' (blockOf A) → (blockOf A' = blockOf A ∨ blockOf A' = some w.heap.size) →
      wpList Tryd.prog ops Q rest (a.put o.dst (.slice A' (xs ++ ys).length c')) w') : wpList Tryd.prog ops Q (o :: rest) a w :=
  wpList_app hgd s x ho hs hx hn hm hown hnews hb fun A' c' w' h1 h2 h3 =>
    h A' c' w' (h1.mono fun g _ hg => by rcases hg with hg | hg <;> omega) ((Below.refl B w).grown h2 hB fun g hg => (OV.block hown g hg).1) h2 h3

/-- make([]T, n), T of one cell. -/
theorem wpList_makeV {w : World} {ops : Array Oper} {rest : List Oper} {o : Oper} {a : Act} {Q : Exit → Act → World → Prop}
    (hg : o.guard = none) (l c : Operand) (t : TypeId) (hop : o.op = Op.makeSlice t l c)
    (e : TypeId) (z : Value) (bytes : Nat) (ht : Tryd.prog.underlying t = some (.slice e)) (hinfo : (Tryd.prog.info? e).map (fun i => (i.zero, i.size, i.bytes)) = some (some z, 1, bytes)) (hz1 : z.cells = #[z])
    (kl kc : IntKind) (n : Nat) (hl : a.eval l = .int kl (n : Int)) (hc : a.eval c = .int kc (n : Int)) (hbytes : bytes * n ≤ 281474976710656) (h63 : n ≤ 9223372036854775807)
    (hK : ∀ w', OV w' (fun g => g = w.heap.size) e 1 (some ⟨w.heap.size, 0, none⟩) n n (List.replicate n z) → Below w.heap.size w w' → w'.heap.size = w.heap.size + 1 →
      wpList Tryd.prog ops Q rest (a.put o.dst (.slice (some ⟨w.heap.size, 0, none⟩) n n)) w') :
    wpList Tryd.prog ops Q (o :: rest) a w := by
  refine wpList_plain hg fun K hK' => ?_
  have hrun := run_make_row' (P := Tryd.prog) t e z bytes ht hinfo hz1 kl kc n hbytes h63 w
  unfold Oper.wp
  simp [execOp, hop, hl, hc, hrun, Result.andThen]
  refine hK' _ _ (hK _ ⟨Nat.le_refl _, by simp only [maxLen]; omega, by simp, .inr ⟨w.heap.size, 0, _, rfl, rfl, heap_alloc_new w _, by simp [size_madeCells], fun j u hj => ?_⟩⟩ ((Below.refl _ _).alloc (Nat.le_refl _) _) (by simp))
  rw [List.getElem?_replicate] at hj
  split at hj
  · rename_i hlt
    simp at hj
    subst hj
    simp [madeCells, hlt, Nat.mod_one]
  · cases hj

/-- A slice that is filled place by place. -/
def filled {α : Type} (Z : List α) (z : α) (k : Nat) : List α := Z.take k ++ List.replicate (Z.length - k) z
theorem filled_len {α : Type} (Z : List α) (z : α) (k : Nat) (h : k ≤ Z.length) : (filled Z z k).length = Z.length := by simp [filled]; omega
theorem filled_step {α : Type} (Z : List α) (z : α) (k : Nat) (h : k < Z.length) : (filled Z z k).set k Z[k] = filled Z z (k + 1) := by
  unfold filled
  have hl : (Z.take k).length = k := by simp; omega
  rw [List.set_append_right _ _ (by omega), hl, Nat.sub_self, show Z.length - k = (Z.length - (k + 1)) + 1 by omega, List.replicate_succ, List.set_cons_zero, List.take_succ_eq_append_getElem h, List.append_assoc]
  rfl
theorem filled_all {α : Type} (Z : List α) (z : α) (k : Nat) (h : Z.length ≤ k) : filled Z z k = Z := by
  unfold filled; rw [List.take_of_length_le h, show Z.length - k = 0 by omega]; simp
theorem filled_zero {α : Type} (Z : List α) (z : α) : filled Z z 0 = List.replicate Z.length z := by simp [filled]

/-- A function value may be called: it has a body. -/
def Goes (f : FuncId) : Prop := ∀ args w, (callFunc f args).run Tryd.prog w = .ok (.enter f args) w
end Go.Proofs.YtglhplddjjoggaaDoor

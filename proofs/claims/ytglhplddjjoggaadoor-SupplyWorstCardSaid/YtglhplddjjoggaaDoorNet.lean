/-
  Networks in memory: nodes and devices as rows of cells; append of a struct; the network that is being made, and the walk of the function that adds a device.
-/
import Derived.Test.YtglhplddjjoggaaDoorDeck
import Derived.Test.YtglhplddjjoggaaDoorExt
import Derived.Deep.RegionHeld3
import Derived.Deep.DeepCutAuto
namespace Go.Proofs.YtglhplddjjoggaaDoor
open Go.RowKit
set_option maxHeartbeats 400000

structure Node where
  name : ByteArray
  cust : Int
  comp : Int
structure Dev where
  name : ByteArray
  kind : Int
  a : Int
  b : Int
  comp : Int

def nodeCells (x : Node) : List Value := [.string x.name, .int .i64 x.cust, .int .i64 x.comp]
def devCells (d : Dev) : List Value := [.string d.name, .int .i64 d.kind, .int .i64 d.a, .int .i64 d.b, .int .i64 d.comp]
def nodesV (xs : List Node) : List Value := xs.flatMap nodeCells
def devsV (xs : List Dev) : List Value := xs.flatMap devCells

theorem nodesV_len (xs : List Node) : (nodesV xs).length = xs.length * 3 := by
  induction xs with
  | nil => rfl
  | cons x xs ih => simp [nodesV, nodeCells] at ih ⊢; omega
theorem devsV_len (xs : List Dev) : (devsV xs).length = xs.length * 5 := by
  induction xs with
  | nil => rfl
  | cons x xs ih => simp [devsV, devCells] at ih ⊢; omega
theorem nodesV_snoc (xs : List Node) (x : Node) : nodesV (xs ++ [x]) = nodesV xs ++ nodeCells x := by simp [nodesV]
theorem devsV_snoc (xs : List Dev) (x : Dev) : devsV (xs ++ [x]) = devsV xs ++ devCells x := by simp [devsV]

theorem nodesV_at : ∀ (xs : List Node) (i : Nat) (x : Node), xs[i]? = some x → ∀ j, j < 3 → (nodesV xs)[i * 3 + j]? = (nodeCells x)[j]?
  | [], i, x, h => by simp at h
  | y :: ys, 0, x, h => by
    intro j hj
    simp at h
    subst h
    simp only [nodesV, List.flatMap_cons]
    rw [List.getElem?_append_left (by simp [nodeCells]; omega)]
    simp
  | y :: ys, i + 1, x, h => by
    intro j hj
    have ih := nodesV_at ys i x (by simpa using h) j hj
    simp only [nodesV, List.flatMap_cons] at ih ⊢
    rw [List.getElem?_append_right (by simp [nodeCells]; omega), ← ih]
    congr 1; simp [nodeCells]; omega
theorem devsV_at : ∀ (xs : List Dev) (i : Nat) (x : Dev), xs[i]? = some x → ∀ j, j < 5 → (devsV xs)[i * 5 + j]? = (devCells x)[j]?
  | [], i, x, h => by simp at h
  | y :: ys, 0, x, h => by
    intro j hj
    simp at h
    subst h
    simp only [devsV, List.flatMap_cons]
    rw [List.getElem?_append_left (by simp [devCells]; omega)]
    simp
  | y :: ys, i + 1, x, h => by
    intro j hj
    have ih := devsV_at ys i x (by simpa using h) j hj
    simp only [devsV, List.flatMap_cons] at ih ⊢
    rw [List.getElem?_append_right (by simp [devCells]; omega), ← ih]
    congr 1; simp [devCells]; omega

theorem nodeInfo : (Tryd.prog.info? 92).map (fun i => (i.zero, i.size, i.bytes)) = some (some (.agg #[.string ⟨#[]⟩, .int .i64 0, .int .i64 0]), 3, 32) := by kernel_rfl
theorem devInfo : (Tryd.prog.info? 81).map (fun i => (i.zero, i.size, i.bytes)) = some (some (.agg #[.string ⟨#[]⟩, .int .i64 0, .int .i64 0, .int .i64 0, .int .i64 0]), 5, 48) := by kernel_rfl

/-- append of one element of whatever type, whose cells lie in a block of their own, onto an owned slice. -/
theorem wpList_pushG {w : World} {ops : Array Oper} {rest : List Oper} {o : Oper} {a : Act} {Q : Exit → Act → World → Prop} (hgd : o.guard = none) (s x : Operand) (t e : TypeId) (z : Value) (size bytes : Nat)
    (ho : o.op = .call { callee := .builtin .append, args := #[s, x], argTypes := #[t, t] }) (ht : Tryd.prog.underlying t = some (.slice e))
    (hinfo : (Tryd.prog.info? e).map (fun i => (i.zero, i.size, i.bytes)) = some (some z, size, bytes)) (hzs : z.cells.size = size) (hsz : 0 < size)
    {S : Nat → Prop} {A : Option Addr} {n b c c2 : Nat} {xs ys : List Value} (hs : a.eval s = .slice A n c) (hx : a.eval x = .slice (some ⟨b, 0, none⟩) 1 c2)
    (hown : OV w S e size A n c xs) (hyl : ys.length = size) (hy1 : ∀ u ∈ ys, u.oneCell' = true) (hc : Lie w b 0 ys) (hbl : b < w.heap.size) (hb : n ≤ 65536) (hby : bytes ≤ 1048576)
    (h : ∀ A' c' w', OV w' (fun g => S g ∨ g = w.heap.size) e size A' (n + 1) c' (xs ++ ys) → w.grownBy w' (blockOf A) → (blockOf A' = blockOf A ∨ blockOf A' = some w.heap.size) →
      wpList Tryd.prog ops Q rest (a.put o.dst (.slice A' (n + 1) c')) w') : wpList Tryd.prog ops Q (o :: rest) a w := by
  obtain ⟨i0, hi, hz0, hz1, hz2⟩ := info_parts hinfo
  have hbytes : (n + 1) * bytes ≤ 140737488355328 := Nat.le_trans (Nat.mul_le_mul (show n + 1 ≤ 65537 by omega) hby) (by decide)
  obtain ⟨A', c', w', hr, h2, h3, h4⟩ := run_append_OV (P := Tryd.prog) w S t o.type e i0 z size bytes ht hi hz0 hz1 hz2 hzs hsz A n c xs hown (fun _ => True) (some ⟨b, 0, none⟩) 1 c2 ys (by omega)
    (fun _ => ⟨b, 0, rfl, trivial, hbl, hc⟩) hy1 (by simp only [maxLen]; omega) hbytes
  refine wpList_plain hgd fun K hK => ?_
  unfold Oper.wp execOp
  simp only [ho, resolve, invoke, builtin, Sem.run_bind, Sem.run_pure, Result.andThen_ok, List.map_toArray, List.map_cons, List.map_nil, hs, hx, hr]
  exact hK _ _ (h A' c' w' h2 h3 h4)

theorem OV.keep1 {w w' : World} {S : Nat → Prop} {e : TypeId} {size n c : Nat} {A : Option Addr} {xs : List Value} (h : OV w S e size A n c xs) (k : ∀ g, blockOf A = some g → w'.heap[g]? = w.heap[g]?) : OV w' S e size A n c xs := by
  obtain ⟨h1, h2, h3, h4⟩ := h
  refine ⟨h1, h2, h3, ?_⟩
  rcases h4 with h4 | ⟨g, off, cur, rfl, hs, hg, hsz, hc⟩
  · exact .inl h4
  · exact .inr ⟨g, off, cur, rfl, hs, (k g rfl).trans hg, hsz, hc⟩
/-- The block of an owned slice has its element's type. -/
theorem OV.type {w : World} {S : Nat → Prop} {e : TypeId} {size n c : Nat} {A : Option Addr} {xs : List Value} (h : OV w S e size A n c xs) : ∀ g, blockOf A = some g → S g ∧ ∃ cur, w.heap[g]? = some (.cells cur e (0, 0)) := by
  intro g hg
  rcases h.2.2.2 with ⟨rfl, _⟩ | ⟨g', off, cur, rfl, hs, hh, _⟩
  · simp [blockOf] at hg
  · simp [blockOf] at hg
    subst hg
    exact ⟨hs, cur, hh⟩
theorem ne_of_type {w : World} {g h : Nat} {cs ds : Array Value} {t u : TypeId} (hg : w.heap[g]? = some (.cells cs t (0, 0))) (hh : w.heap[h]? = some (.cells ds u (0, 0))) (ht : t ≠ u) : g ≠ h := by
  rintro rfl
  rw [hg] at hh
  injection hh with hh
  injection hh with _ e
  exact ht e

theorem Lie.new (w : World) (cs : List Value) (t : TypeId) : Lie (w.alloc (.cells cs.toArray t)) w.heap.size 0 cs := fun j u hj => by
  rw [cell_of_row _ w.heap.size (0 + j) cs.toArray t (0, 0) (heap_alloc_new w _)]; simpa using hj

/-- Of the blocks below B only bd may have changed. -/
structure Fr (B bd : Nat) (w w' : World) : Prop where
  os : w'.os = w.os
  tape : w'.tape = w.tape
  output : w'.output = w.output
  size : w.heap.size ≤ w'.heap.size
  block : ∀ k, k < B → k ≠ bd → w'.heap[k]? = w.heap[k]?
theorem Fr.refl (B bd : Nat) (w : World) : Fr B bd w w := ⟨rfl, rfl, rfl, Nat.le_refl _, fun _ _ _ => rfl⟩
theorem Fr.trans {B bd : Nat} {a b c : World} (h : Fr B bd a b) (k : Fr B bd b c) : Fr B bd a c :=
  ⟨k.os.trans h.os, k.tape.trans h.tape, k.output.trans h.output, Nat.le_trans h.size k.size, fun i hi hn => (k.block i hi hn).trans (h.block i hi hn)⟩
theorem Fr.of_below {B bd : Nat} {w w' : World} (h : Below B w w') : Fr B bd w w' := ⟨h.os, h.tape, h.output, h.size, fun k hk _ => h.block k hk⟩
theorem Fr.of_grown {B bd : Nat} {w w' : World} (h : w.grownBy w' (some bd)) (hB : B ≤ w.heap.size) : Fr B bd w w' := ⟨h.os, h.tape, h.output, h.size, fun k hk hn => h.block k (by omega) (by intro e; injection e with e; exact hn e)⟩

/-- The network that is being made. -/
def NB (w : World) (B gn gm gp bd : Nat) (M : Nat) (ns : List Node) (ds : List Dev) : Prop :=
  (∃ A1 c1 A2 c2, w.heap[gn]? = some (.cells #[.slice A1 ns.length c1, .slice A2 ds.length c2] 26 (0, 0)) ∧ OV w (fun g => B ≤ g) 92 3 A1 ns.length c1 (nodesV ns) ∧ OV w (fun g => B ≤ g) 81 5 A2 ds.length c2 (devsV ds)) ∧
  w.heap[gm]? = some (.cells #[.int .i64 M] 3 (0, 0)) ∧ w.heap[gp]? = some (.cells #[.pointer (some ⟨bd, 0, none⟩)] 31 (0, 0)) ∧ Deck w bd ∧ B ≤ gn ∧ gm ≠ bd ∧ gp ≠ bd ∧ bd < B

def letter (kind : Nat) : List UInt8 := match kind with | 1 => [76] | 2 => [81] | 3 => [68] | 4 => [69] | 5 => [83] | 6 => [71] | _ => []
def kindsCells : Array Value := #[.string ⟨#[]⟩, .string ⟨#[76]⟩, .string ⟨#[81]⟩, .string ⟨#[68]⟩, .string ⟨#[69]⟩, .string ⟨#[83]⟩, .string ⟨#[71]⟩]

/-- What the slots of the device's making hold. -/
def AddT (w0 : World) (gn kind k5 : Nat) (A2 : Option Addr) (c2 : Nat) (a b : Int) (d : Nat) (v : Value) (w : World) : Prop :=
  match d with
  | 15 => ∃ g, v = .slice (some ⟨g, 0, none⟩) 7 7 ∧ w.heap[g]? = some (.cells kindsCells 9 (0, 0))
  | 16 => v = .int .i64 kind
  | 17 => ∃ g, v = .pointer (some ⟨g, kind, none⟩) ∧ w.heap[g]? = some (.cells kindsCells 9 (0, 0))
  | 18 => v = .string ⟨(letter kind).toArray⟩
  | 19 => v = .pointer (some ⟨gn, 1, none⟩)
  | 20 => v = .slice A2 k5 c2
  | 21 => v = .int .i64 k5
  | 22 => v = .string (nm (letter kind) k5)
  | 23 => v = .int .i64 kind
  | 24 => v = .int .i64 a
  | 25 => v = .int .i64 b
  | 26 => v = .agg #[.string (nm (letter kind) k5), .int .i64 kind, .int .i64 a, .int .i64 b, .int .i64 0]
  | 9 => ∃ g, v = .pointer (some ⟨g, 0, none⟩) ∧ w0.heap.size ≤ g ∧ w.heap[g]? = some (.cells #[.string ⟨#[]⟩, .int .i64 0, .int .i64 0, .int .i64 0, .int .i64 0] 81 (0, 0))
  | _ => True

theorem AddT.stable {w0 : World} {gn kind k5 : Nat} {A2 : Option Addr} {c2 : Nat} {a b : Int} (d : Nat) (v : Value) (w w' : World) (h : Below w.heap.size w w') (ht : AddT w0 gn kind k5 A2 c2 a b d v w) : AddT w0 gn kind k5 A2 c2 a b d v w' := by
  have hk : ∀ (g : Nat) (o : Obj), w.heap[g]? = some o → w'.heap[g]? = some o := fun g o hg => (h.block g (Array.getElem?_eq_some_iff.1 hg).1).trans hg
  unfold AddT at *
  split at ht <;> first
    | exact ht
    | (obtain ⟨g, h1, h2⟩ := ht; exact ⟨g, h1, hk g _ h2⟩)
    | (obtain ⟨g, h1, h2, h3⟩ := ht; exact ⟨g, h1, h2, hk g _ h3⟩)

set_option maxHeartbeats 1000000 in
theorem add_any (w : World) (B gn gm gp bd M : Nat) (ns : List Node) (ds : List Dev) (hM : M ≤ 60) (h : NB w B gn gm gp bd M ns ds) (kind : Nat) (hk : 1 ≤ kind) (hk6 : kind ≤ 6) (a b : Int) :
    Calls Tryd.prog 99 #[.int .i64 kind, .int .i64 a, .int .i64 b, .pointer (some ⟨gn, 0, none⟩), .pointer (some ⟨gm, 0, none⟩), .pointer (some ⟨gp, 0, none⟩)] w
      fun e w' => e = .returned (.tuple #[]) ∧ Fr B bd w w' ∧ ((M ≤ ds.length ∧ NB w' B gn gm gp bd M ns ds) ∨
        (ds.length < M ∧ ∃ comp : Nat, comp ≤ 2 ∧ NB w' B gn gm gp bd M ns (ds ++ [⟨nm (letter kind) ds.length, kind, a, b, comp⟩]))) := by
  obtain ⟨⟨A1, c1, A2, c2, hgn, ho1, ho2⟩, hgm, hgp, hd, b1, b2, b3, b4⟩ := h
  have cn : w.cell? ⟨gn, 1, none⟩ = some (.slice A2 ds.length c2) := by rw [cell_of_row w gn 1 _ _ _ hgn]; rfl
  have cm : w.cell? ⟨gm, 0, none⟩ = some (.int .i64 M) := by rw [cell_of_row w gm 0 _ _ _ hgm]; rfl
  have cp : w.cell? ⟨gp, 0, none⟩ = some (.pointer (some ⟨bd, 0, none⟩)) := by rw [cell_of_row w gp 0 _ _ _ hgp]; rfl
  have Hgn := Lib.hid hgn
  have Hgm := Lib.hid hgm
  have Hgp := Lib.hid hgp
  clear hgn hgm hgp
  by_cases hfull : M ≤ ds.length
  · go_enter Tryd.func99, Tryd.ntmps99
    go_wp2_with (fail)
    refine bodyPost_ret (results_none rfl _ _ _) rfl ?_
    exact ⟨rfl, Fr.refl _ _ _, .inl ⟨hfull, ⟨A1, c1, A2, c2, Hgn.out, ho1, ho2⟩, Hgm.out, Hgp.out, hd, b1, b2, b3, b4⟩⟩
  · have hgnl : gn < w.heap.size := World.block_lt_of_cell? w _ cn
    have hkc : ∀ W : World, (W.alloc (.cells kindsCells 9)).cell? ⟨W.heap.size, kind, none⟩ = some (.string ⟨(letter kind).toArray⟩) := fun W => by
      rw [cell_of_row _ W.heap.size kind _ _ _ (heap_alloc_new W _)]
      have : kind = 1 ∨ kind = 2 ∨ kind = 3 ∨ kind = 4 ∨ kind = 5 ∨ kind = 6 := by omega
      rcases this with rfl | rfl | rfl | rfl | rfl | rfl <;> rfl
    have hkc' : kindsCells[kind]? = some (.string ⟨(letter kind).toArray⟩) := by
      have : kind = 1 ∨ kind = 2 ∨ kind = 3 ∨ kind = 4 ∨ kind = 5 ∨ kind = 6 := by omega
      rcases this with rfl | rfl | rfl | rfl | rfl | rfl <;> rfl
    clear hkc
    have Hkc := Lib.hid hkc'
    clear hkc'
    go_enter Tryd.func99, Tryd.ntmps99
    go_upto_region 1 with fail
    go_cut [9] (fun s9 wx => ∃ g : Nat, s9 = .pointer (some ⟨g, 0, none⟩) ∧ w.heap.size ≤ g ∧ wx.heap[g]? = some (.cells #[.string (nm (letter kind) ds.length), .int .i64 kind, .int .i64 a, .int .i64 b, .int .i64 0] 81 (0, 0)) ∧ Below w.heap.size w wx)
    case first =>
      refine wp_region_ext (by kernel_rfl) 13 [15, 16, 17, 18, 19, 20, 21, 22, 23, 24, 25, 26, 9] (fun w' => Below w.heap.size w w') (fun w1 w2 => Below w1.heap.size w1 w2) (AddT w gn kind ds.length A2 c2 a b) (by kernel_rfl) ((Below.refl _ _).drew) (fun d v w1 w2 _ h ht => AddT.stable d v w1 w2 h ht) ?_ ?_
      · have k2 : (kind : Int) < 7 := by omega
        clear Hgn Hgm Hgp ho1 ho2 hd cm cp b1 b2 b3 b4
        intro i o d hi ho hd f w1 hC hdep K hK
        have hi' : i = 0 ∨ i = 1 ∨ i = 2 ∨ i = 3 ∨ i = 4 ∨ i = 5 ∨ i = 6 ∨ i = 7 ∨ i = 8 ∨ i = 9 ∨ i = 10 ∨ i = 11 ∨ i = 12 := by omega
        rcases hi' with rfl | rfl | rfl | rfl | rfl | rfl | rfl | rfl | rfl | rfl | rfl | rfl | rfl
        · simp only [List.getElem?_toArray, List.getElem?_cons_zero, Option.some.injEq] at ho
          subst ho
          simp only [Option.some.injEq] at hd
          subst hd
          generalize hA : fr _ _ _ f = A at hK ⊢
          clear hA hdep
          go_simp
          exact hK _ _ ((Below.refl _ _).alloc (Nat.le_refl _) _) (hC.alloc hC.size _) ⟨w1.heap.size, rfl, heap_alloc_new w1 _⟩
        · simp only [List.getElem?_toArray, List.getElem?_cons_zero, List.getElem?_cons_succ, Option.some.injEq] at ho
          subst ho
          simp only [Option.some.injEq] at hd
          subst hd
          generalize hA : fr _ _ _ f = A at hK ⊢
          have e0 : A.tmps[0]?.getD undef = .int .i64 kind := by rw [← hA]; exact fr_out _ _ _ _ 0 _ (by decide) rfl
          clear hA hdep
          go_simp
          exact hK _ _ (Below.refl _ _) hC rfl
        · simp only [List.getElem?_toArray, List.getElem?_cons_zero, List.getElem?_cons_succ, Option.some.injEq] at ho
          subst ho
          simp only [Option.some.injEq] at hd
          subst hd
          have h15 : AddT w gn kind ds.length A2 c2 a b 15 (f 15) w1 := hdep { on := 0, ground := .data } (by simp) 15 rfl
          have h16 : AddT w gn kind ds.length A2 c2 a b 16 (f 16) w1 := hdep { on := 1, ground := .data } (by simp) 16 rfl
          generalize hA : fr _ _ _ f = A at hK ⊢
          have e15 : A.tmps[15]?.getD undef = f 15 := by rw [← hA]; exact fr_in _ _ _ _ 15 (by decide) (by simp)
          have e16 : A.tmps[16]?.getD undef = f 16 := by rw [← hA]; exact fr_in _ _ _ _ 16 (by decide) (by simp)
          clear hA hdep
          obtain ⟨g, h15, hg⟩ := h15
          have h16' : f 16 = .int .i64 kind := h16
          rw [h15] at e15
          rw [h16'] at e16
          clear h15 h16 h16'
          have Hg := Lib.hid hg
          clear hg
          go_simp
          exact hK _ _ (Below.refl _ _) hC ⟨g, rfl, Hg.out⟩
        · simp only [List.getElem?_toArray, List.getElem?_cons_zero, List.getElem?_cons_succ, Option.some.injEq] at ho
          subst ho
          simp only [Option.some.injEq] at hd
          subst hd
          have h17 : AddT w gn kind ds.length A2 c2 a b 17 (f 17) w1 := hdep { on := 2, ground := .data } (by simp) 17 rfl
          generalize hA : fr _ _ _ f = A at hK ⊢
          have e17 : A.tmps[17]?.getD undef = f 17 := by rw [← hA]; exact fr_in _ _ _ _ 17 (by decide) (by simp)
          clear hA hdep
          obtain ⟨g, h17, hg⟩ := h17
          rw [h17] at e17
          have hcell : w1.cell? ⟨g, kind, none⟩ = some (.string ⟨(letter kind).toArray⟩) := by rw [cell_of_row w1 g kind _ _ _ hg]; exact Hkc.out
          clear h17 hg
          go_simp
          exact hK _ _ (Below.refl _ _) hC rfl
        · simp only [List.getElem?_toArray, List.getElem?_cons_zero, List.getElem?_cons_succ, Option.some.injEq] at ho
          subst ho
          simp only [Option.some.injEq] at hd
          subst hd
          generalize hA : fr _ _ _ f = A at hK ⊢
          have e3 : A.tmps[3]?.getD undef = .pointer (some ⟨gn, 0, none⟩) := by rw [← hA]; exact fr_out _ _ _ _ 3 _ (by decide) rfl
          clear hA hdep
          go_simp
          exact hK _ _ (Below.refl _ _) hC rfl
        · simp only [List.getElem?_toArray, List.getElem?_cons_zero, List.getElem?_cons_succ, Option.some.injEq] at ho
          subst ho
          simp only [Option.some.injEq] at hd
          subst hd
          have h19 : AddT w gn kind ds.length A2 c2 a b 19 (f 19) w1 := hdep { on := 4, ground := .data } (by simp) 19 rfl
          generalize hA : fr _ _ _ f = A at hK ⊢
          have e19 : A.tmps[19]?.getD undef = f 19 := by rw [← hA]; exact fr_in _ _ _ _ 19 (by decide) (by simp)
          clear hA hdep
          have h19' : f 19 = .pointer (some ⟨gn, 1, none⟩) := h19
          rw [h19'] at e19
          have hcell : w1.cell? ⟨gn, 1, none⟩ = some (.slice A2 ds.length c2) := (hC.cell (p := ⟨gn, 1, none⟩) hgnl).trans cn
          clear h19 h19'
          go_simp
          exact hK _ _ (Below.refl _ _) hC rfl
        · simp only [List.getElem?_toArray, List.getElem?_cons_zero, List.getElem?_cons_succ, Option.some.injEq] at ho
          subst ho
          simp only [Option.some.injEq] at hd
          subst hd
          have h20 : AddT w gn kind ds.length A2 c2 a b 20 (f 20) w1 := hdep { on := 5, ground := .data } (by simp) 20 rfl
          generalize hA : fr _ _ _ f = A at hK ⊢
          have e20 : A.tmps[20]?.getD undef = f 20 := by rw [← hA]; exact fr_in _ _ _ _ 20 (by decide) (by simp)
          clear hA hdep
          have h20' : f 20 = .slice A2 ds.length c2 := h20
          rw [h20'] at e20
          clear h20 h20'
          go_simp
          exact hK _ _ (Below.refl _ _) hC rfl
        · simp only [List.getElem?_toArray, List.getElem?_cons_zero, List.getElem?_cons_succ, Option.some.injEq] at ho
          subst ho
          simp only [Option.some.injEq] at hd
          subst hd
          have h18 : AddT w gn kind ds.length A2 c2 a b 18 (f 18) w1 := hdep { on := 3, ground := .data } (by simp) 18 rfl
          have h21 : AddT w gn kind ds.length A2 c2 a b 21 (f 21) w1 := hdep { on := 6, ground := .data } (by simp) 21 rfl
          generalize hA : fr _ _ _ f = A at hK ⊢
          have e18 : A.tmps[18]?.getD undef = f 18 := by rw [← hA]; exact fr_in _ _ _ _ 18 (by decide) (by simp)
          have e21 : A.tmps[21]?.getD undef = f 21 := by rw [← hA]; exact fr_in _ _ _ _ 21 (by decide) (by simp)
          clear hA hdep
          have h18' : f 18 = .string ⟨(letter kind).toArray⟩ := h18
          have h21' : f 21 = .int .i64 ds.length := h21
          rw [h18'] at e18
          rw [h21'] at e21
          clear h18 h18' h21 h21'
          go_simp
          refine (name_any _ (letter kind) ds.length (by omega) (by unfold letter; split <;> decide)).mono ?_
          rintro e w2 ⟨rfl, hb2⟩
          exact hK _ _ hb2 (hC.trans (hb2.mono hC.size)) rfl
        · simp only [List.getElem?_toArray, List.getElem?_cons_zero, List.getElem?_cons_succ, Option.some.injEq] at ho
          subst ho
          simp only [Option.some.injEq] at hd
          subst hd
          generalize hA : fr _ _ _ f = A at hK ⊢
          have e0 : A.tmps[0]?.getD undef = .int .i64 kind := by rw [← hA]; exact fr_out _ _ _ _ 0 _ (by decide) rfl
          clear hA hdep
          go_simp
          exact hK _ _ (Below.refl _ _) hC rfl
        · simp only [List.getElem?_toArray, List.getElem?_cons_zero, List.getElem?_cons_succ, Option.some.injEq] at ho
          subst ho
          simp only [Option.some.injEq] at hd
          subst hd
          generalize hA : fr _ _ _ f = A at hK ⊢
          have e1 : A.tmps[1]?.getD undef = .int .i64 a := by rw [← hA]; exact fr_out _ _ _ _ 1 _ (by decide) rfl
          clear hA hdep
          go_simp
          exact hK _ _ (Below.refl _ _) hC rfl
        · simp only [List.getElem?_toArray, List.getElem?_cons_zero, List.getElem?_cons_succ, Option.some.injEq] at ho
          subst ho
          simp only [Option.some.injEq] at hd
          subst hd
          generalize hA : fr _ _ _ f = A at hK ⊢
          have e2 : A.tmps[2]?.getD undef = .int .i64 b := by rw [← hA]; exact fr_out _ _ _ _ 2 _ (by decide) rfl
          clear hA hdep
          go_simp
          exact hK _ _ (Below.refl _ _) hC rfl
        · simp only [List.getElem?_toArray, List.getElem?_cons_zero, List.getElem?_cons_succ, Option.some.injEq] at ho
          subst ho
          simp only [Option.some.injEq] at hd
          subst hd
          have h22 : AddT w gn kind ds.length A2 c2 a b 22 (f 22) w1 := hdep { on := 7, ground := .data } (by simp) 22 rfl
          have h23 : AddT w gn kind ds.length A2 c2 a b 23 (f 23) w1 := hdep { on := 8, ground := .data } (by simp) 23 rfl
          have h24 : AddT w gn kind ds.length A2 c2 a b 24 (f 24) w1 := hdep { on := 9, ground := .data } (by simp) 24 rfl
          have h25 : AddT w gn kind ds.length A2 c2 a b 25 (f 25) w1 := hdep { on := 10, ground := .data } (by simp) 25 rfl
          generalize hA : fr _ _ _ f = A at hK ⊢
          have e22 : A.tmps[22]?.getD undef = f 22 := by rw [← hA]; exact fr_in _ _ _ _ 22 (by decide) (by simp)
          have e23 : A.tmps[23]?.getD undef = f 23 := by rw [← hA]; exact fr_in _ _ _ _ 23 (by decide) (by simp)
          have e24 : A.tmps[24]?.getD undef = f 24 := by rw [← hA]; exact fr_in _ _ _ _ 24 (by decide) (by simp)
          have e25 : A.tmps[25]?.getD undef = f 25 := by rw [← hA]; exact fr_in _ _ _ _ 25 (by decide) (by simp)
          clear hA hdep
          have h22' : f 22 = .string (nm (letter kind) ds.length) := h22
          have h23' : f 23 = .int .i64 kind := h23
          have h24' : f 24 = .int .i64 a := h24
          have h25' : f 25 = .int .i64 b := h25
          rw [h22'] at e22
          rw [h23'] at e23
          rw [h24'] at e24
          rw [h25'] at e25
          clear h22 h22' h23 h23' h24 h24' h25 h25'
          go_simp
          exact hK _ _ (Below.refl _ _) hC rfl
        · simp only [List.getElem?_toArray, List.getElem?_cons_zero, List.getElem?_cons_succ, Option.some.injEq] at ho
          subst ho
          simp only [Option.some.injEq] at hd
          subst hd
          generalize hA : fr _ _ _ f = A at hK ⊢
          clear hA hdep
          go_simp
          exact hK _ _ ((Below.refl _ _).alloc (Nat.le_refl _) _) (hC.alloc hC.size _) ⟨w1.heap.size, rfl, hC.size, heap_alloc_new w1 _⟩
      · intro o ho f w1 hC hall K hK
        simp only [List.getElem?_toArray, List.getElem?_cons_zero, List.getElem?_cons_succ, Option.some.injEq] at ho
        subst ho
        have h9 : AddT w gn kind ds.length A2 c2 a b 9 (f 9) w1 := hall 12 9 (by decide) rfl
        have h26 : AddT w gn kind ds.length A2 c2 a b 26 (f 26) w1 := hall 11 26 (by decide) rfl
        clear hall
        have HK := Lib.hid hK
        clear hK
        generalize hA : fr _ _ _ f = A
        have e9 : A.tmps[9]?.getD undef = f 9 := by rw [← hA]; exact fr_in _ _ _ _ 9 (by decide) (by simp)
        have e26 : A.tmps[26]?.getD undef = f 26 := by rw [← hA]; exact fr_in _ _ _ _ 26 (by decide) (by simp)
        have HA := Lib.hid hA
        clear hA
        have hx : ∃ g, f 9 = .pointer (some ⟨g, 0, none⟩) ∧ w.heap.size ≤ g ∧ w1.heap[g]? = some (.cells #[.string ⟨#[]⟩, .int .i64 0, .int .i64 0, .int .i64 0, .int .i64 0] 81 (0, 0)) := h9
        obtain ⟨g, h9', hg9, hb9⟩ := hx
        have h26' : f 26 = .agg #[.string (nm (letter kind) ds.length), .int .i64 kind, .int .i64 a, .int .i64 b, .int .i64 0] := h26
        rw [h9'] at e9
        rw [h26'] at e26
        have q0 : w1.cell? ⟨g, 0, none⟩ = some (.string ⟨#[]⟩) := by rw [cell_of_row w1 g 0 _ _ _ hb9]; rfl
        have q1 : w1.cell? ⟨g, 1, none⟩ = some (.int .i64 0) := by rw [cell_of_row w1 g 1 _ _ _ hb9]; rfl
        have q2 : w1.cell? ⟨g, 2, none⟩ = some (.int .i64 0) := by rw [cell_of_row w1 g 2 _ _ _ hb9]; rfl
        have q3 : w1.cell? ⟨g, 3, none⟩ = some (.int .i64 0) := by rw [cell_of_row w1 g 3 _ _ _ hb9]; rfl
        have q4 : w1.cell? ⟨g, 4, none⟩ = some (.int .i64 0) := by rw [cell_of_row w1 g 4 _ _ _ hb9]; rfl
        have fz : ∀ o, w1.frozen? ⟨g, o, none⟩ = false := fun o => by simp [World.frozen?, hb9]
        have Hb9 := Lib.hid hb9
        have HF := Lib.hid (And.intro h9' h26')
        clear hb9 h9 h26 h9' h26'
        go_simp
        refine HK.out _ _ ?_
        rw [← HA.out]
        simp only [fr, upd, List.mapIdx_cons, List.mapIdx_nil]
        simp
        go_wp2_with fail
        go_meet
        case rel =>
          refine ⟨g, HF.out.1, hg9, ?_, ((((hC.setCell hg9 _).setCell hg9 _).setCell hg9 _).setCell hg9 _).setCell hg9 _⟩
          simp [World.setCell, Array.getElem?_modify, Hb9.out]
    case rest =>
      obtain ⟨g, rfl, hg, hbg, hbel⟩ := hcut
      have Hbg := Lib.hid hbg
      clear hbg Hkc
      have hgml : gm < w.heap.size := World.block_lt_of_cell? w _ cm
      have hgpl : gp < w.heap.size := World.block_lt_of_cell? w _ cp
      have cp' : wc.cell? ⟨gp, 0, none⟩ = some (.pointer (some ⟨bd, 0, none⟩)) := (hbel.cell (p := ⟨gp, 0, none⟩) hgpl).trans cp
      have hdc : Deck wc bd := hd.below hbel
      go_upto_if 28 with (go_at_call 20; refine (one_any _ _ hdc _ (by decide)).mono ?_; rintro e w2 ⟨bb, rfl, hd2, hg2, hz2⟩)
      have hfr2 : Fr w.heap.size bd w w2 := (Fr.of_below hbel).trans (Fr.of_grown hg2 (by have := hbel.size; omega))
      have hbd : bd < w.heap.size := by omega
      have hb2 : w2.heap[g]? = some (.cells #[.string (nm (letter kind) ds.length), .int .i64 kind, .int .i64 a, .int .i64 b, .int .i64 0] 81 (0, 0)) :=
        (hg2.block g (Array.getElem?_eq_some_iff.1 Hbg.out).1 (by intro e; injection e with e; omega)).trans Hbg.out
      have Hb2 := Lib.hid hb2
      have HC := Lib.hid (And.intro cn (And.intro cm cp))
      clear hb2 Hbg cp' hdc hbel hg2 hz2 cn cm cp wc
      go_cut [] (fun wx => ∃ comp : Nat, comp ≤ 2 ∧ wx.heap[g]? = some (.cells #[.string (nm (letter kind) ds.length), .int .i64 kind, .int .i64 a, .int .i64 b, .int .i64 comp] 81 (0, 0)) ∧ Deck wx bd ∧ Fr w.heap.size bd w wx)
      case first =>
        cases bb
        · go_wp2_with fail
          go_meet
          case rel => exact ⟨0, by omega, Hb2.out, hd2, hfr2⟩
        · have cp2 : w2.cell? ⟨gp, 0, none⟩ = some (.pointer (some ⟨bd, 0, none⟩)) := (World.cell?_of_block (a := ⟨gp, 0, none⟩) (hfr2.block gp hgpl (by omega))).trans HC.out.2.2
          go_wp2_with fail
          refine (next_any _ _ hd2 _ (by decide)).mono ?_
          rintro e w3 ⟨r, rfl, hr1, _, hd3, hg3, hz3⟩
          have hr2 : r < 2 := by have := hr1 (by decide); omega
          clear hr1
          have hb3 : w3.heap[g]? = some (.cells #[.string (nm (letter kind) ds.length), .int .i64 kind, .int .i64 a, .int .i64 b, .int .i64 0] 81 (0, 0)) :=
            (hg3.block g (Array.getElem?_eq_some_iff.1 Hb2.out).1 (by intro e; injection e with e; omega)).trans Hb2.out
          have q4 : w3.cell? ⟨g, 4, none⟩ = some (.int .i64 0) := by rw [cell_of_row w3 g 4 _ _ _ hb3]; rfl
          have f4 : w3.frozen? ⟨g, 4, none⟩ = false := by simp [World.frozen?, hb3]
          have Hb3 := Lib.hid hb3
          clear hb3 cp2
          go_wp2_with fail
          go_meet
          case rel =>
            refine ⟨1 + r, by omega, ?_, hd3.keep (fun b hb => Below.heap_setCell _ _ _ _ (by show b ≠ g; omega)) (by simp [World.setCell]), (hfr2.trans (Fr.of_grown hg3 (by have := hfr2.size; omega))).trans ⟨rfl, rfl, rfl, by simp [World.setCell], fun k hk _ => Below.heap_setCell _ _ _ _ (by show k ≠ g; omega)⟩⟩
            simp [World.setCell, Array.getElem?_modify, Hb3.out]
      case rest =>
        obtain ⟨comp, hcomp, hbg, hdx, hfr⟩ := hcut
        have hgnx : wc.heap[gn]? = some (.cells #[.slice A1 ns.length c1, .slice A2 ds.length c2] 26 (0, 0)) := (hfr.block gn hgnl (by omega)).trans Hgn.out
        have n1 : wc.cell? ⟨gn, 1, none⟩ = some (.slice A2 ds.length c2) := by rw [cell_of_row wc gn 1 _ _ _ hgnx]; rfl
        have q0 : wc.cell? ⟨g, 0, none⟩ = some (.string (nm (letter kind) ds.length)) := by rw [cell_of_row wc g 0 _ _ _ hbg]; rfl
        have q1 : wc.cell? ⟨g, 1, none⟩ = some (.int .i64 kind) := by rw [cell_of_row wc g 1 _ _ _ hbg]; rfl
        have q2 : wc.cell? ⟨g, 2, none⟩ = some (.int .i64 a) := by rw [cell_of_row wc g 2 _ _ _ hbg]; rfl
        have q3 : wc.cell? ⟨g, 3, none⟩ = some (.int .i64 b) := by rw [cell_of_row wc g 3 _ _ _ hbg]; rfl
        have q4 : wc.cell? ⟨g, 4, none⟩ = some (.int .i64 comp) := by rw [cell_of_row wc g 4 _ _ _ hbg]; rfl
        have ho2x : OV wc (fun g => B ≤ g) 81 5 A2 ds.length c2 (devsV ds) := ho2.keep1 (fun k hk => by
          have := (ho2.block k hk); exact hfr.block k this.2 (by have := this.1; omega))
        have Hgnx := Lib.hid hgnx
        have Hbg := Lib.hid hbg
        clear hgnx hbg
        go_wp2_with (at_builtin; go_must (refine wpList_pushG (S := fun g => B ≤ g) (ys := devCells ⟨nm (letter kind) ds.length, kind, a, b, comp⟩) rfl (.tmp 34) (.tmp 36) 24 81 _ 5 48 rfl Tryd.underlying24 devInfo rfl (by decide) rfl rfl (ho2x.keep (Kept.alloc _ _ _)) rfl (by intro u hu; simp [devCells] at hu; rcases hu with rfl | rfl | rfl | rfl | rfl <;> rfl) ?_ (by simp) (by omega) (by decide) ?_))
        · exact Lie.new wc (devCells ⟨nm (letter kind) ds.length, kind, a, b, comp⟩) _
        · intro A' c' w5 ho5 hg5 hor5
          have hsz : w.heap.size ≤ wc.heap.size := hfr.size
          have hsz5 : wc.heap.size + 1 ≤ w5.heap.size := by have := hg5.size; simpa using this
          -- which blocks are as they were
          have hkeep : ∀ k, k < w.heap.size → k ≠ bd → some k ≠ blockOf A2 → w5.heap[k]? = w.heap[k]? := fun k h1 h2 h3 =>
            (hg5.block k (by simp; omega) h3).trans ((Below.heap_alloc _ _ k (by omega)).trans (hfr.block k h1 h2))
          have hne : ∀ k cs u, w.heap[k]? = some (.cells cs u (0, 0)) → u ≠ 81 → some k ≠ blockOf A2 := fun k cs u hk hu e => by
            obtain ⟨_, cur, hcur⟩ := ho2.type k e.symm
            exact ne_of_type hk hcur hu rfl
          have hgn5 : w5.heap[gn]? = some (.cells #[.slice A1 ns.length c1, .slice A2 ds.length c2] 26 (0, 0)) := (hkeep gn hgnl (by omega) (hne gn _ _ Hgn.out (by decide))).trans Hgn.out
          have n5 : w5.cell? ⟨gn, 1, none⟩ = some (.slice A2 ds.length c2) := by rw [cell_of_row w5 gn 1 _ _ _ hgn5]; rfl
          have f5 : w5.frozen? ⟨gn, 1, none⟩ = false := by simp [World.frozen?, hgn5]
          have Hgn5 := Lib.hid hgn5
          have Hho5 := Lib.hid ho5
          have Hkeep := Lib.hid hkeep
          have Hne := Lib.hid hne
          clear hgn5 ho5 hkeep hne n1 q0 q1 q2 q3 q4
          go_wp2_with fail
          go_end0
          have hBw : B ≤ w.heap.size := by omega
          have hA2B : ∀ k, blockOf A2 = some k → B ≤ k := fun k hk => (ho2.type k hk).1
          have hset : ∀ k, k ≠ gn → (w5.setCell ⟨gn, 1, none⟩ (.slice A' (ds.length + 1) c')).heap[k]? = w5.heap[k]? := fun k hk => Below.heap_setCell _ _ _ _ hk
          have hgnk : ∀ k cs u, w.heap[k]? = some (.cells cs u (0, 0)) → u ≠ 26 → k ≠ gn := fun k cs u hk hu => ne_of_type hk Hgn.out hu
          have hlen : (ds ++ [(⟨nm (letter kind) ds.length, kind, a, b, comp⟩ : Dev)]).length = ds.length + 1 := by simp
          refine ⟨rfl, ⟨?_, ?_, ?_, ?_, ?_⟩, .inr ⟨by omega, comp, hcomp, ⟨A1, c1, A', c', ?_, ?_, ?_⟩, ?_, ?_, ?_, b1, b2, b3, b4⟩⟩
          · exact hg5.os.trans hfr.os
          · exact hg5.tape.trans hfr.tape
          · exact hg5.output.trans hfr.output
          · simp [World.setCell]; omega
          · intro k hk hkb
            rw [hset k (by omega)]
            exact Hkeep.out k (by omega) hkb (fun e => by have := hA2B k e.symm; omega)
          · rw [hlen]; simp [World.setCell, Array.getElem?_modify, Hgn5.out]
          · refine ho1.keep1 (fun k hk => ?_)
            obtain ⟨hBk, cur, hcur⟩ := ho1.type k hk
            rw [hset k (hgnk k _ _ hcur (by decide))]
            exact Hkeep.out k (Array.getElem?_eq_some_iff.1 hcur).1 (by omega) (Hne.out k _ _ hcur (by decide))
          · rw [hlen, devsV_snoc]
            have h1 := Hho5.out.mono (T := fun g => B ≤ g) (fun g _ hg => by
              rcases hg with hg | hg
              · exact hg
              · have h2 : g = wc.heap.size + 1 := by simpa using hg
                show B ≤ g; omega)
            refine h1.keep1 (fun k hk => hset k ?_)
            rcases hor5 with e | e
            · rw [e] at hk
              obtain ⟨_, cur, hcur⟩ := ho2.type k hk
              exact hgnk k _ _ hcur (by decide)
            · rw [e] at hk
              injection hk with hk
              rw [← hk]; simp; omega
          · rw [hset gm (hgnk gm _ _ Hgm.out (by decide))]
            exact (Hkeep.out gm hgml (by omega) (Hne.out gm _ _ Hgm.out (by decide))).trans Hgm.out
          · rw [hset gp (hgnk gp _ _ Hgp.out (by decide))]
            exact (Hkeep.out gp hgpl (by omega) (Hne.out gp _ _ Hgp.out (by decide))).trans Hgp.out
          · refine hdx.keep (fun k hk => ?_) (by simp [World.setCell]; omega)
            rw [hset k (by omega)]
            exact (hg5.block k (by simp; omega) (fun e => by have := hA2B k e.symm; omega)).trans (Below.heap_alloc _ _ k (by omega))
end Go.Proofs.YtglhplddjjoggaaDoor

/-
  Lists of records of a fixed number of cells: read, owned, made.
-/
import Derived.Test.YtglhplddjjoggaaDoorBase
import Derived.Laws.MakeOwn
namespace Go.Proofs.YtglhplddjjoggaaDoor
open Go.RowKit
set_option maxHeartbeats 400000

def recV {α : Type} (f : α → List Value) (xs : List α) : List Value := xs.flatMap f
section
variable {α : Type} {f : α → List Value} {m : Nat}
theorem recV_len (hf : ∀ x, (f x).length = m) : ∀ xs : List α, (recV f xs).length = xs.length * m
  | [] => by simp [recV]
  | x :: xs => by
    have := recV_len hf xs
    unfold recV at *
    rw [List.flatMap_cons, List.length_append, this, hf, List.length_cons, Nat.add_mul]; omega
theorem recV_snoc (xs : List α) (x : α) : recV f (xs ++ [x]) = recV f xs ++ f x := by simp [recV]
theorem recV_at (hf : ∀ x, (f x).length = m) : ∀ (xs : List α) (i : Nat) (x : α), xs[i]? = some x → ∀ j, j < m → (recV f xs)[i * m + j]? = (f x)[j]?
  | [], i, x, h => by simp at h
  | y :: ys, 0, x, h => by
    intro j hj
    simp at h
    subst h
    simp only [recV, List.flatMap_cons]
    rw [List.getElem?_append_left (by rw [hf]; omega)]
    simp
  | y :: ys, i + 1, x, h => by
    intro j hj
    simp at h
    have := recV_at hf ys i x h j hj
    simp only [recV, List.flatMap_cons] at this ⊢
    rw [List.getElem?_append_right (by rw [hf, Nat.add_mul]; omega), hf, ← this]
    congr 1
    rw [Nat.add_mul]; omega
theorem recV_set (hf : ∀ x, (f x).length = m) : ∀ (xs : List α) (i : Nat) (hi : i < xs.length) (j : Nat) (_ : j < m) (u : Value) (y : α), f y = (f xs[i]).set j u → (recV f xs).set (i * m + j) u = recV f (xs.set i y)
  | [], i, h => by simp at h
  | x :: xs, 0, _ => by
    intro j hj u y h
    simp only [recV, List.flatMap_cons, List.set_cons_zero, Nat.zero_mul, Nat.zero_add]
    rw [List.set_append_left _ _ (by rw [hf]; exact hj), h]
    rfl
  | x :: xs, i + 1, hi => by
    intro j hj u y h
    have := recV_set hf xs i (by simpa using hi) j hj u y h
    simp only [recV, List.flatMap_cons, List.set_cons_succ] at this ⊢
    rw [List.set_append_right _ _ (by rw [hf, Nat.add_mul]; omega), hf, ← this]
    congr 2
    rw [Nat.add_mul]; omega

/-- Cells of a record that is read. -/
theorem SV.rec {w : World} {S : Nat → Prop} {A : Option Addr} {xs : List α} (h : SV w S A (recV f xs)) (hf : ∀ x, (f x).length = m) (hm : 0 < m) {k : Nat} (hk : k < xs.length) :
    ∃ b off, A = some ⟨b, off, none⟩ ∧ S b ∧ b < w.heap.size ∧ ∀ j u, (f xs[k])[j]? = some u → w.cell? ⟨b, off + k * m + j, none⟩ = some u := by
  have hne : recV f xs ≠ [] := fun e => by
    have := recV_len hf xs
    rw [e] at this
    have : 0 < xs.length * m := Nat.mul_pos (by omega) hm
    simp at *; omega
  obtain ⟨b, off, e, hs, hb, hc⟩ := h hne
  refine ⟨b, off, e, hs, hb, fun j u hj => ?_⟩
  have hjm : j < m := by rw [← hf xs[k]]; exact (List.getElem?_eq_some_iff.1 hj).1
  have := hc (k * m + j) u ((recV_at hf xs k _ (List.getElem?_eq_getElem hk) j hjm).trans hj)
  rw [← Nat.add_assoc] at this
  exact this
/-- Cells of a record that is owned. -/
theorem OV.rec {w : World} {S : Nat → Prop} {t : TypeId} {A : Option Addr} {c : Nat} {xs : List α} (h : OV w S t m A xs.length c (recV f xs)) (hf : ∀ x, (f x).length = m) {k : Nat} (hk : k < xs.length) (hm : 0 < m) :
    ∃ g off, A = some ⟨g, off, none⟩ ∧ S g ∧ g < w.heap.size ∧ ∀ j u, (f xs[k])[j]? = some u → w.cell? ⟨g, off + k * m + j, none⟩ = some u ∧ w.frozen? ⟨g, off + k * m + j, none⟩ = false := by
  have hlen := recV_len hf xs
  have hkm : k * m + m ≤ xs.length * m := by rw [← Nat.succ_mul]; exact Nat.mul_le_mul_right m hk
  obtain ⟨g, off, e, hs, hb, -, -⟩ := OV.cell h (j := k * m) (by omega)
  subst e
  refine ⟨g, off, rfl, hs, hb, fun j u hj => ?_⟩
  have hjm : j < m := by rw [← hf xs[k]]; exact (List.getElem?_eq_some_iff.1 hj).1
  obtain ⟨g', off', e, -, -, hc, hfz⟩ := OV.cell h (j := k * m + j) (by omega)
  injection e with e
  injection e with e e'
  subst e e'
  rw [← Nat.add_assoc] at hc hfz
  refine ⟨hc.trans ?_, hfz⟩
  have := recV_at hf xs k _ (List.getElem?_eq_getElem hk) j hjm
  rw [hj] at this
  rw [← List.getElem?_eq_getElem, this]
theorem OV.recSet {w : World} {S : Nat → Prop} {t : TypeId} {g off c : Nat} {xs : List α} (h : OV w S t m (some ⟨g, off, none⟩) xs.length c (recV f xs)) (hf : ∀ x, (f x).length = m) {k : Nat} (hk : k < xs.length) {j : Nat} (hj : j < m) (u : Value) (y : α) (hy : f y = (f xs[k]).set j u) :
    OV (w.setCell ⟨g, off + k * m + j, none⟩ u) S t m (some ⟨g, off, none⟩) (xs.set k y).length c (recV f (xs.set k y)) := by
  have := OV.set h (k * m + j) u
  rw [recV_set hf xs k hk j hj u y hy, ← Nat.add_assoc] at this
  rw [List.length_set]
  exact this

/-- make([]T, n), T of m cells. -/
theorem wpList_makeR {w : World} {ops : Array Oper} {rest : List Oper} {o : Oper} {a : Act} {Q : Exit → Act → World → Prop}
    (hg : o.guard = none) (l c : Operand) (t : TypeId) (hop : o.op = Op.makeSlice t l c)
    (e : TypeId) (z : Value) (bytes : Nat) (ht : Tryd.prog.underlying t = some (.slice e)) (hinfo : (Tryd.prog.info? e).map (fun i => (i.zero, i.size, i.bytes)) = some (some z, m, bytes)) (z0 : α) (hz1 : z.cells = (f z0).toArray) (hf : ∀ x, (f x).length = m) (hm : 0 < m)
    (kl kc : IntKind) (n : Nat) (hl : a.eval l = .int kl (n : Int)) (hc : a.eval c = .int kc (n : Int)) (hbytes : bytes * n ≤ 281474976710656) (h63 : n ≤ maxLen)
    (hK : ∀ w', OV w' (fun g => g = w.heap.size) e m (some ⟨w.heap.size, 0, none⟩) (List.replicate n z0).length n (recV f (List.replicate n z0)) → Below w.heap.size w w' → w'.heap.size = w.heap.size + 1 →
      wpList Tryd.prog ops Q rest (a.put o.dst (.slice (some ⟨w.heap.size, 0, none⟩) n n)) w') :
    wpList Tryd.prog ops Q (o :: rest) a w := by
  refine wpList_plain hg fun K hK' => ?_
  obtain ⟨i, hi, hz0, hsz, hby⟩ := info_parts hinfo
  subst hsz hby
  have h63' : (n : Int) ≤ 9223372036854775807 := by
    have h := h63
    simp [maxLen] at h
    omega
  have hb' : (i.bytes : Int) * (n : Int) ≤ 281474976710656 := by
    have h : ((i.bytes * n : Nat) : Int) ≤ 281474976710656 := by omega
    rwa [Int.natCast_mul] at h
  have hrun := run_make (P := Tryd.prog) w t e i z ht hi hz0 kl kc n n (by omega) (Int.le_refl _) hb' h63'
  simp only [Int.toNat_natCast] at hrun
  unfold Oper.wp
  simp only [execOp, hop, hl, hc, Sem.run_bind, hrun, Result.andThen_ok, Sem.run_pure]
  refine hK' _ _ (hK _ ⟨by simp, by exact h63, by rw [recV_len hf], .inr ⟨w.heap.size, 0, _, rfl, rfl, heap_alloc_new w _, by rw [size_madeCells]; omega, fun j u hj => ?_⟩⟩ ((Below.refl _ _).alloc (Nat.le_refl _) _) (by simp))
  have hjl : j < n * i.size := by
    have := (List.getElem?_eq_some_iff.1 hj).1
    rw [recV_len hf, List.length_replicate] at this
    exact this
  have hd : j / i.size < n := Nat.div_lt_of_lt_mul (by rw [Nat.mul_comm]; exact hjl)
  have hmod : j % i.size < i.size := Nat.mod_lt _ hm
  have hat := recV_at hf (List.replicate n z0) (j / i.size) z0 (by rw [List.getElem?_replicate, if_pos hd]) (j % i.size) hmod
  rw [Nat.mul_comm, Nat.div_add_mod, hj] at hat
  have hfl := hf z0
  simp [madeCells, hjl, hz1, hfl, ← hat]
end
end Go.Proofs.YtglhplddjjoggaaDoor

/-
  Plain facts for the law NetworkAt: the devices at a node, and how often each is counted.
-/
import Derived.Test.YtpeifmkodoignaaDoorPGood
namespace Go.Proofs.YtpeifmkodoignaaDoor
open Go.RowKit

theorem mem_atFrom {v y : Int} : ∀ {ds : List Dev} {k : Nat}, y ∈ atFrom v ds k ↔ ∃ j, ∃ h : j < ds.length, y = ((k + j : Nat) : Int) ∧ isL ds[j] v = true
  | [], k => by simp [atFrom]
  | d :: ds, k => by
    have ih := @mem_atFrom v y ds (k + 1)
    simp only [atFrom]
    constructor
    · intro h
      split at h
      · rename_i hd
        rcases List.mem_cons.1 h with rfl | h
        · exact ⟨0, by simp, by simp, by simpa using hd⟩
        · obtain ⟨j, hj, e, hi⟩ := ih.1 h
          exact ⟨j + 1, by simp; omega, by rw [e]; omega, by simpa using hi⟩
      · obtain ⟨j, hj, e, hi⟩ := ih.1 h
        exact ⟨j + 1, by simp; omega, by rw [e]; omega, by simpa using hi⟩
    · rintro ⟨j, hj, e, hi⟩
      cases j with
      | zero =>
        rw [if_pos (by simpa using hi)]
        simp [e]
      | succ j =>
        have : y ∈ atFrom v ds (k + 1) := ih.2 ⟨j, by simpa using hj, by rw [e]; omega, by simpa using hi⟩
        split
        · exact List.mem_cons_of_mem _ this
        · exact this
theorem atFrom_sorted (v : Int) : ∀ (ds : List Dev) (k : Nat), (atFrom v ds k).Pairwise (· < ·)
  | [], _ => List.Pairwise.nil
  | d :: ds, k => by
    simp only [atFrom]
    split
    · refine List.pairwise_cons.2 ⟨fun y hy => ?_, atFrom_sorted v ds (k + 1)⟩
      obtain ⟨j, hj, e, _⟩ := mem_atFrom.1 hy
      omega
    · exact atFrom_sorted v ds (k + 1)

/-- how often a device is at nodes below v -/
def cntL (d : Dev) (v : Nat) : Int := (if d.a < v then 1 else 0) + (if joinsB d.kind = true ∧ d.b < v then 1 else 0)
/-- the counts: all nodes below v, and of v's devices those in l -/
def csL (ds : List Dev) (v : Nat) (l : List Int) : List Int := ds.mapIdx (fun x d => cntL d v + if (x : Int) ∈ l then 1 else 0)
theorem csL_len (ds : List Dev) (v : Nat) (l : List Int) : (csL ds v l).length = ds.length := by simp [csL]
theorem csL_at (ds : List Dev) (v : Nat) (l : List Int) (x : Nat) (h : x < (csL ds v l).length) : (csL ds v l)[x] = cntL (ds[x]'(by rw [csL_len] at h; exact h)) v + if (x : Int) ∈ l then 1 else 0 := by simp [csL]
theorem cntL_bd (d : Dev) (v : Nat) : 0 ≤ cntL d v ∧ cntL d v ≤ 2 := by
  unfold cntL
  split <;> split <;> omega
theorem csL_bd (ds : List Dev) (v : Nat) (l : List Int) (x : Nat) (h : x < (csL ds v l).length) : 0 ≤ (csL ds v l)[x] ∧ (csL ds v l)[x] ≤ 3 := by
  have := csL_at ds v l x h
  have := cntL_bd (ds[x]'(by rw [csL_len] at h; exact h)) v
  split at * <;> omega
theorem atFrom_len (v : Int) : ∀ (ds : List Dev) (k : Nat), (atFrom v ds k).length ≤ ds.length
  | [], _ => by simp [atFrom]
  | d :: ds, k => by
    have := atFrom_len v ds (k + 1)
    simp only [atFrom]
    split <;> simp <;> omega
theorem csL_set (ds : List Dev) (v : Nat) (l : List Int) (x : Nat) (hx : x < ds.length) (hn : (x : Int) ∉ l) : (csL ds v l).set x ((csL ds v l)[x]'(by rw [csL_len]; exact hx) + 1) = csL ds v (l ++ [(x : Int)]) := by
  apply List.ext_getElem
  · simp [csL]
  · intro i h1 h2
    rw [List.getElem_set]
    have a2 := csL_at ds v (l ++ [(x : Int)]) i h2
    split
    · rename_i e
      subst e
      have a1 := csL_at ds v l x (by rw [csL_len]; exact hx)
      rw [if_neg hn] at a1
      rw [if_pos (by simp)] at a2
      omega
    · rename_i hne
      have a1 := csL_at ds v l i (by simpa using h1)
      have : (i : Int) ∈ l ++ [(x : Int)] ↔ (i : Int) ∈ l := by simp; omega
      simp only [this] at a2
      exact a1.trans a2.symm
theorem csL_next {n : Nat} {ds : List Dev} (h : DevsIn n ds) (v : Nat) (l : List Int) (hl : l = atFrom v ds 0) : csL ds v l = csL ds (v + 1) [] := by
  apply List.ext_getElem
  · simp [csL]
  · intro x h1 h2
    rw [csL_at, csL_at]
    have hx : x < ds.length := by rw [csL_len] at h1; exact h1
    have hm : (x : Int) ∈ l ↔ isL ds[x] v = true := by
      rw [hl, mem_atFrom]
      constructor
      · rintro ⟨j, hj, e, hi⟩
        obtain rfl : j = x := by omega
        exact hi
      · intro hi; exact ⟨x, hx, by simp, hi⟩
    simp only [hm]
    obtain ⟨e1, e2, e3, e4⟩ := endsB_parts (h.ends ds[x] (List.getElem_mem hx)).2.2
    unfold cntL isL
    by_cases hj : joinsB ds[x].kind = true
    · have := e3 hj
      simp only [hj, Bool.true_and, Bool.or_eq_true, beq_iff_eq, true_and]
      simp
      repeat' split
      all_goals omega
    · have hj : joinsB ds[x].kind = false := by simpa using hj
      simp only [hj, Bool.false_and, Bool.or_false, beq_iff_eq]
      simp
      repeat' split
      all_goals omega
theorem csL_zero {n : Nat} {ds : List Dev} (h : DevsIn n ds) : List.replicate ds.length 0 = csL ds 0 [] := by
  apply List.ext_getElem
  · simp [csL]
  · intro x h1 h2
    rw [csL_at]
    have hx : x < ds.length := by rw [csL_len] at h2; exact h2
    obtain ⟨e1, e2, e3, e4⟩ := endsB_parts (h.ends ds[x] (List.getElem_mem hx)).2.2
    unfold cntL
    by_cases hj : joinsB ds[x].kind = true
    · have := e3 hj
      simp [hj]
      repeat' split
      all_goals omega
    · simp [hj]
      omega
theorem csL_end {n : Nat} {ds : List Dev} (h : DevsIn n ds) (x : Nat) (hx : x < ds.length) : (csL ds n [])[x]'(by rw [csL_len]; exact hx) = if joinsB ds[x].kind = true then 2 else 1 := by
  rw [csL_at]
  obtain ⟨e1, e2, e3, e4⟩ := endsB_parts (h.ends ds[x] (List.getElem_mem hx)).2.2
  unfold cntL
  by_cases hj : joinsB ds[x].kind = true
  · have := e3 hj
    rw [if_pos e2, if_pos ⟨hj, this.2.1⟩]
    simp [hj]
  · rw [if_pos e2, if_neg (fun h => hj h.1)]
    simp [hj]
/-- What is behind a device at a node. -/
theorem at_across {n : Nat} {d : Dev} (h : endsB d n = true) (v : Nat) (hi : isL d v = true) : joinsB d.kind = decide (0 ≤ acrossL d v) ∧ (0 ≤ acrossL d v → acrossL d (acrossL d v) = v) := by
  obtain ⟨e1, e2, e3, e4⟩ := endsB_parts h
  by_cases hj : joinsB d.kind = true
  · have := e3 hj
    have hp : 0 ≤ acrossL d v := by
      unfold acrossL
      rw [if_neg (by simp [hj])]
      unfold isL at hi
      rw [hj] at hi
      simp at hi
      split
      · omega
      · rename_i ha
        simp at ha
        rw [if_pos (by simp; omega)]
        exact e1
    refine ⟨by rw [hj, decide_eq_true hp], fun _ => ?_⟩
    have := across_back h (u := v) (v := (acrossL d v).toNat) (by omega)
    rw [show ((acrossL d v).toNat : Int) = acrossL d v by omega] at this
    exact this
  · have hj : joinsB d.kind = false := by simpa using hj
    have hp : acrossL d v = -1 := by unfold acrossL; rw [if_pos hj]
    rw [hp]
    exact ⟨by rw [hj]; rfl, fun h => by omega⟩
end Go.Proofs.YtpeifmkodoignaaDoor

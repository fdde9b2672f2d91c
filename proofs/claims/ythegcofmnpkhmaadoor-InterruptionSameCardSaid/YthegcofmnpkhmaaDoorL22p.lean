/-
  Time lines, plain: cut in two; with changes that change nothing.
-/
import Derived.Test.YthegcofmnpkhmaaDoorL22h
namespace Go.Proofs.YthegcofmnpkhmaaDoor
open Go.RowKit
set_option maxHeartbeats 400000

def befL (at_ : Int) (xs : List Chg) : List Chg := xs.filter (fun x => decide (x.t < at_))
def shiftC (at_ : Int) (x : Chg) : Chg := ⟨x.t - at_, x.dev, x.pos⟩
def aftL (at_ : Int) (xs : List Chg) : List Chg := (xs.filter (fun x => !decide (x.t < at_))).map (shiftC at_)
theorem befL_snoc (at_ : Int) (xs : List Chg) (x : Chg) : befL at_ (xs ++ [x]) = befL at_ xs ++ (if x.t < at_ then [x] else []) := by
  unfold befL
  rw [List.filter_append]
  congr 1
  by_cases h : x.t < at_ <;> simp [h]
theorem aftL_snoc (at_ : Int) (xs : List Chg) (x : Chg) : aftL at_ (xs ++ [x]) = aftL at_ xs ++ (if x.t < at_ then [] else [shiftC at_ x]) := by
  unfold aftL
  rw [List.filter_append, List.map_append]
  congr 1
  by_cases h : x.t < at_
  · simp [h]
  · have : at_ ≤ x.t := by omega
    simp [this]
theorem befL_len (at_ : Int) (xs : List Chg) : (befL at_ xs).length ≤ xs.length := List.length_filter_le _ _
theorem aftL_len (at_ : Int) (xs : List Chg) : (aftL at_ xs).length ≤ xs.length := by unfold aftL; rw [List.length_map]; exact List.length_filter_le _ _
theorem befL_ok {n : Nat} {hi at_ : Int} {xs : List Chg} (h : OkC n hi xs) : OkC n (at_ - 1) (befL at_ xs) := by
  refine ⟨fun x hx => ?_, h.2.filter _⟩
  have := List.mem_filter.1 hx
  have h2 := h.1 x this.1
  have h3 : x.t < at_ := by simpa using this.2
  exact ⟨h2.1, by omega, h2.2.2⟩
theorem aftL_ok {n : Nat} {hi at_ : Int} {xs : List Chg} (h : OkC n hi xs) : OkC n (hi - at_) (aftL at_ xs) := by
  refine ⟨fun x hx => ?_, ?_⟩
  · obtain ⟨y, hy, rfl⟩ := List.mem_map.1 hx
    have := List.mem_filter.1 hy
    have h2 := h.1 y this.1
    have h3 : at_ ≤ y.t := by simpa using this.2
    exact ⟨by show 0 ≤ y.t - at_; omega, by show y.t - at_ ≤ _; omega, h2.2.2⟩
  · unfold aftL
    rw [List.pairwise_map]
    exact (h.2.filter _).imp (fun {a b} hab => by show a.t - at_ ≤ b.t - at_; omega)
theorem putC_bef (s at_ : Int) (h : s < at_) : ∀ (xs : List Chg) (row : List Int), putC s row xs = putC s row (befL at_ xs)
  | [], _ => rfl
  | x :: xs, row => by
    by_cases hx : x.t < at_
    · have e : befL at_ (x :: xs) = x :: befL at_ xs := by simp [befL, hx]
      rw [e, putC, putC]
      exact putC_bef s at_ h xs _
    · have e : befL at_ (x :: xs) = befL at_ xs := by simp [befL, hx]
      rw [e, putC, if_neg (by omega)]
      exact putC_bef s at_ h xs _
theorem putC_all (a b : Int) : ∀ (xs : List Chg) (row : List Int), (∀ x ∈ xs, x.t ≤ a ∧ x.t ≤ b) → putC a row xs = putC b row xs
  | [], _, _ => rfl
  | x :: xs, row, h => by
    have := h x (by simp)
    rw [putC, putC, if_pos this.1, if_pos this.2]
    exact putC_all a b xs _ (fun y hy => h y (by simp [hy]))
theorem putC_shift (s at_ : Int) : ∀ (xs : List Chg) (row : List Int), putC (at_ + s) row xs = putC s row (xs.map (shiftC at_))
  | [], _ => rfl
  | x :: xs, row => by
    rw [List.map_cons, putC, putC]
    have e : (if x.t ≤ at_ + s then row.set x.dev.toNat x.pos else row) = (if (shiftC at_ x).t ≤ s then row.set (shiftC at_ x).dev.toNat (shiftC at_ x).pos else row) := by
      show _ = if x.t - at_ ≤ s then row.set x.dev.toNat x.pos else row
      by_cases h : x.t ≤ at_ + s
      · rw [if_pos h, if_pos (by omega)]
      · rw [if_neg h, if_neg (by omega)]
    rw [e]
    exact putC_shift s at_ xs _
theorem bef_aft (at_ : Int) : ∀ (xs : List Chg), xs.Pairwise (fun a b => a.t ≤ b.t) → xs = befL at_ xs ++ xs.filter (fun x => !decide (x.t < at_))
  | [], _ => rfl
  | x :: xs, h => by
    rw [List.pairwise_cons] at h
    by_cases hx : x.t < at_
    · have ih := bef_aft at_ xs h.2
      have e : befL at_ (x :: xs) = x :: befL at_ xs := by simp [befL, hx]
      have e2 : (x :: xs).filter (fun x => !decide (x.t < at_)) = xs.filter (fun x => !decide (x.t < at_)) := by simp [hx]
      rw [e, e2, List.cons_append, ← ih]
    · have e : befL at_ (x :: xs) = [] := by
        unfold befL
        rw [List.filter_eq_nil_iff]
        intro y hy
        rcases List.mem_cons.1 hy with rfl | hy
        · simpa using hx
        · have := h.1 y hy
          simp; omega
      have e2 : (x :: xs).filter (fun x => !decide (x.t < at_)) = x :: xs := by
        rw [List.filter_eq_self]
        intro y hy
        rcases List.mem_cons.1 hy with rfl | hy
        · simpa using hx
        · have := h.1 y hy
          simp; omega
      rw [e, e2]; rfl
theorem putC_cut (s at_ : Int) (hs : 0 ≤ s) (xs : List Chg) (h : xs.Pairwise (fun a b => a.t ≤ b.t)) (row : List Int) : putC (at_ + s) row xs = putC s (putC at_ row (befL at_ xs)) (aftL at_ xs) := by
  conv => lhs; rw [bef_aft at_ xs h]
  rw [putC_app, putC_shift]
  congr 1
  refine putC_all _ _ _ _ (fun x hx => ?_)
  have := (List.mem_filter.1 hx).2
  simp at this
  omega
/-- the customer minutes of both parts are those of the whole -/
theorem parts_sum (ns : List Node) (ds : List Dev) (st : List Int) (xs : List Chg) (h : xs.Pairwise (fun a b => a.t ≤ b.t)) (a til : Nat) (ha : a ≤ til) :
    minL (outL ns (supF ns ds st xs) til) = minL (outL ns (supF ns ds st (befL a xs)) a) + minL (outL ns (supF ns ds (putC a st (befL a xs)) (aftL a xs)) (til - a)) := by
  unfold outL
  rw [min_outs, min_outs, min_outs, ← sumC_add]
  refine sumC_congr ns _ (fun v _ => ?_)
  have e : til = a + (til - a) := by omega
  conv => lhs; rw [e]
  rw [cntG_add]
  congr 1
  · refine cntG_congr a 0 (fun s _ h2 => ?_)
    unfold supF
    rw [putC_bef s a (by omega)]
  · rw [show 0 + a = a + 0 by omega, ← cntG_shift]
    refine cntG_congr _ 0 (fun s _ _ => ?_)
    show (supL ns ds (putC ((a + s : Nat) : Int) st xs)).contains (v : Int) = _
    rw [Int.natCast_add, putC_cut s a (by omega) xs h]
    rfl
theorem outL_congr (ns : List Node) {F F' : Nat → Nat → Bool} (til : Nat) (h : ∀ v s, s < til → F v s = F' v s) : outL ns F til = outL ns F' til := by
  refine catN_congr _ (fun v _ => ?_)
  unfold outsR
  rw [runG_congr til 0 (-1) (fun s _ hs => h v s (by omega))]
/-- a change that is taken back at once -/
theorem putC_twice (s : Int) (row : List Int) (x : Chg) (p : Int) : putC s row [⟨x.t, x.dev, p⟩, x] = putC s row [x] := by
  simp only [putC]
  by_cases h : x.t ≤ s
  · simp only [if_pos h, List.set_set]
  · simp only [if_neg h]
/-- a change to where it is -/
theorem putC_same (s last : Int) (st : List Int) (xs : List Chg) (h : ∀ x ∈ xs, x.t ≤ last) (i : Nat) (hi : i < (putC last st xs).length) : putC s (putC s st xs) [⟨last + 1, (i : Int), (putC last st xs)[i]⟩] = putC s st xs := by
  simp only [putC]
  by_cases hs : last + 1 ≤ s
  · rw [if_pos hs]
    have e : putC s st xs = putC last st xs := putC_all _ _ _ _ (fun x hx => by have := h x hx; omega)
    rw [Int.toNat_natCast, e, List.set_getElem_self]
  · rw [if_neg hs]
end Go.Proofs.YthegcofmnpkhmaaDoor

/-
  Plain: the reference's way of finding outages, moment by moment.
-/
import Derived.Test.YtgpcojmdfmngeaaDoorGh
namespace Go.Proofs.YtgpcojmdfmngeaaDoor
set_option maxHeartbeats 400000

/-- the changes of one time -/
def putE (a : Int) : List Int → List Chg → List Int
  | st, [] => st
  | st, x :: xs => putE a (if x.t = a then st.set x.dev.toNat x.pos else st) xs
theorem putE_drop (a : Int) (st : List Int) (xs : List Chg) (k : Nat) (h : k < xs.length) : putE a st (xs.drop k) = putE a (if xs[k].t = a then st.set xs[k].dev.toNat xs[k].pos else st) (xs.drop (k + 1)) := by
  rw [List.drop_eq_getElem_cons h]; rfl
theorem putE_none {a : Int} : ∀ {xs : List Chg} {st : List Int}, (∀ x ∈ xs, a < x.t) → putE a st xs = st
  | [], _, _ => rfl
  | x :: xs, st, h => by
    rw [putE, if_neg (by have := h x (by simp); omega)]
    exact putE_none (fun y hy => h y (by simp [hy]))
theorem putE_put (a : Int) : ∀ (xs : List Chg) (last : Int) (st : List Int), Asc last xs → putE a (putC (a - 1) st xs) xs = putC a st xs
  | [], _, _, _ => rfl
  | x :: xs, last, st, h => by
    have hx := Asc.mem h.2
    rw [putC, putC, putE]
    by_cases h1 : x.t ≤ a - 1
    · rw [if_pos h1, if_neg (by omega), if_pos (by omega)]
      exact putE_put a xs _ _ h.2
    · rw [if_neg h1]
      have hn : putC (a - 1) st xs = st := putC_none _ _ _ (fun y hy => by have := hx y hy; omega)
      rw [hn]
      by_cases h2 : x.t = a
      · rw [if_pos h2, if_pos (by omega)]
        have := putE_put a xs _ (st.set x.dev.toNat x.pos) h.2
        rw [putC_none _ _ _ (fun y hy => by have := hx y hy; omega)] at this
        exact this
      · rw [if_neg h2, if_neg (by omega), putE_none (fun y hy => by have := hx y hy; omega)]
        exact (putC_none _ _ _ (fun y hy => by have := hx y hy; omega)).symm
/-- the next moment -/
def nextE (a : Int) : Int → List Chg → Int
  | n, [] => n
  | n, x :: xs => nextE a (if a < x.t ∧ x.t < n then x.t else n) xs
theorem nextE_drop (a n : Int) (xs : List Chg) (k : Nat) (h : k < xs.length) : nextE a n (xs.drop k) = nextE a (if a < xs[k].t ∧ xs[k].t < n then xs[k].t else n) (xs.drop (k + 1)) := by
  rw [List.drop_eq_getElem_cons h]; rfl
theorem nextE_ok {a : Int} : ∀ (xs : List Chg) (n : Int), a < n → a < nextE a n xs ∧ nextE a n xs ≤ n ∧ ∀ x ∈ xs, x.t ≤ a ∨ nextE a n xs ≤ x.t
  | [], n, h => ⟨h, Int.le_refl _, by simp⟩
  | x :: xs, n, h => by
    rw [nextE]
    have h1 : a < (if a < x.t ∧ x.t < n then x.t else n) := by split <;> omega
    obtain ⟨i1, i2, i3⟩ := nextE_ok xs _ h1
    have h2 : (if a < x.t ∧ x.t < n then x.t else n) ≤ n := by split <;> omega
    refine ⟨i1, by omega, fun y hy => ?_⟩
    rcases List.mem_cons.1 hy with rfl | hy
    · by_cases hc : a < y.t ∧ y.t < n
      · rw [if_pos hc] at i2 ⊢
        exact .inr i2
      · rw [if_neg hc] at i2 ⊢
        omega
    · exact i3 y hy
theorem putC_iff {a b : Int} : ∀ {xs : List Chg} {st : List Int}, (∀ x ∈ xs, (x.t ≤ a ↔ x.t ≤ b)) → putC a st xs = putC b st xs
  | [], _, _ => rfl
  | x :: xs, st, h => by
    rw [putC, putC]
    have h1 := h x (by simp)
    have e : (if x.t ≤ a then st.set x.dev.toNat x.pos else st) = if x.t ≤ b then st.set x.dev.toNat x.pos else st := by
      by_cases hc : x.t ≤ a
      · rw [if_pos hc, if_pos (h1.1 hc)]
      · rw [if_neg hc, if_neg (fun q => hc (h1.2 q))]
    rw [e]
    exact putC_iff (fun y hy => h y (by simp [hy]))
theorem runG_jump (f : Nat → Bool) {at_ nx til : Nat} (fr : Int) (b : Bool) (h1 : at_ < nx) (h2 : nx ≤ til) (hf : ∀ s, at_ ≤ s → s < nx → f s = b) :
    runG f (til - at_) at_ fr = if b = true then (if 0 ≤ fr then (fr, (at_ : Int)) :: runG f (til - nx) nx (-1) else runG f (til - nx) nx fr) else (if fr < 0 then runG f (til - nx) nx at_ else runG f (til - nx) nx fr) := by
  have e : til - at_ = (nx - at_ - 1 + (til - nx)) + 1 := by omega
  have et : at_ + 1 + (nx - at_ - 1) = nx := by omega
  rw [e, runG, hf at_ (Nat.le_refl _) h1]
  cases b
  · have hdn : ∀ s, at_ + 1 ≤ s → s < at_ + 1 + (nx - at_ - 1) → f s = false := fun s a b => hf s (by omega) (by omega)
    simp only [Bool.false_eq_true, if_false]
    by_cases hfr : fr < 0
    · rw [if_pos hfr, if_pos hfr, runG_down f _ _ _ _ (by omega) hdn, et]
    · rw [if_neg hfr, if_neg hfr, runG_down f _ _ _ _ (by omega) hdn, et]
  · have hup : ∀ s, at_ + 1 ≤ s → s < at_ + 1 + (nx - at_ - 1) → f s = true := fun s a b => hf s (by omega) (by omega)
    simp only [if_true]
    by_cases hfr : 0 ≤ fr
    · rw [if_pos hfr, if_pos hfr, runG_up f _ _ _ _ (by omega) hup, et]
    · rw [if_neg hfr, if_neg hfr, runG_up f _ _ _ _ (by omega) hup, et]
/-- From one moment to the next one. -/
theorem run_next (ns : List Node) (ds : List Dev) (st : List Int) (xs : List Chg) (v a nx til : Nat) (fr : Int) (h1 : a < nx) (h2 : nx ≤ til) (hx : ∀ x ∈ xs, x.t ≤ a ∨ (nx : Int) ≤ x.t) :
    runG (supF ns ds st xs v) (til - a) a fr = if (supL ns ds (putC a st xs)).contains (v : Int) = true then (if 0 ≤ fr then (fr, (a : Int)) :: runG (supF ns ds st xs v) (til - nx) nx (-1) else runG (supF ns ds st xs v) (til - nx) nx fr) else (if fr < 0 then runG (supF ns ds st xs v) (til - nx) nx a else runG (supF ns ds st xs v) (til - nx) nx fr) :=
  runG_jump _ fr _ h1 h2 (fun s ha hb => by
    unfold supF
    rw [putC_iff (b := (a : Int)) (fun x hm => by have := hx x hm; omega)])
theorem put_next {st : List Int} {xs : List Chg} {a nx : Nat} (h1 : a < nx) (hx : ∀ x ∈ xs, x.t ≤ a ∨ (nx : Int) ≤ x.t) : putC ((nx : Int) - 1) st xs = putC a st xs :=
  putC_iff (fun x hm => by have := hx x hm; omega)
end Go.Proofs.YtgpcojmdfmngeaaDoor

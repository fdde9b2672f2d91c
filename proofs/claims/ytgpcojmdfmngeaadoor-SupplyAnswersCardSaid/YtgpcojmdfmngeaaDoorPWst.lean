/-
  Plain: the reference's list of agreeing states is the program's; the least number of supplied customers.
-/
import Derived.Test.YtgpcojmdfmngeaaDoorRa06
import Derived.Test.YtgpcojmdfmngeaaDoorWst
namespace Go.Proofs.YtgpcojmdfmngeaaDoor
set_option maxHeartbeats 400000

def choices (x : Int) : List Int := if x = 3 then [1, 2] else [x]
def enumL : List Int → List (List Int)
  | [] => [[]]
  | x :: xs => (choices x).flatMap (fun p => (enumL xs).map (fun t => p :: t))
theorem stepA_choices {m : Int} (h : 1 ≤ m ∧ m ≤ 3) (out : List (List Int)) : stepA out m = out.flatMap (fun r => (choices m).map (fun p => r ++ [p])) := by
  unfold stepA
  congr 1
  funext r
  have : m = 1 ∨ m = 2 ∨ m = 3 := by omega
  rcases this with rfl | rfl | rfl
  · rw [extA, extA, show hasB 1 1 = true by decide, show hasB 1 2 = false by decide]; rfl
  · rw [extA, extA, show hasB 2 1 = false by decide, show hasB 2 2 = true by decide]; rfl
  · rw [extA, extA, show hasB 3 1 = true by decide, show hasB 3 2 = true by decide]; rfl
theorem foldA_enum : ∀ (xs : List Int), (∀ x ∈ xs, 1 ≤ x ∧ x ≤ 3) → ∀ out : List (List Int), xs.foldl stepA out = out.flatMap (fun r => (enumL xs).map (fun t => r ++ t))
  | [], _, out => by
    induction out with
    | nil => rfl
    | cons r out ih => simp [enumL]
  | x :: xs, h, out => by
    rw [List.foldl_cons, foldA_enum xs (fun y hy => h y (List.mem_cons_of_mem _ hy)), stepA_choices (h x (List.mem_cons_self ..)), List.flatMap_assoc]
    congr 1
    funext r
    rw [enumL, List.map_flatMap, List.flatMap_map]
    congr 1
    funext p
    rw [List.map_map]
    congr 1
    funext t
    simp
theorem refA_enum (xs : List Int) (h : ∀ x ∈ xs, 1 ≤ x ∧ x ≤ 3) : refA xs = enumL xs := by
  unfold refA
  rw [foldA_enum xs h]
  simp
theorem bit_low {n k : Nat} (h : k < 2 ^ n) : bitAt k n = 1 := by
  unfold bitAt
  rw [Nat.div_eq_of_lt h]
  rfl
theorem bit_high {n k : Nat} (h : k < 2 ^ n) : bitAt (2 ^ n + k) n = 2 := by
  unfold bitAt
  have hp : 0 < 2 ^ n := Nat.two_pow_pos n
  rw [show 2 ^ n + k = 2 ^ n * 1 + k by omega, Nat.mul_add_div hp, Nat.div_eq_of_lt h]
  rfl
theorem bit_same {n k s : Nat} (h : s < n) : bitAt (2 ^ n + k) s = bitAt k s := by
  unfold bitAt
  have hp : 0 < 2 ^ s := Nat.two_pow_pos s
  have e : 2 ^ n = 2 ^ s * (2 * 2 ^ (n - s - 1)) := by
    rw [show 2 * 2 ^ (n - s - 1) = 2 ^ (n - s - 1 + 1) by rw [Nat.pow_succ]; omega, ← Nat.pow_add]
    congr 1
    omega
  rw [e, Nat.mul_add_div hp]
  congr 2
  omega
theorem enum_bits : ∀ (xs : List Int) (i : Nat), (List.range (2 ^ num3 xs)).map (fun k => stF (fun t => bitAt k (i + num3 xs - 1 - t)) xs i) = enumL xs
  | [], i => by simp [num3, stF, enumL]
  | x :: xs, i => by
    by_cases hx : x = 3
    · have ih := enum_bits xs (i + 1)
      have en : num3 (x :: xs) = num3 xs + 1 := by simp [num3, hx]; omega
      rw [en]
      generalize hn : num3 xs = n at *
      rw [Nat.pow_succ, show 2 ^ n * 2 = 2 ^ n + 2 ^ n by omega, List.range_add, List.map_append, List.map_map]
      have e0 : enumL (x :: xs) = (enumL xs).map (fun t => 1 :: t) ++ (enumL xs).map (fun t => 2 :: t) := by
        simp [enumL, choices, hx]
      rw [e0, ← ih, List.map_map, List.map_map]
      congr 1
      · apply List.map_congr_left
        intro k hk
        have hk := List.mem_range.1 hk
        simp only [Function.comp, stF, if_pos hx]
        rw [show i + (n + 1) - 1 - i = n by omega, bit_low hk, show i + (n + 1) - 1 = i + 1 + n - 1 by omega]
      · apply List.map_congr_left
        intro k hk
        have hk := List.mem_range.1 hk
        simp only [Function.comp, stF, if_pos hx]
        rw [show i + (n + 1) - 1 - i = n by omega, bit_high hk]
        congr 1
        refine stF_same xs (i + 1) (fun t ht => ?_)
        rw [hn] at ht
        show bitAt (2 ^ n + k) (i + (n + 1) - 1 - (i + 1 + t)) = bitAt k (i + 1 + n - 1 - (i + 1 + t))
        rw [show i + (n + 1) - 1 - (i + 1 + t) = i + 1 + n - 1 - (i + 1 + t) by omega]
        exact bit_same (by omega)
    · have ih := enum_bits xs i
      have en : num3 (x :: xs) = num3 xs := by simp [num3, hx]
      have e0 : enumL (x :: xs) = (enumL xs).map (fun t => x :: t) := by simp [enumL, choices, hx]
      rw [en, e0, ← ih, List.map_map]
      apply List.map_congr_left
      intro k _
      simp only [Function.comp, stF, if_neg hx]
theorem allL_enum (xs : List Int) : allL xs = enumL xs := by
  rw [← enum_bits xs 0]
  apply List.ext_getElem
  · simp [allL_len]
  · intro k h1 h2
    rw [allL_get, List.getElem_map, List.getElem_range, Nat.zero_add]
theorem refA_allL (xs : List Int) (h : ∀ x ∈ xs, 1 ≤ x ∧ x ≤ 3) : refA xs = allL xs := by rw [refA_enum xs h, allL_enum]

theorem leastF_le (f : List Int → Int) : ∀ (ss : List (List Int)) (a : Int), leastF f a ss ≤ a ∧ ∀ s ∈ ss, leastF f a ss ≤ f s
  | [], a => ⟨Int.le_refl _, by simp⟩
  | s :: ss, a => by
    have e : leastF f a (s :: ss) = leastF f (if f s < a then f s else a) ss := rfl
    obtain ⟨h1, h2⟩ := leastF_le f ss (if f s < a then f s else a)
    have h3 : (if f s < a then f s else a) ≤ a ∧ (if f s < a then f s else a) ≤ f s := by split <;> omega
    rw [e]
    exact ⟨Int.le_trans h1 h3.1, fun t ht => by
      rcases List.mem_cons.1 ht with rfl | ht
      · exact Int.le_trans h1 h3.2
      · exact h2 t ht⟩
theorem leastF_mem (f : List Int → Int) : ∀ (ss : List (List Int)) (a : Int), leastF f a ss = a ∨ ∃ s ∈ ss, leastF f a ss = f s
  | [], a => .inl rfl
  | s :: ss, a => by
    have e : leastF f a (s :: ss) = leastF f (if f s < a then f s else a) ss := rfl
    rw [e]
    rcases leastF_mem f ss (if f s < a then f s else a) with h | ⟨t, ht, h⟩
    · by_cases hs : f s < a
      · rw [if_pos hs] at h ⊢
        exact .inr ⟨s, List.mem_cons_self .., h⟩
      · rw [if_neg hs] at h ⊢
        exact .inl h
    · exact .inr ⟨t, List.mem_cons_of_mem _ ht, h⟩
theorem worst_le {ns : List Node} {ds : List Dev} {ss : List (List Int)} (s : List Int) (h : s ∈ ss) : worstL ns ds ss ≤ kF ns ds s := by
  unfold worstL
  cases ss with
  | nil => simp at h
  | cons t ss =>
    obtain ⟨h1, h2⟩ := leastF_le (kF ns ds) ss (kF ns ds t)
    rcases List.mem_cons.1 h with rfl | h
    · exact h1
    · exact h2 s h
theorem worst_mem {ns : List Node} {ds : List Dev} {ss : List (List Int)} (h : 0 < ss.length) : ∃ s ∈ ss, kF ns ds s = worstL ns ds ss := by
  unfold worstL
  cases ss with
  | nil => simp at h
  | cons t ss =>
    rcases leastF_mem (kF ns ds) ss (kF ns ds t) with h | ⟨s, hs, h⟩
    · exact ⟨t, List.mem_cons_self .., h.symm⟩
    · exact ⟨s, List.mem_cons_of_mem _ hs, h.symm⟩
/-- is the least one among those so far? -/
def foundB (ns : List Node) (ds : List Dev) (wl : Int) (ss : List (List Int)) : Bool := ss.any (fun s => kF ns ds s == wl)
theorem foundB_snoc (ns : List Node) (ds : List Dev) (wl : Int) (ss : List (List Int)) (s : List Int) : foundB ns ds wl (ss ++ [s]) = (foundB ns ds wl ss || (kF ns ds s == wl)) := by simp [foundB]
end Go.Proofs.YtgpcojmdfmngeaaDoor

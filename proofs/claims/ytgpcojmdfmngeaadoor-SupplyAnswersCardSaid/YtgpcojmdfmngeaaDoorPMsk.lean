/-
  Plain: the states of masks: what each holds, which comes before which.
-/
import Derived.Test.YtgpcojmdfmngeaaDoorW06e
import Derived.Test.YtgpcojmdfmngeaaDoorW06c
import Derived.Test.YtgpcojmdfmngeaaDoorMkU
import Derived.Test.YtgpcojmdfmngeaaDoorGe
namespace Go.Proofs.YtgpcojmdfmngeaaDoor
set_option maxHeartbeats 400000

theorem unk_len : ∀ (xs : List Int) (k : Nat), (unk xs k).length = num3 xs
  | [], _ => rfl
  | x :: xs, k => by
    simp only [unk, num3]
    split
    · rw [List.length_cons, unk_len xs (k + 1)]; omega
    · rw [unk_len xs (k + 1)]; omega
/-- the unknown places filled, the first one by f i, the next one by f (i + 1), .. -/
def stF (f : Nat → Int) : List Int → Nat → List Int
  | [], _ => []
  | x :: xs, i => if x = 3 then f i :: stF f xs (i + 1) else x :: stF f xs i
theorem stF_len (f : Nat → Int) : ∀ (xs : List Int) (i : Nat), (stF f xs i).length = xs.length
  | [], _ => rfl
  | x :: xs, i => by
    unfold stF
    split <;> simp [stF_len f xs]
def setU (f : Nat → Int) : List Int → Nat → List Int → List Int
  | [], _, row => row
  | d :: ds, i, row => setU f ds (i + 1) (row.set d.toNat (f i))
theorem setU_drop (f : Nat → Int) (us : List Int) (i : Nat) (row : List Int) (h : i < us.length) : setU f (us.drop i) i row = setU f (us.drop (i + 1)) (i + 1) (row.set us[i].toNat (f i)) := by
  rw [List.drop_eq_getElem_cons h]; rfl
theorem setU_unk (f : Nat → Int) : ∀ (xs pre : List Int) (i : Nat), setU f (unk xs pre.length) i (pre ++ xs) = pre ++ stF f xs i
  | [], pre, i => by simp [unk, setU, stF]
  | x :: xs, pre, i => by
    unfold unk stF
    split
    · have ih := setU_unk f xs (pre ++ [f i]) (i + 1)
      simp only [setU, Int.toNat_natCast]
      rw [List.set_append_right _ _ (Nat.le_refl _), Nat.sub_self, List.set_cons_zero]
      simpa using ih
    · have ih := setU_unk f xs (pre ++ [x]) i
      simpa using ih
theorem setU_all (f : Nat → Int) (xs : List Int) : setU f (unk xs 0) 0 xs = stF f xs 0 := by simpa using setU_unk f xs [] 0
theorem fillRow_eq (k u : Nat) : ∀ (ds : List Int) (i : Nat) (row : List Int), fillRow k u ds i row = setU (fun i => bitAt k (u - 1 - i)) ds i row
  | [], _, _ => rfl
  | d :: ds, i, row => by simp only [fillRow, setU, fillRow_eq k u ds]
theorem allL_get (xs : List Int) (k : Nat) (hk : k < (allL xs).length) : (allL xs)[k] = stF (fun i => bitAt k (num3 xs - 1 - i)) xs 0 := by
  simp only [allL, List.getElem_map, List.getElem_range]
  rw [fillRow_eq, setU_all, unk_len]
theorem allL_len (xs : List Int) : (allL xs).length = 2 ^ num3 xs := by simp [allL, unk_len]
theorem stF_same {f g : Nat → Int} : ∀ (xs : List Int) (i : Nat), (∀ t, t < num3 xs → f (i + t) = g (i + t)) → stF f xs i = stF g xs i
  | [], _, _ => rfl
  | x :: xs, i, h => by
    unfold stF
    by_cases hx : x = 3
    · rw [if_pos hx, if_pos hx]
      have h0 := h 0 (by simp [num3, hx]; omega)
      have ih := stF_same (f := f) (g := g) xs (i + 1) (fun t ht => by
        have := h (t + 1) (by simp [num3, hx]; omega)
        rw [show i + 1 + t = i + (t + 1) by omega]; exact this)
      rw [ih]
      rw [show i = i + 0 by omega, h0]
    · rw [if_neg hx, if_neg hx]
      have ih := stF_same (f := f) (g := g) xs i (fun t ht => h t (by simp [num3, hx]; omega))
      rw [ih]
theorem stF_mem {f : Nat → Int} (hf : ∀ i, f i = 1 ∨ f i = 2) : ∀ (xs : List Int) (i : Nat), (∀ x ∈ xs, 1 ≤ x ∧ x ≤ 3) → ∀ y ∈ stF f xs i, y = 1 ∨ y = 2
  | [], _, _, y, hy => by simp [stF] at hy
  | x :: xs, i, h, y, hy => by
    have h1 := h x (by simp)
    have h2 : ∀ z ∈ xs, 1 ≤ z ∧ z ≤ 3 := fun z hz => h z (by simp [hz])
    unfold stF at hy
    split at hy
    · rcases List.mem_cons.1 hy with rfl | hy
      · exact hf i
      · exact stF_mem hf xs _ h2 y hy
    · rcases List.mem_cons.1 hy with rfl | hy
      · omega
      · exact stF_mem hf xs _ h2 y hy
theorem stF_agl {f : Nat → Int} (hf : ∀ i, f i = 1 ∨ f i = 2) : ∀ (xs : List Int) (i : Nat), (∀ x ∈ xs, 1 ≤ x ∧ x ≤ 3) → agl (stF f xs i) xs = true
  | [], _, _ => rfl
  | x :: xs, i, h => by
    have h1 := h x (by simp)
    have h2 : ∀ z ∈ xs, 1 ≤ z ∧ z ≤ 3 := fun z hz => h z (by simp [hz])
    unfold stF
    split
    · rename_i hx
      simp only [agl, stF_agl hf xs _ h2, Bool.and_true]
      rcases hf i with e | e <;> simp [agB, isPos, e, hx]
    · rename_i hx
      simp only [agl, stF_agl hf xs _ h2, Bool.and_true]
      simp [agB, isPos]; omega
theorem bit_two (k s : Nat) : bitAt k s = 1 ∨ bitAt k s = 2 := by unfold bitAt; omega
theorem masks_all {xs : List Int} (h : ∀ x ∈ xs, 1 ≤ x ∧ x ≤ 3) : xs.all isMask = true := List.all_eq_true.2 (fun x hx => by have := h x hx; simp [isMask]; omega)
theorem stF_agr {f : Nat → Int} (hf : ∀ i, f i = 1 ∨ f i = 2) (xs : List Int) (h : ∀ x ∈ xs, 1 ≤ x ∧ x ≤ 3) : agr (stF f xs 0) xs = true := by
  unfold agr
  rw [stF_len, masks_all h, stF_agl hf xs 0 h]
  simp
/-- the first place at which two states differ -/
theorem stF_lt {f g : Nat → Int} : ∀ (xs : List Int) (i t : Nat), t < num3 xs → (∀ t', t' < t → f (i + t') = g (i + t')) → f (i + t) = 1 → g (i + t) = 2 →
    ∃ j, j < xs.length ∧ (∀ j', j' < j → PO.at_ (stF f xs i) j' = PO.at_ (stF g xs i) j') ∧ PO.at_ (stF f xs i) j = 1 ∧ PO.at_ (stF g xs i) j = 2
  | [], _, t, ht, _, _, _ => by simp [num3] at ht
  | x :: xs, i, t, ht, he, h1, h2 => by
    have cons : ∀ (a b : Int) (p q : List Int), a = b → (∃ j, j < xs.length ∧ (∀ j', j' < j → PO.at_ p j' = PO.at_ q j') ∧ PO.at_ p j = 1 ∧ PO.at_ q j = 2) →
        ∃ j, j < (x :: xs).length ∧ (∀ j', j' < j → PO.at_ (a :: p) j' = PO.at_ (b :: q) j') ∧ PO.at_ (a :: p) j = 1 ∧ PO.at_ (b :: q) j = 2 := by
      rintro a b p q rfl ⟨j, hj, hl, e1, e2⟩
      refine ⟨j + 1, by simp; omega, fun j' hj' => ?_, by simpa [PO.at_] using e1, by simpa [PO.at_] using e2⟩
      cases j' with
      | zero => rfl
      | succ j' =>
        have := hl j' (by omega)
        simpa [PO.at_] using this
    unfold stF
    by_cases hx : x = 3
    · rw [if_pos hx, if_pos hx]
      cases t with
      | zero =>
        rw [Nat.add_zero] at h1 h2
        exact ⟨0, by simp, fun j' hj' => by omega, by simp [PO.at_, h1], by simp [PO.at_, h2]⟩
      | succ t =>
        have e0 := he 0 (by omega)
        rw [Nat.add_zero] at e0
        refine cons _ _ _ _ e0 (stF_lt xs (i + 1) t (by simp [num3, hx] at ht; omega) (fun t' ht' => ?_) ?_ ?_)
        · have := he (t' + 1) (by omega)
          rw [show i + 1 + t' = i + (t' + 1) by omega]; exact this
        · rw [show i + 1 + t = i + (t + 1) by omega]; exact h1
        · rw [show i + 1 + t = i + (t + 1) by omega]; exact h2
    · rw [if_neg hx, if_neg hx]
      exact cons _ _ _ _ rfl (stF_lt xs i t (by simp [num3, hx] at ht; exact ht) he h1 h2)
theorem bits_next_all : ∀ k : Fin 256, 1 ≤ k.val → ∃ s : Fin 8, (∀ r : Fin 8, s.val < r.val → bitAt (k.val - 1) r.val = bitAt k.val r.val) ∧ bitAt (k.val - 1) s.val = 1 ∧ bitAt k.val s.val = 2 := by decide +kernel
/-- The state with number k comes behind the one before it. -/
theorem allL_next (xs : List Int) (h8 : num3 xs ≤ 8) (k : Nat) (hk : k < (allL xs).length) (h1 : 1 ≤ k) :
    ∃ j, j < xs.length ∧ (∀ j', j' < j → PO.at_ (allL xs)[k - 1] j' = PO.at_ (allL xs)[k] j') ∧ PO.at_ (allL xs)[k - 1] j = 1 ∧ PO.at_ (allL xs)[k] j = 2 := by
  rw [allL_get, allL_get]
  have hk2 : k < 2 ^ num3 xs := by rw [← allL_len]; exact hk
  have hp : 2 ^ num3 xs ≤ 256 := Nat.le_trans (Nat.pow_le_pow_right (by omega) h8) (by decide)
  obtain ⟨s, hr, e1, e2⟩ := bits_next_all ⟨k, by omega⟩ h1
  simp only at hr e1 e2
  have hs : s.val < num3 xs := by
    by_cases hs : s.val < num3 xs
    · exact hs
    · have : 2 ^ num3 xs ≤ 2 ^ s.val := Nat.pow_le_pow_right (by omega) (by omega)
      unfold bitAt at e2
      rw [Nat.div_eq_of_lt (by omega)] at e2
      simp at e2
  refine stF_lt xs 0 (num3 xs - 1 - s.val) (by omega) (fun t' ht' => ?_) ?_ ?_
  · simp only [Nat.zero_add]
    exact hr ⟨num3 xs - 1 - t', by omega⟩ (by simp only; omega)
  · simp only [Nat.zero_add]
    rw [show num3 xs - 1 - (num3 xs - 1 - s.val) = s.val by omega]; exact e1
  · simp only [Nat.zero_add]
    rw [show num3 xs - 1 - (num3 xs - 1 - s.val) = s.val by omega]; exact e2
/-- all unknown places with one position -/
def lowL (pos : Int) (xs : List Int) : List Int := stF (fun _ => pos) xs 0
theorem allL_first (xs : List Int) (h : 0 < (allL xs).length) : (allL xs)[0] = lowL 1 xs := by
  rw [allL_get]
  exact stF_same xs 0 (fun t _ => by simp [bitAt])
theorem bits_last_all : ∀ u : Fin 9, ∀ s : Fin 8, s.val < u.val → bitAt (2 ^ u.val - 1) s.val = 2 := by decide +kernel
theorem allL_last (xs : List Int) (h8 : num3 xs ≤ 8) (h : (allL xs).length - 1 < (allL xs).length) : (allL xs)[(allL xs).length - 1] = lowL 2 xs := by
  rw [allL_get]
  refine stF_same xs 0 (fun t ht => ?_)
  simp only [Nat.zero_add]
  rw [allL_len]
  exact bits_last_all ⟨num3 xs, by omega⟩ ⟨num3 xs - 1 - t, by omega⟩ (by simp only; omega)
end Go.Proofs.YtgpcojmdfmngeaaDoor

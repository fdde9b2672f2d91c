/-
  Plain: which nodes are supplied, and how many customers they have.
-/
import Derived.Test.YtglhplddjjoggaaDoorPGrow
namespace Go.Proofs.YtglhplddjjoggaaDoor
set_option maxHeartbeats 400000

/-- the numbers below k with a property, in order -/
def supN (P : Nat → Bool) : Nat → List Int
  | 0 => []
  | k + 1 => supN P k ++ (if P k then [(k : Int)] else [])
/-- the sum of f over the numbers below k with a property -/
def sumN (f : Nat → Int) (P : Nat → Bool) : Nat → Int
  | 0 => 0
  | k + 1 => sumN f P k + (if P k then f k else 0)
theorem supN_len (P : Nat → Bool) : ∀ k, (supN P k).length ≤ k
  | 0 => Nat.le_refl _
  | k + 1 => by
    have := supN_len P k
    unfold supN
    split <;> simp <;> omega
theorem supN_mem (P : Nat → Bool) : ∀ (k : Nat) (v : Int), v ∈ supN P k ↔ ∃ j : Nat, v = j ∧ j < k ∧ P j = true
  | 0, v => by simp [supN]
  | k + 1, v => by
    have ih := supN_mem P k v
    unfold supN
    rw [List.mem_append, ih]
    constructor
    · rintro (⟨j, e, hj, hp⟩ | h)
      · exact ⟨j, e, by omega, hp⟩
      · split at h
        · rename_i hp
          exact ⟨k, by simpa using h, by omega, hp⟩
        · simp at h
    · rintro ⟨j, rfl, hj, hp⟩
      by_cases e : j = k
      · subst e
        right
        rw [if_pos hp]
        simp
      · exact .inl ⟨j, rfl, by omega, hp⟩
theorem supN_filter (P Q : Nat → Bool) (n : Nat) : ∀ k, k ≤ n → (supN P k).filter (fun v => !(supN Q n).contains v) = supN (fun v => P v && !Q v) k
  | 0, _ => rfl
  | k + 1, hk => by
    have ih := supN_filter P Q n k (by omega)
    show (supN P k ++ (if P k then [(k : Int)] else [])).filter (fun v => !(supN Q n).contains v) = supN (fun v => P v && !Q v) k ++ (if (P k && !Q k) = true then [(k : Int)] else [])
    rw [List.filter_append, ih]
    congr 1
    by_cases hp : P k = true
    · have hc : (supN Q n).contains (k : Int) = Q k := by
        rw [Bool.eq_iff_iff, List.contains_iff_mem, supN_mem]
        constructor
        · rintro ⟨j, e, _, hq⟩
          obtain rfl : k = j := by omega
          exact hq
        · exact fun hq => ⟨k, rfl, by omega, hq⟩
      rw [if_pos hp]
      cases hq : Q k
      · rw [hq] at hc
        rw [List.filter_cons_of_pos (by rw [hc]; rfl), hp]
        rfl
      · rw [hq] at hc
        rw [List.filter_cons_of_neg (by rw [hc]; decide), hp]
        rfl
    · have hp : P k = false := by simpa using hp
      simp [hp]
def custAt (ns : List Node) (v : Int) : Int := ((ns[v.toNat]?).map (·.cust)).getD 0
def custF (ns : List Node) (l : List Int) : Int := (l.map (custAt ns)).sum
theorem custF_snoc (ns : List Node) (l : List Int) (v : Int) : custF ns (l ++ [v]) = custF ns l + custAt ns v := by simp [custF]
theorem custF_supN (ns : List Node) (P : Nat → Bool) : ∀ k, custF ns (supN P k) = sumN (fun v => custAt ns v) P k
  | 0 => rfl
  | k + 1 => by
    unfold supN sumN
    rw [← custF_supN ns P k]
    split
    · exact custF_snoc _ _ _
    · simp
theorem sumN_swap (f : Nat → Int) (P Q : Nat → Bool) : ∀ k, sumN f P k - sumN f (fun v => P v && !Q v) k + sumN f (fun v => Q v && !P v) k = sumN f Q k
  | 0 => rfl
  | k + 1 => by
    have := sumN_swap f P Q k
    unfold sumN
    cases P k <;> cases Q k <;> simp <;> omega
theorem sumN_none {f : Nat → Int} {P : Nat → Bool} : ∀ k, (∀ v, v < k → P v = false) → sumN f P k = 0
  | 0, _ => rfl
  | k + 1, h => by
    unfold sumN
    rw [sumN_none k (fun v hv => h v (by omega)), h k (by omega)]
    rfl
theorem supN_none {P : Nat → Bool} : ∀ k, (∀ v, v < k → P v = false) → supN P k = []
  | 0, _ => rfl
  | k + 1, h => by
    unfold supN
    rw [supN_none k (fun v hv => h v (by omega)), h k (by omega)]
    rfl
/-- Is a node supplied? -/
def suppB (ns : List Node) (ds : List Dev) (st : List Int) (v : Nat) : Bool := decide (0 < custAt ns v) && (PO.at_ (colL ds st (partsL ns.length ds st)) v == 1)
def supL (ns : List Node) (ds : List Dev) (st : List Int) : List Int := supN (suppB ns ds st) ns.length
def lostL (a b : List Int) : List Int := a.filter (fun v => !b.contains v)
theorem lost_sup (ns : List Node) (ds : List Dev) (s t : List Int) : lostL (supL ns ds s) (supL ns ds t) = supN (fun v => suppB ns ds s v && !suppB ns ds t v) ns.length := supN_filter _ _ _ _ (Nat.le_refl _)
theorem lost_sum (ns : List Node) (ds : List Dev) (s t : List Int) : custF ns (supL ns ds s) - custF ns (lostL (supL ns ds s) (supL ns ds t)) + custF ns (lostL (supL ns ds t) (supL ns ds s)) = custF ns (supL ns ds t) := by
  rw [lost_sup, lost_sup]
  unfold supL
  rw [custF_supN, custF_supN, custF_supN, custF_supN]
  exact sumN_swap _ _ _ _
theorem lost_self (ns : List Node) (ds : List Dev) (s : List Int) : lostL (supL ns ds s) (supL ns ds s) = [] := by
  rw [lost_sup]
  exact supN_none _ (fun v _ => by cases suppB ns ds s v <;> rfl)
theorem lost_apart (ns : List Node) (ds : List Dev) (s t : List Int) (v : Int) (h : v ∈ lostL (supL ns ds s) (supL ns ds t)) : ¬ v ∈ lostL (supL ns ds t) (supL ns ds s) := by
  rw [lost_sup, supN_mem] at *
  obtain ⟨j, rfl, _, h⟩ := h
  rintro ⟨i, e, _, h'⟩
  obtain rfl : j = i := by omega
  revert h h'
  cases suppB ns ds s j <;> cases suppB ns ds t j <;> simp
theorem lostL_len (a b : List Int) : (lostL a b).length ≤ a.length := List.length_filter_le _ _
theorem supL_len (ns : List Node) (ds : List Dev) (st : List Int) : (supL ns ds st).length ≤ ns.length := supN_len _ _
theorem supL_in (ns : List Node) (ds : List Dev) (st : List Int) : ∀ v ∈ supL ns ds st, 0 ≤ v ∧ v < ns.length := fun v hv => by
  obtain ⟨j, rfl, hj, _⟩ := (supN_mem _ _ _).1 hv
  omega
theorem lostL_in {a b : List Int} {n : Nat} (h : ∀ v ∈ a, 0 ≤ v ∧ v < n) : ∀ v ∈ lostL a b, 0 ≤ v ∧ v < n := fun v hv => h v (List.mem_filter.1 hv).1

theorem nodeErr_zero {x : Node} {u : List (List UInt8)} (h : nodeErr x u = 0) : 0 ≤ x.cust ∧ x.cust ≤ 1048576 := by
  unfold nodeErr at h
  split at h
  · cases h
  · split at h
    · cases h
    · split at h
      · cases h
      · rename_i h3
        omega
theorem chkN_cust {n : Int} {ds : List Dev} : ∀ {xs : List Node} {u : List (List UInt8)}, chkN n ds xs u = 0 → ∀ x ∈ xs, 0 ≤ x.cust ∧ x.cust ≤ 1048576
  | [], _, _ => by simp
  | x :: xs, u, h => by
    simp only [chkN] at h
    split at h
    · rename_i h0
      intro y hy
      rcases List.mem_cons.1 hy with rfl | hy
      · exact nodeErr_zero h0
      · exact chkN_cust h y hy
    · rename_i h0
      exact absurd h h0
theorem checkL_cust {ns : List Node} {ds : List Dev} (h : checkL ns ds = 0) : ∀ x ∈ ns, 0 ≤ x.cust ∧ x.cust ≤ 1048576 := by
  unfold checkL at h
  split at h
  · cases h
  · exact chkN_cust h
theorem custAt_nat {ns : List Node} {v : Nat} (hv : v < ns.length) : custAt ns v = ns[v].cust := by
  unfold custAt
  rw [Int.toNat_natCast, List.getElem?_eq_getElem hv]
  rfl

/-- Where no earth is closed, closing takes the supply from nobody. -/
theorem supp_grows {ns : List Node} {ds : List Dev} (hD : DevsIn ns.length ds) {s t : List Int} (h : Up s t) (he : ∀ z ∈ ds.zip t, z.2 = 2 → z.1.kind ≠ 4) {v : Nat} (hv : v < ns.length) (hs : suppB ns ds s v = true) : suppB ns ds t v = true := by
  unfold suppB at *
  simp only [Bool.and_eq_true, decide_eq_true_eq, beq_iff_eq] at *
  refine ⟨hs.1, ?_⟩
  obtain ⟨l, e, l', e', ea, eb, i1, i2⟩ := h.col hD hv
  have hne : e' = false := by
    have h1 := partsL_len ns.length ds t
    have hlen : v < (colL ds t (partsL ns.length ds t)).length := by rw [colL_len, h1]; exact hv
    rw [at_get hlen] at eb
    simp only [colL, List.getElem_map, bitsZ] at eb
    have h0 : (ds.zip t).any (earthZ (partsL ns.length ds t) (partsL ns.length ds t)[v]) = false := by
      rw [List.any_eq_false]
      intro z hz hez
      unfold earthZ at hez
      simp only [Bool.and_eq_true, beq_iff_eq] at hez
      exact he z hz hez.1.1 hez.1.2
    rw [h0] at eb
    revert eb
    generalize (ds.zip t).any _ = q
    cases q <;> cases l' <;> cases e' <;> simp [colV]
  rw [ea] at hs
  rw [eb, hne]
  have hl : l = true := by
    have := hs.2
    revert this
    cases l <;> cases e <;> simp [colV]
  rw [i1 hl]
  rfl
theorem lost_grows {ns : List Node} {ds : List Dev} {s t : List Int} (h : ∀ v, v < ns.length → suppB ns ds s v = true → suppB ns ds t v = true) :
    lostL (supL ns ds s) (supL ns ds t) = [] ∧ custF ns (supL ns ds t) = custF ns (supL ns ds s) + custF ns (lostL (supL ns ds t) (supL ns ds s)) := by
  have h0 : lostL (supL ns ds s) (supL ns ds t) = [] := by
    rw [lost_sup]
    refine supN_none _ (fun v hv => ?_)
    have := h v hv
    cases hs : suppB ns ds s v
    · rfl
    · rw [this hs]; rfl
  refine ⟨h0, ?_⟩
  have := lost_sum ns ds s t
  rw [h0] at this
  simp only [custF, List.map_nil, List.sum_nil] at this ⊢
  omega
end Go.Proofs.YtglhplddjjoggaaDoor

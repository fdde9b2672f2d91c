/-
  Plain facts: a network that was made has no error.
-/
import Derived.Test.YtglhplddjjoggaaDoorPNet
namespace Go.Proofs.YtglhplddjjoggaaDoor
open Go.RowKit

def nmL (l : List UInt8) (k : Nat) : List UInt8 := l ++ [48 + UInt8.ofNat (k / 10), 48 + UInt8.ofNat (k % 10)]
theorem nm_list (l : List UInt8) (k : Nat) : (nm l k).data.toList = nmL l k := by simp [nm, nmL]
theorem nm_size (l : List UInt8) (k : Nat) : (nm l k).size = l.length + 2 := by simp [nm, ByteArray.size]

theorem digits_ok : ∀ k, k < 64 → okBytes (nmL [] k) false = true := by decide +kernel
theorem digits_inj : ∀ k, k < 64 → ∀ j, j < 64 → nmL [] k = nmL [] j → k = j := by decide +kernel
theorem letter_ok : ∀ k, k < 7 → 1 ≤ k → (letter k).length = 1 ∧ ∀ c ∈ letter k, fitsB (c.toNat : Int) true = true ∧ c ≠ 78 := by decide +kernel

theorem nm_cons (c : UInt8) (k : Nat) : nmL [c] k = c :: nmL [] k := rfl
theorem name_one (c : UInt8) (hc : fitsB (c.toNat : Int) true = true) (k : Nat) (hk : k < 64) : nameB (nm [c] k) = true := by
  unfold nameB
  rw [nm_list, nm_size, nm_cons]
  simp only [okBytes, hc, digits_ok k hk]
  rfl
theorem letter_one (k : Nat) (h1 : 1 ≤ k) (h6 : k ≤ 6) : ∃ c : UInt8, letter k = [c] ∧ fitsB (c.toNat : Int) true = true ∧ c ≠ 78 := by
  have h := letter_ok k (by omega) h1
  match hl : letter k with
  | [c] => exact ⟨c, rfl, h.2 c (by rw [hl]; simp)⟩
  | [] => rw [hl] at h; simp at h
  | _ :: _ :: _ => rw [hl] at h; simp at h
theorem nmL_inj {c d : UInt8} {i j : Nat} (hi : i < 64) (hj : j < 64) (h : nmL [c] i = nmL [d] j) : c = d ∧ i = j := by
  rw [nm_cons, nm_cons] at h
  injection h with h1 h2
  exact ⟨h1, digits_inj i hi j hj h2⟩

/-- The names of nodes and devices, from the last on. -/
def namesN (xs : List Node) : List (List UInt8) := (xs.map (fun x => x.name.data.toList)).reverse
def namesD (xs : List Dev) : List (List UInt8) := (xs.map (fun x => x.name.data.toList)).reverse

theorem chkD_app {n : Int} {ys : List Dev} : ∀ (xs : List Dev) (u : List (List UInt8)), (∀ i (h : i < xs.length), devErr n xs[i] (namesD (xs.take i) ++ u) = 0) → chkD n (xs ++ ys) u = chkD n ys (namesD xs ++ u)
  | [], u, _ => rfl
  | x :: xs, u, h => by
    have h0 : devErr n x u = 0 := h 0 (by simp)
    rw [List.cons_append, chkD, if_pos h0, chkD_app xs (x.name.data.toList :: u) (fun i hi => ?_)]
    · simp [namesD]
    · have := h (i + 1) (by simp; omega)
      simpa [namesD] using this
theorem chkN_app {n : Int} {ds : List Dev} {ys : List Node} : ∀ (xs : List Node) (u : List (List UInt8)), (∀ i (h : i < xs.length), nodeErr xs[i] (namesN (xs.take i) ++ u) = 0) → chkN n ds (xs ++ ys) u = chkN n ds ys (namesN xs ++ u)
  | [], u, _ => rfl
  | x :: xs, u, h => by
    have h0 : nodeErr x u = 0 := h 0 (by simp)
    rw [List.cons_append, chkN, if_pos h0, chkN_app xs (x.name.data.toList :: u) (fun i hi => ?_)]
    · simp [namesN]
    · have := h (i + 1) (by simp; omega)
      simpa [namesN] using this

theorem mem_namesN {xs : List Node} {s : List UInt8} (h : s ∈ namesN xs) : ∃ i, ∃ h : i < xs.length, xs[i].name.data.toList = s := by
  simp only [namesN, List.mem_reverse, List.mem_map] at h
  obtain ⟨x, hx, rfl⟩ := h
  obtain ⟨i, hi, rfl⟩ := List.getElem_of_mem hx
  exact ⟨i, hi, rfl⟩
theorem mem_namesD {xs : List Dev} {s : List UInt8} (h : s ∈ namesD xs) : ∃ i, ∃ h : i < xs.length, xs[i].name.data.toList = s := by
  simp only [namesD, List.mem_reverse, List.mem_map] at h
  obtain ⟨x, hx, rfl⟩ := h
  obtain ⟨i, hi, rfl⟩ := List.getElem_of_mem hx
  exact ⟨i, hi, rfl⟩

/-- What is known of one node, or device, that was made. -/
theorem NodesOK.at_ {ns : List Node} (h : NodesOK ns) {i : Nat} (hi : i < ns.length) : ns[i].name = nm [78] i ∧ 0 ≤ ns[i].cust ∧ ns[i].cust ≤ 50 ∧ 0 ≤ ns[i].comp ∧ ns[i].comp ≤ 2 := h i _ (List.getElem?_eq_getElem hi)
theorem DevsOK.at_ {k : Nat} {ds : List Dev} (h : DevsOK k ds) {j : Nat} (hj : j < ds.length) : ∃ c : UInt8, ds[j].name = nm [c] j ∧ c ≠ 78 ∧ fitsB (c.toNat : Int) true = true ∧ 1 ≤ ds[j].kind ∧ ds[j].kind ≤ 6 ∧ 0 ≤ ds[j].comp ∧ ds[j].comp ≤ 2 ∧ endsB ds[j] k = true := by
  obtain ⟨h1, h2, h3, h4, h5, h6, h7, h8, h9⟩ := h j _ (List.getElem?_eq_getElem hj)
  obtain ⟨c, hc, hf, hn⟩ := letter_one ds[j].kind.toNat (by omega) (by omega)
  rw [hc] at h1
  refine ⟨c, h1, hn, hf, h2, h3, h4, h5, ?_⟩
  unfold endsB
  rw [decide_eq_true h6, decide_eq_true h7]
  by_cases hk : ds[j].kind ≤ 3
  · have := h8 hk
    rw [if_pos (by simp [joinsB]; omega), decide_eq_true this.1, decide_eq_true this.2.1]
    simp [this.2.2]
  · rw [if_neg (by simp [joinsB]; omega), h9 (by omega)]
    rfl

theorem nodeErr_ok {ns : List Node} (h : NodesOK ns) (hl : ns.length ≤ 60) {i : Nat} (hi : i < ns.length) : nodeErr ns[i] (namesN (ns.take i) ++ []) = 0 := by
  obtain ⟨h1, h2, h3, h4, h5⟩ := h.at_ hi
  unfold nodeErr
  rw [if_neg (by rw [h1, name_one 78 (by decide) i (by omega)]; decide), if_neg, if_neg (by simp [companyB]; omega)]
  intro hm
  rw [List.append_nil] at hm
  obtain ⟨j, hj, e⟩ := mem_namesN hm
  have hj' : j < i := by simp at hj; omega
  rw [List.getElem_take, (h.at_ (show j < ns.length by omega)).1, h1, nm_list, nm_list] at e
  have := (nmL_inj (by omega) (by omega) e).2
  omega
theorem devErr_ok {ns : List Node} {ds : List Dev} (hn : NodesOK ns) (hl : ns.length ≤ 60) (h : DevsOK ns.length ds) (hd : ds.length ≤ 60) {j : Nat} (hj : j < ds.length) : devErr ns.length ds[j] (namesD (ds.take j) ++ namesN ns) = 0 := by
  obtain ⟨c, h1, h2, h3, h4, h5, h6, h7, h8⟩ := h.at_ hj
  unfold devErr
  rw [if_neg (by rw [h1, name_one c h3 j (by omega)]; decide), if_neg, if_neg (by omega), if_neg (by rw [h8]; decide), if_neg (by simp [companyB]; omega)]
  intro hm
  rw [h1, nm_list] at hm
  rcases List.mem_append.1 hm with hm | hm
  · obtain ⟨i, hi, e⟩ := mem_namesD hm
    have hi' : i < j := by simp at hi; omega
    obtain ⟨c', h1', _⟩ := h.at_ (show i < ds.length by omega)
    rw [List.getElem_take, h1', nm_list] at e
    have := (nmL_inj (by omega) (by omega) e).2
    omega
  · obtain ⟨i, hi, e⟩ := mem_namesN hm
    rw [(hn.at_ hi).1, nm_list] at e
    exact h2 (nmL_inj (by omega) (by omega) e).1.symm

theorem good_check {K D : Nat} {ns : List Node} {ds : List Dev} (h : GoodNet K D ns ds) (hK : K ≤ 32) (hD : D ≤ 60) : checkL ns ds = 0 := by
  have h1 := h.most
  have h2 := h.few
  unfold checkL
  rw [if_neg (by omega)]
  have e1 := chkN_app (n := ns.length) (ds := ds) (ys := []) ns [] (fun i hi => nodeErr_ok h.nodes (by omega) hi)
  have e2 := chkD_app (n := ns.length) (ys := []) ds (namesN ns ++ []) (fun i hi => by rw [List.append_nil]; exact devErr_ok h.nodes (by omega) h.devs (by omega) hi)
  rw [List.append_nil] at e1 e2
  rw [e1, chkN, List.append_nil]
  rw [List.append_nil] at e2
  rw [e2]
  rfl
theorem good_names {K D : Nat} {ns : List Node} {ds : List Dev} (h : GoodNet K D ns ds) : (∀ x ∈ ns, x.name.size ≤ maxLen) ∧ ∀ d ∈ ds, d.name.size ≤ maxLen := by
  constructor
  · intro x hx
    obtain ⟨i, hi, rfl⟩ := List.getElem_of_mem hx
    rw [(h.nodes.at_ hi).1, nm_size]; simp [maxLen]
  · intro x hx
    obtain ⟨i, hi, rfl⟩ := List.getElem_of_mem hx
    obtain ⟨c, h1, _⟩ := h.devs.at_ hi
    rw [h1, nm_size]; simp [maxLen]
end Go.Proofs.YtglhplddjjoggaaDoor

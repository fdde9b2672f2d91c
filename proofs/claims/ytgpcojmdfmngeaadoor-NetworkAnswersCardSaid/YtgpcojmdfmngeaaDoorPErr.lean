/-
  Plain facts for the law NetworkErrors: one thing that is wrong with a network that was made.
-/
import Derived.Test.YtgpcojmdfmngeaaDoorGk
namespace Go.Proofs.YtgpcojmdfmngeaaDoor
open Go.RowKit

theorem nodeErr_parts {x : Node} {u : List (List UInt8)} (h : nodeErr x u = 0) : nameB x.name = true ∧ x.name.data.toList ∉ u ∧ 0 ≤ x.cust ∧ x.cust ≤ 1048576 ∧ companyB x.comp = true := by
  unfold nodeErr at h
  split at h
  · cases h
  · rename_i h1
    split at h
    · cases h
    · rename_i h2
      split at h
      · cases h
      · rename_i h3
        refine ⟨by simpa using h1, h2, by omega, by omega, ?_⟩
        cases hc : companyB x.comp
        · exact absurd (.inr (.inr hc)) h3
        · rfl
theorem devErr_parts {n : Int} {d : Dev} {u : List (List UInt8)} (h : devErr n d u = 0) : nameB d.name = true ∧ d.name.data.toList ∉ u ∧ 1 ≤ d.kind ∧ d.kind ≤ 6 ∧ endsB d n = true ∧ companyB d.comp = true := by
  unfold devErr at h
  split at h
  · cases h
  · rename_i h1
    split at h
    · cases h
    · rename_i h2
      split at h
      · cases h
      · rename_i h3
        split at h
        · cases h
        · rename_i h4
          split at h
          · cases h
          · rename_i h5
            exact ⟨by simpa using h1, h2, by omega, by omega, by simpa using h4, by simpa using h5⟩

theorem node_bad {K D : Nat} {ns : List Node} {ds : List Dev} (h : GoodNet K D ns ds) (hK : K ≤ 32) (hD : D ≤ 60) {v : Nat} (hv : v < ns.length) {x : Node} {e : Int} (he : nodeErr x (namesN (ns.take v)) = e) (hne : e ≠ 0) : checkL (ns.set v x) ds = e := by
  have h1 := h.most
  have h2 := h.few
  unfold checkL
  rw [if_neg (by simp; omega), List.length_set]
  have hs : ns.set v x = ns.take v ++ x :: ns.drop (v + 1) := by rw [List.set_eq_take_append_cons_drop, if_pos hv]
  rw [hs, chkN_app (ns.take v) [] (fun i hi => ?_)]
  · rw [List.append_nil, chkN, he, if_neg hne]
  · have hi' : i < v := by simp at hi; omega
    have := nodeErr_ok h.nodes (by omega) (show i < ns.length by omega)
    rw [List.getElem_take, List.take_take, Nat.min_eq_left (by omega)]
    exact this
theorem dev_bad {K D : Nat} {ns : List Node} {ds : List Dev} (h : GoodNet K D ns ds) (hK : K ≤ 32) (hD : D ≤ 60) {j : Nat} (hj : j < ds.length) {d : Dev} {e : Int} (he : devErr ns.length d (namesD (ds.take j) ++ namesN ns) = e) (hne : e ≠ 0) : checkL ns (ds.set j d) = e := by
  have h1 := h.most
  have h2 := h.few
  unfold checkL
  rw [if_neg (by simp; omega)]
  have e1 := chkN_app (n := ns.length) (ds := ds.set j d) (ys := []) ns [] (fun i hi => nodeErr_ok h.nodes (by omega) hi)
  rw [List.append_nil, List.append_nil] at e1
  have hs : ds.set j d = ds.take j ++ d :: ds.drop (j + 1) := by rw [List.set_eq_take_append_cons_drop, if_pos hj]
  rw [e1, chkN, hs, chkD_app (ds.take j) (namesN ns) (fun i hi => ?_)]
  · rw [chkD, he, if_neg hne]
  · have hi' : i < j := by simp at hi; omega
    have := devErr_ok h.nodes (by omega) h.devs (by omega) (show i < ds.length by omega)
    rw [List.getElem_take, List.take_take, Nat.min_eq_left (by omega)]
    exact this

/-- the thing that is wrong -/
def modN (k : Nat) (x : Node) : Node := if k = 0 then { x with name := ⟨#[57]⟩ } else if k = 3 then { x with cust := -1 } else { x with comp := 8 }
def modD (k n : Nat) (nm : ByteArray) (d : Dev) : Dev :=
  if k = 1 then { d with name := ⟨#[]⟩ } else if k = 2 then { d with name := nm } else if k = 5 then { d with kind := 7 } else if k = 6 then { d with a := n } else if k = 7 then { d with b := d.a } else { d with comp := -1 }
def wantE (k : Nat) : Int := if k ≤ 1 then 3 else if k = 2 then 4 else if k ≤ 4 then 5 else if k = 5 then 6 else if k ≤ 7 then 7 else 5

theorem modN_err {K D : Nat} {ns : List Node} {ds : List Dev} (h : GoodNet K D ns ds) (hK : K ≤ 32) (hD : D ≤ 60) {v : Nat} (hv : v < ns.length) (k : Nat) (hk : k = 0 ∨ k = 3 ∨ k = 4) : checkL (ns.set v (modN k ns[v])) ds = wantE k := by
  have h1 := h.most
  have hp := nodeErr_parts (nodeErr_ok h.nodes (by omega) hv)
  rw [List.append_nil] at hp
  obtain ⟨p1, p2, p3, p4, p5⟩ := hp
  refine node_bad h hK hD hv ?_ (by rcases hk with rfl | rfl | rfl <;> decide)
  rcases hk with rfl | rfl | rfl
  · show (if nameB (⟨#[57]⟩ : ByteArray) = false then (3 : Int) else _) = _
    rw [if_pos (by decide +kernel)]; rfl
  · unfold nodeErr
    rw [if_neg (by simp [modN, p1]), if_neg (by simpa [modN] using p2), if_pos (by simp [modN])]; rfl
  · unfold nodeErr
    rw [if_neg (by simp [modN, p1]), if_neg (by simpa [modN] using p2), if_pos (by simp [modN, companyB])]; rfl
theorem name_in {ns : List Node} {v : Nat} (hv : v < ns.length) : ns[v].name.data.toList ∈ namesN ns := by
  simp only [namesN, List.mem_reverse, List.mem_map]
  exact ⟨ns[v], List.getElem_mem hv, rfl⟩
theorem modD_err {K D : Nat} {ns : List Node} {ds : List Dev} (h : GoodNet K D ns ds) (hK : K ≤ 32) (hD : D ≤ 60) {v i : Nat} (hv : v < ns.length) (hi : i < ds.length) (k : Nat) (hk : k = 1 ∨ k = 2 ∨ k = 5 ∨ k = 6 ∨ k = 7 ∨ k = 8) : checkL ns (ds.set i (modD k ns.length ns[v].name ds[i])) = wantE k := by
  have h1 := h.most
  have h2 := h.few
  obtain ⟨p1, p2, p3, p4, p5, p6⟩ := devErr_parts (devErr_ok h.nodes (by omega) h.devs (by omega) hi)
  have q := nodeErr_parts (nodeErr_ok h.nodes (by omega) hv)
  obtain ⟨e1, e2, e3, e4⟩ := endsB_parts p5
  refine dev_bad h hK hD hi ?_ (by rcases hk with rfl | rfl | rfl | rfl | rfl | rfl <;> decide)
  rcases hk with rfl | rfl | rfl | rfl | rfl | rfl
  · show (if nameB (⟨#[]⟩ : ByteArray) = false then (3 : Int) else _) = _
    rw [if_pos (by decide +kernel)]; rfl
  · unfold devErr
    rw [if_neg (by simp [modD, q.1]), if_pos (by simp only [modD]; exact List.mem_append_right _ (name_in hv))]; rfl
  · unfold devErr
    rw [if_neg (by simp [modD, p1]), if_neg (by simpa [modD] using p2), if_pos (by simp [modD])]; rfl
  · unfold devErr
    rw [if_neg (by simp [modD, p1]), if_neg (by simpa [modD] using p2), if_neg (by simp [modD]; omega), if_pos (by simp [modD, endsB])]; rfl
  · unfold devErr
    rw [if_neg (by simp [modD, p1]), if_neg (by simpa [modD] using p2), if_neg (by simp [modD]; omega), if_pos]
    · rfl
    · simp only [modD, endsB]
      by_cases hj : joinsB ds[i].kind = true
      · simp [hj]
      · simp [hj]; omega
  · unfold devErr
    rw [if_neg (by simp [modD, p1]), if_neg (by simpa [modD] using p2), if_neg (by simp [modD]; omega), if_neg (show ¬ endsB (modD 8 ns.length ns[v].name ds[i]) ns.length = false by rw [show endsB (modD 8 ns.length ns[v].name ds[i]) ns.length = endsB ds[i] ns.length from rfl, p5]; decide), if_pos (by simp [modD, companyB])]; rfl

theorem nodesV_set : ∀ (xs : List Node) (v : Nat) (x : Node) (j : Nat) (u : Value), j < 3 → (h : v < xs.length) → nodeCells x = (nodeCells xs[v]).set j u → (nodesV xs).set (v * 3 + j) u = nodesV (xs.set v x)
  | [], v, x, j, u, hj, h, _ => by simp at h
  | y :: ys, 0, x, j, u, hj, h, he => by
    simp only [nodesV, List.flatMap_cons, List.set_cons_zero]
    rw [Nat.zero_mul, Nat.zero_add, List.set_append_left _ _ (by simp [nodeCells]; omega)]
    simp only [List.getElem_cons_zero] at he
    rw [he]
  | y :: ys, v + 1, x, j, u, hj, h, he => by
    have ih := nodesV_set ys v x j u hj (by simpa using h) (by simpa using he)
    simp only [nodesV, List.flatMap_cons, List.set_cons_succ] at ih ⊢
    rw [List.set_append_right _ _ (by simp [nodeCells]; omega), ← ih]
    congr 2
    simp [nodeCells]; omega
theorem devsV_set : ∀ (xs : List Dev) (v : Nat) (x : Dev) (j : Nat) (u : Value), j < 5 → (h : v < xs.length) → devCells x = (devCells xs[v]).set j u → (devsV xs).set (v * 5 + j) u = devsV (xs.set v x)
  | [], v, x, j, u, hj, h, _ => by simp at h
  | y :: ys, 0, x, j, u, hj, h, he => by
    simp only [devsV, List.flatMap_cons, List.set_cons_zero]
    rw [Nat.zero_mul, Nat.zero_add, List.set_append_left _ _ (by simp [devCells]; omega)]
    simp only [List.getElem_cons_zero] at he
    rw [he]
  | y :: ys, v + 1, x, j, u, hj, h, he => by
    have ih := devsV_set ys v x j u hj (by simpa using h) (by simpa using he)
    simp only [devsV, List.flatMap_cons, List.set_cons_succ] at ih ⊢
    rw [List.set_append_right _ _ (by simp [devCells]; omega), ← ih]
    congr 2
    simp [devCells]; omega
end Go.Proofs.YtgpcojmdfmngeaaDoor

/-
  Plain: the number of a part is the least node that reaches it.
-/
import Derived.Test.YtglhplddjjoggaaDoorMsk
namespace Go.Proofs.YtglhplddjjoggaaDoor
set_option maxHeartbeats 400000

def nbS (ds : List Dev) (st : List Int) : Nat → List Nat := nbZ (ds.zip (useOf st))
/-- v is reached from u by closed devices. -/
def Rch (ds : List Dev) (st : List Int) (u v : Nat) : Prop := ∃ k, PO.Steps (nbS ds st) k u v
theorem Rch.refl (ds : List Dev) (st : List Int) (u : Nat) : Rch ds st u u := ⟨0, rfl⟩
theorem Rch.trans {ds : List Dev} {st : List Int} {u v x : Nat} (h : Rch ds st u v) (k : Rch ds st v x) : Rch ds st u x := by
  obtain ⟨a, h⟩ := h
  obtain ⟨b, k⟩ := k
  exact h.trans k
theorem Rch.symm {n : Nat} {ds : List Dev} {st : List Int} (hD : DevsIn n ds) {u v : Nat} (h : Rch ds st u v) : Rch ds st v u := by
  obtain ⟨a, h⟩ := h
  exact ⟨a, h.symm (nbZ_symm hD _)⟩

theorem flood_dist {n : Nat} {ds : List Dev} (h : DevsIn n ds) (st : List Int) (v : Nat) (hv : v < n) : PO.Dist n (nbS ds st) [v] (floodD n ds st [v]) :=
  (PO.inv_bfs (fun u w hw => nbZ_lt h (by omega) _ u w hw) _ _ _ (PO.inv_start (fun g hm => (List.mem_singleton.1 hm) ▸ hv)) (Nat.le_refl _)).dist
theorem flood_rch {n : Nat} {ds : List Dev} (h : DevsIn n ds) (st : List Int) (v : Nat) (hv : v < n) (u : Nat) : 0 ≤ PO.at_ (floodD n ds st [v]) u ↔ Rch ds st v u := by
  have D := flood_dist h st v hv
  constructor
  · intro h0
    obtain ⟨g, hg, hs⟩ := D.path (PO.at_ (floodD n ds st [v]) u).toNat u (by omega)
    obtain rfl : g = v := by simpa using hg
    exact ⟨_, hs⟩
  · rintro ⟨k, hk⟩
    exact (D.le (u := v) (by rw [(D.zero v).2 (by simp)]; omega) hk).1

def Least (ds : List Dev) (st : List Int) (v u : Nat) : Prop := Rch ds st v u ∧ ∀ x, x < v → ¬ Rch ds st x u

theorem at_fill {out : List Int} {bs : List Bool} {v : Int} {u : Nat} (h1 : u < out.length) (h2 : u < bs.length) : PO.at_ (fillP out bs v) u = if bs[u] then v else PO.at_ out u := by
  rw [at_get (by rw [fillP_len]; exact h1), fillP_at out bs v u h1 h2, at_get h1]

theorem partsTo_inv {n : Nat} {ds : List Dev} (h : DevsIn n ds) (st : List Int) : ∀ k, k ≤ n → ∀ u, u < n →
    (PO.at_ (partsTo n ds st k) u = -1 ∧ ∀ v, v < k → ¬ Rch ds st v u) ∨ ∃ v : Nat, v < k ∧ PO.at_ (partsTo n ds st k) u = v ∧ Least ds st v u
  | 0, _, u, _ => .inl ⟨by show PO.at_ (List.replicate n (-1)) u = -1; exact PO.at_rep n u, fun v hv => by omega⟩
  | k + 1, hk, u, hu => by
    have ih := partsTo_inv h st k (by omega)
    rw [partsTo_succ]
    unfold partStep
    by_cases hge : 0 ≤ PO.at_ (partsTo n ds st k) k
    · rw [if_pos hge]
      rcases ih k (by omega) with ⟨e, _⟩ | ⟨x, hx, _, hL⟩
      · omega
      · rcases ih u hu with ⟨e, hn⟩ | ⟨v, hv, e, hl⟩
        · refine .inl ⟨e, fun v hv hr => ?_⟩
          by_cases hvk : v = k
          · subst hvk; exact hn x hx (hL.1.trans hr)
          · exact hn v (by omega) hr
        · exact .inr ⟨v, by omega, e, hl⟩
    · rw [if_neg hge]
      have hnk : ∀ v, v < k → ¬ Rch ds st v k := by
        rcases ih k (by omega) with ⟨_, hn⟩ | ⟨x, _, e, _⟩
        · exact hn
        · omega
      have hml : u < (marks (floodD n ds st [k])).length := by rw [marks_len, (flood_dist h st k (by omega)).len]; exact hu
      rw [at_fill (by rw [partsTo_len]; exact hu) hml, marks_at]
      by_cases hr : Rch ds st k u
      · have := (flood_rch h st k (by omega) u).2 hr
        rw [decide_eq_true this]
        exact .inr ⟨k, by omega, rfl, hr, fun v hv hv2 => hnk v hv (hv2.trans (hr.symm h))⟩
      · have : ¬ 0 ≤ PO.at_ (floodD n ds st [k]) u := fun h0 => hr ((flood_rch h st k (by omega) u).1 h0)
        rw [decide_eq_false this]
        rcases ih u hu with ⟨e, hn⟩ | ⟨v, hv, e, hl⟩
        · refine .inl ⟨e, fun v hv hr2 => ?_⟩
          by_cases hvk : v = k
          · subst hvk; exact hr hr2
          · exact hn v (by omega) hr2
        · exact .inr ⟨v, by omega, e, hl⟩

/-- The number of a node's part is the least node that reaches it. -/
theorem parts_least {n : Nat} {ds : List Dev} (h : DevsIn n ds) (st : List Int) (u : Nat) (hu : u < n) : ∃ v : Nat, v ≤ u ∧ PO.at_ (partsL n ds st) u = v ∧ Least ds st v u := by
  rcases partsTo_inv h st n (Nat.le_refl _) u hu with ⟨_, hn⟩ | ⟨v, _, e, hl⟩
  · exact absurd (Rch.refl ds st u) (hn u hu)
  · refine ⟨v, ?_, e, hl⟩
    by_cases hv : v ≤ u
    · exact hv
    · exact absurd (Rch.refl ds st u) (hl.2 u (by omega))
theorem partsL_len (n : Nat) (ds : List Dev) (st : List Int) : (partsL n ds st).length = n := partsTo_len n ds st n
theorem parts_bound {n : Nat} {ds : List Dev} (h : DevsIn n ds) (hn : n ≤ 32) (st : List Int) : ∀ p ∈ partsL n ds st, 0 ≤ p ∧ p < 32 := by
  intro p hp
  obtain ⟨u, hu, rfl⟩ := List.getElem_of_mem hp
  have hu' : u < n := by rw [partsL_len] at hu; exact hu
  obtain ⟨v, hv, e, _⟩ := parts_least h st u hu'
  rw [at_get hu] at e
  omega
/-- Two nodes have one number exactly if one reaches the other. -/
theorem parts_iff {n : Nat} {ds : List Dev} (h : DevsIn n ds) (st : List Int) {u x : Nat} (hu : u < n) (hx : x < n) : PO.at_ (partsL n ds st) u = PO.at_ (partsL n ds st) x ↔ Rch ds st u x := by
  obtain ⟨a, _, ea, ha⟩ := parts_least h st u hu
  obtain ⟨b, _, eb, hb⟩ := parts_least h st x hx
  constructor
  · intro e
    obtain rfl : a = b := by omega
    exact (ha.1.symm h).trans hb.1
  · intro hr
    have h1 : ¬ a < b := fun hl => hb.2 a hl (ha.1.trans hr)
    have h2 : ¬ b < a := fun hl => ha.2 b hl (hb.1.trans (hr.symm h))
    omega
end Go.Proofs.YtglhplddjjoggaaDoor

/-
  Plain: the reference's steps: devices are looked at until nothing changes; what is left are the distances.
-/
import Derived.Test.YtgpcojmdfmngeaaDoorGk
namespace Go.Proofs.YtgpcojmdfmngeaaDoor
set_option maxHeartbeats 400000

/-- what may still get less -/
def muL (n : Nat) : List Int → Nat
  | [] => 0
  | x :: l => (if x < 0 then n else x.toNat) + muL n l
theorem muL_set {n : Nat} {out : List Int} {w : Nat} {x : Int} (hw : w < out.length) (hx0 : 0 ≤ x) (hxn : x < n) (h : PO.at_ out w < 0 ∨ x < PO.at_ out w) : muL n (out.set w x) < muL n out := by
  induction out generalizing w with
  | nil => simp at hw
  | cons y l ih =>
    cases w with
    | zero =>
      have hy : y < 0 ∨ x < y := by simpa [PO.at_] using h
      simp only [List.set_cons_zero, muL]
      rw [if_neg (by omega)]
      split <;> omega
    | succ w =>
      have := ih (by simpa using hw) (by simpa [PO.at_] using h)
      simp only [List.set_cons_succ, muL]
      omega
theorem muL_le (n : Nat) : ∀ out : List Int, (∀ x ∈ out, x ≤ n) → muL n out ≤ n * out.length
  | [], _ => by simp [muL]
  | x :: l, h => by
    have := muL_le n l (fun y hy => h y (by simp [hy]))
    have := h x (by simp)
    simp only [muL, List.length_cons, Nat.mul_succ]
    split <;> omega
theorem negs_keep {out : List Int} {w : Nat} {x : Int} (hw : w < out.length) (h : 0 ≤ PO.at_ out w) (hx : 0 ≤ x) : PO.negs (out.set w x) = PO.negs out := by
  induction out generalizing w with
  | nil => simp at hw
  | cons y l ih =>
    cases w with
    | zero =>
      have hy : ¬ y < 0 := by have : 0 ≤ y := by simpa [PO.at_] using h
                              omega
      have hx' : ¬ x < 0 := by omega
      simp [PO.negs, hy, hx']
    | succ w =>
      have h2 := ih (by simpa using hw) (by simpa [PO.at_] using h)
      simp only [PO.negs, List.set_cons_succ, List.countP_cons] at h2 ⊢
      omega
theorem negs_lt {out : List Int} {w : Nat} (hw : w < out.length) (h : 0 ≤ PO.at_ out w) : PO.negs out + 1 ≤ out.length := by
  induction out generalizing w with
  | nil => simp at hw
  | cons y l ih =>
    cases w with
    | zero =>
      have hy : ¬ y < 0 := by have : 0 ≤ y := by simpa [PO.at_] using h
                              omega
      have : PO.negs l ≤ l.length := List.countP_le_length
      simp only [PO.negs] at this ⊢
      simp [hy]; omega
    | succ w =>
      have h2 := ih (by simpa using hw) (by simpa [PO.at_] using h)
      simp only [PO.negs, List.countP_cons, List.length_cons] at h2 ⊢
      split <;> omega
theorem at_out {out : List Int} {v : Nat} (h : 0 ≤ PO.at_ out v) : v < out.length := by
  unfold PO.at_ at h
  by_cases hv : v < out.length
  · exact hv
  · rw [List.getElem?_eq_none (by omega)] at h
    simp at h

structure RInv (n : Nat) (nb : Nat → List Nat) (goals : List Nat) (out : List Int) : Prop where
  len : out.length = n
  low : ∀ v, -1 ≤ PO.at_ out v
  zero : ∀ v, PO.at_ out v = 0 ↔ v ∈ goals
  pred : ∀ v, 0 < PO.at_ out v → ∃ u, v ∈ nb u ∧ 0 ≤ PO.at_ out u ∧ PO.at_ out u + 1 ≤ PO.at_ out v
  top : ∀ v, 0 ≤ PO.at_ out v → PO.at_ out v + PO.negs out + 1 ≤ n

theorem RInv.start {n : Nat} {nb : Nat → List Nat} {goals : List Nat} (hg : ∀ g ∈ goals, g < n) : RInv n nb goals (PO.mark (List.replicate n (-1)) goals) := by
  have hat : ∀ v, PO.at_ (PO.mark (List.replicate n (-1)) goals) v = if v ∈ goals then 0 else -1 := fun v => by
    rw [PO.at_mark _ _ _ (by simpa using hg), PO.at_rep]
  have hl : (PO.mark (List.replicate n (-1)) goals).length = n := by simp [PO.mark_len]
  refine ⟨hl, fun v => ?_, fun v => ?_, fun v hv => ?_, fun v hv => ?_⟩
  · rw [hat]; split <;> omega
  · rw [hat]; by_cases m : v ∈ goals <;> simp [m]
  · rw [hat] at hv; split at hv <;> omega
  · have h1 := negs_lt (at_out hv) hv
    rw [hl] at h1
    rw [hat] at hv ⊢
    split at hv
    · omega
    · omega
theorem RInv.step {n : Nat} {nb : Nat → List Nat} {goals : List Nat} {out : List Int} (h : RInv n nb goals out) {v w : Nat} (hw : w ∈ nb v) (hwn : w < n) (hv : 0 ≤ PO.at_ out v) (hlt : PO.at_ out w < 0 ∨ PO.at_ out v + 1 < PO.at_ out w) :
    RInv n nb goals (out.set w (PO.at_ out v + 1)) ∧ muL n (out.set w (PO.at_ out v + 1)) < muL n out := by
  have hwl : w < out.length := by rw [h.len]; exact hwn
  have hset : ∀ u, PO.at_ (out.set w (PO.at_ out v + 1)) u = if w = u then PO.at_ out v + 1 else PO.at_ out u := fun u => by
    rw [PO.at_set]
    by_cases e : w = u
    · subst e; simp [hwl]
    · simp [e]
  have hvw : w ≠ v := by rintro rfl; omega
  have hneg : (PO.at_ out w < 0 ∧ PO.negs (out.set w (PO.at_ out v + 1)) + 1 = PO.negs out) ∨ (PO.at_ out v + 1 < PO.at_ out w ∧ PO.negs (out.set w (PO.at_ out v + 1)) = PO.negs out) := by
    rcases hlt with h1 | h1
    · exact .inl ⟨h1, PO.negs_set hwl h1 (by omega)⟩
    · exact .inr ⟨h1, negs_keep hwl (by omega) (by omega)⟩
  have tv := h.top v hv
  refine ⟨⟨by rw [List.length_set]; exact h.len, fun u => ?_, fun u => ?_, fun u hu => ?_, fun u hu => ?_⟩, muL_set hwl (by omega) ?_ hlt⟩
  · rw [hset]; split
    · omega
    · exact h.low u
  · rw [hset]
    by_cases e : w = u
    · subst e
      rw [if_pos rfl]
      have := (h.zero w)
      constructor
      · intro hh; omega
      · intro hh; have := this.2 hh; omega
    · rw [if_neg e]; exact h.zero u
  · rw [hset] at hu
    by_cases e : w = u
    · subst e
      refine ⟨v, hw, ?_, ?_⟩
      · rw [hset, if_neg hvw]; exact hv
      · rw [hset, hset, if_neg hvw, if_pos rfl]; omega
    · rw [if_neg e] at hu
      obtain ⟨x, hx, h0, h1⟩ := h.pred u hu
      refine ⟨x, hx, ?_, ?_⟩
      · rw [hset]; split <;> omega
      · rw [hset, hset, if_neg e]
        by_cases ex : w = x
        · subst ex
          rw [if_pos rfl]; omega
        · rw [if_neg ex]; exact h1
  · rw [hset] at hu ⊢
    by_cases e : w = u
    · subst e
      rw [if_pos rfl]
      rcases hneg with ⟨h1, h2⟩ | ⟨h1, h2⟩
      · omega
      · have := h.top w (by omega); omega
    · rw [if_neg e] at hu ⊢
      have := h.top u hu
      rcases hneg with ⟨h1, h2⟩ | ⟨h1, h2⟩ <;> omega
  · rcases hneg with ⟨h1, h2⟩ | ⟨h1, h2⟩
    · omega
    · have := h.top w (by omega); omega
theorem RInv.dist {n : Nat} {nb : Nat → List Nat} {goals : List Nat} {out : List Int} (h : RInv n nb goals out) (hfix : ∀ u, 0 ≤ PO.at_ out u → ∀ v ∈ nb u, 0 ≤ PO.at_ out v ∧ PO.at_ out v ≤ PO.at_ out u + 1) : PO.Dist n nb goals out :=
  ⟨h.len, h.low, hfix, fun v hv => by
    obtain ⟨u, hu, h0, h1⟩ := h.pred v hv
    have := hfix u h0 v hu
    exact ⟨u, hu, h0, by omega⟩, h.zero⟩
theorem RInv.le {n : Nat} {nb : Nat → List Nat} {goals : List Nat} {out : List Int} (h : RInv n nb goals out) (v : Nat) : PO.at_ out v < n := by
  by_cases h0 : 0 ≤ PO.at_ out v
  · have := h.top v h0; omega
  · omega
/-- Distances are one thing. -/
theorem PO.Dist.same {N M : Nat} {nb : Nat → List Nat} {gs : List Nat} {o1 o2 : List Int} (h1 : PO.Dist N nb gs o1) (h2 : PO.Dist M nb gs o2) (v : Nat) : PO.at_ o1 v = PO.at_ o2 v := by
  have key : ∀ {N M : Nat} {o1 o2 : List Int}, PO.Dist N nb gs o1 → PO.Dist M nb gs o2 → 0 ≤ PO.at_ o1 v → 0 ≤ PO.at_ o2 v ∧ PO.at_ o2 v ≤ PO.at_ o1 v := by
    intro N M o1 o2 h1 h2 h0
    obtain ⟨g, hg, hst⟩ := h1.path (PO.at_ o1 v).toNat v (by omega)
    have z := (h2.zero g).2 hg
    have := h2.le (u := g) (by omega) hst
    omega
  have l1 := h1.low v
  have l2 := h2.low v
  by_cases c1 : 0 ≤ PO.at_ o1 v
  · have := key h1 h2 c1
    have := key h2 h1 this.1
    omega
  · by_cases c2 : 0 ≤ PO.at_ o2 v
    · have := key h2 h1 c2; omega
    · omega

/-- A device asks for no change. -/
def Rlx (out : List Int) (z : Dev × Bool) : Prop := z.2 = true → joinsB z.1.kind = true →
  (0 ≤ PO.at_ out z.1.a.toNat → 0 ≤ PO.at_ out z.1.b.toNat ∧ PO.at_ out z.1.b.toNat ≤ PO.at_ out z.1.a.toNat + 1) ∧ (0 ≤ PO.at_ out z.1.b.toNat → 0 ≤ PO.at_ out z.1.a.toNat ∧ PO.at_ out z.1.a.toNat ≤ PO.at_ out z.1.b.toNat + 1)
theorem across_ends {d : Dev} {u v : Nat} (h : acrossL d u = v) : joinsB d.kind = true ∧ ((u = d.a.toNat ∧ v = d.b.toNat) ∨ (u = d.b.toNat ∧ v = d.a.toNat)) := by
  have hj : joinsB d.kind = true := by
    cases hj : joinsB d.kind
    · unfold acrossL at h; rw [if_pos hj] at h; omega
    · rfl
  refine ⟨hj, ?_⟩
  unfold acrossL at h
  rw [if_neg (by simp [hj])] at h
  by_cases h1 : (d.a == (u : Int)) = true
  · rw [if_pos h1] at h
    have : d.a = u := by simpa using h1
    exact .inl ⟨by omega, by omega⟩
  · rw [if_neg h1] at h
    by_cases h2 : (d.b == (u : Int)) = true
    · rw [if_pos h2] at h
      have : d.b = u := by simpa using h2
      exact .inr ⟨by omega, by omega⟩
    · rw [if_neg h2] at h; omega
theorem rlx_fix {ds : List Dev} {use : List Bool} {out : List Int} (h : ∀ z ∈ ds.zip use, Rlx out z) (u : Nat) (hu : 0 ≤ PO.at_ out u) (v : Nat) (hv : v ∈ nbZ (ds.zip use) u) : 0 ≤ PO.at_ out v ∧ PO.at_ out v ≤ PO.at_ out u + 1 := by
  obtain ⟨d, hz, he⟩ := mem_nbZ.1 hv
  obtain ⟨hj, hc⟩ := across_ends he
  obtain ⟨r1, r2⟩ := h _ hz rfl hj
  rcases hc with ⟨rfl, rfl⟩ | ⟨rfl, rfl⟩
  · exact r1 hu
  · exact r2 hu
/-- A device that is used joins its nodes, both ways. -/
theorem nb_ends {n : Nat} {ds : List Dev} {use : List Bool} (hD : DevsIn n ds) {k : Nat} (hk : k < ds.length) (hku : k < use.length) (hu : use[k] = true) (hj : joinsB ds[k].kind = true) :
    ds[k].b.toNat ∈ nbZ (ds.zip use) ds[k].a.toNat ∧ ds[k].a.toNat ∈ nbZ (ds.zip use) ds[k].b.toNat := by
  have hz : (ds[k], true) ∈ ds.zip use := by
    rw [List.mem_iff_getElem]
    exact ⟨k, by simp; omega, by rw [List.getElem_zip, hu]⟩
  have he := (hD.ends ds[k] (List.getElem_mem hk)).2.2
  obtain ⟨h1, _, h3, _⟩ := endsB_parts he
  have := h3 hj
  have e1 : acrossL ds[k] (ds[k].a.toNat : Nat) = ds[k].b.toNat := by
    unfold acrossL
    rw [if_neg (by simp [hj]), if_pos (by simp; omega)]
    omega
  exact ⟨mem_nbZ.2 ⟨_, hz, e1⟩, mem_nbZ.2 ⟨_, hz, across_back he e1⟩⟩

/-- What the steps are in the end. -/
theorem stepZ_same {o1 o2 : List Int} (h : ∀ v, PO.at_ o1 v = PO.at_ o2 v) (v : Nat) : ∀ (zs : List (Dev × Bool)) (k : Nat), stepZ o1 v zs k = stepZ o2 v zs k
  | [], _ => rfl
  | z :: zs, k => by
    unfold stepZ
    rw [stepZ_same h v zs (k + 1), h, h]
theorem trailZ_same {o1 o2 : List Int} (h : ∀ v, PO.at_ o1 v = PO.at_ o2 v) (zs : List (Dev × Bool)) : ∀ (f v : Nat), trailZ o1 zs f v = trailZ o2 zs f v
  | 0, _ => rfl
  | f + 1, v => by
    unfold trailZ
    rw [stepZ_same h]
    cases stepZ o2 v zs 0 with
    | none => rfl
    | some p => simp only [trailZ_same h zs f]
end Go.Proofs.YtgpcojmdfmngeaaDoor

/-
  Plain: the reference's way to the parts, by taking the less of two numbers until nothing changes, ends at the parts.
-/
import Derived.Test.YtgpcojmdfmngeaaDoorGe
import Derived.Test.YtgpcojmdfmngeaaDoorPStep
namespace Go.Proofs.YtgpcojmdfmngeaaDoor
set_option maxHeartbeats 400000

def Rl7 (out : List Int) (z : Dev × Bool) : Prop := z.2 = true → joinsB z.1.kind = true → PO.at_ out z.1.a.toNat = PO.at_ out z.1.b.toNat
structure PInv (n : Nat) (ds : List Dev) (st : List Int) (out : List Int) : Prop where
  len : out.length = n
  low : ∀ v, v < n → ∃ u : Nat, u ≤ v ∧ PO.at_ out v = u ∧ Rch ds st u v
def muS (out : List Int) : Nat := (out.map Int.toNat).sum
theorem sum_set_lt : ∀ (l : List Nat) (i : Nat) (x : Nat) (h : i < l.length), (l.set i x).sum + l[i] = l.sum + x
  | [], i, x, h => by simp at h
  | y :: l, 0, x, h => by simp; omega
  | y :: l, i + 1, x, h => by
    have := sum_set_lt l i x (by simpa using h)
    simp at *
    omega
theorem muS_set {out : List Int} {i : Nat} (h : i < out.length) (x : Int) : muS (out.set i x) + (PO.at_ out i).toNat = muS out + x.toNat := by
  unfold muS
  rw [List.map_set, at_get h]
  have := sum_set_lt (out.map Int.toNat) i x.toNat (by simpa using h)
  rw [List.getElem_map] at this
  exact this
theorem at_set7 {out : List Int} {i : Nat} (h : i < out.length) (x : Int) (j : Nat) : PO.at_ (out.set i x) j = if j = i then x else PO.at_ out j := by
  by_cases hj : j < out.length
  · rw [at_get (by simpa using hj), at_get hj, List.getElem_set]
    by_cases e : i = j
    · rw [if_pos e, if_pos e.symm]
    · rw [if_neg e, if_neg (fun h => e h.symm)]
  · have hne : j ≠ i := by omega
    rw [if_neg hne]
    unfold PO.at_
    rw [List.getElem?_eq_none (by simpa using hj), List.getElem?_eq_none (by omega)]
theorem PInv.step {n : Nat} {ds : List Dev} {st out : List Int} (hD : DevsIn n ds) (h : PInv n ds st out) {a b : Nat} (ha : a < n) (hb : b < n) (hr : Rch ds st a b) (hne : PO.at_ out a ≠ PO.at_ out b) :
    PInv n ds st ((out.set a (min (PO.at_ out a) (PO.at_ out b))).set b (min (PO.at_ out a) (PO.at_ out b))) ∧ muS ((out.set a (min (PO.at_ out a) (PO.at_ out b))).set b (min (PO.at_ out a) (PO.at_ out b))) < muS out := by
  obtain ⟨x, hx, ex, rx⟩ := h.low a ha
  obtain ⟨y, hy, ey, ry⟩ := h.low b hb
  have la : a < out.length := by rw [h.len]; exact ha
  have lb : b < out.length := by rw [h.len]; exact hb
  have lb' : b < (out.set a (min (PO.at_ out a) (PO.at_ out b))).length := by simpa using lb
  have hab : a ≠ b := fun e => hne (by rw [e])
  obtain ⟨m, hm⟩ : ∃ m, m = min (PO.at_ out a) (PO.at_ out b) := ⟨_, rfl⟩
  rw [← hm] at lb' ⊢
  have hm2 : (m = x ∧ x < y) ∨ (m = y ∧ y < x) := by rw [ex, ey] at hm hne; omega
  refine ⟨⟨by simp [h.len], fun v hv => ?_⟩, ?_⟩
  · rw [at_set7 lb', at_set7 la]
    by_cases e1 : v = b
    · rw [if_pos e1]
      subst e1
      rcases hm2 with ⟨e, hl⟩ | ⟨e, hl⟩
      · exact ⟨x, by omega, e, rx.trans hr⟩
      · exact ⟨y, hy, e, ry⟩
    · rw [if_neg e1]
      by_cases e2 : v = a
      · rw [if_pos e2]
        subst e2
        rcases hm2 with ⟨e, hl⟩ | ⟨e, hl⟩
        · exact ⟨x, hx, e, rx⟩
        · exact ⟨y, by omega, e, ry.trans (hr.symm hD)⟩
      · rw [if_neg e2]
        exact h.low v hv
  · have h1 := muS_set lb' m
    have h2 := muS_set la m
    rw [at_set7 la, if_neg (fun e => hab e.symm)] at h1
    rw [ex] at h2
    rw [ey] at h1
    simp only [Int.toNat_natCast] at h1 h2
    rcases hm2 with ⟨e, hl⟩ | ⟨e, hl⟩
    · rw [e] at h1 h2
      simp only [Int.toNat_natCast] at h1 h2
      rw [e]
      omega
    · rw [e] at h1 h2
      simp only [Int.toNat_natCast] at h1 h2
      rw [e]
      omega
theorem rl7_fix {ds : List Dev} {st out : List Int} (h : ∀ z ∈ ds.zip (useOf st), Rl7 out z) {u v : Nat} (hv : v ∈ nbS ds st u) : PO.at_ out u = PO.at_ out v := by
  obtain ⟨d, hz, he⟩ := mem_nbZ.1 hv
  obtain ⟨hj, hc⟩ := across_ends he
  have r := h _ hz rfl hj
  rcases hc with ⟨rfl, rfl⟩ | ⟨rfl, rfl⟩
  · exact r
  · exact r.symm
theorem rl7_steps {ds : List Dev} {st out : List Int} (h : ∀ z ∈ ds.zip (useOf st), Rl7 out z) : ∀ (k : Nat) (u v : Nat), PO.Steps (nbS ds st) k u v → PO.at_ out u = PO.at_ out v
  | 0, u, v, hs => by
    have hs : u = v := hs
    rw [hs]
  | k + 1, u, v, hs => by
    obtain ⟨x, h1, h2⟩ := hs
    first
      | exact (rl7_fix h h1).trans (rl7_steps h k x v h2)
      | exact (rl7_steps h k u x h1).trans (rl7_fix h h2)
theorem pfix {n : Nat} {ds : List Dev} {st out : List Int} (hD : DevsIn n ds) (h : PInv n ds st out) (hf : ∀ z ∈ ds.zip (useOf st), Rl7 out z) : out = partsL n ds st := by
  refine List.ext_getElem (by rw [h.len, partsL_len]) (fun v h1 h2 => ?_)
  have hv : v < n := by rw [h.len] at h1; exact h1
  rw [← at_get h1, ← at_get h2]
  obtain ⟨p, hp, ep, hl⟩ := parts_least hD st v hv
  obtain ⟨u, hu, eu, hr⟩ := h.low p (by omega)
  obtain ⟨k, hk⟩ := hl.1
  have e := rl7_steps hf k p v hk
  have hup : ¬ u < p := fun hlt => hl.2 u hlt (hr.trans hl.1)
  rw [← e, ep, eu]
  congr 1
  omega
/-- the numbers at the start -/
def idL (n : Nat) : List Int := (List.range n).map Int.ofNat
theorem idL_len (n : Nat) : (idL n).length = n := by simp [idL]
theorem PInv.start (n : Nat) (ds : List Dev) (st : List Int) : PInv n ds st (idL n) := by
  refine ⟨idL_len n, fun v hv => ⟨v, Nat.le_refl _, ?_, Rch.refl ds st v⟩⟩
  rw [at_get (by rw [idL_len]; exact hv)]
  simp [idL]
/-- what a device gives to a node's colour -/
def orC (live : Bool) (x : Int) : Int := if live then orL x else orE x
theorem colL_take (ds : List Dev) (st : List Int) (m : Nat) (h : m < ds.length) (h2 : m < st.length) : (ds.zip st).take (m + 1) = (ds.zip st).take m ++ [(ds[m], st[m])] := by
  rw [List.take_succ_eq_append_getElem (by simp; omega), List.getElem_zip]
end Go.Proofs.YtgpcojmdfmngeaaDoor

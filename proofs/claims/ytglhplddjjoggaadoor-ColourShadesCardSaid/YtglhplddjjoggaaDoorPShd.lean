/-
  Plain: what a node may be and must be over all agreeing states, and that the highest and the lowest of them tell it.
-/
import Derived.Test.YtglhplddjjoggaaDoorShd
import Derived.Test.YtglhplddjjoggaaDoorPGrow
namespace Go.Proofs.YtglhplddjjoggaaDoor
set_option maxHeartbeats 400000

def stepS (x : Shd) (c : Int) : Shd := ⟨x.ml || liveOf c, x.ul && liveOf c, x.me || earthOf c, x.ue && earthOf c⟩
def stepAll (ws : List Shd) (cs : List Int) : List Shd := List.zipWith stepS ws cs
def colF (n : Nat) (ds : List Dev) (s : List Int) : List Int := colL ds s (partsL n ds s)
def foldS (n : Nat) (ds : List Dev) (ss : List (List Int)) : List Shd := ss.foldl (fun ws s => stepAll ws (colF n ds s)) (List.replicate n ⟨false, true, false, true⟩)
theorem colF_len (n : Nat) (ds : List Dev) (s : List Int) : (colF n ds s).length = n := by rw [colF, colL_len, partsL_len]
theorem foldl_len (n : Nat) (ds : List Dev) : ∀ (ss : List (List Int)) (ws : List Shd), ws.length = n → (ss.foldl (fun ws s => stepAll ws (colF n ds s)) ws).length = n
  | [], _, h => h
  | s :: ss, ws, h => foldl_len n ds ss (stepAll ws (colF n ds s)) (by rw [stepAll, List.length_zipWith, colF_len, h, Nat.min_self])
theorem foldS_len (n : Nat) (ds : List Dev) (ss : List (List Int)) : (foldS n ds ss).length = n := foldl_len n ds ss _ (List.length_replicate)
theorem foldS_snoc (n : Nat) (ds : List Dev) (ss : List (List Int)) (s : List Int) : foldS n ds (ss ++ [s]) = stepAll (foldS n ds ss) (colF n ds s) := by unfold foldS; rw [List.foldl_append]; rfl
theorem foldl_at (n : Nat) (ds : List Dev) (v : Nat) (hv : v < n) : ∀ (ss : List (List Int)) (ws : List Shd) (x : Shd), ws[v]? = some x →
    (ss.foldl (fun ws s => stepAll ws (colF n ds s)) ws)[v]? = some ⟨x.ml || ss.any (fun s => liveOf (PO.at_ (colF n ds s) v)), x.ul && ss.all (fun s => liveOf (PO.at_ (colF n ds s) v)), x.me || ss.any (fun s => earthOf (PO.at_ (colF n ds s) v)), x.ue && ss.all (fun s => earthOf (PO.at_ (colF n ds s) v))⟩
  | [], ws, x, h => by simpa using h
  | s :: ss, ws, x, h => by
    have hc : v < (colF n ds s).length := by rw [colF_len]; exact hv
    have h1 : (stepAll ws (colF n ds s))[v]? = some (stepS x (PO.at_ (colF n ds s) v)) := by
      rw [stepAll, List.getElem?_zipWith, h, List.getElem?_eq_getElem hc, at_get hc]
    rw [List.foldl_cons, foldl_at n ds v hv ss _ _ h1]
    simp only [stepS, List.any_cons, List.all_cons, Bool.or_assoc, Bool.and_assoc]

theorem live_colV (l e : Bool) : liveOf (colV l e) = l := by cases l <;> cases e <;> decide
theorem earth_colV (l e : Bool) : earthOf (colV l e) = e := by cases l <;> cases e <;> decide
theorem Up.live {n : Nat} {ds : List Dev} {s t : List Int} (hD : DevsIn n ds) (h : Up s t) {v : Nat} (hv : v < n) :
    (liveOf (PO.at_ (colF n ds s) v) = true → liveOf (PO.at_ (colF n ds t) v) = true) ∧ (earthOf (PO.at_ (colF n ds s) v) = true → earthOf (PO.at_ (colF n ds t) v) = true) := by
  obtain ⟨l, e, l', e', ea, eb, i1, i2⟩ := h.col hD hv
  unfold colF
  rw [ea, eb, live_colV, live_colV, earth_colV, earth_colV]
  exact ⟨i1, i2⟩
theorem stF_up {f g : Nat → Int} (hfg : ∀ i, f i = 2 → g i = 2) : ∀ (xs : List Int) (i : Nat), Up (stF f xs i) (stF g xs i)
  | [], _ => ⟨rfl, fun j h => h⟩
  | x :: xs, i => by
    refine ⟨by rw [stF_len, stF_len], ?_⟩
    intro j h
    by_cases hx : x = 3
    · simp only [stF, if_pos hx] at h ⊢
      cases j with
      | zero => simp at h ⊢; exact hfg i h
      | succ j =>
        simp only [List.getElem?_cons_succ] at h ⊢
        exact (stF_up hfg xs (i + 1)).2 j h
    · simp only [stF, if_neg hx] at h ⊢
      cases j with
      | zero => simpa using h
      | succ j =>
        simp only [List.getElem?_cons_succ] at h ⊢
        exact (stF_up hfg xs i).2 j h
theorem allL_up (ms : List Int) (s : List Int) (hs : s ∈ allL ms) : Up (lowL 1 ms) s ∧ Up s (lowL 2 ms) := by
  obtain ⟨k, hk, rfl⟩ := List.mem_iff_getElem.1 hs
  rw [allL_get]
  exact ⟨stF_up (fun i h => by simp at h) ms 0, stF_up (fun i _ => rfl) ms 0⟩
theorem fold_shades {n : Nat} {ds : List Dev} (hD : DevsIn n ds) (ms : List Int) (h8 : num3 ms ≤ 8) : foldS n ds (allL ms) = shadeL (colF n ds (lowL 2 ms)) (colF n ds (lowL 1 ms)) := by
  have hal := allL_len ms
  have hpos : 0 < (allL ms).length := by rw [hal]; exact Nat.two_pow_pos _
  have hlo : lowL 1 ms ∈ allL ms := by rw [← allL_first ms hpos]; exact List.getElem_mem _
  have hhi : lowL 2 ms ∈ allL ms := by rw [← allL_last ms h8 (by omega)]; exact List.getElem_mem _
  apply List.ext_getElem?
  intro v
  by_cases hv : v < n
  · have c1 : v < (colF n ds (lowL 2 ms)).length := by rw [colF_len]; exact hv
    have c2 : v < (colF n ds (lowL 1 ms)).length := by rw [colF_len]; exact hv
    rw [foldS, foldl_at n ds v hv _ _ ⟨false, true, false, true⟩ (by rw [List.getElem?_replicate, if_pos hv])]
    rw [shadeL, List.getElem?_zipWith, List.getElem?_eq_getElem c1, List.getElem?_eq_getElem c2, ← at_get c1, ← at_get c2]
    simp only [Bool.false_or, Bool.true_and]
    congr 2
    · rw [Bool.eq_iff_iff, List.any_eq_true]
      exact ⟨fun ⟨s, hs, h⟩ => ((allL_up ms s hs).2.live hD hv).1 h, fun h => ⟨_, hhi, h⟩⟩
    · rw [Bool.eq_iff_iff, List.all_eq_true]
      exact ⟨fun h => h _ hlo, fun h s hs => ((allL_up ms s hs).1.live hD hv).1 h⟩
    · rw [Bool.eq_iff_iff, List.any_eq_true]
      exact ⟨fun ⟨s, hs, h⟩ => ((allL_up ms s hs).2.live hD hv).2 h, fun h => ⟨_, hhi, h⟩⟩
    · rw [Bool.eq_iff_iff, List.all_eq_true]
      exact ⟨fun h => h _ hlo, fun h s hs => ((allL_up ms s hs).1.live hD hv).2 h⟩
  · rw [List.getElem?_eq_none (by rw [foldS_len]; omega), List.getElem?_eq_none (by simp [shadeL, colF_len]; omega)]
end Go.Proofs.YtglhplddjjoggaaDoor

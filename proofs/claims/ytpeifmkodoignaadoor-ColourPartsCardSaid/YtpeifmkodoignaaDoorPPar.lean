/-
  Plain: what a part's nodes share; a way leads from each node to the least node of its part; what closed devices give.
-/
import Derived.Test.YtpeifmkodoignaaDoorPCol
import Derived.Test.YtpeifmkodoignaaDoorPWay
namespace Go.Proofs.YtpeifmkodoignaaDoor
set_option maxHeartbeats 400000

theorem col_at {n : Nat} {ds : List Dev} {st ps : List Int} (hp : ps.length = n) {v : Nat} (hv : v < n) : PO.at_ (colL ds st ps) v = bitsZ ps (ds.zip st) (PO.at_ ps v) := by
  rw [at_get (by rw [colL_len]; omega), at_get (by omega)]
  simp [colL]
/-- The number of a part, and what the node with this number has. -/
theorem part_at {n : Nat} {ds : List Dev} (hD : DevsIn n ds) (st : List Int) {v : Nat} (hv : v < n) : ∃ x : Nat, x ≤ v ∧ PO.at_ (partsL n ds st) v = x ∧ PO.at_ (partsL n ds st) x = x ∧
    PO.at_ (colL ds st (partsL n ds st)) x = PO.at_ (colL ds st (partsL n ds st)) v ∧ Rch ds st x v := by
  obtain ⟨x, hx, e, hl⟩ := parts_least hD st v hv
  have e2 : PO.at_ (partsL n ds st) x = PO.at_ (partsL n ds st) v := (parts_iff hD st (by omega) hv).2 hl.1
  refine ⟨x, hx, e, by omega, ?_, hl.1⟩
  rw [col_at (partsL_len n ds st) (by omega), col_at (partsL_len n ds st) hv, e2]
theorem part_way {ns : List Node} {ds : List Dev} {st : List Int} (hc : checkL ns ds = 0) (hl : st.length = ds.length) {x v : Nat} (hx : x < ns.length) (hv : v < ns.length) (hr : Rch ds st x v) :
    ∃ path, wayL ns ds (useOf st) v x = (path, true, 0) ∧ path.length < ns.length := by
  have hD := checkL_zero hc
  have hul : (useOf st).length = ds.length := by simpa [useOf] using hl
  have hg : ∀ g ∈ [x], g < ns.length := by simpa using hx
  have hd := dist_ok hD (by omega) (useOf st) [x] hg
  have h0 : 0 ≤ PO.at_ (distL ds (useOf st) [x]) v := by
    obtain ⟨k, hk⟩ := hr
    exact (hd.le (u := x) (by rw [(hd.zero x).2 (by simp)]; omega) hk).1
  rw [wayL_ok hc hul hv hx, if_neg (by omega)]
  refine ⟨_, rfl, ?_⟩
  have h1 := way_len (use := useOf st) hc hv hx h0
  have h2 := dist_far hD (by omega) (useOf st) [x] hg v
  omega
theorem zip_at {ds : List Dev} {st : List Int} {k : Nat} (h1 : k < ds.length) (h2 : k < st.length) : (ds[k], st[k]) ∈ ds.zip st := by
  rw [List.mem_iff_getElem]
  exact ⟨k, by simp; omega, by rw [List.getElem_zip]⟩
theorem closed_joins {n : Nat} {ds : List Dev} (hD : DevsIn n ds) {st : List Int} {k : Nat} (h1 : k < ds.length) (h2 : k < st.length) (hs : st[k] = 2) (hj : joinsB ds[k].kind = true) :
    PO.at_ (partsL n ds st) ds[k].a.toNat = PO.at_ (partsL n ds st) ds[k].b.toNat := by
  have he := (hD.ends ds[k] (List.getElem_mem h1)).2.2
  obtain ⟨e1, e2, e3, _⟩ := endsB_parts he
  have e3 := e3 hj
  refine (parts_iff hD st (by omega) (by omega)).2 ⟨1, ds[k].b.toNat, mem_nbZ.2 ⟨ds[k], ?_, ?_⟩, rfl⟩
  · have := zip_at (ds := ds) (st := st) h1 h2
    rw [List.mem_iff_getElem]
    exact ⟨k, by simp [useOf]; omega, by rw [List.getElem_zip]; simp [useOf, hs]⟩
  · unfold acrossL
    rw [if_neg (by simp [hj]), if_pos (by simp; omega)]
    omega
theorem closed_earth {n : Nat} {ds : List Dev} (hD : DevsIn n ds) {st : List Int} {k : Nat} (h1 : k < ds.length) (h2 : k < st.length) (hs : st[k] = 2) (hk : ds[k].kind = 4) :
    ∃ l, PO.at_ (colL ds st (partsL n ds st)) ds[k].a.toNat = colV l true := by
  have ha := hD.first ds[k] (List.getElem_mem h1)
  rw [col_at (partsL_len n ds st) (by omega)]
  have : (ds.zip st).any (earthZ (partsL n ds st) (PO.at_ (partsL n ds st) ds[k].a.toNat)) = true := List.any_eq_true.2 ⟨_, zip_at h1 h2, by simp [earthZ, hs, hk]⟩
  unfold bitsZ
  rw [this]
  exact ⟨_, rfl⟩
theorem closed_live {n : Nat} {ds : List Dev} (hD : DevsIn n ds) {st : List Int} {k : Nat} (h1 : k < ds.length) (h2 : k < st.length) (hs : st[k] = 2) (hk : ds[k].kind = 5 ∨ ds[k].kind = 6) :
    ∃ e, PO.at_ (colL ds st (partsL n ds st)) ds[k].a.toNat = colV true e := by
  have ha := hD.first ds[k] (List.getElem_mem h1)
  rw [col_at (partsL_len n ds st) (by omega)]
  have : (ds.zip st).any (liveZ (partsL n ds st) (PO.at_ (partsL n ds st) ds[k].a.toNat)) = true := List.any_eq_true.2 ⟨_, zip_at h1 h2, by rcases hk with hk | hk <;> simp [liveZ, hs, hk]⟩
  unfold bitsZ
  rw [this]
  exact ⟨_, rfl⟩
theorem joined_ok {ns : List Node} {ds : List Dev} {st : List Int} (hc : checkL ns ds = 0) (hl : st.length = ds.length) (hp : ∀ x ∈ st, x = 1 ∨ x = 2) {u v : Nat} (hu : u < ns.length) (hv : v < ns.length) :
    joinedE ns ds st u v = (PO.at_ (partsL ns.length ds st) u == PO.at_ (partsL ns.length ds st) v, 0) := by
  unfold joinedE
  rw [mask_ok hc hl hp, if_neg (by simp), if_neg (by unfold existsB; simp; omega)]
  simp
end Go.Proofs.YtpeifmkodoignaaDoor

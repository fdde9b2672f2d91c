/-
  Plain: a way to a source exists exactly if the node is live, it goes over closed devices, and without a device of Alone it is gone.
-/
import Derived.Test.YtgpcojmdfmngeaaDoorSwy
import Derived.Test.YtgpcojmdfmngeaaDoorAln
import Derived.Test.YtgpcojmdfmngeaaDoorGe
namespace Go.Proofs.YtgpcojmdfmngeaaDoor
set_option maxHeartbeats 400000

/-- A way from a node to a closed source. -/
inductive Chain (ds : List Dev) (st : List Int) : Nat → List Nat → Prop
  | last (i v : Nat) (d : Dev) : ds[i]? = some d → st[i]? = some 2 → d.a = v → isSrc d = true → Chain ds st v [i]
  | step (i v u : Nat) (d : Dev) (l : List Nat) : ds[i]? = some d → st[i]? = some 2 → acrossL d v = u → Chain ds st u l → Chain ds st v (i :: l)
def KindAt (K : Dev → Bool) (ds : List Dev) (st : List Int) (v : Nat) : Prop := ∃ (j : Nat) (d : Dev), ds[j]? = some d ∧ st[j]? = some 2 ∧ K d = true ∧ Rch ds st v d.a.toNat
theorem Chain.src {ds : List Dev} {st : List Int} {v : Nat} {l : List Nat} (h : Chain ds st v l) : KindAt isSrc ds st v := by
  induction h with
  | last i v d h1 h2 h3 h4 => exact ⟨i, d, h1, h2, h4, by rw [h3]; exact Rch.refl _ _ _⟩
  | step i v u d l h1 h2 h3 _ ih =>
    obtain ⟨j, e, a, b, c, r⟩ := ih
    exact ⟨j, e, a, b, c, (edge_rch (mem_nbS.2 ⟨i, d, h1, h2, h3⟩)).trans r⟩
theorem Chain.avoid {ds : List Dev} {st : List Int} {v : Nat} {l : List Nat} (h : Chain ds st v l) {k : Nat} (hk : ¬ k ∈ l) : Chain ds (st.set k 1) v l := by
  induction h with
  | last i v d h1 h2 h3 h4 => exact .last i v d h1 (by rw [List.getElem?_set_ne (by intro e; exact hk (by simp [e]))]; exact h2) h3 h4
  | step i v u d l h1 h2 h3 _ ih => exact .step i v u d l h1 (by rw [List.getElem?_set_ne (by intro e; exact hk (by simp [e]))]; exact h2) h3 (ih (fun hm => hk (by simp [hm])))
theorem Chain.ne {ds : List Dev} {st : List Int} {v : Nat} {l : List Nat} (h : Chain ds st v l) : l ≠ [] := by cases h <;> simp
theorem kind_iff {n : Nat} {ds : List Dev} (hD : DevsIn n ds) (K : Dev → Bool) (st : List Int) {v : Nat} (hv : v < n) : (ds.zip st).any (kindZ K (partsL n ds st) (PO.at_ (partsL n ds st) v)) = true ↔ KindAt K ds st v := by
  rw [any_kind]
  constructor
  · rintro ⟨j, d, h1, h2, h3, h4⟩
    have hd := hD.first d (List.mem_of_getElem? h1)
    exact ⟨j, d, h1, h2, h3, ((parts_iff hD st (by omega) hv).1 h4).symm hD⟩
  · rintro ⟨j, d, h1, h2, h3, h4⟩
    have hd := hD.first d (List.mem_of_getElem? h1)
    exact ⟨j, d, h1, h2, h3, (parts_iff hD st (by omega) hv).2 (h4.symm hD)⟩
def isEarK (d : Dev) : Bool := d.kind == 4
theorem col_bits {n : Nat} {ds : List Dev} (hD : DevsIn n ds) (st : List Int) {v : Nat} (hv : v < n) : ∃ l e : Bool, PO.at_ (colL ds st (partsL n ds st)) v = colV l e ∧ (l = true ↔ KindAt isSrc ds st v) ∧ (e = true ↔ KindAt isEarK ds st v) := by
  have h1 := partsL_len n ds st
  rw [at_get (by rw [colL_len, h1]; exact hv)]
  simp only [colL, List.getElem_map, bitsZ]
  have e1 : (partsL n ds st)[v]'(by omega) = PO.at_ (partsL n ds st) v := (at_get (by omega)).symm
  rw [e1]
  exact ⟨_, _, rfl, kind_iff hD isSrc st hv, kind_iff hD isEarK st hv⟩

theorem goalsZ_mem : ∀ (zs : List (Dev × Int)) (g : List Nat) (x : Nat), x ∈ goalsZ zs g ↔ x ∈ g ∨ ∃ z ∈ zs, srcB z.1 z.2 = true ∧ z.1.a.toNat = x
  | [], g, x => by simp [goalsZ]
  | z :: zs, g, x => by
    rw [goalsZ, goalsZ_mem zs]
    by_cases hs : srcB z.1 z.2 = true
    · by_cases hc : g.contains z.1.a.toNat = true
      · have hm : z.1.a.toNat ∈ g := by simpa using hc
        rw [if_neg (by simp [hm])]
        constructor
        · rintro (h | ⟨y, hy, h⟩)
          · exact .inl h
          · exact .inr ⟨y, by simp [hy], h⟩
        · rintro (h | ⟨y, hy, h1, h2⟩)
          · exact .inl h
          · rcases List.mem_cons.1 hy with rfl | hy
            · left; rw [← h2]; exact hm
            · exact .inr ⟨y, hy, h1, h2⟩
      · have hm : ¬ z.1.a.toNat ∈ g := by simpa using hc
        rw [if_pos (by simp [hs, hm]), List.mem_append]
        constructor
        · rintro ((h | h) | ⟨y, hy, h⟩)
          · exact .inl h
          · exact .inr ⟨z, by simp, hs, by simp at h; exact h.symm⟩
          · exact .inr ⟨y, by simp [hy], h⟩
        · rintro (h | ⟨y, hy, h1, h2⟩)
          · exact .inl (.inl h)
          · rcases List.mem_cons.1 hy with rfl | hy
            · exact .inl (.inr (by simp [h2]))
            · exact .inr ⟨y, hy, h1, h2⟩
    · have hs : srcB z.1 z.2 = false := by simpa using hs
      rw [if_neg (by simp [hs])]
      constructor
      · rintro (h | ⟨y, hy, h⟩)
        · exact .inl h
        · exact .inr ⟨y, by simp [hy], h⟩
      · rintro (h | ⟨y, hy, h1, h2⟩)
        · exact .inl h
        · rcases List.mem_cons.1 hy with rfl | hy
          · rw [hs] at h1; cases h1
          · exact .inr ⟨y, hy, h1, h2⟩
theorem firstS_some {e : Nat} : ∀ (zs : List (Dev × Int)) (k i : Nat), firstS e zs k = some i → k ≤ i ∧ ∃ z, zs[i - k]? = some z ∧ srcB z.1 z.2 = true ∧ z.1.a = e
  | [], k, i, h => by simp [firstS] at h
  | z :: zs, k, i, h => by
    simp only [firstS] at h
    split at h
    · rename_i hc
      injection h with h
      subst h
      simp only [Bool.and_eq_true, beq_iff_eq] at hc
      exact ⟨Nat.le_refl _, z, by simp, hc⟩
    · obtain ⟨h1, z', h2, h3⟩ := firstS_some zs (k + 1) i h
      refine ⟨by omega, z', ?_, h3⟩
      rw [show i - k = (i - (k + 1)) + 1 by omega]
      simpa using h2
theorem firstS_none {e : Nat} : ∀ (zs : List (Dev × Int)) (k : Nat), firstS e zs k = none → ∀ z ∈ zs, srcB z.1 z.2 = true → z.1.a ≠ e
  | [], _, _ => by simp
  | z :: zs, k, h => by
    simp only [firstS] at h
    split at h
    · cases h
    · rename_i hc
      intro y hy hs ha
      rcases List.mem_cons.1 hy with rfl | hy
      · exact hc (by simp [hs, ha])
      · exact firstS_none zs (k + 1) h y hy hs ha
theorem srcB_iff (d : Dev) (p : Int) : srcB d p = true ↔ p = 2 ∧ isSrc d = true := by simp [srcB, isSrc]
theorem zip_get {ds : List Dev} {st : List Int} {z : Dev × Int} {i : Nat} (h : (ds.zip st)[i]? = some z) : ds[i]? = some z.1 ∧ st[i]? = some z.2 := by
  obtain ⟨h1, h2⟩ := List.getElem?_eq_some_iff.1 h
  rw [List.getElem_zip] at h2
  subst h2
  simp at h1
  exact ⟨List.getElem?_eq_getElem (by omega), List.getElem?_eq_getElem (by omega)⟩
theorem trail_chain {ds : List Dev} {st dist : List Int} (hl : st.length = ds.length) (hp : ∀ v, 0 < PO.at_ dist v → (stepZ dist v (ds.zip (useOf st)) 0).isSome = true) : ∀ (f v : Nat), PO.at_ dist v = f →
    PO.at_ dist (trailZ dist (ds.zip (useOf st)) f v).2 = 0 ∧ ∀ x, Chain ds st (trailZ dist (ds.zip (useOf st)) f v).2 [x] → Chain ds st v ((trailZ dist (ds.zip (useOf st)) f v).1 ++ [x])
  | 0, v, h => ⟨h, fun _ hx => hx⟩
  | f + 1, v, h => by
    have hs := hp v (by omega)
    obtain ⟨⟨i, u⟩, hiu⟩ := Option.isSome_iff_exists.1 hs
    simp only [trailZ, hiu]
    obtain ⟨h1, h2, h3, h4, h5⟩ := stepZ_at (by rw [useOf_len]; exact hl) hiu
    obtain ⟨i1, i2⟩ := trail_chain hl hp f u (by omega)
    refine ⟨i1, fun x hx => ?_⟩
    rw [useOf_get st i (by omega)] at h3
    exact .step i v u ds[i] _ (List.getElem?_eq_getElem h1) (by rw [List.getElem?_eq_getElem (by omega)]; simpa using h3) h4 (i2 x hx)

/-- What Way returns at a node of a network without error. -/
theorem sway_ok {ns : List Node} {ds : List Dev} {st : List Int} (hc : checkL ns ds = 0) (hl : st.length = ds.length) (hp : ∀ x ∈ st, x = 1 ∨ x = 2) {v : Nat} (hv : v < ns.length) :
    ∃ (l : List Nat) (ok : Bool), swayL ns ds st v = (l, ok, 0) ∧ (ok = true ↔ KindAt isSrc ds st v) ∧ (ok = false → l = []) ∧ (ok = true → Chain ds st v l) ∧ l.length ≤ 33 := by
  have hD := checkL_zero hc
  have hm := mask_ok hc hl hp
  have hn1 : 1 ≤ ns.length := by omega
  unfold swayL
  rw [if_neg (by simpa using hm), if_neg (by simp [existsB]; omega), Int.toNat_natCast]
  have hgm := goalsZ_mem (ds.zip st) []
  have hgs : ∀ g ∈ goalsZ (ds.zip st) [], g < ns.length := goalsZ_in _ _ (fun z hz => hD.first z.1 (List.of_mem_zip hz).1) (by simp)
  have hdist : PO.Dist 32 (nbZ (ds.zip (useOf st))) (goalsZ (ds.zip st) []) (swayD ds st) := dist_ok hD hn1 (useOf st) _ hgs
  have hstep : ∀ v, 0 < PO.at_ (swayD ds st) v → (stepZ (swayD ds st) v (ds.zip (useOf st)) 0).isSome = true := dist_step hD hn1 (useOf st) _ hgs
  have hsrc : KindAt isSrc ds st v ↔ 0 ≤ PO.at_ (swayD ds st) v := by
    constructor
    · rintro ⟨j, d, h1, h2, h3, h4⟩
      have hd := hD.first d (List.mem_of_getElem? h1)
      have hg : d.a.toNat ∈ goalsZ (ds.zip st) [] := (hgm _).2 (.inr ⟨(d, 2), by
        obtain ⟨l1, e1⟩ := List.getElem?_eq_some_iff.1 h1
        obtain ⟨l2, e2⟩ := List.getElem?_eq_some_iff.1 h2
        have hlz : j < (ds.zip st).length := by simp; omega
        have : (ds.zip st)[j] = (d, 2) := by rw [List.getElem_zip, e1, e2]
        rw [← this]; exact List.getElem_mem hlz, (srcB_iff _ _).2 ⟨rfl, h3⟩, rfl⟩)
      have h0 := (hdist.zero d.a.toNat).2 hg
      obtain ⟨k, hk⟩ := h4.symm hD
      exact (hdist.le (by omega) hk).1
    · intro h0
      obtain ⟨g, hg, hk⟩ := hdist.path (PO.at_ (swayD ds st) v).toNat v (by omega)
      rcases (hgm g).1 hg with h | ⟨z, hz, hs, ha⟩
      · simp at h
      · obtain ⟨i, hi, e⟩ := List.getElem_of_mem hz
        obtain ⟨e1, e2⟩ := zip_get (List.getElem?_eq_some_iff.2 ⟨hi, e⟩)
        obtain ⟨p1, p2⟩ := (srcB_iff _ _).1 hs
        rw [p1] at e2
        have hr : Rch ds st g v := ⟨_, hk⟩
        exact ⟨i, z.1, e1, e2, p2, by rw [ha]; exact hr.symm hD⟩
  by_cases hneg : PO.at_ (swayD ds st) v < 0
  · rw [if_pos hneg]
    exact ⟨[], false, rfl, by rw [hsrc]; simp; omega, fun _ => rfl, (fun h => by cases h), by simp⟩
  · rw [if_neg hneg]
    obtain ⟨t1, t2⟩ := trail_chain hl hstep (PO.at_ (swayD ds st) v).toNat v (by omega)
    have hT : swayT ds st v = trailZ (swayD ds st) (ds.zip (useOf st)) (PO.at_ (swayD ds st) v).toNat v := rfl
    rw [← hT] at t1 t2
    have hg := (hdist.zero _).1 t1
    cases hf : firstS (swayT ds st v).2 (ds.zip st) 0 with
    | none =>
      rcases (hgm _).1 hg with h | ⟨z, hz, hs, ha⟩
      · simp at h
      · have hd := hD.first z.1 (List.of_mem_zip hz).1
        exact absurd (by omega) (firstS_none _ _ hf z hz hs)
    | some i =>
      obtain ⟨_, z, h1, h2, h3⟩ := firstS_some _ _ _ hf
      rw [Nat.sub_zero] at h1
      obtain ⟨e1, e2⟩ := zip_get h1
      obtain ⟨p1, p2⟩ := (srcB_iff _ _).1 h2
      rw [p1] at e2
      refine ⟨_, true, rfl, ?_, (fun h => by cases h), fun _ => t2 i (.last i _ z.1 e1 e2 h3 p2), ?_⟩
      rotate_left
      · have h6 := trailZ_len hstep (PO.at_ (swayD ds st) v).toNat v (by omega)
        have h7 : PO.at_ (swayD ds st) v < ns.length := dist_far hD hn1 (useOf st) _ hgs v
        have := hD.few
        rw [hT, List.length_append, h6]
        simp; omega
      rw [hsrc]
      simp; omega

theorem set_up (st : List Int) (i : Nat) : Up (st.set i 1) st := ⟨by simp, fun j h => by
  rw [List.getElem?_set] at h
  split at h
  · split at h <;> simp at h
  · exact h⟩
theorem KindAt.up {ds : List Dev} {st st' : List Int} (h : Up st st') {K : Dev → Bool} {v : Nat} (hk : KindAt K ds st v) : KindAt K ds st' v := by
  obtain ⟨j, d, h1, h2, h3, h4⟩ := hk
  exact ⟨j, d, h1, h.2 j h2, h3, h.rch h4⟩
theorem supp_iff {ns : List Node} {ds : List Dev} (hD : DevsIn ns.length ds) (st : List Int) {v : Nat} (hv : v < ns.length) : suppB ns ds st v = true ↔ 0 < custAt ns v ∧ KindAt isSrc ds st v ∧ ¬ KindAt isEarK ds st v := by
  obtain ⟨l, e, h1, h2, h3⟩ := col_bits hD st hv
  unfold suppB
  rw [h1, ← h2, ← h3]
  cases l <;> cases e <;> simp [colV]
/-- A node that loses its supply without a device has it on its way. -/
theorem lost_way {ns : List Node} {ds : List Dev} {st : List Int} (hc : checkL ns ds = 0) (hl : st.length = ds.length) (hp : ∀ x ∈ st, x = 1 ∨ x = 2) {i : Nat} {x : Int} (hx : x ∈ lostL (supL ns ds st) (supL ns ds (st.set i 1))) :
    ∃ (v : Nat) (l : List Nat), x = v ∧ v < ns.length ∧ swayL ns ds st v = (l, true, 0) ∧ i ∈ l ∧ 0 < custAt ns x := by
  have hD := checkL_zero hc
  rw [lost_sup, supN_mem] at hx
  obtain ⟨v, rfl, hv, hs⟩ := hx
  simp only [Bool.and_eq_true, Bool.not_eq_true'] at hs
  obtain ⟨hs, ht⟩ := hs
  obtain ⟨c1, c2, c3⟩ := (supp_iff hD st hv).1 hs
  obtain ⟨l, ok, e1, e2, e3, e4, _⟩ := sway_ok hc hl hp hv
  obtain rfl := e2.2 c2
  refine ⟨v, l, rfl, hv, e1, ?_, c1⟩
  by_cases hm : i ∈ l
  · exact hm
  · have : suppB ns ds (st.set i 1) v = true := (supp_iff hD _ hv).2 ⟨c1, ((e4 rfl).avoid hm).src, fun hk => c3 (hk.up (set_up st i))⟩
    rw [this] at ht
    cases ht
theorem custF_len {ns : List Node} : ∀ (l : List Int), (∀ x ∈ l, 0 < custAt ns x) → (l.length : Int) ≤ custF ns l
  | [], _ => by simp [custF]
  | x :: l, h => by
    have h1 := h x (by simp)
    have h2 := custF_len l (fun y hy => h y (by simp [hy]))
    simp only [custF, List.map_cons, List.sum_cons, List.length_cons] at *
    omega
theorem alone_lost {ns : List Node} {ds : List Dev} {st : List Int} {i : Nat} (h : alB ns ds st i = true) : PO.at_ st i = 2 ∧ lostL (supL ns ds st) (supL ns ds (st.set i 1)) ≠ [] := by
  unfold alB at h
  simp only [Bool.and_eq_true, beq_iff_eq] at h
  refine ⟨h.1, fun e => ?_⟩
  obtain ⟨x, hx, hc⟩ := List.any_eq_true.1 h.2
  have : x ∈ lostL (supL ns ds st) (supL ns ds (st.set i 1)) := List.mem_filter.2 ⟨hx, hc⟩
  rw [e] at this
  simp at this
theorem Chain.inv {ds : List Dev} {st : List Int} {v i : Nat} {l : List Nat} (h : Chain ds st v (i :: l)) : ∃ d, ds[i]? = some d ∧ st[i]? = some 2 ∧ ((l = [] ∧ d.a = v ∧ isSrc d = true) ∨ (l ≠ [] ∧ ∃ u : Nat, acrossL d v = u ∧ Chain ds st u l)) := by
  generalize hq : i :: l = q at h
  cases h with
  | last j v d h1 h2 h3 h4 =>
    injection hq with e1 e2
    subst e1 e2
    exact ⟨d, h1, h2, .inl ⟨rfl, h3, h4⟩⟩
  | step j v u d l' h1 h2 h3 h4 =>
    injection hq with e1 e2
    subst e1 e2
    exact ⟨d, h1, h2, .inr ⟨h4.ne, u, h3, h4⟩⟩
/-- What the law asks of the colours and of Way. -/
theorem sway_law {ns : List Node} {ds : List Dev} {st : List Int} (hc : checkL ns ds = 0) (hl : st.length = ds.length) (hp : ∀ x ∈ st, x = 1 ∨ x = 2) (v : Nat) (hv : v < ns.length) :
    ∃ (l e : Bool) (ch : List Nat), PO.at_ (colL ds st (partsL ns.length ds st)) v = colV l e ∧ swayL ns ds st v = (ch, l, 0) ∧ (l = false → ch = []) ∧ (l = true → Chain ds st v ch) ∧ ch.length ≤ 33 := by
  have hD := checkL_zero hc
  obtain ⟨l, e, h1, h2, h3⟩ := col_bits hD st hv
  obtain ⟨ch, ok, e1, e2, e3, e4⟩ := sway_ok hc hl hp hv
  have : ok = l := by rw [Bool.eq_iff_iff, e2, h2]
  subst this
  exact ⟨ok, e, ch, h1, e1, e3, e4⟩
theorem alone_law {ns : List Node} {ds : List Dev} {st : List Int} (hc : checkL ns ds = 0) (hl : st.length = ds.length) (hp : ∀ x ∈ st, x = 1 ∨ x = 2) (x : Int) (hx : x ∈ supN (alB ns ds st) st.length) :
    ∃ (j : Nat) (h : j < st.length), x = j ∧ st[j] = 2 ∧ lostL (supL ns ds st) (supL ns ds (st.set j 1)) ≠ [] ∧ ((lostL (supL ns ds st) (supL ns ds (st.set j 1))).length : Int) ≤ custF ns (lostL (supL ns ds st) (supL ns ds (st.set j 1))) ∧
      ∀ y ∈ lostL (supL ns ds st) (supL ns ds (st.set j 1)), ∃ (v : Nat) (ch : List Nat), y = v ∧ v < ns.length ∧ swayL ns ds st v = (ch, true, 0) ∧ j ∈ ch := by
  obtain ⟨j, rfl, hj, ha⟩ := (supN_mem _ _ _).1 hx
  obtain ⟨a1, a2⟩ := alone_lost ha
  rw [at_get hj] at a1
  refine ⟨j, hj, rfl, a1, a2, custF_len _ (fun y hy => ?_), fun y hy => ?_⟩
  · obtain ⟨_, _, _, _, _, _, h⟩ := lost_way hc hl hp hy
    exact h
  · obtain ⟨v, ch, h1, h2, h3, h4, _⟩ := lost_way hc hl hp hy
    exact ⟨v, ch, h1, h2, h3, h4⟩
theorem set_pos {st : List Int} (hp : ∀ x ∈ st, x = 1 ∨ x = 2) (i : Nat) : ∀ x ∈ st.set i 1, x = 1 ∨ x = 2 := fun x hx => by
  rcases List.mem_or_eq_of_mem_set hx with h | h
  · exact hp x h
  · exact .inl h
theorem sway_len33 {ns : List Node} {ds : List Dev} {st : List Int} (hc : checkL ns ds = 0) (hl : st.length = ds.length) (hp : ∀ x ∈ st, x = 1 ∨ x = 2) {v : Nat} {ch : List Nat} {ok : Bool} (hv : v < ns.length) (h : swayL ns ds st v = (ch, ok, 0)) : ch.length ≤ 33 := by
  obtain ⟨_, _, ch', _, e, _, _, h33⟩ := sway_law hc hl hp v hv
  rw [h] at e
  injection e with e1 _
  rw [e1]
  exact h33
end Go.Proofs.YtgpcojmdfmngeaaDoor

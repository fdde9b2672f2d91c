/-
  Plain: what closing one device does to parts and colours.
-/
import Derived.Test.YtglhplddjjoggaaDoorPCol
namespace Go.Proofs.YtglhplddjjoggaaDoor
set_option maxHeartbeats 400000

/-- every device closed in st is closed in st' -/
def Up (st st' : List Int) : Prop := st.length = st'.length ∧ ∀ j : Nat, st[j]? = some 2 → st'[j]? = some 2
theorem mem_nbS {ds : List Dev} {st : List Int} {u v : Nat} : v ∈ nbS ds st u ↔ ∃ (j : Nat) (d : Dev), ds[j]? = some d ∧ st[j]? = some 2 ∧ acrossL d u = v := by
  unfold nbS
  rw [mem_nbZ]
  constructor
  · rintro ⟨d, hm, he⟩
    obtain ⟨j, hj, e⟩ := List.getElem_of_mem hm
    rw [List.getElem_zip] at e
    simp only [Prod.mk.injEq] at e
    have h1 : j < ds.length := by simp at hj; omega
    have h2 : j < st.length := by simp [useOf] at hj; omega
    refine ⟨j, d, by rw [List.getElem?_eq_getElem h1, e.1], ?_, he⟩
    have := e.2
    simp [useOf] at this
    rw [List.getElem?_eq_getElem h2, this]
  · rintro ⟨j, d, h1, h2, he⟩
    refine ⟨d, ?_, he⟩
    obtain ⟨l1, e1⟩ := List.getElem?_eq_some_iff.1 h1
    obtain ⟨l2, e2⟩ := List.getElem?_eq_some_iff.1 h2
    have hl : j < (ds.zip (useOf st)).length := by simp [useOf]; omega
    have : (ds.zip (useOf st))[j] = (d, true) := by rw [List.getElem_zip]; simp [useOf, e1, e2]
    rw [← this]
    exact List.getElem_mem hl
theorem Up.rch {ds : List Dev} {st st' : List Int} (h : Up st st') {u v : Nat} (hr : Rch ds st u v) : Rch ds st' u v := by
  obtain ⟨k, hk⟩ := hr
  refine ⟨k, hk.mono (fun a b hb => ?_)⟩
  obtain ⟨j, d, h1, h2, he⟩ := mem_nbS.1 hb
  exact mem_nbS.2 ⟨j, d, h1, h.2 j h2, he⟩
theorem Up.parts {n : Nat} {ds : List Dev} {st st' : List Int} (hD : DevsIn n ds) (h : Up st st') {v : Nat} (hv : v < n) : PO.at_ (partsL n ds st') v ≤ PO.at_ (partsL n ds st) v := by
  obtain ⟨a, _, ea, ha⟩ := parts_least hD st v hv
  obtain ⟨b, _, eb, hb⟩ := parts_least hD st' v hv
  have : ¬ a < b := fun hl => hb.2 a hl (h.rch ha.1)
  omega

def kindZ (K : Dev → Bool) (ps : List Int) (p : Int) (z : Dev × Int) : Bool := (z.2 == 2) && K z.1 && (PO.at_ ps z.1.a.toNat == p)
theorem any_kind {K : Dev → Bool} {ds : List Dev} {st ps : List Int} {p : Int} : (ds.zip st).any (kindZ K ps p) = true ↔ ∃ (j : Nat) (d : Dev), ds[j]? = some d ∧ st[j]? = some 2 ∧ K d = true ∧ PO.at_ ps d.a.toNat = p := by
  rw [List.any_eq_true]
  constructor
  · rintro ⟨z, hm, hz⟩
    obtain ⟨j, hj, e⟩ := List.getElem_of_mem hm
    rw [List.getElem_zip] at e
    have h1 : j < ds.length := by simp at hj; omega
    have h2 : j < st.length := by simp at hj; omega
    subst e
    simp only [kindZ, Bool.and_eq_true, beq_iff_eq] at hz
    exact ⟨j, ds[j], List.getElem?_eq_getElem h1, by rw [List.getElem?_eq_getElem h2, hz.1.1], hz.1.2, hz.2⟩
  · rintro ⟨j, d, h1, h2, hK, hp⟩
    obtain ⟨l1, e1⟩ := List.getElem?_eq_some_iff.1 h1
    obtain ⟨l2, e2⟩ := List.getElem?_eq_some_iff.1 h2
    have hl : j < (ds.zip st).length := by simp; omega
    refine ⟨(ds.zip st)[j], List.getElem_mem hl, ?_⟩
    rw [List.getElem_zip, e1, e2]
    simp [kindZ, hK, hp]
theorem Up.kind {n : Nat} {ds : List Dev} {st st' : List Int} (hD : DevsIn n ds) (h : Up st st') (K : Dev → Bool) {v : Nat} (hv : v < n)
    (ha : (ds.zip st).any (kindZ K (partsL n ds st) (PO.at_ (partsL n ds st) v)) = true) : (ds.zip st').any (kindZ K (partsL n ds st') (PO.at_ (partsL n ds st') v)) = true := by
  obtain ⟨j, d, h1, h2, hK, hp⟩ := any_kind.1 ha
  have hd := hD.first d (List.mem_of_getElem? h1)
  have hr := h.rch ((parts_iff hD st (by omega) hv).1 hp)
  exact any_kind.2 ⟨j, d, h1, h.2 j h2, hK, (parts_iff hD st' (by omega) hv).2 hr⟩
/-- A node keeps its colours. -/
theorem Up.col {n : Nat} {ds : List Dev} {st st' : List Int} (hD : DevsIn n ds) (h : Up st st') {v : Nat} (hv : v < n) :
    ∃ l e l' e' : Bool, PO.at_ (colL ds st (partsL n ds st)) v = colV l e ∧ PO.at_ (colL ds st' (partsL n ds st')) v = colV l' e' ∧ (l = true → l' = true) ∧ (e = true → e' = true) := by
  have h1 := partsL_len n ds st
  have h2 := partsL_len n ds st'
  rw [at_get (by rw [colL_len, h1]; exact hv), at_get (by rw [colL_len, h2]; exact hv)]
  simp only [colL, List.getElem_map, bitsZ]
  have e1 : (partsL n ds st)[v]'(by omega) = PO.at_ (partsL n ds st) v := (at_get (by omega)).symm
  have e2 : (partsL n ds st')[v]'(by omega) = PO.at_ (partsL n ds st') v := (at_get (by omega)).symm
  rw [e1, e2]
  exact ⟨_, _, _, _, rfl, rfl, h.kind hD (fun d => (d.kind == 5) || (d.kind == 6)) hv, h.kind hD (fun d => d.kind == 4) hv⟩

theorem rch_of_edges {ds : List Dev} {st st' : List Int} (h : ∀ u v, v ∈ nbS ds st' u → Rch ds st u v) {u v : Nat} (hr : Rch ds st' u v) : Rch ds st u v := by
  obtain ⟨k, hk⟩ := hr
  induction k generalizing u with
  | zero => have e : u = v := hk; subst e; exact Rch.refl _ _ _
  | succ k ih =>
    obtain ⟨m, hm, hk⟩ := hk
    exact (h u m hm).trans (ih hk)
theorem Least.unique {ds : List Dev} {st : List Int} {a b u : Nat} (ha : Least ds st a u) (hb : Least ds st b u) : a = b := by
  have h1 : ¬ a < b := fun hl => hb.2 a hl ha.1
  have h2 : ¬ b < a := fun hl => ha.2 b hl hb.1
  omega
theorem parts_root {n : Nat} {ds : List Dev} (h : DevsIn n ds) (st : List Int) {u : Nat} (hu : u < n) : PO.at_ (partsL n ds st) u = u ↔ ∀ x, x < u → ¬ Rch ds st x u := by
  obtain ⟨a, hau, ea, ha⟩ := parts_least h st u hu
  constructor
  · intro e
    obtain rfl : a = u := by omega
    exact ha.2
  · intro hx
    have : ¬ a < u := fun hl => hx a hl ha.1
    omega
theorem parts_same {n : Nat} {ds : List Dev} (h : DevsIn n ds) {st st' : List Int} (hr : ∀ u v, Rch ds st u v ↔ Rch ds st' u v) {u : Nat} (hu : u < n) : PO.at_ (partsL n ds st) u = PO.at_ (partsL n ds st') u := by
  obtain ⟨a, _, ea, ha⟩ := parts_least h st u hu
  obtain ⟨b, _, eb, hb⟩ := parts_least h st' u hu
  have : a = b := Least.unique (st := st') ⟨(hr a u).1 ha.1, fun x hx h' => ha.2 x hx ((hr x u).2 h')⟩ hb
  omega
/-- One edge more. -/
theorem rch_more {ds : List Dev} {st st' : List Int} {A B : Nat} (h : ∀ u v, v ∈ nbS ds st' u → Rch ds st u v ∨ (u = A ∧ v = B) ∨ (u = B ∧ v = A)) {u v : Nat} (hr : Rch ds st' u v) :
    Rch ds st u v ∨ (Rch ds st u A ∧ Rch ds st B v) ∨ (Rch ds st u B ∧ Rch ds st A v) := by
  obtain ⟨k, hk⟩ := hr
  induction k generalizing u with
  | zero => have e : u = v := hk; subst e; exact .inl (Rch.refl _ _ _)
  | succ k ih =>
    obtain ⟨m, hm, hk⟩ := hk
    rcases h u m hm with h1 | ⟨rfl, rfl⟩ | ⟨rfl, rfl⟩
    · rcases ih hk with h2 | ⟨h2, h3⟩ | ⟨h2, h3⟩
      · exact .inl (h1.trans h2)
      · exact .inr (.inl ⟨h1.trans h2, h3⟩)
      · exact .inr (.inr ⟨h1.trans h2, h3⟩)
    · rcases ih hk with h2 | ⟨h2, h3⟩ | ⟨h2, h3⟩
      · exact .inr (.inl ⟨Rch.refl _ _ _, h2⟩)
      · exact .inr (.inl ⟨Rch.refl _ _ _, h3⟩)
      · exact .inl h3
    · rcases ih hk with h2 | ⟨h2, h3⟩ | ⟨h2, h3⟩
      · exact .inr (.inr ⟨Rch.refl _ _ _, h2⟩)
      · exact .inl h3
      · exact .inr (.inr ⟨Rch.refl _ _ _, h3⟩)

/-- the roots before k -/
def cntR (ps : List Int) : Nat → Nat
  | 0 => 0
  | k + 1 => cntR ps k + if PO.at_ ps k = k then 1 else 0
theorem cnt_same {ps qs : List Int} {n : Nat} (h : ∀ u, u < n → PO.at_ ps u = PO.at_ qs u) : ∀ k, k ≤ n → cntR ps k = cntR qs k
  | 0, _ => rfl
  | k + 1, hk => by
    unfold cntR
    rw [cnt_same h k (by omega), h k (by omega)]
theorem cnt_less {ps qs : List Int} {n M : Nat} (hM : PO.at_ ps M = M) (h : ∀ u, u < n → (PO.at_ qs u = u ↔ PO.at_ ps u = u ∧ u ≠ M)) : ∀ k, k ≤ n → cntR qs k + (if M < k then 1 else 0) = cntR ps k
  | 0, _ => by simp [cntR]
  | k + 1, hk => by
    have ih := cnt_less hM h k (by omega)
    have hi := h k (by omega)
    unfold cntR
    by_cases hMk : k = M
    · subst hMk
      rw [if_neg (by omega)] at ih
      have h1 : ¬ PO.at_ qs k = k := fun e => (hi.1 e).2 rfl
      rw [if_neg h1, if_pos hM, if_pos (by omega)]
      omega
    · by_cases hp : PO.at_ ps k = k
      · rw [if_pos (hi.2 ⟨hp, hMk⟩), if_pos hp]
        by_cases hl : M < k
        · rw [if_pos hl] at ih; rw [if_pos (by omega)]; omega
        · rw [if_neg hl] at ih; rw [if_neg (by omega)]; omega
      · rw [if_neg (fun e => hp (hi.1 e).1), if_neg hp]
        by_cases hl : M < k
        · rw [if_pos hl] at ih; rw [if_pos (by omega)]; omega
        · rw [if_neg hl] at ih; rw [if_neg (by omega)]; omega

theorem up_set (st : List Int) (i : Nat) : Up st (st.set i 2) := by
  refine ⟨by simp, fun j hj => ?_⟩
  rw [List.getElem?_set]
  obtain ⟨l, e⟩ := List.getElem?_eq_some_iff.1 hj
  split
  · rename_i e2; subst e2; simp [l]
  · exact hj
theorem edge_set {ds : List Dev} {st : List Int} {i : Nat} {d : Dev} (hd : ds[i]? = some d) {u v : Nat} (h : v ∈ nbS ds (st.set i 2) u) : v ∈ nbS ds st u ∨ acrossL d u = v := by
  obtain ⟨j, x, h1, h2, he⟩ := mem_nbS.1 h
  by_cases e : i = j
  · subst e
    rw [hd] at h1
    injection h1 with h1
    subst h1
    exact .inr he
  · rw [List.getElem?_set_ne e] at h2
    exact .inl (mem_nbS.2 ⟨j, x, h1, h2, he⟩)
theorem edge_rch {ds : List Dev} {st : List Int} {u v : Nat} (h : v ∈ nbS ds st u) : Rch ds st u v := ⟨1, v, h, rfl⟩
theorem across_two {d : Dev} (hj : joinsB d.kind = true) {u v : Nat} (h : acrossL d u = v) : (u = d.a.toNat ∧ v = d.b.toNat) ∨ (u = d.b.toNat ∧ v = d.a.toNat) := by
  unfold acrossL at h
  rw [if_neg (by simp [hj])] at h
  by_cases h1 : (d.a == (u : Int)) = true
  · rw [if_pos h1] at h
    have : d.a = u := by simpa using h1
    exact .inl ⟨by omega, by omega⟩
  · rw [if_neg h1] at h
    by_cases h2 : (d.b == (u : Int)) = true
    · rw [if_pos h2] at h
      have : d.b = u := by simpa using h2
      exact .inr ⟨by omega, by omega⟩
    · rw [if_neg h2] at h; omega
theorem across_ab {d : Dev} {n : Nat} (he : endsB d n = true) (hj : joinsB d.kind = true) : acrossL d (d.a.toNat : Nat) = d.b.toNat := by
  obtain ⟨h1, _, h3, _⟩ := endsB_parts he
  have := h3 hj
  unfold acrossL
  rw [if_neg (by simp [hj]), if_pos (by simp; omega)]
  omega
def lessZ (ps : List Int) (d : Dev) : Nat := if joinsB d.kind = true ∧ PO.at_ ps d.a.toNat ≠ PO.at_ ps d.b.toNat then 1 else 0
/-- Closing a device joins at most two parts. -/
theorem close_cnt {n : Nat} {ds : List Dev} (hD : DevsIn n ds) (st : List Int) (hl : st.length = ds.length) {i : Nat} {d : Dev} (hd : ds[i]? = some d) :
    cntR (partsL n ds (st.set i 2)) n + lessZ (partsL n ds st) d = cntR (partsL n ds st) n := by
  have he := (hD.ends d (List.mem_of_getElem? hd)).2.2
  obtain ⟨ha0, han, hjj, _⟩ := endsB_parts he
  have hup := up_set st i
  have hi : i < ds.length := (List.getElem?_eq_some_iff.1 hd).1
  have same : (∀ u v, v ∈ nbS ds (st.set i 2) u → Rch ds st u v) → cntR (partsL n ds (st.set i 2)) n = cntR (partsL n ds st) n := fun hall =>
    cnt_same (n := n) (fun u hu => parts_same hD (fun a b => ⟨rch_of_edges hall, hup.rch⟩) hu) n (Nat.le_refl _)
  unfold lessZ
  cases hj : joinsB d.kind
  · rw [if_neg (by simp)]
    refine same (fun u v hv => ?_)
    rcases edge_set hd hv with h1 | h1
    · exact edge_rch h1
    · rw [across_not hj] at h1; omega
  · have hb := hjj hj
    by_cases hne : PO.at_ (partsL n ds st) d.a.toNat = PO.at_ (partsL n ds st) d.b.toNat
    · rw [if_neg (by simp [hne])]
      have hr := (parts_iff hD st (by omega) (by omega)).1 hne
      refine same (fun u v hv => ?_)
      rcases edge_set hd hv with h1 | h1
      · exact edge_rch h1
      · rcases across_two hj h1 with ⟨rfl, rfl⟩ | ⟨rfl, rfl⟩
        · exact hr
        · exact hr.symm hD
    · rw [if_pos ⟨rfl, hne⟩]
      have hmore := fun {u v : Nat} => rch_more (A := d.a.toNat) (B := d.b.toNat) (st := st) (st' := st.set i 2) (fun u v hv => by
        rcases edge_set hd hv with h1 | h1
        · exact .inl (edge_rch h1)
        · exact .inr (across_two hj h1)) (u := u) (v := v)
      have hAB : Rch ds (st.set i 2) d.a.toNat d.b.toNat := edge_rch (mem_nbS.2 ⟨i, d, hd, by rw [List.getElem?_set]; simp; omega, across_ab he hj⟩)
      obtain ⟨pa, hpa, ea, la⟩ := parts_least hD st d.a.toNat (by omega)
      obtain ⟨pb, hpb, eb, lb⟩ := parts_least hD st d.b.toNat (by omega)
      have hpn : pa ≠ pb := by omega
      have roota : ∀ x, x < pa → ¬ Rch ds st x pa := fun x hx hr => la.2 x hx (hr.trans la.1)
      have rootb : ∀ x, x < pb → ¬ Rch ds st x pb := fun x hx hr => lb.2 x hx (hr.trans lb.1)
      have key : ∀ (M : Nat), (M = pa ∧ pb < pa) ∨ (M = pb ∧ pa < pb) → cntR (partsL n ds (st.set i 2)) n + 1 = cntR (partsL n ds st) n := by
        intro M hM
        have hMn : M < n := by omega
        have hMr : PO.at_ (partsL n ds st) M = M := (parts_root hD st hMn).2 (by rcases hM with ⟨rfl, _⟩ | ⟨rfl, _⟩; exact roota; exact rootb)
        have := cnt_less (ps := partsL n ds st) (qs := partsL n ds (st.set i 2)) (n := n) hMr (fun u hu => by
          rw [parts_root hD _ hu, parts_root hD _ hu]
          constructor
          · intro h
            refine ⟨fun x hx hr => h x hx (hup.rch hr), fun e => ?_⟩
            subst e
            rcases hM with ⟨rfl, hlt⟩ | ⟨rfl, hlt⟩
            · exact h pb hlt ((hup.rch lb.1).trans ((hAB.symm hD).trans ((hup.rch la.1).symm hD)))
            · exact h pa hlt ((hup.rch la.1).trans (hAB.trans ((hup.rch lb.1).symm hD)))
          · rintro ⟨h, hne⟩ x hx hr
            rcases hmore hr with h1 | ⟨h1, h2⟩ | ⟨h1, h2⟩
            · exact h x hx h1
            · have eu : u = pb := Least.unique ⟨h2.symm hD, fun y hy hr => h y hy (hr.trans h2)⟩ lb
              have : ¬ x < pa := fun hl => la.2 x hl h1
              omega
            · have eu : u = pa := Least.unique ⟨h2.symm hD, fun y hy hr => h y hy (hr.trans h2)⟩ la
              have : ¬ x < pb := fun hl => lb.2 x hl h1
              omega) n (Nat.le_refl _)
        rw [if_pos hMn] at this
        exact this
      rcases Nat.lt_or_gt_of_ne hpn with hlt | hlt
      · exact key pb (.inr ⟨rfl, hlt⟩)
      · exact key pa (.inl ⟨rfl, hlt⟩)
theorem cntR_le (ps : List Int) : ∀ k, cntR ps k ≤ k
  | 0 => Nat.le_refl _
  | k + 1 => by
    have := cntR_le ps k
    unfold cntR
    split <;> omega
end Go.Proofs.YtglhplddjjoggaaDoor

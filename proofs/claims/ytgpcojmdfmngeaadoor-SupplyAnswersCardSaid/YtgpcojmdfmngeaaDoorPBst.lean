/-
  Plain: the best of the ways to closed sources is the one that supply.Way finds.
-/
import Derived.Test.YtgpcojmdfmngeaaDoorPSwy
namespace Go.Proofs.YtgpcojmdfmngeaaDoor
set_option maxHeartbeats 400000

/-- Does a list come before another one of the same length? -/
def lessL : List Nat → List Nat → Bool
  | x :: xs, y :: ys => if x = y then lessL xs ys else decide (x < y)
  | _, _ => false
theorem lessL_asymm : ∀ {a b : List Nat}, lessL a b = true → lessL b a = false
  | [], _, h => by simp [lessL] at h
  | _ :: _, [], h => by simp [lessL] at h
  | x :: xs, y :: ys, h => by
    simp only [lessL] at h ⊢
    by_cases e : x = y
    · subst e
      rw [if_pos rfl] at h ⊢
      exact lessL_asymm h
    · rw [if_neg e] at h
      rw [if_neg (fun q => e q.symm)]
      simp at h ⊢
      omega
theorem lessL_app : ∀ {a b : List Nat} (i j : Nat), lessL a b = true → lessL (a ++ [i]) (b ++ [j]) = true
  | [], _, _, _, h => by simp [lessL] at h
  | _ :: _, [], _, _, h => by simp [lessL] at h
  | x :: xs, y :: ys, i, j, h => by
    simp only [lessL, List.cons_append] at h ⊢
    by_cases e : x = y
    · rw [if_pos e] at h ⊢
      exact lessL_app i j h
    · rw [if_neg e] at h ⊢
      exact h
theorem lessL_last : ∀ (a : List Nat) {i j : Nat}, i < j → lessL (a ++ [i]) (a ++ [j]) = true
  | [], i, j, h => by
    show (if i = j then lessL [] [] else decide (i < j)) = true
    rw [if_neg (by omega)]
    simpa using h
  | x :: xs, i, j, h => by
    simp only [lessL, List.cons_append, if_pos]
    exact lessL_last xs h
def betterL (c b : List Nat) : Bool := decide (c.length < b.length) || (c.length == b.length && lessL c b)
theorem betterL_asymm {a b : List Nat} (h : betterL a b = true) : betterL b a = false := by
  unfold betterL at *
  by_cases h1 : a.length < b.length
  · rw [decide_eq_false (by omega), Bool.false_or]
    have : (b.length == a.length) = false := by simp; omega
    rw [this]; rfl
  · rw [decide_eq_false h1, Bool.false_or, Bool.and_eq_true, beq_iff_eq] at h
    rw [decide_eq_false (by omega), lessL_asymm h.2]
    simp
def bestStep (b : Option (List Nat)) (c : List Nat) : Option (List Nat) := match b with
  | none => some c
  | some b => if betterL c b = true then some c else some b
def bestZ (f : Nat → Option (List Nat)) : Nat → Option (List Nat)
  | 0 => none
  | k + 1 => match f k with
    | none => bestZ f k
    | some c => bestStep (bestZ f k) c
theorem bestZ_none {f : Nat → Option (List Nat)} : ∀ k, (∀ i, i < k → f i = none) → bestZ f k = none
  | 0, _ => rfl
  | k + 1, h => by
    simp only [bestZ, h k (by omega)]
    exact bestZ_none k (fun i hi => h i (by omega))
theorem bestZ_from {f : Nat → Option (List Nat)} : ∀ k b, bestZ f k = some b → ∃ i, i < k ∧ f i = some b
  | 0, _, h => by simp [bestZ] at h
  | k + 1, b, h => by
    simp only [bestZ] at h
    cases e : f k with
    | none =>
      rw [e] at h
      obtain ⟨i, h1, h2⟩ := bestZ_from k b h
      exact ⟨i, by omega, h2⟩
    | some c =>
      rw [e] at h
      simp only [bestStep] at h
      cases e2 : bestZ f k with
      | none =>
        rw [e2] at h
        injection h with h
        subst h
        exact ⟨k, by omega, e⟩
      | some x =>
        rw [e2] at h
        simp only at h
        split at h
        · injection h with h
          subst h
          exact ⟨k, by omega, e⟩
        · injection h with h
          subst h
          obtain ⟨i, h1, h2⟩ := bestZ_from k x e2
          exact ⟨i, by omega, h2⟩
theorem bestZ_min {f : Nat → Option (List Nat)} {m : List Nat} {j : Nat} (hj : f j = some m) (hm : ∀ i x, i ≠ j → f i = some x → betterL m x = true) : ∀ k, j < k → bestZ f k = some m
  | 0, h => by omega
  | k + 1, h => by
    simp only [bestZ]
    by_cases e : j = k
    · subst e
      rw [hj]
      simp only [bestStep]
      cases e2 : bestZ f j with
      | none => rfl
      | some x =>
        obtain ⟨i, h1, h2⟩ := bestZ_from j x e2
        simp only
        rw [if_pos (hm i x (by omega) h2)]
    · rw [bestZ_min hj hm k (by omega)]
      cases e2 : f k with
      | none => rfl
      | some x =>
        simp only [bestStep]
        rw [if_neg (by rw [betterL_asymm (hm k x (by omega) e2)]; simp)]

/-- A walk over closed devices. -/
inductive Wk (ds : List Dev) (st : List Int) : Nat → List Nat → Nat → Prop
  | nil (v : Nat) : Wk ds st v [] v
  | step (i v u e : Nat) (d : Dev) (l : List Nat) : ds[i]? = some d → st[i]? = some 2 → acrossL d v = (u : Int) → Wk ds st u l e → Wk ds st v (i :: l) e
theorem Wk.det {ds : List Dev} {st : List Int} {v : Nat} {l : List Nat} {e : Nat} (h : Wk ds st v l e) : ∀ {e' : Nat}, Wk ds st v l e' → e = e' := by
  induction h with
  | nil v => intro e' h; cases h; rfl
  | step i v u e d l h1 h2 h3 _ ih =>
    intro e' h
    cases h with
    | step _ _ u' _ d' _ g1 g2 g3 g4 =>
      rw [h1] at g1
      injection g1 with g1
      subst g1
      have hu : u = u' := by omega
      subst hu
      exact ih g4
theorem zip_use {ds : List Dev} {st : List Int} {i : Nat} {d : Dev} (h1 : ds[i]? = some d) (h2 : st[i]? = some 2) : (ds.zip (useOf st))[i]? = some (d, true) := by
  rw [List.getElem?_zip_eq_some]
  exact ⟨h1, by simp [useOf, h2]⟩
theorem nb_use {ds : List Dev} {st : List Int} {i : Nat} {d : Dev} {u v : Nat} (h1 : ds[i]? = some d) (h2 : st[i]? = some 2) (h3 : acrossL d v = (u : Int)) : u ∈ nbZ (ds.zip (useOf st)) v :=
  mem_nbZ.2 ⟨d, List.mem_of_getElem? (zip_use h1 h2), h3⟩
theorem Wk.le {n : Nat} {ds : List Dev} (hD : DevsIn n ds) {st : List Int} {gs : List Nat} {dist : List Int} (hd : PO.Dist 32 (nbZ (ds.zip (useOf st))) gs dist) {v : Nat} {l : List Nat} {e : Nat} (h : Wk ds st v l e) :
    0 ≤ PO.at_ dist e → 0 ≤ PO.at_ dist v ∧ PO.at_ dist v ≤ PO.at_ dist e + l.length := by
  induction h with
  | nil v => intro h; simp [h]
  | step i v u e d l h1 h2 h3 _ ih =>
    intro he
    obtain ⟨a, b⟩ := ih he
    have := hd.edge u a v (nbZ_symm hD _ v u (nb_use h1 h2 h3))
    rw [List.length_cons]
    omega
theorem stepZ_first {dist : List Int} {v j u2 : Nat} : ∀ {zs : List (Dev × Bool)} {k : Nat}, stepZ dist v zs k = some (j, u2) → ∀ {i u : Nat} {d : Dev}, zs[i]? = some (d, true) → acrossL d v = (u : Int) → PO.at_ dist u = PO.at_ dist v - 1 → j ≤ k + i
  | [], k, h => by simp [stepZ] at h
  | z :: zs, k, h => by
    rename_i i u d
    intro h1 h2 h3
    simp only [stepZ] at h
    split at h
    · injection h with h
      injection h with e1 _
      omega
    · rename_i hc
      cases i with
      | zero =>
        rw [List.getElem?_cons_zero] at h1
        injection h1 with h1
        subst h1
        exact absurd ⟨by simp only; omega, rfl, by simp only; rw [h2, Int.toNat_natCast]; exact h3⟩ hc
      | succ i =>
        rw [List.getElem?_cons_succ] at h1
        have := stepZ_first h h1 h2 h3
        omega
theorem trail_wk {ds : List Dev} {st dist : List Int} (hl : st.length = ds.length) (hp : ∀ v, 0 < PO.at_ dist v → (stepZ dist v (ds.zip (useOf st)) 0).isSome = true) : ∀ (f v : Nat), PO.at_ dist v = f →
    PO.at_ dist (trailZ dist (ds.zip (useOf st)) f v).2 = 0 ∧ Wk ds st v (trailZ dist (ds.zip (useOf st)) f v).1 (trailZ dist (ds.zip (useOf st)) f v).2
  | 0, v, h => ⟨h, .nil v⟩
  | f + 1, v, h => by
    have hs := hp v (by omega)
    obtain ⟨⟨i, u⟩, hiu⟩ := Option.isSome_iff_exists.1 hs
    simp only [trailZ, hiu]
    obtain ⟨h1, h2, h3, h4, h5⟩ := stepZ_at (by rw [useOf_len]; exact hl) hiu
    obtain ⟨i1, i2⟩ := trail_wk hl hp f u (by omega)
    refine ⟨i1, ?_⟩
    rw [useOf_get st i (by omega)] at h3
    exact .step i v u _ ds[i] _ (List.getElem?_eq_getElem h1) (by rw [List.getElem?_eq_getElem (by omega)]; simpa using h3) h4 i2
/-- The trail is the first of all walks of its length to a goal. -/
theorem trail_least {n : Nat} {ds : List Dev} (hD : DevsIn n ds) {st : List Int} {gs : List Nat} {dist : List Int} (hd : PO.Dist 32 (nbZ (ds.zip (useOf st))) gs dist) (hl : st.length = ds.length)
    (hp : ∀ v, 0 < PO.at_ dist v → (stepZ dist v (ds.zip (useOf st)) 0).isSome = true) : ∀ (f v : Nat) (p : List Nat) (g : Nat), PO.at_ dist v = f → Wk ds st v p g → p.length = f → PO.at_ dist g = 0 →
      (trailZ dist (ds.zip (useOf st)) f v).1 = p ∨ lessL (trailZ dist (ds.zip (useOf st)) f v).1 p = true
  | 0, v, p, g, _, _, h, _ => by
    left
    rw [List.length_eq_zero_iff.1 h]; rfl
  | f + 1, v, p, g, h, hw, hlen, hg => by
    cases hw with
    | nil => simp at hlen
    | step i _ u _ d l h1 h2 h3 hw =>
      rw [List.length_cons] at hlen
      have hle := hw.le hD hd (by omega)
      have he := hd.edge u hle.1 v (nbZ_symm hD _ v u (nb_use h1 h2 h3))
      have hu : PO.at_ dist u = f := by omega
      have hs := hp v (by omega)
      obtain ⟨⟨j, u2⟩, hju⟩ := Option.isSome_iff_exists.1 hs
      have hji := stepZ_first hju (zip_use h1 h2) h3 (by omega)
      simp only [trailZ, hju]
      obtain ⟨g1, g2, g3, g4, g5⟩ := stepZ_at (by rw [useOf_len]; exact hl) hju
      by_cases e : j = i
      · subst e
        rw [List.getElem?_eq_getElem g1] at h1
        injection h1 with h1
        subst h1
        have hu2 : u2 = u := by omega
        subst hu2
        rcases trail_least hD hd hl hp f u2 l g hu hw (by omega) hg with h | h
        · left; rw [h]
        · right
          simp only [lessL, if_pos]
          exact h
      · right
        simp only [lessL, if_neg e]
        simpa using (by omega : j < i)
theorem firstS_first {e : Nat} : ∀ (zs : List (Dev × Int)) (k j : Nat), firstS e zs k = some j → ∀ {i : Nat} {z : Dev × Int}, zs[i]? = some z → srcB z.1 z.2 = true → z.1.a = (e : Int) → j ≤ k + i
  | [], k, j, h => by simp [firstS] at h
  | y :: zs, k, j, h => by
    rename_i i z
    intro h1 h2 h3
    simp only [firstS] at h
    split at h
    · injection h with h
      omega
    · rename_i hc
      cases i with
      | zero =>
        rw [List.getElem?_cons_zero] at h1
        injection h1 with h1
        subst h1
        exact absurd (by simp [h2, h3]) hc
      | succ i =>
        rw [List.getElem?_cons_succ] at h1
        have := firstS_first zs (k + 1) j h h1 h2 h3
        omega

/-- the way to a closed source, and the source -/
def wayC (ns : List Node) (ds : List Dev) (st : List Int) (v : Int) (i : Nat) : Option (List Nat) := match ds[i]? with
  | none => none
  | some d => if srcB d (PO.at_ st i) = true then (if (wayL ns ds (useOf st) v d.a).2.1 = true then some ((wayL ns ds (useOf st) v d.a).1 ++ [i]) else none) else none
def rwayE (ns : List Node) (ds : List Dev) (st : List Int) (v : Int) : List Nat × Bool × Int :=
  if maskC isPos ns ds st ≠ 0 then ([], false, maskC isPos ns ds st)
  else if existsB ns.length v = false then ([], false, 7)
  else match bestZ (wayC ns ds st v) ds.length with
    | some l => (l, true, 0)
    | none => ([], false, 0)
theorem rway_eq (ns : List Node) (ds : List Dev) (st : List Int) (v : Int) : rwayE ns ds st v = swayL ns ds st v := by
  unfold rwayE swayL
  by_cases h0 : maskC isPos ns ds st = 0
  · have hm : ¬ (maskC isPos ns ds st ≠ 0) := by simpa using h0
    rw [if_neg hm, if_neg hm]
    obtain ⟨hc, hl, hp⟩ := maskC_zero h0
    have hD := checkL_zero hc
    by_cases h1 : existsB ns.length v = false
    · rw [if_pos h1, if_pos h1]
    · rw [if_neg h1, if_neg h1]
      have h1 : existsB ns.length v = true := by simpa using h1
      have hex := h1
      obtain ⟨v, rfl, hv⟩ := exists_pos h1
      rw [Int.toNat_natCast]
      have hn1 : 1 ≤ ns.length := by omega
      have hgm := goalsZ_mem (ds.zip st) []
      have hgs : ∀ g ∈ goalsZ (ds.zip st) [], g < ns.length := goalsZ_in _ _ (fun z hz => hD.first z.1 (List.of_mem_zip hz).1) (by simp)
      have hdist : PO.Dist 32 (nbZ (ds.zip (useOf st))) (goalsZ (ds.zip st) []) (swayD ds st) := dist_ok hD hn1 (useOf st) _ hgs
      have hstep : ∀ v, 0 < PO.at_ (swayD ds st) v → (stepZ (swayD ds st) v (ds.zip (useOf st)) 0).isSome = true := dist_step hD hn1 (useOf st) _ hgs
      have hgoal : ∀ i d, ds[i]? = some d → srcB d (PO.at_ st i) = true → d.a.toNat < ns.length ∧ d.a = (d.a.toNat : Int) ∧ (ds.zip st)[i]? = some (d, 2) ∧ PO.at_ (swayD ds st) d.a.toNat = 0 := by
        intro i d h2 h3
        have hd := hD.first d (List.mem_of_getElem? h2)
        obtain ⟨p1, p2⟩ := (srcB_iff _ _).1 h3
        have hi := (List.getElem?_eq_some_iff.1 h2).1
        rw [at_get (by omega)] at p1
        have hz : (ds.zip st)[i]? = some (d, 2) := by
          rw [List.getElem?_zip_eq_some]
          exact ⟨h2, by rw [List.getElem?_eq_getElem (by omega), p1]⟩
        exact ⟨by omega, by omega, hz, (hdist.zero _).2 ((hgm _).2 (.inr ⟨(d, 2), List.mem_of_getElem? hz, (srcB_iff _ _).2 ⟨rfl, p2⟩, rfl⟩))⟩
      -- what a candidate is
      have hcand : ∀ i x, wayC ns ds st v i = some x → ∃ d, ds[i]? = some d ∧ srcB d (PO.at_ st i) = true ∧ 0 ≤ PO.at_ (distL ds (useOf st) [d.a.toNat]) v ∧
          x = (trailZ (distL ds (useOf st) [d.a.toNat]) (ds.zip (useOf st)) (PO.at_ (distL ds (useOf st) [d.a.toNat]) v).toNat v).1 ++ [i] := by
        intro i x hx
        unfold wayC at hx
        split at hx
        · cases hx
        · rename_i d e
          split at hx
          · rename_i hs
            obtain ⟨q1, q2, _, _⟩ := hgoal i d e hs
            have hw : wayL ns ds (useOf st) v d.a = if PO.at_ (distL ds (useOf st) [d.a.toNat]) v < 0 then ([], false, 0) else ((trailZ (distL ds (useOf st) [d.a.toNat]) (ds.zip (useOf st)) (PO.at_ (distL ds (useOf st) [d.a.toNat]) v).toNat v).1, true, 0) := by
              unfold wayL
              rw [if_neg (by simpa using hc), if_neg (by rw [useOf_len]; simpa using hl), if_neg (by rw [hex, q2]; simp [existsB]; omega), Int.toNat_natCast]
            rw [hw] at hx
            by_cases hneg : PO.at_ (distL ds (useOf st) [d.a.toNat]) v < 0
            · rw [if_pos hneg] at hx
              simp at hx
            · rw [if_neg hneg] at hx
              simp only [if_pos] at hx
              injection hx with hx
              exact ⟨d, e, hs, by omega, hx.symm⟩
          · cases hx
      have hwayC : ∀ i d, ds[i]? = some d → srcB d (PO.at_ st i) = true → 0 ≤ PO.at_ (distL ds (useOf st) [d.a.toNat]) v →
          wayC ns ds st v i = some ((trailZ (distL ds (useOf st) [d.a.toNat]) (ds.zip (useOf st)) (PO.at_ (distL ds (useOf st) [d.a.toNat]) v).toNat v).1 ++ [i]) := by
        intro i d e hs h4
        obtain ⟨q1, q2, _, _⟩ := hgoal i d e hs
        have hw : wayL ns ds (useOf st) v d.a = ((trailZ (distL ds (useOf st) [d.a.toNat]) (ds.zip (useOf st)) (PO.at_ (distL ds (useOf st) [d.a.toNat]) v).toNat v).1, true, 0) := by
          unfold wayL
          rw [if_neg (by simpa using hc), if_neg (by rw [useOf_len]; simpa using hl), if_neg (by rw [hex, q2]; simp [existsB]; omega), Int.toNat_natCast, if_neg (by omega)]
        unfold wayC
        simp only [e]
        rw [if_pos hs, hw]
        rfl
      have hone : ∀ b, b < ns.length → PO.Dist 32 (nbZ (ds.zip (useOf st))) [b] (distL ds (useOf st) [b]) ∧ ∀ v, 0 < PO.at_ (distL ds (useOf st) [b]) v → (stepZ (distL ds (useOf st) [b]) v (ds.zip (useOf st)) 0).isSome = true :=
        fun b hb => ⟨dist_ok hD hn1 (useOf st) _ (by simpa using hb), dist_step hD hn1 (useOf st) _ (by simpa using hb)⟩
      -- the trail to one source is a walk
      have hwalk : ∀ b, b < ns.length → 0 ≤ PO.at_ (distL ds (useOf st) [b]) v → Wk ds st v (trailZ (distL ds (useOf st) [b]) (ds.zip (useOf st)) (PO.at_ (distL ds (useOf st) [b]) v).toNat v).1 b ∧
          ((trailZ (distL ds (useOf st) [b]) (ds.zip (useOf st)) (PO.at_ (distL ds (useOf st) [b]) v).toNat v).1.length : Int) = PO.at_ (distL ds (useOf st) [b]) v := by
        intro b hb h4
        obtain ⟨a1, a2⟩ := hone b hb
        obtain ⟨t1, t2⟩ := trail_wk hl a2 (PO.at_ (distL ds (useOf st) [b]) v).toNat v (by omega)
        have t3 := (a1.zero _).1 t1
        simp only [List.mem_singleton] at t3
        rw [t3] at t2
        exact ⟨t2, way_len hc hv hb h4⟩
      by_cases hneg : PO.at_ (swayD ds st) v < 0
      · rw [if_pos hneg, bestZ_none]
        intro i _
        cases hx : wayC ns ds st v i with
        | none => rfl
        | some x =>
          obtain ⟨d, h2, h3, h4, _⟩ := hcand i x hx
          obtain ⟨q1, _, _, q4⟩ := hgoal i d h2 h3
          have := ((hwalk _ q1 h4).1.le hD hdist (by omega)).1
          omega
      · rw [if_neg hneg]
        obtain ⟨t1, t2⟩ := trail_wk hl hstep (PO.at_ (swayD ds st) v).toNat v (by omega)
        have tl := trailZ_len hstep (PO.at_ (swayD ds st) v).toNat v (by omega)
        have hT : swayT ds st v = trailZ (swayD ds st) (ds.zip (useOf st)) (PO.at_ (swayD ds st) v).toNat v := rfl
        have hlow := trail_least hD hdist hl hstep (PO.at_ (swayD ds st) v).toNat v
        rw [← hT] at t1 t2 tl hlow
        generalize swayT ds st v = T at *
        obtain ⟨T1, e⟩ := T
        simp only at t1 t2 tl hlow ⊢
        have he := (hdist.zero _).1 t1
        cases hf : firstS e (ds.zip st) 0 with
        | none =>
          rcases (hgm _).1 he with h | ⟨z, hz, hs, ha⟩
          · simp at h
          · have hd := hD.first z.1 (List.of_mem_zip hz).1
            exact absurd (by omega) (firstS_none _ _ hf z hz hs)
        | some j =>
          obtain ⟨_, z, h2, h3, h4⟩ := firstS_some _ _ _ hf
          rw [Nat.sub_zero] at h2
          obtain ⟨e1, e2⟩ := zip_get h2
          have hjl := (List.getElem?_eq_some_iff.1 e1).1
          have hsj : srcB z.1 (PO.at_ st j) = true := by
            rw [at_get (by omega)]
            rw [List.getElem?_eq_getElem (by omega)] at e2
            injection e2 with e2
            rw [e2]; exact h3
          have hen : z.1.a.toNat = e := by omega
          obtain ⟨q1, _, _, _⟩ := hgoal j z.1 e1 hsj
          rw [hen] at q1
          obtain ⟨a1, a2⟩ := hone e q1
          have ae : PO.at_ (distL ds (useOf st) [e]) e = 0 := (a1.zero _).2 (by simp)
          have b1 := t2.le hD a1 (by omega)
          obtain ⟨w1, w2⟩ := hwalk e q1 b1.1
          have b2 := w1.le hD hdist (by omega)
          have hsame : T1 = (trailZ (distL ds (useOf st) [e]) (ds.zip (useOf st)) (PO.at_ (distL ds (useOf st) [e]) v).toNat v).1 := by
            have l1 := trail_least hD a1 hl a2 (PO.at_ (distL ds (useOf st) [e]) v).toNat v T1 e (by omega) t2 (by omega) ae
            have l2 := hlow _ e (by omega) w1 (by omega) t1
            rcases l2 with l2 | l2
            · exact l2
            · rcases l1 with l1 | l1
              · exact l1.symm
              · rw [lessL_asymm l2] at l1
                cases l1
          have hjc : wayC ns ds st v j = some (T1 ++ [j]) := by
            have := hwayC j z.1 e1 hsj (by rw [hen]; exact b1.1)
            rw [hen, ← hsame] at this
            exact this
          rw [bestZ_min hjc ?_ ds.length hjl]
          intro i x hij hx
          obtain ⟨d, g1, g2, g3, rfl⟩ := hcand i x hx
          obtain ⟨r1, r2, r3, r4⟩ := hgoal i d g1 g2
          obtain ⟨w3, w4⟩ := hwalk _ r1 g3
          have b3 := w3.le hD hdist (by omega)
          unfold betterL
          rw [List.length_append, List.length_append]
          generalize hp : (trailZ (distL ds (useOf st) [d.a.toNat]) (ds.zip (useOf st)) (PO.at_ (distL ds (useOf st) [d.a.toNat]) v).toNat v).1 = p at *
          by_cases hlt : T1.length < p.length
          · rw [decide_eq_true (by simp; omega), Bool.true_or]
          · have hpl : p.length = T1.length := by omega
            rw [hpl]
            simp only [List.length_singleton, Nat.lt_irrefl, decide_false, Bool.false_or, beq_self_eq_true, Bool.true_and]
            rcases hlow p d.a.toNat (by omega) w3 (by omega) r4 with l | l
            · subst l
              have hde : d.a.toNat = e := w3.det t2
              have := firstS_first _ _ _ hf r3 ((srcB_iff _ _).2 ⟨rfl, ((srcB_iff _ _).1 g2).2⟩) (by simp only; omega)
              exact lessL_last _ (by omega)
            · exact lessL_app _ _ l
  · rw [if_pos h0, if_pos h0]
end Go.Proofs.YtgpcojmdfmngeaaDoor

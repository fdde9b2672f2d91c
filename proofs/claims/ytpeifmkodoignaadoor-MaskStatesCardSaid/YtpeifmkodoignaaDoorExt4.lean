/-
  A region that draws its order, of which some operations are guarded: an invariant over what has been done so far serves every order.
-/
import Derived.Test.YtpeifmkodoignaaDoorExt2
namespace Go.Proofs.YtpeifmkodoignaaDoor
open Go

/-- What the kernel checks of a region: every operation has a slot of its own; a guard is an operation that must have been done before. -/
def ext4B (ops : Array Oper) (n : Nat) (ds : List Nat) : Bool :=
  (ops.size == n) && (List.range n).all (fun i => match ops[i]? with
    | none => false
    | some o => (match o.guard with | none => true | some (g, _) => decide (g < n) && o.after.toList.any (fun e => decide (e.on = g) && Region.binds .any e)) && o.after.all (fun e => decide (e.on < i) || !Region.binds .any e) &&
      (match o.dst with | none => false | some d => ds.contains d && (List.range n).all (fun j => decide (j = i) || !(dstOf ops j == some d))))
theorem ext4B_at {ops : Array Oper} {n : Nat} {ds : List Nat} (hB : ext4B ops n ds = true) {i : Nat} (hi : i < n) : ∃ o d, ops[i]? = some o ∧ (∀ g b, o.guard = some (g, b) → g < n ∧ ∃ e ∈ o.after, e.on = g ∧ Region.binds .any e = true) ∧ (∀ e ∈ o.after, Region.binds .any e = true → e.on < i) ∧
    o.dst = some d ∧ ds.contains d = true ∧ ∀ j, j < n → j ≠ i → dstOf ops j ≠ some d := by
  unfold ext4B at hB
  simp only [Bool.and_eq_true, beq_iff_eq, List.all_eq_true, List.mem_range] at hB
  have h := hB.2 i hi
  cases ho : ops[i]? with
  | none => rw [ho] at h; simp at h
  | some o =>
    rw [ho] at h
    simp only [Bool.and_eq_true] at h
    obtain ⟨⟨h1, h2⟩, h3⟩ := h
    cases hd : o.dst with
    | none => rw [hd] at h3; simp at h3
    | some d =>
      rw [hd] at h3
      simp only [Bool.and_eq_true, List.all_eq_true, List.mem_range] at h3
      refine ⟨o, d, rfl, fun g b hg => ?_, fun e he hb => ?_, hd, h3.1, fun j hj hne he => ?_⟩
      · rw [hg] at h1
        simp only [Bool.and_eq_true, decide_eq_true_eq] at h1
        obtain ⟨e, he, h⟩ := List.any_eq_true.1 h1.2
        simp only [Bool.and_eq_true, decide_eq_true_eq] at h
        exact ⟨h1.1, e, by simpa using he, h.1, h.2⟩
      · have := Array.all_eq_true_iff_forall_mem.1 h2 e he
        simpa [hb] using this
      · have := h3.2 j hj
        simp [hne, he] at this

section
variable {P : Program} {ops : Array Oper} {Q : Exit → Act → World → Prop} {l : List Value} {ds : List Nat} {df : List Deferred} {n : Nat} {I : (Nat → Bool) → (Nat → Value) → World → Prop}

theorem gen4_main (hB : ext4B ops n ds = true)
    (exec : ∀ i o d, i < n → ops[i]? = some o → o.dst = some d → ∀ dn f w, I dn f w → dn i = false → (∀ e ∈ o.after, Region.binds .any e = true → dn e.on = true) →
      wpOp P ops Q i (fun a' w' => ∃ v, a' = (fr l ds df f).put (some d) v ∧ I (fun j => dn j || decide (j = i)) (fun t => if t = d then v else f t) w') (fr l ds df f) w)
    (fin : ∀ dn f w, I dn f w → (∀ i, i < n → dn i = true) → Q .normal (fr l ds df f) w) :
    ∀ (fuel : Nat) (listed : Array Bool) (f : Nat → Value) (w : World), listed.size = n → I (fun j => listed.getD j false) f w → unl listed = fuel → wpAny P .any ops Q fuel listed (fr l ds df f) w := by
  have hsz : ops.size = n := by
    unfold ext4B at hB
    simp only [Bool.and_eq_true, beq_iff_eq] at hB
    exact hB.1
  have hall : ∀ (listed : Array Bool), listed.size = n → unl listed = 0 → ∀ i, i < n → listed.getD i false = true := by
    intro listed hl h0 i hi
    unfold unl at h0
    have := List.countP_eq_zero.1 h0 (listed[i]'(by omega)) (by simp)
    simp [show i < listed.size by omega]
    simpa using this
  intro fuel
  induction fuel with
  | zero =>
    intro listed f w hl hI hu
    refine ⟨?_, fin _ f w hI (hall listed hl hu)⟩
    apply List.eq_nil_iff_forall_not_mem.2
    intro j hj
    obtain ⟨hjun, oj, hoj, _⟩ := mem_ready.1 hj
    have hjs : j < n := by rw [← hsz]; exact (Array.getElem?_eq_some_iff.1 hoj).1
    have h1 := hall listed hl hu j hjs
    simp [show j < listed.size by omega] at h1 hjun
    rw [h1] at hjun; cases hjun
  | succ fuel ih =>
    intro listed f w hl hI hu
    have hready : Region.ready .any ops listed ≠ [] := by
      intro h0
      have key : ∀ k, k < n → listed.getD k true = false → False := by
        intro k
        induction k using Nat.strongRecOn with
        | _ k ihk =>
          intro hk hun
          obtain ⟨o, d, ho, _, haft, _⟩ := ext4B_at hB hk
          by_cases ha : ∀ e ∈ o.after, Region.binds .any e = true → listed.getD e.on false = true
          · have : k ∈ Region.ready .any ops listed := mem_ready.2 ⟨hun, o, ho, ha⟩
            rw [h0] at this; cases this
          · have : ∃ e ∈ o.after, Region.binds .any e = true ∧ listed.getD e.on false ≠ true := Classical.byContradiction fun hc => ha fun e he hb => Classical.byContradiction fun hn => hc ⟨e, he, hb, hn⟩
            obtain ⟨e, he, hb, hne⟩ := this
            have hlt := haft e he hb
            refine ihk e.on hlt (by omega) ?_
            have hin : e.on < listed.size := by omega
            simp [hin] at hne ⊢
            exact hne
      have hz : unl listed = 0 := by
        unfold unl
        rw [List.countP_eq_zero]
        intro b hb
        obtain ⟨j, hj, rfl⟩ := List.getElem_of_mem hb
        have hjl : j < listed.size := by simpa using hj
        have : ¬ listed.getD j true = false := fun h => key j (by omega) h
        simp [hjl] at this ⊢
        exact this
      omega
    refine ⟨fun h0 => absurd h0 hready, fun i hi => ?_⟩
    obtain ⟨hun, o, ho, hal⟩ := mem_ready.1 hi
    have hilt : i < n := by rw [← hsz]; exact (Array.getElem?_eq_some_iff.1 ho).1
    obtain ⟨o', d, ho', _, haft, hd, hdm, hdu⟩ := ext4B_at hB hilt
    obtain rfl : o' = o := Option.some.inj (ho'.symm.trans ho)
    have hil : i < listed.size := by omega
    have hx := exec i o' d hilt ho hd _ f w hI (by simp [hil] at hun ⊢; exact hun) (fun e he hb => hal e he hb)
    refine wpOp_mono (fun a' w' hk' => ?_) hx
    obtain ⟨v, rfl, hI'⟩ := hk'
    rw [fr_put _ _ _ _ _ _ hdm]
    refine ih _ _ _ (by simpa using hl) ?_ (by have := unl_set hun; omega)
    have e : (fun j => (listed.setIfInBounds i true).getD j false) = (fun j => listed.getD j false || decide (j = i)) := by
      funext j
      by_cases hji : j = i
      · subst hji; simp [hil]
      · rw [getD_set_ne false (Ne.symm hji)]; simp [hji]
    rw [e]
    exact hI'

theorem wp_region_gen4 {id : Nat} {w : World} (hm : P.follows .mixedOrders = true) (n : Nat) (ds : List Nat) (I : (Nat → Bool) → (Nat → Value) → World → Prop)
    (hB : ext4B ops n ds = true) (h0 : I (fun _ => false) (fun t => (l[t]?).getD undef) w.drew)
    (exec : ∀ i o d, i < n → ops[i]? = some o → o.dst = some d → ∀ dn f w, I dn f w → dn i = false → (∀ e ∈ o.after, Region.binds .any e = true → dn e.on = true) →
      wpOp P ops Q i (fun a' w' => ∃ v, a' = (fr l ds df f).put (some d) v ∧ I (fun j => dn j || decide (j = i)) (fun t => if t = d then v else f t) w') (fr l ds df f) w)
    (fin : ∀ dn f w, I dn f w → (∀ i, i < n → dn i = true) → Q .normal (fr l ds df f) w) :
    (Code.region id ops true).wp P Q { tmps := l.toArray, defers := df } w := by
  have hsz : ops.size = n := by
    unfold ext4B at hB
    simp only [Bool.and_eq_true, beq_iff_eq] at hB
    exact hB.1
  refine wp_region_any hm ?_
  rw [← fr_start l ds df]
  refine gen4_main hB exec fin _ _ _ _ (by simp [hsz]) ?_ ?_
  · have e : (fun j => (Array.replicate ops.size false).getD j false) = (fun _ => false) := by
      funext j
      rcases Nat.lt_or_ge j ops.size with h | h <;> simp [h]
    rw [e]; exact h0
  · unfold unl; simp [List.countP_replicate]
end

/-- Is operation i wanted, if the slots of guards hold what tv says? -/
def wantB (ops : Array Oper) (tv : List (Nat × Bool)) (i : Nat) : Bool :=
  match ops[i]? with
  | none => false
  | some o => match o.guard with
    | none => true
    | some (g, b) => match dstOf ops g with
      | none => false
      | some d => tv.contains (d, b)
/-- What the kernel checks of the guards: tv says what their slots hold; us are the slots of what is not wanted. -/
def guardB (ops : Array Oper) (n : Nat) (tv : List (Nat × Bool)) (us : List Nat) : Bool :=
  (List.range n).all fun i => match ops[i]? with
    | none => false
    | some o => match o.guard with
      | none => true
      | some (g, b) => match dstOf ops g with
        | none => false
        | some d => tv.contains (d, b) || (tv.contains (d, !b) && (match o.dst with | some d' => us.contains d' | none => false))

section
variable {P : Program} {ops : Array Oper} {Q : Exit → Act → World → Prop} {l : List Value} {df : List Deferred}
theorem yielded_fr {ds : List Nat} {f : Nat → Value} {g d : Nat} {b : Bool} (hd : dstOf ops g = some d) (hc : ds.contains d = true) (hl : d < l.length) (hf : f d = .bool b) : yielded ops (fr l ds df f).tmps g = some b := by
  unfold yielded
  have h1 : ((ops[g]?).bind (·.dst)) = some d := hd
  have h2 := fr_in l ds df f d hc hl
  rw [h1]
  simp only [Option.bind_some]
  have hs : d < (fr l ds df f).tmps.size := by simp [fr, upd, hl]
  rw [Array.getElem?_eq_getElem hs] at h2 ⊢
  simp only [Option.getD_some] at h2
  rw [h2, hf]

/-- A region that draws its order, with guards: every guard's slot holds what tv says. -/
theorem wp_region_extG {id : Nat} {w : World} (hm : P.follows .mixedOrders = true) (n : Nat) (ds : List Nat) (tv : List (Nat × Bool)) (us : List Nat) (C : World → Prop) (E : World → World → Prop) (T : Nat → Value → World → Prop)
    (hB : ext4B ops n ds = true) (hG : guardB ops n tv us = true) (hlen : ∀ d ∈ ds, d < l.length) (hC : C w.drew) (hE : ∀ w, E w w)
    (htv : ∀ p ∈ tv, ∀ v w, T p.1 v w → v = .bool p.2) (hus : ∀ d ∈ us, ∀ w, T d undef w)
    (hst : ∀ d v w w', C w → E w w' → T d v w → T d v w')
    (exec : ∀ i o d, i < n → wantB ops tv i = true → ops[i]? = some o → o.dst = some d → ∀ f w, C w → (∀ e ∈ o.after, Region.binds .any e = true → ∀ d', dstOf ops e.on = some d' → T d' (f d') w) →
      ∀ K : Act → World → Prop, (∀ v w', E w w' → C w' → T d v w' → K ((fr l ds df f).put (some d) v) w') → o.wp P (fr l ds df f) w K Q)
    (fin : ∀ f w, C w → (∀ i d, i < n → dstOf ops i = some d → T d (f d) w) → Q .normal (fr l ds df f) w) :
    (Code.region id ops true).wp P Q { tmps := l.toArray, defers := df } w := by
  refine wp_region_gen4 hm n ds (fun dn f w => C w ∧ ∀ j d', j < n → dstOf ops j = some d' → dn j = true → T d' (f d') w) hB ⟨hC, fun j d' _ _ h => by cases h⟩ ?_ (fun dn f w h hall => fin f w h.1 (fun i d hi hd => h.2 i d hi hd (hall i hi)))
  intro i o d hi ho hd dn f w h hni hdep
  obtain ⟨o', d0, ho', hgd, haft, hd0, hdm, hdu⟩ := ext4B_at hB hi
  obtain rfl : o' = o := Option.some.inj (ho'.symm.trans ho)
  obtain rfl : d0 = d := Option.some.inj (hd0.symm.trans hd)
  have next : ∀ v w', E w w' → C w' → T d0 v w' → (C w' ∧ ∀ j d', j < n → dstOf ops j = some d' → (dn j || decide (j = i)) = true → T d' ((fun t => if t = d0 then v else f t) d') w') := by
    intro v w' hE' hC' hT
    refine ⟨hC', fun j d' hj hd' hdn => ?_⟩
    by_cases hji : j = i
    · subst hji
      have : d' = d0 := by
        have : dstOf ops j = some d0 := by simp [dstOf, ho, hd]
        rw [this] at hd'; injection hd' with h; exact h.symm
      subst this
      simpa using hT
    · have hne : d' ≠ d0 := fun e => hdu j hj hji (e ▸ hd')
      simp only [if_neg hne]
      have hdn' : dn j = true := by simpa [hji] using hdn
      exact hst d' _ w w' h.1 hE' (h.2 j d' hj hd' hdn')
  have run : wantB ops tv i = true → o'.wp P (fr l ds df f) w (fun a' w' => ∃ v, a' = (fr l ds df f).put (some d0) v ∧ C w' ∧ ∀ j d', j < n → dstOf ops j = some d' → (dn j || decide (j = i)) = true → T d' ((fun t => if t = d0 then v else f t) d') w') Q := fun hw =>
    exec i o' d0 hi hw ho hd f w h.1 (fun e he hb d' hd' => h.2 e.on d' (by have := haft e he hb; omega) hd' (hdep e he hb)) _ (fun v w' h1 h2 h3 => ⟨v, rfl, next v w' h1 h2 h3⟩)
  unfold wpOp
  rw [ho]
  cases hg : o'.guard with
  | none =>
    have hw : Region.wanted o' (yielded ops (fr l ds df f).tmps) = true := by simp [Region.wanted, hg]
    simp only [hw, if_true]
    left
    exact run (by unfold wantB; rw [ho]; simp [hg])
  | some p =>
    obtain ⟨g, b⟩ := p
    obtain ⟨hgn, e, he, rfl, hb⟩ := hgd g b hg
    unfold guardB at hG
    have hGi := List.all_eq_true.1 hG i (List.mem_range.2 hi)
    rw [ho] at hGi
    simp only [hg] at hGi
    cases hdg : dstOf ops e.on with
    | none => rw [hdg] at hGi; simp at hGi
    | some d' =>
      rw [hdg] at hGi
      simp only [Bool.or_eq_true, Bool.and_eq_true] at hGi
      have hTg := h.2 e.on d' hgn hdg (hdep e he hb)
      obtain ⟨og, dg, hog, _, _, hdg', hdgm, _⟩ := ext4B_at hB hgn
      obtain rfl : dg = d' := by
        have : dstOf ops e.on = some dg := by simp [dstOf, hog, hdg']
        rw [this] at hdg; injection hdg
      have hdl := hlen dg (by simpa using hdgm)
      rcases hGi with h1 | ⟨h1, h2⟩
      · have hf := htv (dg, b) (by simpa using h1) _ _ hTg
        have hy := yielded_fr (l := l) (df := df) (ds := ds) (f := f) hdg hdgm hdl hf
        have hw : Region.wanted o' (yielded ops (fr l ds df f).tmps) = true := by simp [Region.wanted, hg, hy]
        simp only [hw, if_true]
        left
        refine run ?_
        unfold wantB
        rw [ho]
        simp only [hg, hdg]
        exact h1
      · have hf := htv (dg, !b) (by simpa using h1) _ _ hTg
        have hy := yielded_fr (l := l) (df := df) (ds := ds) (f := f) hdg hdgm hdl hf
        have hw : Region.wanted o' (yielded ops (fr l ds df f).tmps) = false := by cases b <;> simp [Region.wanted, hg, hy]
        simp only [hw]
        rw [hd] at h2 ⊢
        exact ⟨undef, rfl, next undef w (hE w) h.1 (hus d0 (by simpa using h2) w)⟩
end
end Go.Proofs.YtpeifmkodoignaaDoor

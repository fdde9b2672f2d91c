/-
  A region that draws its order: an invariant over what has been done so far, kept by each operation, serves every order.
-/
import Derived.Test.YtglhplddjjoggaaDoorExt
namespace Go.Proofs.YtglhplddjjoggaaDoor
open Go

/-- What the kernel checks of a region all of whose operations have a slot of their own (edges that do not bind may lead anywhere). -/
def ext1B (ops : Array Oper) (n : Nat) (ds : List Nat) : Bool :=
  (ops.size == n) && (List.range n).all (fun i => match ops[i]? with
    | none => false
    | some o => o.guard.isNone && o.after.all (fun e => decide (e.on < i) || !Region.binds .any e) &&
      (match o.dst with | none => false | some d => ds.contains d && (List.range n).all (fun j => decide (j = i) || !(dstOf ops j == some d))))
theorem ext1B_at {ops : Array Oper} {n : Nat} {ds : List Nat} (hB : ext1B ops n ds = true) {i : Nat} (hi : i < n) : ∃ o d, ops[i]? = some o ∧ o.guard = none ∧ (∀ e ∈ o.after, Region.binds .any e = true → e.on < i) ∧
    o.dst = some d ∧ ds.contains d = true ∧ ∀ j, j < n → j ≠ i → dstOf ops j ≠ some d := by
  unfold ext1B at hB
  simp only [Bool.and_eq_true, beq_iff_eq, List.all_eq_true, List.mem_range] at hB
  have h := hB.2 i hi
  cases ho : ops[i]? with
  | none => rw [ho] at h; simp at h
  | some o =>
    rw [ho] at h
    simp only [Bool.and_eq_true] at h
    obtain ⟨⟨h1, h2⟩, h3⟩ := h
    cases hd : o.dst with
    | none => rw [hd] at h3; simp at h3
    | some d =>
      rw [hd] at h3
      simp only [Bool.and_eq_true, List.all_eq_true, List.mem_range] at h3
      refine ⟨o, d, rfl, by simpa using h1, fun e he hb => ?_, hd, h3.1, fun j hj hne he => ?_⟩
      · have := Array.all_eq_true_iff_forall_mem.1 h2 e he
        simpa [hb] using this
      · have := h3.2 j hj
        simp [hne, he] at this

section
variable {P : Program} {ops : Array Oper} {Q : Exit → Act → World → Prop} {l : List Value} {ds : List Nat} {df : List Deferred} {n : Nat} {I : (Nat → Bool) → (Nat → Value) → World → Prop}

theorem gen_main (hB : ext1B ops n ds = true)
    (exec : ∀ i o d, i < n → ops[i]? = some o → o.dst = some d → ∀ dn f w, I dn f w → dn i = false → (∀ e ∈ o.after, Region.binds .any e = true → dn e.on = true) →
      o.wp P (fr l ds df f) w (fun a' w' => ∃ v, a' = (fr l ds df f).put (some d) v ∧ I (fun j => dn j || decide (j = i)) (fun t => if t = d then v else f t) w') Q)
    (fin : ∀ dn f w, I dn f w → (∀ i, i < n → dn i = true) → Q .normal (fr l ds df f) w) :
    ∀ (fuel : Nat) (listed : Array Bool) (f : Nat → Value) (w : World), listed.size = n → I (fun j => listed.getD j false) f w → unl listed = fuel → wpAny P .any ops Q fuel listed (fr l ds df f) w := by
  have hsz : ops.size = n := by
    unfold ext1B at hB
    simp only [Bool.and_eq_true, beq_iff_eq] at hB
    exact hB.1
  have hall : ∀ (listed : Array Bool), listed.size = n → unl listed = 0 → ∀ i, i < n → listed.getD i false = true := by
    intro listed hl h0 i hi
    unfold unl at h0
    have := List.countP_eq_zero.1 h0 (listed[i]'(by omega)) (by simp)
    simp [show i < listed.size by omega]
    simpa using this
  intro fuel
  induction fuel with
  | zero =>
    intro listed f w hl hI hu
    refine ⟨?_, fin _ f w hI (hall listed hl hu)⟩
    apply List.eq_nil_iff_forall_not_mem.2
    intro j hj
    obtain ⟨hjun, oj, hoj, _⟩ := mem_ready.1 hj
    have hjs : j < n := by rw [← hsz]; exact (Array.getElem?_eq_some_iff.1 hoj).1
    have h1 := hall listed hl hu j hjs
    simp [show j < listed.size by omega] at h1 hjun
    rw [h1] at hjun; cases hjun
  | succ fuel ih =>
    intro listed f w hl hI hu
    have hready : Region.ready .any ops listed ≠ [] := by
      intro h0
      have key : ∀ k, k < n → listed.getD k true = false → False := by
        intro k
        induction k using Nat.strongRecOn with
        | _ k ihk =>
          intro hk hun
          obtain ⟨o, d, ho, _, haft, _⟩ := ext1B_at hB hk
          by_cases ha : ∀ e ∈ o.after, Region.binds .any e = true → listed.getD e.on false = true
          · have : k ∈ Region.ready .any ops listed := mem_ready.2 ⟨hun, o, ho, ha⟩
            rw [h0] at this; cases this
          · have : ∃ e ∈ o.after, Region.binds .any e = true ∧ listed.getD e.on false ≠ true := Classical.byContradiction fun hc => ha fun e he hb => Classical.byContradiction fun hn => hc ⟨e, he, hb, hn⟩
            obtain ⟨e, he, hb, hne⟩ := this
            have hlt := haft e he hb
            refine ihk e.on hlt (by omega) ?_
            have hin : e.on < listed.size := by omega
            simp [hin] at hne ⊢
            exact hne
      have hz : unl listed = 0 := by
        unfold unl
        rw [List.countP_eq_zero]
        intro b hb
        obtain ⟨j, hj, rfl⟩ := List.getElem_of_mem hb
        have hjl : j < listed.size := by simpa using hj
        have : ¬ listed.getD j true = false := fun h => key j (by omega) h
        simp [hjl] at this ⊢
        exact this
      omega
    refine ⟨fun h0 => absurd h0 hready, fun i hi => ?_⟩
    obtain ⟨hun, o, ho, hal⟩ := mem_ready.1 hi
    have hilt : i < n := by rw [← hsz]; exact (Array.getElem?_eq_some_iff.1 ho).1
    obtain ⟨o', d, ho', hg, haft, hd, hdm, hdu⟩ := ext1B_at hB hilt
    obtain rfl : o' = o := Option.some.inj (ho'.symm.trans ho)
    unfold wpOp
    rw [ho]
    have hw : Region.wanted o' (yielded ops (fr l ds df f).tmps) = true := by simp [Region.wanted, hg]
    simp only [hw, if_true]
    left
    have hil : i < listed.size := by omega
    have hx := exec i o' d hilt ho hd _ f w hI (by simp [hil] at hun ⊢; exact hun) (fun e he hb => hal e he hb)
    refine Oper.wp_mono (fun a' w' hk' => ?_) hx
    obtain ⟨v, rfl, hI'⟩ := hk'
    rw [fr_put _ _ _ _ _ _ hdm]
    refine ih _ _ _ (by simpa using hl) ?_ (by have := unl_set hun; omega)
    have e : (fun j => (listed.setIfInBounds i true).getD j false) = (fun j => listed.getD j false || decide (j = i)) := by
      funext j
      by_cases hji : j = i
      · subst hji; simp [hil]
      · rw [getD_set_ne false (Ne.symm hji)]; simp [hji]
    rw [e]
    exact hI'

theorem wp_region_gen {id : Nat} {w : World} (hm : P.follows .mixedOrders = true) (n : Nat) (ds : List Nat) (I : (Nat → Bool) → (Nat → Value) → World → Prop)
    (hB : ext1B ops n ds = true) (h0 : I (fun _ => false) (fun t => (l[t]?).getD undef) w.drew)
    (exec : ∀ i o d, i < n → ops[i]? = some o → o.dst = some d → ∀ dn f w, I dn f w → dn i = false → (∀ e ∈ o.after, Region.binds .any e = true → dn e.on = true) →
      ∀ K : Act → World → Prop, (∀ v w', I (fun j => dn j || decide (j = i)) (fun t => if t = d then v else f t) w' → K ((fr l ds df f).put (some d) v) w') → o.wp P (fr l ds df f) w K Q)
    (fin : ∀ dn f w, I dn f w → (∀ i, i < n → dn i = true) → Q .normal (fr l ds df f) w) :
    (Code.region id ops true).wp P Q { tmps := l.toArray, defers := df } w := by
  have hsz : ops.size = n := by
    unfold ext1B at hB
    simp only [Bool.and_eq_true, beq_iff_eq] at hB
    exact hB.1
  refine wp_region_any hm ?_
  rw [← fr_start l ds df]
  refine gen_main hB (fun i o d hi ho hd dn f w hI hn hdep => exec i o d hi ho hd dn f w hI hn hdep _ (fun v w' h => ⟨v, rfl, h⟩)) fin _ _ _ _ (by simp [hsz]) ?_ ?_
  · have e : (fun j => (Array.replicate ops.size false).getD j false) = (fun _ => false) := by
      funext j
      rcases Nat.lt_or_ge j ops.size with h | h <;> simp [h]
    rw [e]; exact h0
  · unfold unl; simp [List.countP_replicate]
end

/-- What the kernel checks of a region of which some operations write no slot. -/
def ext2B (ops : Array Oper) (n : Nat) (ds : List Nat) : Bool :=
  (ops.size == n) && (List.range n).all (fun i => match ops[i]? with
    | none => false
    | some o => o.guard.isNone && o.after.all (fun e => decide (e.on < i) || !Region.binds .any e) &&
      (match o.dst with | none => true | some d => ds.contains d && (List.range n).all (fun j => decide (j = i) || !(dstOf ops j == some d))))
/-- The slots behind an operation. -/
def nextF (f : Nat → Value) (d : Option Nat) (v : Value) : Nat → Value := match d with | none => f | some d => fun t => if t = d then v else f t

theorem ext2B_at {ops : Array Oper} {n : Nat} {ds : List Nat} (hB : ext2B ops n ds = true) {i : Nat} (hi : i < n) : ∃ o, ops[i]? = some o ∧ o.guard = none ∧ (∀ e ∈ o.after, Region.binds .any e = true → e.on < i) ∧ ∀ d, o.dst = some d → ds.contains d = true := by
  unfold ext2B at hB
  simp only [Bool.and_eq_true, beq_iff_eq, List.all_eq_true, List.mem_range] at hB
  have h := hB.2 i hi
  cases ho : ops[i]? with
  | none => rw [ho] at h; simp at h
  | some o =>
    rw [ho] at h
    simp only [Bool.and_eq_true] at h
    obtain ⟨⟨h1, h2⟩, h3⟩ := h
    refine ⟨o, rfl, by simpa using h1, fun e he hb => ?_, fun d hd => ?_⟩
    · have := Array.all_eq_true_iff_forall_mem.1 h2 e he
      simpa [hb] using this
    · rw [hd] at h3
      simp only [Bool.and_eq_true] at h3
      exact h3.1

section
variable {P : Program} {ops : Array Oper} {Q : Exit → Act → World → Prop} {l : List Value} {ds : List Nat} {df : List Deferred} {n : Nat} {I : (Nat → Bool) → (Nat → Value) → World → Prop}

theorem gen2_main (hB : ext2B ops n ds = true)
    (exec : ∀ i o, i < n → ops[i]? = some o → ∀ dn f w, I dn f w → dn i = false → (∀ e ∈ o.after, Region.binds .any e = true → dn e.on = true) →
      o.wp P (fr l ds df f) w (fun a' w' => ∃ v, a' = (fr l ds df f).put o.dst v ∧ I (fun j => dn j || decide (j = i)) (nextF f o.dst v) w') Q)
    (fin : ∀ dn f w, I dn f w → (∀ i, i < n → dn i = true) → Q .normal (fr l ds df f) w) :
    ∀ (fuel : Nat) (listed : Array Bool) (f : Nat → Value) (w : World), listed.size = n → I (fun j => listed.getD j false) f w → unl listed = fuel → wpAny P .any ops Q fuel listed (fr l ds df f) w := by
  have hsz : ops.size = n := by
    unfold ext2B at hB
    simp only [Bool.and_eq_true, beq_iff_eq] at hB
    exact hB.1
  have hall : ∀ (listed : Array Bool), listed.size = n → unl listed = 0 → ∀ i, i < n → listed.getD i false = true := by
    intro listed hl h0 i hi
    unfold unl at h0
    have := List.countP_eq_zero.1 h0 (listed[i]'(by omega)) (by simp)
    simp [show i < listed.size by omega]
    simpa using this
  intro fuel
  induction fuel with
  | zero =>
    intro listed f w hl hI hu
    refine ⟨?_, fin _ f w hI (hall listed hl hu)⟩
    apply List.eq_nil_iff_forall_not_mem.2
    intro j hj
    obtain ⟨hjun, oj, hoj, _⟩ := mem_ready.1 hj
    have hjs : j < n := by rw [← hsz]; exact (Array.getElem?_eq_some_iff.1 hoj).1
    have h1 := hall listed hl hu j hjs
    simp [show j < listed.size by omega] at h1 hjun
    rw [h1] at hjun; cases hjun
  | succ fuel ih =>
    intro listed f w hl hI hu
    have hready : Region.ready .any ops listed ≠ [] := by
      intro h0
      have key : ∀ k, k < n → listed.getD k true = false → False := by
        intro k
        induction k using Nat.strongRecOn with
        | _ k ihk =>
          intro hk hun
          obtain ⟨o, ho, _, haft, _⟩ := ext2B_at hB hk
          by_cases ha : ∀ e ∈ o.after, Region.binds .any e = true → listed.getD e.on false = true
          · have : k ∈ Region.ready .any ops listed := mem_ready.2 ⟨hun, o, ho, ha⟩
            rw [h0] at this; cases this
          · have : ∃ e ∈ o.after, Region.binds .any e = true ∧ listed.getD e.on false ≠ true := Classical.byContradiction fun hc => ha fun e he hb => Classical.byContradiction fun hn => hc ⟨e, he, hb, hn⟩
            obtain ⟨e, he, hb, hne⟩ := this
            have hlt := haft e he hb
            refine ihk e.on hlt (by omega) ?_
            have hin : e.on < listed.size := by omega
            simp [hin] at hne ⊢
            exact hne
      have hz : unl listed = 0 := by
        unfold unl
        rw [List.countP_eq_zero]
        intro b hb
        obtain ⟨j, hj, rfl⟩ := List.getElem_of_mem hb
        have hjl : j < listed.size := by simpa using hj
        have : ¬ listed.getD j true = false := fun h => key j (by omega) h
        simp [hjl] at this ⊢
        exact this
      omega
    refine ⟨fun h0 => absurd h0 hready, fun i hi => ?_⟩
    obtain ⟨hun, o, ho, hal⟩ := mem_ready.1 hi
    have hilt : i < n := by rw [← hsz]; exact (Array.getElem?_eq_some_iff.1 ho).1
    obtain ⟨o', ho', hg, haft, hdm⟩ := ext2B_at hB hilt
    obtain rfl : o' = o := Option.some.inj (ho'.symm.trans ho)
    unfold wpOp
    rw [ho]
    have hw : Region.wanted o' (yielded ops (fr l ds df f).tmps) = true := by simp [Region.wanted, hg]
    simp only [hw, if_true]
    left
    have hil : i < listed.size := by omega
    have hx := exec i o' hilt ho _ f w hI (by simp [hil] at hun ⊢; exact hun) (fun e he hb => hal e he hb)
    refine Oper.wp_mono (fun a' w' hk' => ?_) hx
    obtain ⟨v, rfl, hI'⟩ := hk'
    have eput : (fr l ds df f).put o'.dst v = fr l ds df (nextF f o'.dst v) := by
      cases hdd : o'.dst with
      | none => rfl
      | some d => exact fr_put _ _ _ _ _ _ (hdm d hdd)
    rw [eput]
    refine ih _ _ _ (by simpa using hl) ?_ (by have := unl_set hun; omega)
    have e : (fun j => (listed.setIfInBounds i true).getD j false) = (fun j => listed.getD j false || decide (j = i)) := by
      funext j
      by_cases hji : j = i
      · subst hji; simp [hil]
      · rw [getD_set_ne false (Ne.symm hji)]; simp [hji]
    rw [e]
    exact hI'

theorem wp_region_gen2 {id : Nat} {w : World} (hm : P.follows .mixedOrders = true) (n : Nat) (ds : List Nat) (I : (Nat → Bool) → (Nat → Value) → World → Prop)
    (hB : ext2B ops n ds = true) (h0 : I (fun _ => false) (fun t => (l[t]?).getD undef) w.drew)
    (exec : ∀ i o, i < n → ops[i]? = some o → ∀ dn f w, I dn f w → dn i = false → (∀ e ∈ o.after, Region.binds .any e = true → dn e.on = true) →
      ∀ K : Act → World → Prop, (∀ v w', I (fun j => dn j || decide (j = i)) (nextF f o.dst v) w' → K ((fr l ds df f).put o.dst v) w') → o.wp P (fr l ds df f) w K Q)
    (fin : ∀ dn f w, I dn f w → (∀ i, i < n → dn i = true) → Q .normal (fr l ds df f) w) :
    (Code.region id ops true).wp P Q { tmps := l.toArray, defers := df } w := by
  have hsz : ops.size = n := by
    unfold ext2B at hB
    simp only [Bool.and_eq_true, beq_iff_eq] at hB
    exact hB.1
  refine wp_region_any hm ?_
  rw [← fr_start l ds df]
  refine gen2_main hB (fun i o hi ho dn f w hI hn hdep => exec i o hi ho dn f w hI hn hdep _ (fun v w' h => ⟨v, rfl, h⟩)) fin _ _ _ _ (by simp [hsz]) ?_ ?_
  · have e : (fun j => (Array.replicate ops.size false).getD j false) = (fun _ => false) := by
      funext j
      rcases Nat.lt_or_ge j ops.size with h | h <;> simp [h]
    rw [e]; exact h0
  · unfold unl; simp [List.countP_replicate]
end

section
variable {P : Program} {ops : Array Oper} {Q : Exit → Act → World → Prop} {l : List Value} {df : List Deferred}
/-- As wp_region_ext0, with one thing more that is kept: X, of what has been done. -/
theorem wp_region_extX {id : Nat} {w : World} (hm : P.follows .mixedOrders = true) (n : Nat) (ds : List Nat) (C : World → Prop) (E : World → World → Prop) (T : Nat → Value → World → Prop) (X : (Nat → Bool) → (Nat → Value) → World → Prop)
    (hB : ext1B ops n ds = true) (hC : C w.drew) (hX : X (fun _ => false) (fun t => (l[t]?).getD undef) w.drew)
    (hst : ∀ d v w w', C w → E w w' → T d v w → T d v w')
    (exec : ∀ i o d, i < n → ops[i]? = some o → o.dst = some d → ∀ dn f w, C w → X dn f w → (∀ j d', j < n → dstOf ops j = some d' → dn j = true → T d' (f d') w) → dn i = false → (∀ e ∈ o.after, Region.binds .any e = true → dn e.on = true) →
      ∀ K : Act → World → Prop, (∀ v w', E w w' → C w' → T d v w' → X (fun j => dn j || decide (j = i)) (fun t => if t = d then v else f t) w' → K ((fr l ds df f).put (some d) v) w') → o.wp P (fr l ds df f) w K Q)
    (fin : ∀ dn f w, C w → X dn f w → (∀ i, i < n → dn i = true) → (∀ i d, i < n → dstOf ops i = some d → T d (f d) w) → Q .normal (fr l ds df f) w) :
    (Code.region id ops true).wp P Q { tmps := l.toArray, defers := df } w := by
  refine wp_region_gen hm n ds (fun dn f w => C w ∧ X dn f w ∧ ∀ j d', j < n → dstOf ops j = some d' → dn j = true → T d' (f d') w) hB ⟨hC, hX, fun j d' _ _ h => by cases h⟩ ?_ (fun dn f w h hall => fin dn f w h.1 h.2.1 hall (fun i d hi hd => h.2.2 i d hi hd (hall i hi)))
  intro i o d hi ho hd dn f w h hni hdep K hK
  refine exec i o d hi ho hd dn f w h.1 h.2.1 h.2.2 hni hdep K (fun v w' hE hC' hT hX' => hK v w' ⟨hC', hX', fun j d' hj hd' hdn => ?_⟩)
  obtain ⟨o', d0, ho', _, _, hd0, _, hdu⟩ := ext1B_at hB hi
  obtain rfl : o' = o := Option.some.inj (ho'.symm.trans ho)
  obtain rfl : d0 = d := Option.some.inj (hd0.symm.trans hd)
  by_cases hji : j = i
  · subst hji
    have : d' = d0 := by
      have : dstOf ops j = some d0 := by simp [dstOf, ho, hd]
      rw [this] at hd'; injection hd' with h; exact h.symm
    subst this
    simpa using hT
  · have hne : d' ≠ d0 := fun e => hdu j hj hji (e ▸ hd')
    simp only [if_neg hne]
    have hdn' : dn j = true := by simpa [hji] using hdn
    exact hst d' _ w w' h.1 hE (h.2.2 j d' hj hd' hdn')

theorem wp_region_ext1 {id : Nat} {w : World} (hm : P.follows .mixedOrders = true) (n : Nat) (ds : List Nat) (C : World → Prop) (E : World → World → Prop) (T : Nat → Value → World → Prop)
    (hB : ext1B ops n ds = true) (hC : C w.drew)
    (hst : ∀ d v w w', C w → E w w' → T d v w → T d v w')
    (exec : ∀ i o d, i < n → ops[i]? = some o → o.dst = some d → ∀ f w, C w → (∀ e ∈ o.after, Region.binds .any e = true → ∀ d', dstOf ops e.on = some d' → T d' (f d') w) →
      ∀ K : Act → World → Prop, (∀ v w', E w w' → C w' → T d v w' → K ((fr l ds df f).put (some d) v) w') → o.wp P (fr l ds df f) w K Q)
    (fin : ∀ f w, C w → (∀ i d, i < n → dstOf ops i = some d → T d (f d) w) → Q .normal (fr l ds df f) w) :
    (Code.region id ops true).wp P Q { tmps := l.toArray, defers := df } w :=
  wp_region_extX hm n ds C E T (fun _ _ _ => True) hB hC trivial hst
    (fun i o d hi ho hd dn f w hC _ hT _ hdn K hK => exec i o d hi ho hd f w hC (fun e he hb d' hd' => by
      obtain ⟨o', d0, ho', _, haft, _⟩ := ext1B_at hB hi
      obtain rfl : o' = o := Option.some.inj (ho'.symm.trans ho)
      exact hT e.on d' (by have := haft e he hb; omega) hd' (hdn e he hb)) K (fun v w' h1 h2 h3 => hK v w' h1 h2 h3 trivial))
    (fun _ f w hC _ _ hT => fin f w hC hT)
end
end Go.Proofs.YtglhplddjjoggaaDoor

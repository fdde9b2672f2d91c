/-
  A region that draws its order, whose operations read, make new memory or call: one obligation for each operation serves every order. The last operation comes behind all others.
-/
import Derived.WalkKit
import Derived.Deep.Draws
namespace Go.Proofs.YtglhplddjjoggaaDoor
open Go

/-- A frame in which the slots ds hold what f says. -/
def upd (l : List Value) (ds : List Nat) (f : Nat → Value) : List Value := l.mapIdx fun t v => if ds.contains t then f t else v
def fr (l : List Value) (ds : List Nat) (df : List Deferred) (f : Nat → Value) : Act := { tmps := (upd l ds f).toArray, defers := df }

theorem upd_put (l : List Value) (ds : List Nat) (f : Nat → Value) (d : Nat) (v : Value) (hd : ds.contains d = true) :
    (upd l ds f).set d v = upd l ds (fun t => if t = d then v else f t) := by
  apply List.ext_getElem?
  intro i
  unfold upd
  rw [List.getElem?_set, List.getElem?_mapIdx, List.getElem?_mapIdx, List.length_mapIdx]
  by_cases hi : d = i
  · subst hi
    simp only [if_true]
    have hm : d ∈ ds := by simpa using hd
    by_cases hl : d < l.length
    · simp [hl, hm]
    · simp [hl]
  · rw [if_neg hi]
    cases l[i]? with
    | none => rfl
    | some x => simp [Ne.symm hi]

theorem fr_put (l : List Value) (ds : List Nat) (df : List Deferred) (f : Nat → Value) (d : Nat) (v : Value) (hd : ds.contains d = true) :
    (fr l ds df f).put (some d) v = fr l ds df (fun t => if t = d then v else f t) := by
  unfold fr
  simp only [Act.put]
  congr 1
  rw [← upd_put l ds f d v hd]
  simp

theorem fr_start (l : List Value) (ds : List Nat) (df : List Deferred) : fr l ds df (fun t => (l[t]?).getD undef) = { tmps := l.toArray, defers := df } := by
  unfold fr
  congr 2
  apply List.ext_getElem?
  intro i
  unfold upd
  rw [List.getElem?_mapIdx]
  cases h : l[i]? with
  | none => rfl
  | some x => simp [h]

theorem fr_in (l : List Value) (ds : List Nat) (df : List Deferred) (f : Nat → Value) (t : Nat) (h : ds.contains t = true) (hl : t < l.length) : (fr l ds df f).tmps[t]?.getD undef = f t := by
  have hm : t ∈ ds := by simpa using h
  simp [fr, upd, hl, hm]
theorem fr_out (l : List Value) (ds : List Nat) (df : List Deferred) (f : Nat → Value) (t : Nat) (v : Value) (h : ds.contains t = false) (hv : l[t]? = some v) : (fr l ds df f).tmps[t]?.getD undef = v := by
  have hm : ¬ t ∈ ds := by simpa using h
  simp [fr, upd, List.getElem?_mapIdx, hv, hm]

/-- What follows, behind a variable. -/
theorem wp_k {P : Program} {o : Oper} {a : Act} {w : World} {K : Act → World → Prop} {Q : Exit → Act → World → Prop} (h : ∀ K' : Act → World → Prop, (∀ a w, K a w → K' a w) → o.wp P a w K' Q) : o.wp P a w K Q := h K (fun _ _ h => h)

def dstOf (ops : Array Oper) (i : Nat) : Option Nat := (ops[i]?).bind (·.dst)

/-- What the kernel checks of the region. -/
def extB (ops : Array Oper) (n : Nat) (ds : List Nat) : Bool :=
  (ops.size == n + 1) && (List.range (n + 1)).all (fun i => match ops[i]? with
    | none => false
    | some o => o.guard.isNone && o.after.all (fun e => decide (e.on < i) && Region.binds .any e) &&
      (if i < n then (match o.dst with | none => false | some d => ds.contains d && (List.range n).all (fun j => decide (j = i) || !(dstOf ops j == some d)))
       else (List.range n).all (fun j => o.after.any (fun e => e.on == j))))

section
variable {P : Program} {ops : Array Oper} {Q : Exit → Act → World → Prop} {l : List Value} {ds : List Nat} {df : List Deferred}
  {n : Nat} {C : World → Prop} {E : World → World → Prop} {T : Nat → Value → World → Prop}

def unl (listed : Array Bool) : Nat := listed.toList.countP (fun b => !b)

theorem unl_set {listed : Array Bool} {i : Nat} (h : listed.getD i true = false) : unl (listed.setIfInBounds i true) + 1 = unl listed := by
  unfold unl
  obtain ⟨L⟩ := listed
  simp only [List.setIfInBounds_toArray] at *
  have h' : L[i]? = some false := by
    have : (L[i]?).getD true = false := by simpa using h
    cases hx : L[i]? with
    | none => rw [hx] at this; simp at this
    | some x => rw [hx] at this; simp at this; rw [this]
  clear h
  induction L generalizing i with
  | nil => simp at h'
  | cons y L ih =>
    cases i with
    | zero => simp at h'; subst h'; simp
    | succ i =>
      have := ih (i := i) (by simpa using h')
      simp only [List.set_cons_succ, List.countP_cons] at this ⊢
      omega

structure ExtInv (ops : Array Oper) (C : World → Prop) (T : Nat → Value → World → Prop) (n : Nat) (listed : Array Bool) (f : Nat → Value) (w : World) : Prop where
  size : listed.size = ops.size
  cls : C w
  known : ∀ i d, i < n → dstOf ops i = some d → listed.getD i false = true → T d (f d) w
  open_ : listed.getD n true = false

theorem extB_at (hB : extB ops n ds = true) {i : Nat} (hi : i ≤ n) : ∃ o, ops[i]? = some o ∧ o.guard = none ∧ (∀ e ∈ o.after, e.on < i ∧ Region.binds .any e = true) ∧
    (i < n → ∃ d, o.dst = some d ∧ ds.contains d = true ∧ ∀ j, j < n → j ≠ i → dstOf ops j ≠ some d) ∧ (i = n → ∀ j, j < n → ∃ e ∈ o.after, e.on = j) := by
  unfold extB at hB
  simp only [Bool.and_eq_true, beq_iff_eq, List.all_eq_true, List.mem_range] at hB
  have h := hB.2 i (by omega)
  cases ho : ops[i]? with
  | none => rw [ho] at h; simp at h
  | some o =>
    rw [ho] at h
    simp only [Bool.and_eq_true] at h
    obtain ⟨⟨h1, h2⟩, h3⟩ := h
    refine ⟨o, rfl, by simpa using h1, fun e he => ?_, fun hlt => ?_, fun heq j hj => ?_⟩
    · have := Array.all_eq_true_iff_forall_mem.1 h2 e he
      simpa using this
    · rw [if_pos hlt] at h3
      cases hd : o.dst with
      | none => rw [hd] at h3; simp at h3
      | some d =>
        rw [hd] at h3
        simp only [Bool.and_eq_true, List.all_eq_true, List.mem_range] at h3
        refine ⟨d, rfl, h3.1, fun j hj hne he => ?_⟩
        have := h3.2 j hj
        simp [hne, he] at this
    · rw [if_neg (by omega)] at h3
      have := List.all_eq_true.1 h3 j (by simpa using hj)
      obtain ⟨e, he, hb⟩ := Array.any_eq_true'.1 this
      exact ⟨e, he, by simpa using hb⟩

theorem ext_main (hB : extB ops n ds = true)
    (hst : ∀ d v w w', C w → E w w' → T d v w → T d v w')
    (exec : ∀ i o d, i < n → ops[i]? = some o → o.dst = some d → ∀ f w, C w → (∀ e ∈ o.after, ∀ d', dstOf ops e.on = some d' → T d' (f d') w) →
      o.wp P (fr l ds df f) w (fun a' w' => ∃ v, a' = (fr l ds df f).put (some d) v ∧ E w w' ∧ C w' ∧ T d v w') Q)
    (last : ∀ o, ops[n]? = some o → ∀ f w, C w → (∀ i d, i < n → dstOf ops i = some d → T d (f d) w) → o.wp P (fr l ds df f) w (fun a' w' => Q .normal a' w') Q) :
    ∀ (fuel : Nat) (listed : Array Bool) (f : Nat → Value) (w : World), ExtInv ops C T n listed f w → unl listed = fuel → wpAny P .any ops Q fuel listed (fr l ds df f) w := by
  have hsz : ops.size = n + 1 := by
    unfold extB at hB
    simp only [Bool.and_eq_true, beq_iff_eq] at hB
    exact hB.1
  have hpos : ∀ (listed : Array Bool) (f : Nat → Value) (w : World), ExtInv ops C T n listed f w → 0 < unl listed := by
    intro listed f w inv
    have := unl_set inv.open_
    omega
  -- some operation is ready
  have hready : ∀ (listed : Array Bool) (f : Nat → Value) (w : World), ExtInv ops C T n listed f w → Region.ready .any ops listed ≠ [] := by
    intro listed f w inv h0
    have key : ∀ k, k ≤ n → listed.getD k true = false → False := by
      intro k
      induction k using Nat.strongRecOn with
      | _ k ih =>
        intro hk hun
        obtain ⟨o, ho, _, haft, _⟩ := extB_at hB hk
        by_cases hall : ∀ e ∈ o.after, listed.getD e.on false = true
        · have : k ∈ Region.ready .any ops listed := mem_ready.2 ⟨hun, o, ho, fun e he _ => hall e he⟩
          rw [h0] at this; cases this
        · have : ∃ e ∈ o.after, listed.getD e.on false ≠ true := Classical.byContradiction fun hc => hall fun e he => Classical.byContradiction fun hn => hc ⟨e, he, hn⟩
          obtain ⟨e, he, hne⟩ := this
          have hlt := (haft e he).1
          refine ih e.on hlt (by omega) ?_
          have hin : e.on < listed.size := by rw [inv.size, hsz]; omega
          simp [hin] at hne ⊢
          exact hne
    exact key n (Nat.le_refl _) inv.open_
  intro fuel
  induction fuel with
  | zero =>
    intro listed f w inv h0
    have := hpos listed f w inv
    omega
  | succ fuel ih =>
    intro listed f w inv hu
    refine ⟨fun h0 => absurd h0 (hready listed f w inv), fun i hi => ?_⟩
    obtain ⟨hun, o, ho, hall⟩ := mem_ready.1 hi
    have hilt : i < ops.size := (Array.getElem?_eq_some_iff.1 ho).1
    obtain ⟨o', ho', hg, haft, hdst, hlast⟩ := extB_at hB (i := i) (by omega)
    obtain rfl : o' = o := Option.some.inj (ho'.symm.trans ho)
    have hlisted : ∀ e ∈ o'.after, listed.getD e.on false = true := fun e he => hall e he (haft e he).2
    unfold wpOp
    rw [ho]
    have hw : Region.wanted o' (yielded ops (fr l ds df f).tmps) = true := by simp [Region.wanted, hg]
    simp only [hw, if_true]
    left
    by_cases hin : i < n
    · obtain ⟨d, hd, hdm, hdu⟩ := hdst hin
      have hx := exec i o' d hin ho hd f w inv.cls (fun e he d' hd' => inv.known e.on d' (by have := (haft e he).1; omega) hd' (hlisted e he))
      refine Oper.wp_mono (fun a' w' hk => ?_) hx
      obtain ⟨v, rfl, hE, hC, hT⟩ := hk
      rw [fr_put _ _ _ _ _ _ hdm]
      refine ih _ _ _ ⟨by simpa using inv.size, hC, fun j d' hj hd' hl => ?_, by rw [getD_set_ne true (by omega)]; exact inv.open_⟩ (by have := unl_set hun; omega)
      by_cases hji : j = i
      · subst hji
        have : d' = d := by
          have : dstOf ops j = some d := by simp [dstOf, ho, hd]
          rw [this] at hd'; injection hd' with h; exact h.symm
        subst this
        simpa using hT
      · have hne : d' ≠ d := fun e => hdu j hj hji (e ▸ hd')
        rw [getD_set_ne false (Ne.symm hji)] at hl
        simp only [if_neg hne]
        exact hst d' _ w w' inv.cls hE (inv.known j d' hj hd' hl)
    · have hin' : i = n := by omega
      have hall' : ∀ j d, j < n → dstOf ops j = some d → T d (f d) w := fun j d hj hd => by
        obtain ⟨e, he, rfl⟩ := hlast hin' j hj
        exact inv.known _ d hj hd (hlisted e he)
      have hx := last o' (hin' ▸ ho) f w inv.cls hall'
      refine Oper.wp_mono (fun a' w' hk => ?_) hx
      -- all others are listed
      have hzero : unl (listed.setIfInBounds i true) = 0 := by
        unfold unl
        rw [List.countP_eq_zero]
        intro b hb
        obtain ⟨j, hj, rfl⟩ := List.getElem_of_mem hb
        have hjl : j < listed.size := by simpa using hj
        by_cases hji : i = j
        · subst hji; simp
        · have hjn : j < n := by rw [inv.size, hsz] at hjl; omega
          obtain ⟨e, he, rfl⟩ := hlast hin' j hjn
          have := hlisted e he
          simp [hjl] at this
          simp [hji, this]
      have hf0 : fuel = 0 := by have := unl_set hun; omega
      subst hf0
      refine ⟨?_, hk⟩
      apply List.eq_nil_iff_forall_not_mem.2
      intro j hj
      obtain ⟨hjun, oj, hoj, _⟩ := mem_ready.1 hj
      have hjs : j < ops.size := (Array.getElem?_eq_some_iff.1 hoj).1
      have hjl : j < listed.size := by rw [inv.size]; exact hjs
      by_cases hji : i = j
      · subst hji
        simp [hjl] at hjun
      · obtain ⟨e, he, rfl⟩ := hlast hin' j (by omega)
        have h1 := hlisted e he
        rw [getD_set_ne true hji] at hjun
        simp [hjl] at h1 hjun
        rw [h1] at hjun; cases hjun

theorem wp_region_ext {id : Nat} {w : World} (hm : P.follows .mixedOrders = true) (n : Nat) (ds : List Nat) (C : World → Prop) (E : World → World → Prop) (T : Nat → Value → World → Prop)
    (hB : extB ops n ds = true) (hC : C w.drew)
    (hst : ∀ d v w w', C w → E w w' → T d v w → T d v w')
    (exec : ∀ i o d, i < n → ops[i]? = some o → o.dst = some d → ∀ f w, C w → (∀ e ∈ o.after, ∀ d', dstOf ops e.on = some d' → T d' (f d') w) →
      ∀ K : Act → World → Prop, (∀ v w', E w w' → C w' → T d v w' → K ((fr l ds df f).put (some d) v) w') → o.wp P (fr l ds df f) w K Q)
    (last : ∀ o, ops[n]? = some o → ∀ f w, C w → (∀ i d, i < n → dstOf ops i = some d → T d (f d) w) → ∀ K : Act → World → Prop, (∀ a w, Q .normal a w → K a w) → o.wp P (fr l ds df f) w K Q) :
    (Code.region id ops true).wp P Q { tmps := l.toArray, defers := df } w := by
  have hsz : ops.size = n + 1 := by
    unfold extB at hB
    simp only [Bool.and_eq_true, beq_iff_eq] at hB
    exact hB.1
  refine wp_region_any hm ?_
  rw [← fr_start l ds df]
  refine ext_main hB hst (fun i o d hi ho hd f w hC hdep => exec i o d hi ho hd f w hC hdep _ (fun v w' h1 h2 h3 => ⟨v, rfl, h1, h2, h3⟩)) (fun o ho f w hC hall => last o ho f w hC hall _ (fun _ _ h => h)) _ _ _ _ ⟨by simp, hC, fun i d _ _ h => ?_, by simp [hsz]⟩ ?_
  · rw [show (Array.replicate ops.size false).getD i false = false by rcases Nat.lt_or_ge i ops.size with h | h <;> simp [h]] at h
    cases h
  · unfold unl; simp [List.countP_replicate]

/-- What the kernel checks of a region all of whose operations have a slot of their own. -/
def ext0B (ops : Array Oper) (n : Nat) (ds : List Nat) : Bool :=
  (ops.size == n) && (List.range n).all (fun i => match ops[i]? with
    | none => false
    | some o => o.guard.isNone && o.after.all (fun e => decide (e.on < i)) &&
      (match o.dst with | none => false | some d => ds.contains d && (List.range n).all (fun j => decide (j = i) || !(dstOf ops j == some d))))

theorem ext0B_at (hB : ext0B ops n ds = true) {i : Nat} (hi : i < n) : ∃ o d, ops[i]? = some o ∧ o.guard = none ∧ (∀ e ∈ o.after, e.on < i) ∧
    o.dst = some d ∧ ds.contains d = true ∧ ∀ j, j < n → j ≠ i → dstOf ops j ≠ some d := by
  unfold ext0B at hB
  simp only [Bool.and_eq_true, beq_iff_eq, List.all_eq_true, List.mem_range] at hB
  have h := hB.2 i hi
  cases ho : ops[i]? with
  | none => rw [ho] at h; simp at h
  | some o =>
    rw [ho] at h
    simp only [Bool.and_eq_true] at h
    obtain ⟨⟨h1, h2⟩, h3⟩ := h
    cases hd : o.dst with
    | none => rw [hd] at h3; simp at h3
    | some d =>
      rw [hd] at h3
      simp only [Bool.and_eq_true, List.all_eq_true, List.mem_range] at h3
      refine ⟨o, d, rfl, by simpa using h1, fun e he => ?_, hd, h3.1, fun j hj hne he => ?_⟩
      · have := Array.all_eq_true_iff_forall_mem.1 h2 e he
        simpa using this
      · have := h3.2 j hj
        simp [hne, he] at this

theorem ext0_main (hB : ext0B ops n ds = true)
    (hst : ∀ d v w w', C w → E w w' → T d v w → T d v w')
    (exec : ∀ i o d, i < n → ops[i]? = some o → o.dst = some d → ∀ f w, C w → (∀ e ∈ o.after, Region.binds .any e = true → ∀ d', dstOf ops e.on = some d' → T d' (f d') w) →
      o.wp P (fr l ds df f) w (fun a' w' => ∃ v, a' = (fr l ds df f).put (some d) v ∧ E w w' ∧ C w' ∧ T d v w') Q)
    (fin : ∀ f w, C w → (∀ i d, i < n → dstOf ops i = some d → T d (f d) w) → Q .normal (fr l ds df f) w) :
    ∀ (fuel : Nat) (listed : Array Bool) (f : Nat → Value) (w : World), listed.size = n → C w → (∀ i d, i < n → dstOf ops i = some d → listed.getD i false = true → T d (f d) w) → unl listed = fuel →
      wpAny P .any ops Q fuel listed (fr l ds df f) w := by
  have hsz : ops.size = n := by
    unfold ext0B at hB
    simp only [Bool.and_eq_true, beq_iff_eq] at hB
    exact hB.1
  have hall : ∀ (listed : Array Bool), listed.size = n → unl listed = 0 → ∀ i, i < n → listed.getD i false = true := by
    intro listed hl h0 i hi
    unfold unl at h0
    have := List.countP_eq_zero.1 h0 (listed[i]'(by omega)) (by simp)
    simp [show i < listed.size by omega]
    simpa using this
  intro fuel
  induction fuel with
  | zero =>
    intro listed f w hl hC hk hu
    refine ⟨?_, fin f w hC (fun i d hi hd => hk i d hi hd (hall listed hl hu i hi))⟩
    apply List.eq_nil_iff_forall_not_mem.2
    intro j hj
    obtain ⟨hjun, oj, hoj, _⟩ := mem_ready.1 hj
    have hjs : j < n := by rw [← hsz]; exact (Array.getElem?_eq_some_iff.1 hoj).1
    have h1 := hall listed hl hu j hjs
    simp [show j < listed.size by omega] at h1 hjun
    rw [h1] at hjun; cases hjun
  | succ fuel ih =>
    intro listed f w hl hC hk hu
    have hready : Region.ready .any ops listed ≠ [] := by
      intro h0
      have key : ∀ k, k < n → listed.getD k true = false → False := by
        intro k
        induction k using Nat.strongRecOn with
        | _ k ihk =>
          intro hk hun
          obtain ⟨o, d, ho, _, haft, _⟩ := ext0B_at hB hk
          by_cases ha : ∀ e ∈ o.after, listed.getD e.on false = true
          · have : k ∈ Region.ready .any ops listed := mem_ready.2 ⟨hun, o, ho, fun e he _ => ha e he⟩
            rw [h0] at this; cases this
          · have : ∃ e ∈ o.after, listed.getD e.on false ≠ true := Classical.byContradiction fun hc => ha fun e he => Classical.byContradiction fun hn => hc ⟨e, he, hn⟩
            obtain ⟨e, he, hne⟩ := this
            have hlt := haft e he
            refine ihk e.on hlt (by omega) ?_
            have hin : e.on < listed.size := by omega
            simp [hin] at hne ⊢
            exact hne
      have hz : unl listed = 0 := by
        unfold unl
        rw [List.countP_eq_zero]
        intro b hb
        obtain ⟨j, hj, rfl⟩ := List.getElem_of_mem hb
        have hjl : j < listed.size := by simpa using hj
        have : ¬ listed.getD j true = false := fun h => key j (by omega) h
        simp [hjl] at this ⊢
        exact this
      omega
    refine ⟨fun h0 => absurd h0 hready, fun i hi => ?_⟩
    obtain ⟨hun, o, ho, hal⟩ := mem_ready.1 hi
    have hilt : i < n := by rw [← hsz]; exact (Array.getElem?_eq_some_iff.1 ho).1
    obtain ⟨o', d, ho', hg, haft, hd, hdm, hdu⟩ := ext0B_at hB hilt
    obtain rfl : o' = o := Option.some.inj (ho'.symm.trans ho)
    have hlisted : ∀ e ∈ o'.after, Region.binds .any e = true → listed.getD e.on false = true := fun e he hb => hal e he hb
    unfold wpOp
    rw [ho]
    have hw : Region.wanted o' (yielded ops (fr l ds df f).tmps) = true := by simp [Region.wanted, hg]
    simp only [hw, if_true]
    left
    have hx := exec i o' d hilt ho hd f w hC (fun e he hb d' hd' => hk e.on d' (by have := haft e he; omega) hd' (hlisted e he hb))
    refine Oper.wp_mono (fun a' w' hk' => ?_) hx
    obtain ⟨v, rfl, hE, hC', hT⟩ := hk'
    rw [fr_put _ _ _ _ _ _ hdm]
    refine ih _ _ _ (by simpa using hl) hC' (fun j d' hj hd' hlj => ?_) (by have := unl_set hun; omega)
    by_cases hji : j = i
    · subst hji
      have : d' = d := by
        have : dstOf ops j = some d := by simp [dstOf, ho, hd]
        rw [this] at hd'; injection hd' with h; exact h.symm
      subst this
      simpa using hT
    · have hne : d' ≠ d := fun e => hdu j hj hji (e ▸ hd')
      rw [getD_set_ne false (Ne.symm hji)] at hlj
      simp only [if_neg hne]
      exact hst d' _ w w' hC hE (hk j d' hj hd' hlj)

theorem wp_region_ext0 {id : Nat} {w : World} (hm : P.follows .mixedOrders = true) (n : Nat) (ds : List Nat) (C : World → Prop) (E : World → World → Prop) (T : Nat → Value → World → Prop)
    (hB : ext0B ops n ds = true) (hC : C w.drew)
    (hst : ∀ d v w w', C w → E w w' → T d v w → T d v w')
    (exec : ∀ i o d, i < n → ops[i]? = some o → o.dst = some d → ∀ f w, C w → (∀ e ∈ o.after, Region.binds .any e = true → ∀ d', dstOf ops e.on = some d' → T d' (f d') w) →
      ∀ K : Act → World → Prop, (∀ v w', E w w' → C w' → T d v w' → K ((fr l ds df f).put (some d) v) w') → o.wp P (fr l ds df f) w K Q)
    (fin : ∀ f w, C w → (∀ i d, i < n → dstOf ops i = some d → T d (f d) w) → Q .normal (fr l ds df f) w) :
    (Code.region id ops true).wp P Q { tmps := l.toArray, defers := df } w := by
  have hsz : ops.size = n := by
    unfold ext0B at hB
    simp only [Bool.and_eq_true, beq_iff_eq] at hB
    exact hB.1
  refine wp_region_any hm ?_
  rw [← fr_start l ds df]
  refine ext0_main hB hst (fun i o d hi ho hd f w hC hdep => exec i o d hi ho hd f w hC hdep _ (fun v w' h1 h2 h3 => ⟨v, rfl, h1, h2, h3⟩)) fin _ _ _ _ (by simp [hsz]) hC (fun i d _ _ h => ?_) ?_
  · rw [show (Array.replicate ops.size false).getD i false = false by rcases Nat.lt_or_ge i ops.size with h | h <;> simp [h]] at h
    cases h
  · unfold unl; simp [List.countP_replicate]
end
end Go.Proofs.YtglhplddjjoggaaDoor

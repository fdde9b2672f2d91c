/-
  A region that draws its order, of which some operations write no slot; and the one operation append.
-/
import Derived.Test.YtpeifmkodoignaaDoorExt2
import Derived.Test.YtpeifmkodoignaaDoorNet
namespace Go.Proofs.YtpeifmkodoignaaDoor
open Go

section
variable {P : Program} {ops : Array Oper} {Q : Exit → Act → World → Prop} {l : List Value} {df : List Deferred}
theorem ext2B_own {n : Nat} {ds : List Nat} (hB : ext2B ops n ds = true) {i : Nat} (hi : i < n) {o : Oper} {d : Nat} (ho : ops[i]? = some o) (hd : o.dst = some d) : ∀ j, j < n → j ≠ i → dstOf ops j ≠ some d := by
  unfold ext2B at hB
  simp only [Bool.and_eq_true, beq_iff_eq, List.all_eq_true, List.mem_range] at hB
  have h := hB.2 i hi
  rw [ho] at h
  simp only [Bool.and_eq_true] at h
  have h3 := h.2
  rw [hd] at h3
  simp only [Bool.and_eq_true, List.all_eq_true, List.mem_range] at h3
  intro j hj hne he
  have := h3.2 j hj
  simp [hne, he] at this
/-- As wp_region_extX, where some operations write no slot. -/
theorem wp_region_ext2X {id : Nat} {w : World} (hm : P.follows .mixedOrders = true) (n : Nat) (ds : List Nat) (E : World → World → Prop) (T : Nat → Value → World → Prop) (X : (Nat → Bool) → (Nat → Value) → World → Prop)
    (hB : ext2B ops n ds = true) (hX : X (fun _ => false) (fun t => (l[t]?).getD undef) w.drew)
    (hst : ∀ d v w w', E w w' → T d v w → T d v w')
    (exec : ∀ i o, i < n → ops[i]? = some o → ∀ dn f w, X dn f w → (∀ j d', j < n → dstOf ops j = some d' → dn j = true → T d' (f d') w) → dn i = false → (∀ e ∈ o.after, Region.binds .any e = true → dn e.on = true) →
      ∀ K : Act → World → Prop, (∀ v w', E w w' → (∀ d, o.dst = some d → T d v w') → X (fun j => dn j || decide (j = i)) (nextF f o.dst v) w' → K ((fr l ds df f).put o.dst v) w') → o.wp P (fr l ds df f) w K Q)
    (fin : ∀ dn f w, X dn f w → (∀ i, i < n → dn i = true) → (∀ i d, i < n → dstOf ops i = some d → T d (f d) w) → Q .normal (fr l ds df f) w) :
    (Code.region id ops true).wp P Q { tmps := l.toArray, defers := df } w := by
  refine wp_region_gen2 hm n ds (fun dn f w => X dn f w ∧ ∀ j d', j < n → dstOf ops j = some d' → dn j = true → T d' (f d') w) hB ⟨hX, fun j d' _ _ h => by cases h⟩ ?_ (fun dn f w h hall => fin dn f w h.1 hall (fun i d hi hd => h.2 i d hi hd (hall i hi)))
  intro i o hi ho dn f w h hni hdep K hK
  refine exec i o hi ho dn f w h.1 h.2 hni hdep K (fun v w' hE hT hX' => hK v w' ⟨hX', fun j d' hj hd' hdn => ?_⟩)
  by_cases hji : j = i
  · subst hji
    have hd : o.dst = some d' := by simpa [dstOf, ho] using hd'
    have := hT d' hd
    unfold nextF
    rw [hd]
    simpa using this
  · have hdn' : dn j = true := by simpa [hji] using hdn
    have ht := hst d' _ w w' hE (h.2 j d' hj hd' hdn')
    cases hd : o.dst with
    | none => exact ht
    | some d =>
      have hne : d' ≠ d := fun e => ext2B_own hB hi ho hd j hj hji (e ▸ hd')
      unfold nextF
      simp only [if_neg hne]
      exact ht
end

theorem wp_append {P : Program} {o : Oper} {a : Act} {w w' : World} {K : Act → World → Prop} {Q : Exit → Act → World → Prop} (s x : Operand) (t : TypeId)
    (ho : o.op = .call { callee := .builtin .append, args := #[s, x], argTypes := #[t, t] }) {vs vx v : Value} (hs : a.eval s = vs) (hx : a.eval x = vx)
    (hr : (Builtin.append_ #[t, t] o.type #[vs, vx]).run P w = .ok v w') (h : K (a.put o.dst v) w') : o.wp P a w K Q := by
  unfold Oper.wp execOp
  simp only [ho, resolve, invoke, builtin, Sem.run_bind, Sem.run_pure, Result.andThen_ok, List.map_toArray, List.map_cons, List.map_nil, hs, hx, hr]
  exact h
end Go.Proofs.YtpeifmkodoignaaDoor

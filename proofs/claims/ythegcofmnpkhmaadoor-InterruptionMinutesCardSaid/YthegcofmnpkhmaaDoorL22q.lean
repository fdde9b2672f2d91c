/-
  Time lines, plain: outages minute by minute, node by node; their order.
-/
import Derived.Test.YthegcofmnpkhmaaDoorL22h
namespace Go.Proofs.YthegcofmnpkhmaaDoor
open Go.RowKit
set_option maxHeartbeats 400000

theorem runG_first (f : Nat → Bool) : ∀ (n t : Nat) (fr : Int), 0 ≤ fr → ∃ p ∈ runG f n t fr, p.1 = fr ∧ (t : Int) ≤ p.2
  | 0, t, fr, h => ⟨(fr, t), by rw [runG, if_pos h]; simp, rfl, Int.le_refl _⟩
  | n + 1, t, fr, h => by
    rw [runG]
    by_cases hf : f t = true
    · rw [if_pos hf, if_pos h]
      exact ⟨(fr, t), by simp, rfl, Int.le_refl _⟩
    · rw [if_neg hf, if_neg (by omega)]
      obtain ⟨p, hp, e, hl⟩ := runG_first f n (t + 1) fr h
      exact ⟨p, hp, e, by omega⟩
def covB (s : Nat) (p : Int × Int) : Bool := decide (p.1 ≤ (s : Int)) && decide ((s : Int) < p.2)
theorem runG_cov (f : Nat → Bool) : ∀ (n t : Nat) (fr : Int) (s : Nat), fr < t → t ≤ s → s < t + n → (runG f n t fr).any (covB s) = !f s
  | 0, t, fr, s, _, h1, h2 => by omega
  | n + 1, t, fr, s, h, h1, h2 => by
    rw [runG]
    have hno : ∀ (g : Int), g < 0 → s = t → (runG f n (t + 1) g).any (covB s) = false := fun g hg e => by
      rw [List.any_eq_false]
      intro p hp
      have := (runG_ok f n (t + 1) g (by omega) p hp).2.2.2 hg
      unfold covB
      simp
      omega
    have hyes : ∀ (g : Int), 0 ≤ g → g ≤ (s : Int) → s = t → (runG f n (t + 1) g).any (covB s) = true := fun g hg hgs e => by
      obtain ⟨p, hp, e1, hl⟩ := runG_first f n (t + 1) g hg
      rw [List.any_eq_true]
      refine ⟨p, hp, ?_⟩
      unfold covB
      simp
      omega
    by_cases hf : f t = true
    · rw [if_pos hf]
      by_cases hr : 0 ≤ fr
      · rw [if_pos hr, List.any_cons]
        have h0 : covB s (fr, (t : Int)) = false := by unfold covB; simp; omega
        rw [h0, Bool.false_or]
        by_cases e : s = t
        · rw [hno _ (by omega) e, e, hf]; rfl
        · exact runG_cov f n (t + 1) (-1) s (by omega) (by omega) (by omega)
      · rw [if_neg hr]
        by_cases e : s = t
        · rw [hno _ (by omega) e, e, hf]; rfl
        · exact runG_cov f n (t + 1) fr s (by omega) (by omega) (by omega)
    · rw [if_neg hf]
      have hf' : f t = false := by simpa using hf
      by_cases hr : fr < 0
      · rw [if_pos hr]
        by_cases e : s = t
        · rw [hyes _ (by omega) (by omega) e, e, hf']; rfl
        · exact runG_cov f n (t + 1) t s (by omega) (by omega) (by omega)
      · rw [if_neg hr]
        by_cases e : s = t
        · rw [hyes _ (by omega) (by omega) e, e, hf']; rfl
        · exact runG_cov f n (t + 1) fr s (by omega) (by omega) (by omega)
theorem runG_pair (f : Nat → Bool) : ∀ (n t : Nat) (fr : Int), (runG f n t fr).Pairwise (fun a b => a.2 < b.1)
  | 0, t, fr => by rw [runG]; split <;> simp
  | n + 1, t, fr => by
    rw [runG]
    split
    · split
      · rw [List.pairwise_cons]
        refine ⟨fun b hb => ?_, runG_pair f n (t + 1) (-1)⟩
        have := (runG_ok f n (t + 1) (-1) (by omega) b hb).2.2.2 (by omega)
        show (t : Int) < b.1
        omega
      · exact runG_pair f n (t + 1) fr
    · split
      · exact runG_pair f n (t + 1) t
      · exact runG_pair f n (t + 1) fr
/-- an outage is at a node at a minute -/
def outB (v s : Nat) (o : Out) : Bool := (o.node == (v : Int)) && decide (o.fr ≤ (s : Int)) && decide ((s : Int) < o.til)
theorem outsR_any (ns : List Node) (F : Nat → Nat → Bool) (til v : Nat) (s : Nat) (hs : s < til) (u : Nat) : (outsR ns F til u).any (outB v s) = (decide (u = v) && !decide (custAt ns v = 0) && !F v s) := by
  unfold outsR
  by_cases e : u = v
  · subst e
    split
    · rename_i h
      simp [h]
    · rename_i h
      have := runG_cov (F u) til 0 (-1) s (by omega) (by omega) (by omega)
      rw [List.any_map]
      have e2 : (outB u s ∘ mkOut u (custAt ns u)) = covB s := by
        funext p
        show (((u : Int) == (u : Int)) && decide (p.1 ≤ (s : Int)) && decide ((s : Int) < p.2)) = covB s p
        rw [beq_self_eq_true, Bool.true_and]
        rfl
      rw [e2, this]
      simp [h]
  · split
    · simp [e]
    · rw [List.any_map]
      have e2 : (outB v s ∘ mkOut u (custAt ns u)) = fun _ => false := by
        funext p
        have : ((u : Int) == (v : Int)) = false := by simp; omega
        simp [outB, mkOut, this]
      rw [e2]
      simp [e]
theorem catN_any {α : Type} (h : Nat → List α) (q : α → Bool) : ∀ (k : Nat), (catN h k).any q = (List.range k).any (fun i => (h i).any q)
  | 0 => rfl
  | k + 1 => by
    rw [catN, List.any_append, catN_any h q k, List.range_succ, List.any_append]
    simp
theorem outL_any (ns : List Node) (F : Nat → Nat → Bool) (til v s : Nat) (hs : s < til) (hv : v < ns.length) : (outL ns F til).any (outB v s) = (!decide (custAt ns v = 0) && !F v s) := by
  unfold outL
  rw [catN_any]
  have e : (fun i => (outsR ns F til i).any (outB v s)) = fun i => (decide (i = v) && (!decide (custAt ns v = 0) && !F v s)) := by
    funext i
    rw [outsR_any ns F til v s hs, Bool.and_assoc]
  rw [e]
  cases hb : (!decide (custAt ns v = 0) && !F v s)
  · simp
  · rw [List.any_eq_true]
    exact ⟨v, by simpa using hv, by simp⟩
/-- outages in order -/
def OrdO (a b : Out) : Prop := a.node < b.node ∨ (a.node = b.node ∧ a.til < b.fr)
theorem outsR_ord (ns : List Node) (F : Nat → Nat → Bool) (til u : Nat) : (outsR ns F til u).Pairwise OrdO := by
  unfold outsR
  split
  · exact List.Pairwise.nil
  · rw [List.pairwise_map]
    exact (runG_pair (F u) til 0 (-1)).imp (fun {a b} h => Or.inr ⟨rfl, h⟩)
theorem outsR_node {ns : List Node} {F : Nat → Nat → Bool} {til u : Nat} : ∀ o ∈ outsR ns F til u, o.node = u := by
  intro o ho
  unfold outsR at ho
  split at ho
  · simp at ho
  · obtain ⟨p, _, rfl⟩ := List.mem_map.1 ho
    rfl
theorem catN_ord (ns : List Node) (F : Nat → Nat → Bool) (til : Nat) : ∀ (k : Nat), (catN (outsR ns F til) k).Pairwise OrdO
  | 0 => List.Pairwise.nil
  | k + 1 => by
    rw [catN, List.pairwise_append]
    refine ⟨catN_ord ns F til k, outsR_ord ns F til k, fun a ha b hb => ?_⟩
    obtain ⟨i, hi, ha⟩ := catN_mem ha
    have e1 := outsR_node a ha
    have e2 := outsR_node b hb
    exact Or.inl (by omega)
theorem outL_ord (ns : List Node) (F : Nat → Nat → Bool) (til : Nat) {i : Nat} (hi : i + 1 < (outL ns F til).length) : OrdO (outL ns F til)[i] (outL ns F til)[i + 1] := by
  have h : (outL ns F til).Pairwise OrdO := catN_ord ns F til ns.length
  exact List.pairwise_iff_getElem.1 h i (i + 1) (by omega) hi (by omega)
/-- customers without supply at a minute, of the first k nodes -/
def downC (ns : List Node) (F : Nat → Nat → Bool) (s k : Nat) : Int := sumC ns (fun v => if F v s = true then 0 else 1) k
/-- customer minutes of the first t minutes -/
def totT (ns : List Node) (F : Nat → Nat → Bool) : Nat → Int
  | 0 => 0
  | t + 1 => totT ns F t + downC ns F t ns.length
theorem totT_sum (ns : List Node) (F : Nat → Nat → Bool) : ∀ (t : Nat), totT ns F t = sumC ns (fun v => cntG (F v) t 0) ns.length
  | 0 => by
    rw [totT]
    have : ∀ k, sumC ns (fun v => cntG (F v) 0 0) k = 0 := fun k => by
      induction k with
      | zero => rfl
      | succ k ih => rw [sumC, ih, cntG]; simp
    rw [this]
  | t + 1 => by
    rw [totT, totT_sum ns F t, downC, ← sumC_add]
    refine sumC_congr ns _ (fun v _ => ?_)
    rw [cntG_add (F v) t 1 0]
    congr 1
    rw [cntG, cntG, Nat.zero_add, Int.add_zero]
theorem downC_succ (ns : List Node) (F : Nat → Nat → Bool) (s k : Nat) : downC ns F s (k + 1) = downC ns F s k + custAt ns k * (if F k s = true then 0 else 1) := rfl
theorem downC_bound {ns : List Node} (hc : ∀ x ∈ ns, 0 ≤ x.cust ∧ x.cust ≤ 1048576) (F : Nat → Nat → Bool) (s : Nat) : ∀ (k : Nat), k ≤ ns.length → 0 ≤ downC ns F s k ∧ downC ns F s k ≤ 1048576 * k
  | 0, _ => by simp [downC, sumC]
  | k + 1, h => by
    have ih := downC_bound hc F s k (by omega)
    have e : custAt ns k = ns[k].cust := custAt_nat (by omega)
    have := hc ns[k] (List.getElem_mem (by omega))
    rw [downC_succ]
    split <;> omega
theorem totT_bound {ns : List Node} (hc : ∀ x ∈ ns, 0 ≤ x.cust ∧ x.cust ≤ 1048576) (hn : ns.length ≤ 5) (F : Nat → Nat → Bool) : ∀ (t : Nat), 0 ≤ totT ns F t ∧ totT ns F t ≤ 5242880 * t
  | 0 => by simp [totT]
  | t + 1 => by
    have ih := totT_bound hc hn F t
    have := downC_bound hc F t ns.length (Nat.le_refl _)
    rw [totT]
    omega
end Go.Proofs.YthegcofmnpkhmaaDoor

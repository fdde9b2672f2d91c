/-
  Plain facts of ways: a way leads to its end, over devices that may be used, and passes no node twice.
-/
import Derived.Test.YtpeifmkodoignaaDoorPGood
namespace Go.Proofs.YtpeifmkodoignaaDoor
open Go.RowKit

theorem stepZ_spec {dist : List Int} {v i u : Nat} : ∀ {zs : List (Dev × Bool)} {k : Nat}, stepZ dist v zs k = some (i, u) → k ≤ i ∧ ∃ d, zs[i - k]? = some (d, true) ∧ acrossL d v = u ∧ PO.at_ dist u = PO.at_ dist v - 1
  | [], k, h => by simp [stepZ] at h
  | z :: zs, k, h => by
    simp only [stepZ] at h
    split at h
    · rename_i hc
      injection h with h
      injection h with h1 h2
      subst h1 h2
      refine ⟨Nat.le_refl _, z.1, by rw [Nat.sub_self]; obtain ⟨d, b⟩ := z; simp at hc ⊢; exact hc.2.1, by omega, hc.2.2⟩
    · obtain ⟨h1, d, h2, h3⟩ := stepZ_spec h
      refine ⟨by omega, d, ?_, h3⟩
      rw [show i - k = (i - (k + 1)) + 1 by omega]
      simpa using h2
theorem stepZ_at {dist : List Int} {v i u : Nat} {ds : List Dev} {use : List Bool} (hl : use.length = ds.length) (h : stepZ dist v (ds.zip use) 0 = some (i, u)) : ∃ (h1 : i < ds.length) (h2 : i < use.length), use[i] = true ∧ acrossL ds[i] v = u ∧ PO.at_ dist u = PO.at_ dist v - 1 := by
  obtain ⟨_, d, h1, h2, h3⟩ := stepZ_spec h
  rw [Nat.sub_zero] at h1
  have hi := (List.getElem?_eq_some_iff.1 h1).1
  have hi' : i < ds.length := by simp at hi; omega
  have e := (List.getElem?_eq_some_iff.1 h1).2
  rw [List.getElem_zip] at e
  injection e with e1 e2
  exact ⟨hi', by omega, e2, by rw [e1]; exact h2, h3⟩
theorem trailZ_len {dist : List Int} {zs : List (Dev × Bool)} (hp : ∀ v, 0 < PO.at_ dist v → (stepZ dist v zs 0).isSome = true) : ∀ (f v : Nat), PO.at_ dist v = f → (trailZ dist zs f v).1.length = f
  | 0, v, _ => rfl
  | f + 1, v, h => by
    have hs := hp v (by omega)
    obtain ⟨⟨i, u⟩, hiu⟩ := Option.isSome_iff_exists.1 hs
    simp only [trailZ, hiu]
    obtain ⟨_, d, _, _, h3⟩ := stepZ_spec hiu
    have := trailZ_len hp f u (by omega)
    simp [this]

/-- The way in a network without error. -/
theorem wayL_ok {ns : List Node} {ds : List Dev} {use : List Bool} {a b : Nat} (hc : checkL ns ds = 0) (hl : use.length = ds.length) (ha : a < ns.length) (hb : b < ns.length) :
    wayL ns ds use a b = if PO.at_ (distL ds use [b]) a < 0 then ([], false, 0) else ((trailZ (distL ds use [b]) (ds.zip use) (PO.at_ (distL ds use [b]) a).toNat a).1, true, 0) := by
  unfold wayL
  rw [if_neg (by simpa using hc), if_neg (by simpa using hl), if_neg]
  · simp only [Int.toNat_natCast]
  · simp [existsB]; omega
theorem way_len {ns : List Node} {ds : List Dev} {use : List Bool} {a b : Nat} (hc : checkL ns ds = 0) (ha : a < ns.length) (hb : b < ns.length) (h : 0 ≤ PO.at_ (distL ds use [b]) a) :
    ((trailZ (distL ds use [b]) (ds.zip use) (PO.at_ (distL ds use [b]) a).toNat a).1.length : Int) = PO.at_ (distL ds use [b]) a := by
  have hD := checkL_zero hc
  have := trailZ_len (dist_step hD (by omega) use [b] (by simpa using hb)) (PO.at_ (distL ds use [b]) a).toNat a (by omega)
  rw [this]; omega
theorem way_back {ns : List Node} {ds : List Dev} {use : List Bool} {a b : Nat} (hc : checkL ns ds = 0) (ha : a < ns.length) (hb : b < ns.length) : PO.at_ (distL ds use [b]) a = PO.at_ (distL ds use [a]) b := by
  have hD := checkL_zero hc
  exact PO.Dist.symm (nbZ_symm hD use) (dist_ok hD (by omega) use [b] (by simpa using hb)) (dist_ok hD (by omega) use [a] (by simpa using ha))
theorem way_more {ns : List Node} {ds : List Dev} {use more : List Bool} {a b : Nat} (hc : checkL ns ds = 0) (ha : a < ns.length) (hb : b < ns.length) (hm : ∀ d, (d, true) ∈ ds.zip use → (d, true) ∈ ds.zip more) (h : 0 ≤ PO.at_ (distL ds use [b]) a) :
    0 ≤ PO.at_ (distL ds more [b]) a ∧ PO.at_ (distL ds more [b]) a ≤ PO.at_ (distL ds use [b]) a := by
  have hD := checkL_zero hc
  refine PO.Dist.mono (fun u v hv => ?_) (dist_ok hD (by omega) use [b] (by simpa using hb)) (dist_ok hD (by omega) more [b] (by simpa using hb)) a h
  obtain ⟨d, hz, he⟩ := mem_nbZ.1 hv
  exact mem_nbZ.2 ⟨d, hm d hz, he⟩
theorem way_self {ns : List Node} {ds : List Dev} {use : List Bool} {a : Nat} (hc : checkL ns ds = 0) (ha : a < ns.length) : PO.at_ (distL ds use [a]) a = 0 := by
  have hD := checkL_zero hc
  exact ((dist_ok hD (by omega) use [a] (by simpa using ha)).zero a).2 (by simp)
theorem zip_more {ds : List Dev} {use more : List Bool} (h1 : use.length = ds.length) (h2 : more.length = ds.length) (h : ∀ i (h1 : i < use.length) (h2 : i < more.length), use[i] = true → more[i] = true) (d : Dev) (hd : (d, true) ∈ ds.zip use) : (d, true) ∈ ds.zip more := by
  obtain ⟨i, hi, e⟩ := List.getElem_of_mem hd
  have hi' : i < ds.length := by simp at hi; omega
  rw [List.getElem_zip] at e
  injection e with e1 e2
  have := h i (by omega) (by omega) e2
  rw [List.mem_iff_getElem]
  exact ⟨i, by simp; omega, by rw [List.getElem_zip, e1, this]⟩
end Go.Proofs.YtpeifmkodoignaaDoor

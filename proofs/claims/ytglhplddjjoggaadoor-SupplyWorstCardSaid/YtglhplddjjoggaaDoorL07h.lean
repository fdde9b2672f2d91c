/-
  What the laws over colours share: the state behind mk.State, Colours, Parts, Faults of a network without error.
-/
import Derived.Test.YtglhplddjjoggaaDoorL07a
import Derived.Test.YtglhplddjjoggaaDoorPCol
import Derived.Test.YtglhplddjjoggaaDoorMk
import Derived.Test.YtglhplddjjoggaaDoorRChk3
import Derived.Test.YtglhplddjjoggaaDoorObs
import Derived.BigQuiet
namespace Go.Proofs.YtglhplddjjoggaaDoor
open Go.RowKit
set_option maxHeartbeats 400000
set_option maxRecDepth 100000

def mixL (Z X : List Int) (k : Nat) : List Int := Z.take k ++ X.drop k
theorem mixL_len {Z X : List Int} (h : Z.length = X.length) (k : Nat) : (mixL Z X k).length = X.length := by
  simp [mixL]; omega
theorem mixL_get {Z X : List Int} (h : Z.length = X.length) (k i : Nat) (hi : i < X.length) : (mixL Z X k)[i]'(by rw [mixL_len h]; exact hi) = if i < k then Z[i]'(by omega) else X[i] := by
  unfold mixL
  rw [List.getElem_append]
  by_cases hik : i < k
  · rw [dif_pos (by simp; omega), if_pos hik, List.getElem_take]
  · rw [dif_neg (by simp; omega), if_neg hik, List.getElem_drop]
    congr 1
    simp
    omega
theorem mixL_at {Z X : List Int} (h : Z.length = X.length) (k : Nat) (hk : k < X.length) : (mixL Z X k)[k]'(by rw [mixL_len h]; exact hk) = X[k] := by
  rw [mixL_get h k k hk, if_neg (by omega)]
theorem mixL_set {Z X : List Int} (h : Z.length = X.length) (k : Nat) (hk : k < X.length) : (mixL Z X k).set k (Z[k]'(by omega)) = mixL Z X (k + 1) := by
  refine List.ext_getElem (by rw [List.length_set, mixL_len h, mixL_len h]) (fun i h1 h2 => ?_)
  have hi : i < X.length := by rw [mixL_len h] at h2; exact h2
  rw [List.getElem_set, mixL_get h k i hi, mixL_get h (k + 1) i hi]
  by_cases e : k = i
  · subst e; rw [if_pos rfl, if_pos (by omega)]
  · rw [if_neg e]
    by_cases hik : i < k
    · rw [if_pos hik, if_pos (by omega)]
    · rw [if_neg hik, if_neg (by omega)]
theorem mixL_same {Z X : List Int} (h : Z.length = X.length) (k : Nat) (hk : k < X.length) (e : Z[k]'(by omega) = X[k]) : mixL Z X k = mixL Z X (k + 1) := by
  rw [← mixL_set h k hk, e, ← mixL_at h k hk, List.set_getElem_self]
theorem mixL_all {Z X : List Int} (h : Z.length = X.length) (k : Nat) (hk : X.length ≤ k) : mixL Z X k = Z := by
  unfold mixL
  rw [List.take_of_length_le (by omega), List.drop_of_length_le hk, List.append_nil]
theorem mixL_zero (Z X : List Int) : mixL Z X 0 = X := rfl

theorem LS.state {w W W' : World} {M gn : Nat} {A1 A2 : Option Addr} {c1 c2 : Nat} {ns : List Node} {ds : List Dev} (h : LS w W M gn A1 c1 ns A2 c2 ds) (hf : Fr W.heap.size w.heap.size W W') (hd : Deck W' w.heap.size) : LS w W' M gn A1 c1 ns A2 c2 ds :=
  h.fr ⟨hf.os, hf.tape, hf.output, hf.size, fun k hk hn => hf.block k (by have := h.top; omega) hn⟩ hd

theorem Colours_len (w : World) (h : TabC w) (ht : Tab w) (S : Nat → Prop) (A1 A2 : Option Addr) (c1 c2 : Nat) (ns : List Node) (ds : List Dev) (hn : NetIn w S A1 A2 ns ds) (hc : checkL ns ds = 0)
    (U : Option Addr) (m cu : Nat) (st : List Int) (hm : m = st.length) (hs : SI w S U st) (hl : st.length = ds.length) (hp : ∀ x ∈ st, x = 1 ∨ x = 2) :
    Calls Tryd.prog 73 #[.agg #[.slice A1 ns.length c1, .slice A2 ds.length c2], .slice U m cu] w fun e w' =>
      ∃ A c, e = .returned (.tuple #[.slice A ns.length c, .int .i64 0]) ∧ SI w' (fun _ => True) A (colL ds st (partsL ns.length ds st)) ∧ Below w.heap.size w w' := by
  have hD := checkL_zero hc
  have HA := Colours_any w h ht S A1 A2 c1 c2 ns ds hn (by have := hD.few; omega) (by have := hD.dev; omega) U cu st hs (by have := hD.dev; omega)
  rw [colours_ok hc hl hp] at HA
  subst hm
  refine HA.mono ?_
  rintro e w' ⟨A, c, rfl, ho, hb⟩
  exact ⟨A, c, by simp [colL_len, partsL_len], (OI.si ho).mono (fun _ _ _ => trivial), hb⟩
theorem Parts_len (w : World) (h : TabC w) (ht : Tab w) (S : Nat → Prop) (A1 A2 : Option Addr) (c1 c2 : Nat) (ns : List Node) (ds : List Dev) (hn : NetIn w S A1 A2 ns ds) (hc : checkL ns ds = 0)
    (U : Option Addr) (m cu : Nat) (st : List Int) (hm : m = st.length) (hs : SI w S U st) (hl : st.length = ds.length) (hp : ∀ x ∈ st, x = 1 ∨ x = 2) :
    Calls Tryd.prog 71 #[.agg #[.slice A1 ns.length c1, .slice A2 ds.length c2], .slice U m cu] w fun e w' =>
      ∃ A c, e = .returned (.tuple #[.slice A ns.length c, .int .i64 0]) ∧ SI w' (fun _ => True) A (partsL ns.length ds st) ∧ Below w.heap.size w w' := by
  have hD := checkL_zero hc
  have HA := Parts_any w h ht S A1 A2 c1 c2 ns ds hn (by have := hD.few; omega) (by have := hD.dev; omega) U cu st hs (by have := hD.dev; omega)
  rw [parts_ok hc hl hp] at HA
  subst hm
  refine HA.mono ?_
  rintro e w' ⟨A, c, rfl, ho, hb⟩
  exact ⟨A, c, by simp [partsL_len], (OI.si ho).mono (fun _ _ _ => trivial), hb⟩
theorem flt_len : ∀ (cs : List Int) (k : Nat), (flt cs k).length ≤ cs.length
  | [], _ => Nat.le_refl _
  | c :: cs, k => by
    have := flt_len cs (k + 1)
    unfold flt
    split <;> simp <;> omega
theorem Faults_len (w : World) (h : TabC w) (ht : Tab w) (S : Nat → Prop) (A1 A2 : Option Addr) (c1 c2 : Nat) (ns : List Node) (ds : List Dev) (hn : NetIn w S A1 A2 ns ds) (hc : checkL ns ds = 0)
    (U : Option Addr) (m cu : Nat) (st : List Int) (hm : m = st.length) (hs : SI w S U st) (hl : st.length = ds.length) (hp : ∀ x ∈ st, x = 1 ∨ x = 2) :
    Calls Tryd.prog 77 #[.agg #[.slice A1 ns.length c1, .slice A2 ds.length c2], .slice U m cu] w fun e w' =>
      ∃ A c fl, e = .returned (.tuple #[.slice A fl.length c, .int .i64 0]) ∧ fl = flt (colL ds st (partsL ns.length ds st)) 0 ∧ SI w' (fun _ => True) A fl ∧ Below w.heap.size w w' := by
  have hD := checkL_zero hc
  have HA := Faults_any w h ht S A1 A2 c1 c2 ns ds hn (by have := hD.few; omega) (by have := hD.dev; omega) U cu st hs (by have := hD.dev; omega)
  unfold faultsE at HA
  rw [colours_ok hc hl hp] at HA
  subst hm
  refine HA.mono ?_
  rintro e w' ⟨A, c, rfl, ho, hb⟩
  exact ⟨A, c, _, rfl, rfl, (OI.si ho).mono (fun _ _ _ => trivial), hb⟩
end Go.Proofs.YtglhplddjjoggaaDoor

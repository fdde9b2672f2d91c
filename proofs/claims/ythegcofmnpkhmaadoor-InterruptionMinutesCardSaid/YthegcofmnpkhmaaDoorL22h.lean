/-
  What the laws of interruptions share, plain: made changes are valid, and what Outages gives of them.
-/
import Derived.Test.YthegcofmnpkhmaaDoorGh
import Derived.Test.YthegcofmnpkhmaaDoorGb
import Derived.Test.YthegcofmnpkhmaaDoorR06s
namespace Go.Proofs.YthegcofmnpkhmaaDoor
open Go.RowKit
set_option maxHeartbeats 400000
set_option maxRecDepth 100000

theorem chgE_good {n : Nat} {most : Int} : ∀ (xs : List Chg) (last : Int), (∀ x ∈ xs, last ≤ x.t) → (∀ x ∈ xs, x.t ≤ most ∧ 0 ≤ x.dev ∧ x.dev < n ∧ (x.pos = 1 ∨ x.pos = 2)) → xs.Pairwise (fun a b => a.t ≤ b.t) → chgE n most xs last = 0
  | [], _, _, _, _ => rfl
  | x :: xs, last, h1, h2, h3 => by
    have a := h1 x (by simp)
    have b := h2 x (by simp)
    rw [List.pairwise_cons] at h3
    unfold chgE
    rw [if_neg (by omega), if_neg (by omega), if_neg (by omega)]
    exact chgE_good xs x.t h3.1 (fun y hy => h2 y (by simp [hy])) h3.2
theorem okC_changes {n : Nat} {hi most : Int} {xs : List Chg} (h : OkC n hi xs) (hh : hi ≤ most) (hl : xs.length ≤ 4096) : changesE n most xs = 0 := by
  unfold changesE
  rw [if_neg (by omega)]
  exact chgE_good xs 0 (fun x hx => (h.1 x hx).1) (fun x hx => by have := h.1 x hx; exact ⟨by omega, this.2.2⟩) h.2
theorem okC_check {ns : List Node} {ds : List Dev} {st : List Int} {xs : List Chg} {hi til : Int} (hc : checkL ns ds = 0) (hl : st.length = ds.length) (hp : ∀ x ∈ st, x = 1 ∨ x = 2) (h : OkC ds.length hi xs) (hh : hi < til) (ht : 1 ≤ til) (ht2 : til ≤ 16777216) (hx : xs.length ≤ 4096) :
    checkE ns ds st xs til = 0 := by
  unfold checkE
  rw [mask_ok hc hl hp, if_neg (by simp), if_neg (by omega)]
  exact okC_changes h (by omega) hx
theorem good_outages {ns : List Node} {ds : List Dev} {st : List Int} {xs : List Chg} {hi til : Int} (hc : checkL ns ds = 0) (hl : st.length = ds.length) (hp : ∀ x ∈ st, x = 1 ∨ x = 2) (h : OkC ds.length hi xs) (hh : hi < til) (ht : 1 ≤ til) (ht2 : til ≤ 16777216) (hx : xs.length ≤ 4096) :
    outagesE ns ds st xs til = (outL ns (supF ns ds st xs) til.toNat, 0) := by
  unfold outagesE
  rw [okC_check hc hl hp h hh ht ht2 hx, if_neg (by simp)]
theorem OkO.mono {a b : Int} {o : Out} (h : OkO a o) (hab : a ≤ b) : OkO b o := ⟨h.1, h.2.1, by have := h.2.2.1; omega, h.2.2.2⟩
theorem outsE_ok {l : List Out} {til : Int} (h : ∀ o ∈ l, OkO til o) (ht : til ≤ 16777216) (hl : l.length ≤ 4096) : outsE l = 0 := by
  unfold outsE
  rw [if_neg (by omega)]
  exact outErr_ok (fun o ho => (h o ho).mono ht)

theorem longE_ok {l : List Out} (h : outsE l = 0) (k : Int) : longE k l = (longL k l, 0) := by unfold longE; rw [h]; rfl
theorem minutesE_ok {l : List Out} (h : outsE l = 0) : minutesE l = (minL l, 0) := by unfold minutesE; rw [h]; rfl
theorem worstE_ok {l : List Out} (h : outsE l = 0) (hn : l ≠ []) : worstE l = (((bestN (minAt l) l.length : Nat) : Int), true) := by unfold worstE; rw [if_neg (by rintro (e | e); exact hn e; exact e h)]
theorem worstE_nil : worstE [] = (0, false) := rfl
theorem best_is {l : List Out} (hn : l ≠ []) : ∃ h : bestN (minAt l) l.length < l.length, minL l ≤ minO (l[bestN (minAt l) l.length]'h) * l.length := by
  have h0 : 0 < l.length := by cases l with | nil => exact absurd rfl hn | cons a b => simp
  have h := (bestN_lt (minAt l) l.length).2 h0
  refine ⟨h, best_avg l _ (fun o ho => ?_)⟩
  obtain ⟨i, hi, rfl⟩ := List.getElem_of_mem ho
  have := bestN_max (minAt l) l.length i hi
  rw [minAt_get hi, minAt_get h] at this
  exact this

/-- A law's state with a state of the network that was made. -/
def LT (w W : World) (M gn : Nat) (A1 : Option Addr) (c1 : Nat) (ns : List Node) (A2 : Option Addr) (c2 : Nat) (ds : List Dev) (As : Option Addr) (st : List Int) : Prop := LS w W M gn A1 c1 ns A2 c2 ds ∧ SI W (fun g => gn < g) As st
section
variable {w W W' : World} {M gn : Nat} {A1 A2 As : Option Addr} {c1 c2 : Nat} {ns : List Node} {ds : List Dev} {st : List Int}
theorem LT.fr (h : LT w W M gn A1 c1 ns A2 c2 ds As st) (hf : Fr W.heap.size w.heap.size W W') (hd : Deck W' w.heap.size) : LT w W' M gn A1 c1 ns A2 c2 ds As st :=
  ⟨h.1.state hf hd, h.2.keep ⟨hf.size, fun k hk hl => hf.block k hl (by have := h.1.gne; have hk : gn < k := hk; omega)⟩⟩
theorem LT.bl (h : LT w W M gn A1 c1 ns A2 c2 ds As st) (hb : Below W.heap.size W W') : LT w W' M gn A1 c1 ns A2 c2 ds As st := ⟨h.1.below hb, h.2.keep (Kept.of_below hb)⟩
end
end Go.Proofs.YthegcofmnpkhmaaDoor

/-
  What the laws of supply share: awake, and Customers and Lost of a network without error.
-/
import Derived.Test.YtglhplddjjoggaaDoorLst
import Derived.Test.YtglhplddjjoggaaDoorL07h
namespace Go.Proofs.YtglhplddjjoggaaDoor
open Go.RowKit
set_option maxHeartbeats 400000
set_option maxRecDepth 100000

theorem Supplied_len (w : World) (h : TabC w) (ht : Tab w) (S : Nat → Prop) (A1 A2 : Option Addr) (c1 c2 : Nat) (ns : List Node) (ds : List Dev) (hn : NetIn w S A1 A2 ns ds) (hc : checkL ns ds = 0)
    (U : Option Addr) (m cu : Nat) (st : List Int) (hm : m = st.length) (hs : SI w S U st) (hl : st.length = ds.length) (hp : ∀ x ∈ st, x = 1 ∨ x = 2) :
    Calls Tryd.prog 133 #[.agg #[.slice A1 ns.length c1, .slice A2 ds.length c2], .slice U m cu] w (RetIE w (supL ns ds st, 0)) := by
  have hD := checkL_zero hc
  have HA := Supplied_any w h ht S A1 A2 c1 c2 ns ds hn (by have := hD.few; omega) (by have := hD.dev; omega) U cu st hs (by have := hD.dev; omega)
  unfold suppliedE at HA
  rw [mask_ok hc hl hp, if_neg (by simp)] at HA
  subst hm
  exact HA
theorem Customers_len (w : World) (h : TabC w) (ht : Tab w) (S : Nat → Prop) (A1 A2 : Option Addr) (c1 c2 : Nat) (ns : List Node) (ds : List Dev) (hn : NetIn w S A1 A2 ns ds) (hc : checkL ns ds = 0)
    (U : Option Addr) (m cu : Nat) (st : List Int) (hm : m = st.length) (hs : SI w S U st) (hl : st.length = ds.length) (hp : ∀ x ∈ st, x = 1 ∨ x = 2) :
    Calls Tryd.prog 83 #[.agg #[.slice A1 ns.length c1, .slice A2 ds.length c2], .slice U m cu] w (RetPair w (custF ns (supL ns ds st), 0)) := by
  have hD := checkL_zero hc
  have HA := Customers_any w h ht S A1 A2 c1 c2 ns ds hn (by have := hD.few; omega) (by have := hD.dev; omega) U cu st hs (by have := hD.dev; omega)
  unfold suppliedE at HA
  rw [mask_ok hc hl hp, if_neg (by simp)] at HA
  subst hm
  exact HA
theorem Lost_len (w : World) (h : TabC w) (ht : Tab w) (S : Nat → Prop) (A1 A2 : Option Addr) (c1 c2 : Nat) (ns : List Node) (ds : List Dev) (hn : NetIn w S A1 A2 ns ds) (hc : checkL ns ds = 0)
    (U : Option Addr) (m cu : Nat) (st : List Int) (hm : m = st.length) (hs : SI w S U st) (hl : st.length = ds.length) (hp : ∀ x ∈ st, x = 1 ∨ x = 2)
    (V : Option Addr) (m2 cv : Nat) (tt : List Int) (hm2 : m2 = tt.length) (hs2 : SI w S V tt) (hl2 : tt.length = ds.length) (hp2 : ∀ x ∈ tt, x = 1 ∨ x = 2) :
    Calls Tryd.prog 84 #[.agg #[.slice A1 ns.length c1, .slice A2 ds.length c2], .slice U m cu, .slice V m2 cv] w (RetIIE w (lostL (supL ns ds st) (supL ns ds tt), custF ns (lostL (supL ns ds st) (supL ns ds tt)), 0)) := by
  have hD := checkL_zero hc
  have HA := Lost_any w h ht S A1 A2 c1 c2 ns ds hn (by have := hD.few; omega) (by have := hD.dev; omega) U cu st hs (by have := hD.dev; omega) V cv tt hs2 (by have := hD.dev; omega)
  unfold lostE at HA
  rw [mask_ok hc hl hp, mask_ok hc hl2 hp2, if_neg (by simp), if_neg (by simp)] at HA
  subst hm hm2
  exact HA

def awN11 : List Node := [⟨⟨#[65]⟩, 0, 0⟩, ⟨⟨#[66]⟩, 10, 0⟩]
def awD11 : List Dev := [⟨⟨#[83]⟩, 5, 0, -1, 0⟩, ⟨⟨#[81]⟩, 2, 0, 1, 0⟩]
theorem aw11_cus : (custF awN11 (supL awN11 awD11 [2, 2]), (0 : Int)) = (10, 0) := by decide +kernel
theorem aw11_chk : checkL awN11 awD11 = 0 := by decide +kernel
theorem aw11_lst : (lostL (supL awN11 awD11 [2, 2]) (supL awN11 awD11 [2, 1]), custF awN11 (lostL (supL awN11 awD11 [2, 2]) (supL awN11 awD11 [2, 1])), (0 : Int)) = ([1], 10, 0) := by decide +kernel

set_option maxHeartbeats 2000000 in
theorem awake11 (w : World) (h : TabC w) (ht : Tab w) : Calls Tryd.prog 82 #[] w (RetT w) := by
  go_enter Tryd.func82, Tryd.ntmps82
  go_wp2_with (fail)
  obtain ⟨e1, e2, e3, e4, ez, eb⟩ := four w (.cells (nodesV awN11).toArray 92) (.cells (devsV awD11).toArray 81) (.cells #[.slice (some ⟨w.heap.size, 0, none⟩) 2 2, .slice (some ⟨w.heap.size + 1, 0, none⟩) 2 2] 26) (.cells (ints [2, 2]).toArray 3)
  obtain ⟨W, hW⟩ : ∃ W, W = ((((w.alloc (.cells (nodesV awN11).toArray 92)).alloc (.cells (devsV awD11).toArray 81)).alloc (.cells #[.slice (some ⟨w.heap.size, 0, none⟩) 2 2, .slice (some ⟨w.heap.size + 1, 0, none⟩) 2 2] 26)).alloc (.cells (ints [2, 2]).toArray 3)) := ⟨_, rfl⟩
  rw [← hW] at e1 e2 e3 e4 ez eb
  have hin : NetIn W (fun _ => True) (some ⟨w.heap.size, 0, none⟩) (some ⟨w.heap.size + 1, 0, none⟩) awN11 awD11 := ⟨SV.block e1, SV.block e2, by decide, by decide⟩
  have hu : SI W (fun _ => True) (some ⟨w.heap.size + 1 + 1 + 1, 0, none⟩) [2, 2] := SV.block e4
  have HC := Customers_len W (h.below eb) (ht.below eb) _ _ _ 2 2 awN11 awD11 hin aw11_chk _ 2 2 [2, 2] rfl hu rfl (by decide)
  rw [aw11_cus] at HC
  have n0 : W.cell? ⟨w.heap.size + 1 + 1, 0, none⟩ = some (.slice (some ⟨w.heap.size, 0, none⟩) 2 2) := by rw [cell_of_row W _ 0 _ _ _ e3]; rfl
  have n1 : W.cell? ⟨w.heap.size + 1 + 1, 1, none⟩ = some (.slice (some ⟨w.heap.size + 1, 0, none⟩) 2 2) := by rw [cell_of_row W _ 1 _ _ _ e3]; rfl
  show Calls _ _ _ (((((w.alloc (.cells (nodesV awN11).toArray 92)).alloc (.cells (devsV awD11).toArray 81)).alloc (.cells #[.slice (some ⟨w.heap.size, 0, none⟩) 2 2, .slice (some ⟨w.heap.size + 1, 0, none⟩) 2 2] 26)).alloc (.cells (ints [2, 2]).toArray 3))) _
  rw [← hW]
  clear hW e1 e2 e3 e4 ez
  refine HC.mono ?_
  rintro e w1 ⟨rfl, hb1⟩
  clear HC
  have hb1' := eb.trans (hb1.mono eb.size)
  have m0 : w1.cell? ⟨w.heap.size + 1 + 1, 0, none⟩ = some (.slice (some ⟨w.heap.size, 0, none⟩) 2 2) := (hb1.cell (p := ⟨w.heap.size + 1 + 1, 0, none⟩) (World.block_lt_of_cell? _ _ n0)).trans n0
  have m1 : w1.cell? ⟨w.heap.size + 1 + 1, 1, none⟩ = some (.slice (some ⟨w.heap.size + 1, 0, none⟩) 2 2) := (hb1.cell (p := ⟨w.heap.size + 1 + 1, 1, none⟩) (World.block_lt_of_cell? _ _ n1)).trans n1
  have hin1 := hin.below hb1
  have hbA := (Below.refl w1.heap.size w1).alloc (Nat.le_refl _) (.cells (ints [2, 2]).toArray 3)
  obtain ⟨wA, hwA⟩ : ∃ x, x = w1.alloc (.cells (ints [2, 2]).toArray 3) := ⟨_, rfl⟩
  have hzA : wA.heap.size = w1.heap.size + 1 := by rw [hwA]; simp
  have hbB := (Below.refl wA.heap.size wA).alloc (Nat.le_refl _) (.cells (ints [2, 1]).toArray 3)
  have sA : SI wA (fun _ => True) (some ⟨w1.heap.size, 0, none⟩) [2, 2] := by rw [hwA]; exact (OI.lit w1 [2, 2] (by decide)).si.mono (fun _ _ _ => trivial)
  have sB : SI (wA.alloc (.cells (ints [2, 1]).toArray 3)) (fun _ => True) (some ⟨w1.heap.size + 1, 0, none⟩) [2, 1] := by rw [← hzA]; exact (OI.lit wA [2, 1] (by decide)).si.mono (fun _ _ _ => trivial)
  rw [← hwA] at hbA
  have hb2' := (hb1'.trans (hbA.mono hb1'.size))
  have hb3' := hb2'.trans (hbB.mono hb2'.size)
  have HF := Lost_len _ (h.below hb3') (ht.below hb3') _ _ _ 2 2 awN11 awD11 ((hin1.below hbA).below hbB) aw11_chk _ 2 2 [2, 2] rfl (sA.keep (Kept.of_below hbB)) rfl (by decide) _ 2 2 [2, 1] rfl sB rfl (by decide)
  rw [aw11_lst] at HF
  have HF := Lib.hid HF
  rw [hwA] at HF
  clear n0 n1 hin hu sA sB
  go_wp2_with (fail)
  refine HF.out.mono ?_
  rintro e w2 ⟨A', c', rfl, ho2, hb2⟩
  rw [← hwA] at hb2 ho2
  have hb4' := hb3'.trans (hb2.mono hb3'.size)
  clear m0 m1 hin1 HF
  have hbC := (Below.refl w2.heap.size w2).alloc (Nat.le_refl _) (.cells (ints [1]).toArray 3)
  have HI := ints_any _ (fun _ => True) (fun _ => True) A' (some ⟨w2.heap.size, 0, none⟩) c' 1 [1] [1] (((OI.si ho2).keep (Kept.of_below hbC)).mono (fun _ _ _ => trivial)) ((OI.lit w2 [1] (by decide)).si.mono (fun _ _ _ => trivial)) (by decide) (by decide)
  rw [show decide (([1] : List Int) = [1]) = true by decide] at HI
  have HI := Lib.hid HI
  go_wp2_with (fail)
  refine HI.out.mono ?_
  rintro e w3 ⟨rfl, nq, rfl⟩
  go_wp2_with (fail)
  go_ret
  exact ⟨rfl, (hb4'.trans (hbC.mono hb4'.size)).trans (below_drewN _ _ nq)⟩
end Go.Proofs.YtglhplddjjoggaaDoor

/-
  Walks of mask.Check and colour.Shades.
-/
import Derived.Test.YtgpcojmdfmngeaaDoorGe
import Derived.Test.YtgpcojmdfmngeaaDoorLow
import Derived.Test.YtgpcojmdfmngeaaDoorGa
namespace Go.Proofs.YtgpcojmdfmngeaaDoor
open Go.RowKit
set_option maxHeartbeats 400000
set_option maxRecDepth 100000

theorem goes_is : Goes 125 := fun args w => by kernel_rfl
theorem mmask_any (w : World) (h : TabC w) (ht : Tab w) (S : Nat → Prop) (A1 A2 : Option Addr) (c1 c2 : Nat) (ns : List Node) (ds : List Dev) (hn : NetIn w S A1 A2 ns ds) (hl1 : ns.length ≤ 65536) (hl2 : ds.length ≤ 65536)
    (U : Option Addr) (cu : Nat) (st : List Int) (hs : SI w S U st) (hsl : st.length ≤ 65536) :
    Calls Tryd.prog 45 #[.agg #[.slice A1 ns.length c1, .slice A2 ds.length c2], .slice U st.length cu] w fun e w' => e = .returned (.int .i64 (maskC isMask ns ds st)) ∧ Below w.heap.size w w' := by
  have hb := (Below.refl w.heap.size w).alloc (Nat.le_refl _) (.cells #[.slice A1 ns.length c1, .slice A2 ds.length c2] 26)
  have HC := Lib.hid (mcheck_any 125 goes_is isMask is_any _ (h.below hb) (ht.below hb) S A1 A2 c1 c2 ns ds (hn.below hb) hl1 hl2 U cu st (hs.keep (Kept.of_below hb)) hsl)
  go_enter Tryd.func45, Tryd.ntmps45
  go_wp2_with (fail)
  refine (HC.out).mono ?_
  rintro e w1 ⟨rfl, hb1⟩
  go_wp2_with (fail)
  go_ret
  exact ⟨rfl, hb.trans (hb1.mono hb.size)⟩

def liveOf (x : Int) : Bool := bits BinOp.and IntKind.i64 x 1 != 0
def earthOf (x : Int) : Bool := bits BinOp.and IntKind.i64 x 2 != 0
structure Shd where
  ml : Bool
  ul : Bool
  me : Bool
  ue : Bool
deriving DecidableEq
def shdV (x : Shd) : List Value := [.bool x.ml, .bool x.ul, .bool x.me, .bool x.ue]
theorem shdV_len (x : Shd) : (shdV x).length = 4 := rfl
def shadeL (ca cb : List Int) : List Shd := List.zipWith (fun a b => ⟨liveOf a, liveOf b, earthOf a, earthOf b⟩) ca cb
def OS (w : World) (S : Nat → Prop) (A : Option Addr) (c : Nat) (xs : List Shd) : Prop := OV w S 135 4 A xs.length c (recV shdV xs)
theorem shdInfo : (Tryd.prog.info? 135).map (fun i => (i.zero, i.size, i.bytes)) = some (some (.agg #[.bool false, .bool false, .bool false, .bool false]), 4, 4) := by kernel_rfl

theorem OS.keep {w w' : World} {S : Nat → Prop} {A : Option Addr} {c : Nat} {xs : List Shd} (h : OS w S A c xs) (k : Kept S w w') : OS w' S A c xs := OV.keep h k
theorem OS.mono {w : World} {S T : Nat → Prop} {A : Option Addr} {c : Nat} {xs : List Shd} (h : OS w S A c xs) (k : ∀ b, b < w.heap.size → S b → T b) : OS w T A c xs := OV.mono h k
theorem OS.drew {w : World} {S : Nat → Prop} {A : Option Addr} {c : Nat} {xs : List Shd} (h : OS w S A c xs) : OS w.drew S A c xs := h
theorem OS.set1 {w : World} {S : Nat → Prop} {g c : Nat} {xs : List Shd} (h : OS w S (some ⟨g, 0, none⟩) c xs) {k : Nat} (hk : k < xs.length) (j : Nat) (hj : j < 4) (u : Value) (y : Shd) (hy : shdV y = (shdV xs[k]).set j u) :
    OS (w.setCell ⟨g, k * 4 + j, none⟩ u) S (some ⟨g, 0, none⟩) c (xs.set k y) := by
  have := OV.recSet h shdV_len hk hj u y hy
  rw [Nat.zero_add] at this
  exact this
theorem OS.put {w : World} {S : Nat → Prop} {g c : Nat} {xs : List Shd} (h : OS w S (some ⟨g, 0, none⟩) c xs) {k : Nat} (hk : k < xs.length) (y : Shd) :
    OS ((((w.setCell ⟨g, k * 4, none⟩ (.bool y.ml)).setCell ⟨g, k * 4 + 1, none⟩ (.bool y.ul)).setCell ⟨g, k * 4 + 2, none⟩ (.bool y.me)).setCell ⟨g, k * 4 + 3, none⟩ (.bool y.ue)) S (some ⟨g, 0, none⟩) c (xs.set k y) := by
  have h1 := h.set1 hk 0 (by decide) (.bool y.ml) ⟨y.ml, xs[k].ul, xs[k].me, xs[k].ue⟩ rfl
  have h2 := h1.set1 (k := k) (by rw [List.length_set]; exact hk) 1 (by decide) (.bool y.ul) ⟨y.ml, y.ul, xs[k].me, xs[k].ue⟩ (by rw [List.getElem_set_self]; rfl)
  rw [List.set_set] at h2
  have h3 := h2.set1 (k := k) (by rw [List.length_set]; exact hk) 2 (by decide) (.bool y.me) ⟨y.ml, y.ul, y.me, xs[k].ue⟩ (by rw [List.getElem_set_self]; rfl)
  rw [List.set_set] at h3
  have h4 := h3.set1 (k := k) (by rw [List.length_set]; exact hk) 3 (by decide) (.bool y.ue) y (by rw [List.getElem_set_self]; rfl)
  rw [List.set_set] at h4
  exact h4

def shadesE (ns : List Node) (ds : List Dev) (ms : List Int) : List Shd × Int :=
  if maskC isMask ns ds ms ≠ 0 then ([], maskC isMask ns ds ms) else (shadeL (colL ds (lowL 2 ms) (partsL ns.length ds (lowL 2 ms))) (colL ds (lowL 1 ms) (partsL ns.length ds (lowL 1 ms))), 0)

set_option maxHeartbeats 4000000 in
theorem Shades_any (w : World) (h : TabC w) (ht : Tab w) (S : Nat → Prop) (A1 A2 : Option Addr) (c1 c2 : Nat) (ns : List Node) (ds : List Dev) (hn : NetIn w S A1 A2 ns ds) (hl1 : ns.length ≤ 65536) (hl2 : ds.length ≤ 65536)
    (U : Option Addr) (cu : Nat) (ms : List Int) (hs : SI w S U ms) (hsl : ms.length ≤ 65536) :
    Calls Tryd.prog 69 #[.agg #[.slice A1 ns.length c1, .slice A2 ds.length c2], .slice U ms.length cu] w
      fun e w' => ∃ A c, e = .returned (.tuple #[.slice A (shadesE ns ds ms).1.length c, .int .i64 (shadesE ns ds ms).2]) ∧ OS w' (fun g => w.heap.size ≤ g) A c (shadesE ns ds ms).1 ∧ Below w.heap.size w w' := by
  have hb := (Below.refl w.heap.size w).alloc (Nat.le_refl _) (.cells #[.slice A1 ns.length c1, .slice A2 ds.length c2] 26)
  have HC := Lib.hid (mmask_any _ (h.below hb) (ht.below hb) S A1 A2 c1 c2 ns ds (hn.below hb) hl1 hl2 U cu ms (hs.keep (Kept.of_below hb)) hsl)
  have HZ := Lib.hid (@maskC_zero isMask ns ds ms)
  have HE := Lib.hid (show shadesE ns ds ms = if maskC isMask ns ds ms ≠ 0 then ([], maskC isMask ns ds ms) else (shadeL (colL ds (lowL 2 ms) (partsL ns.length ds (lowL 2 ms))) (colL ds (lowL 1 ms) (partsL ns.length ds (lowL 1 ms))), 0) from rfl)
  generalize maskC isMask ns ds ms = ce at *
  by_cases h0 : (ce != 0) = true
  · have H0 := Lib.hid (show ¬ ce = 0 by simpa using h0)
    go_enter Tryd.func69, Tryd.ntmps69
    go_wp2_with (fail)
    refine (HC.out).mono ?_
    rintro e w1 ⟨rfl, hb1⟩
    go_wp2_with (fail)
    go_ret2
    rw [HE.out, if_pos H0.out]
    exact ⟨none, 0, rfl, OV.nil _ _ _ _, hb.trans (hb1.mono hb.size)⟩
  · have h0' : (ce != 0) = false := by simpa using h0
    have hz : ce = 0 := by simpa using h0
    obtain ⟨z1, z2, z3⟩ := HZ.out hz
    have HD := Lib.hid (checkL_zero z1)
    rw [if_neg (by simpa using hz)] at HE
    have Z2 := Lib.hid z2
    clear h0 hz HZ z1 z2 z3
    have Hlow := Lib.hid (fun (p : Int) => show (lowL p ms).length = ms.length from stF_len _ _ _)
    have hfew := HD.out.few
    go_enter Tryd.func69, Tryd.ntmps69
    go_wp2_with (fail)
    refine (HC.out).mono ?_
    rintro e w1 ⟨rfl, hb1⟩
    have hbA := hb.trans (hb1.mono hb.size)
    have Hbox := Lib.hid (box_at hb1)
    have n0 : w1.cell? ⟨w.heap.size, 0, none⟩ = some (.slice A1 ns.length c1) := by rw [cell_of_row w1 _ 0 _ _ _ Hbox.out]; rfl
    have n1 : w1.cell? ⟨w.heap.size, 1, none⟩ = some (.slice A2 ds.length c2) := by rw [cell_of_row w1 _ 1 _ _ _ Hbox.out]; rfl
    have hn1 := (hn.below hbA).mono (T := fun _ => True) (fun _ _ _ => trivial)
    have hs1 := (hs.keep (Kept.of_below hbA)).mono (T := fun _ => True) (fun _ _ _ => trivial)
    clear Hbox hb1 hb HC hn hs
    go_upto_region 4 with (fail)
    go_cut [8] (fun v8 wx => ∃ g2, v8 = .slice (some ⟨g2, 0, none⟩) ns.length ns.length ∧ SI wx (fun _ => True) (some ⟨g2, 0, none⟩) (colL ds (lowL 2 ms) (partsL ns.length ds (lowL 2 ms))) ∧ Below w1.heap.size w1 wx)
    case first =>
      refine wp_region_ext1 (by kernel_rfl) 9 [20, 21, 22, 23, 19, 24, 25, 7, 8] (fun w' => Below w1.heap.size w1 w') (fun a b => Below a.heap.size a b) (fun d vv w' => if d = 20 then vv = .agg #[.slice A1 ns.length c1, .slice A2 ds.length c2] else if d = 21 then vv = .slice U ms.length cu else if d = 22 then ∃ A' c', vv = .slice A' (lowL 2 ms).length c' ∧ SI w' (fun _ => True) A' (lowL 2 ms) else if d = 23 then ∃ g1 g2, vv = .tuple #[.slice (some ⟨g1, 0, none⟩) ns.length ns.length, .slice (some ⟨g2, 0, none⟩) ns.length ns.length] ∧ SI w' (fun _ => True) (some ⟨g2, 0, none⟩) (colL ds (lowL 2 ms) (partsL ns.length ds (lowL 2 ms))) else if d = 19 then ∃ g1 g2, vv = .tuple #[.slice (some ⟨g1, 0, none⟩) ns.length ns.length, .slice (some ⟨g2, 0, none⟩) ns.length ns.length] ∧ SI w' (fun _ => True) (some ⟨g2, 0, none⟩) (colL ds (lowL 2 ms) (partsL ns.length ds (lowL 2 ms))) else if d = 24 then ∃ g1, vv = .slice (some ⟨g1, 0, none⟩) ns.length ns.length else if d = 25 then ∃ g2, vv = .slice (some ⟨g2, 0, none⟩) ns.length ns.length ∧ SI w' (fun _ => True) (some ⟨g2, 0, none⟩) (colL ds (lowL 2 ms) (partsL ns.length ds (lowL 2 ms))) else if d = 7 then ∃ g1, vv = .slice (some ⟨g1, 0, none⟩) ns.length ns.length else if d = 8 then ∃ g2, vv = .slice (some ⟨g2, 0, none⟩) ns.length ns.length ∧ SI w' (fun _ => True) (some ⟨g2, 0, none⟩) (colL ds (lowL 2 ms) (partsL ns.length ds (lowL 2 ms))) else False) (by kernel_rfl) ((Below.refl _ _).drew) (fun d v w1 w2 _ hE hT => by
          by_cases h22 : d = 22
          · subst h22; obtain ⟨A', c', a1, a2⟩ := hT; exact ⟨A', c', a1, a2.keep (Kept.of_below hE)⟩
          by_cases h23 : d = 23
          · subst h23; obtain ⟨g1, g2, a1, a2⟩ := hT; exact ⟨g1, g2, a1, a2.keep (Kept.of_below hE)⟩
          by_cases h19 : d = 19
          · subst h19; obtain ⟨g1, g2, a1, a2⟩ := hT; exact ⟨g1, g2, a1, a2.keep (Kept.of_below hE)⟩
          by_cases h25 : d = 25
          · subst h25; obtain ⟨g2, a1, a2⟩ := hT; exact ⟨g2, a1, a2.keep (Kept.of_below hE)⟩
          by_cases h8 : d = 8
          · subst h8; obtain ⟨g2, a1, a2⟩ := hT; exact ⟨g2, a1, a2.keep (Kept.of_below hE)⟩
          simp only [if_neg h22, if_neg h23, if_neg h19, if_neg h25, if_neg h8] at hT ⊢
          exact hT) ?_ ?_
      · intro i o d hi ho hd f w1 hC hdep K hK
        have hi' : i = 0 ∨ i = 1 ∨ i = 2 ∨ i = 3 ∨ i = 4 ∨ i = 5 ∨ i = 6 ∨ i = 7 ∨ i = 8 := by omega
        rcases hi' with rfl | rfl | rfl | rfl | rfl | rfl | rfl | rfl | rfl
        · simp only [List.getElem?_toArray, List.getElem?_cons_zero, Option.some.injEq] at ho
          subst ho
          simp only [Option.some.injEq] at hd
          subst hd
          generalize hA : fr _ _ _ f = A at hK ⊢
          have e2 : A.tmps[2]?.getD undef = .pointer (some ⟨w.heap.size, 0, none⟩) := by rw [← hA]; exact fr_out _ _ _ _ 2 _ (by decide) rfl
          clear hA hdep
          have hcell0 := (hC.cell (p := ⟨w.heap.size, 0, none⟩) (World.block_lt_of_cell? _ _ n0)).trans n0
          have hcell1 := (hC.cell (p := ⟨w.heap.size, 1, none⟩) (World.block_lt_of_cell? _ _ n1)).trans n1
          go_simp
          exact hK _ _ (Below.refl _ _) hC rfl
        · simp only [List.getElem?_toArray, List.getElem?_cons_zero, List.getElem?_cons_succ, Option.some.injEq] at ho
          subst ho
          simp only [Option.some.injEq] at hd
          subst hd
          generalize hA : fr _ _ _ f = A at hK ⊢
          have e1 : A.tmps[1]?.getD undef = .slice U ms.length cu := by rw [← hA]; exact fr_out _ _ _ _ 1 _ (by decide) rfl
          clear hA hdep
          go_simp
          exact hK _ _ (Below.refl _ _) hC rfl
        · simp only [List.getElem?_toArray, List.getElem?_cons_zero, List.getElem?_cons_succ, Option.some.injEq] at ho
          subst ho
          simp only [Option.some.injEq] at hd
          subst hd
          have h21 : f 21 = .slice U ms.length cu := hdep { on := 1, ground := .data } (by simp) rfl 21 rfl
          generalize hA : fr _ _ _ f = A at hK ⊢
          have e21 : A.tmps[21]?.getD undef = f 21 := by rw [← hA]; exact fr_in _ _ _ _ 21 (by decide) (by simp)
          clear hA hdep
          rw [h21] at e21
          clear h21
          go_simp
          refine (highest_any w1 _ U cu ms (hs1.keep (Kept.of_below hC)) (by omega)).mono ?_
          rintro e' w2 ⟨A5, c5, rfl, ho5, hb2⟩
          exact hK _ _ hb2 (hC.trans (hb2.mono hC.size)) ⟨A5, c5, rfl, (OI.si ho5).mono (fun _ _ _ => trivial)⟩
        · simp only [List.getElem?_toArray, List.getElem?_cons_zero, List.getElem?_cons_succ, Option.some.injEq] at ho
          subst ho
          simp only [Option.some.injEq] at hd
          subst hd
          have h20 : f 20 = .agg #[.slice A1 ns.length c1, .slice A2 ds.length c2] := hdep { on := 0, ground := .data } (by simp) rfl 20 rfl
          have h22 : ∃ A' c', f 22 = .slice A' (lowL 2 ms).length c' ∧ SI w1 (fun _ => True) A' (lowL 2 ms) := hdep { on := 2, ground := .data } (by simp) rfl 22 rfl
          generalize hA : fr _ _ _ f = A at hK ⊢
          have e20 : A.tmps[20]?.getD undef = f 20 := by rw [← hA]; exact fr_in _ _ _ _ 20 (by decide) (by simp)
          have e22 : A.tmps[22]?.getD undef = f 22 := by rw [← hA]; exact fr_in _ _ _ _ 22 (by decide) (by simp)
          clear hA hdep
          rw [h20] at e20
          clear h20
          obtain ⟨Ak, ck, h22, l1⟩ := h22
          rw [h22] at e22
          have Hf22 := Lib.hid h22
          clear h22
          go_simp
          refine (both_any w1 _ A1 A2 c1 c2 ns ds (hn1.below hC) HD.out Ak ck (lowL 2 ms) l1 (by rw [Hlow.out, Z2.out])).mono ?_
          rintro e' w2 ⟨g1, g2, rfl, o1, o2, _, _, hb2⟩
          exact hK _ _ hb2 (hC.trans (hb2.mono hC.size)) ⟨g1, g2, rfl, o2.si.mono (fun _ _ _ => trivial)⟩
        · simp only [List.getElem?_toArray, List.getElem?_cons_zero, List.getElem?_cons_succ, Option.some.injEq] at ho
          subst ho
          simp only [Option.some.injEq] at hd
          subst hd
          have h23 : ∃ g1 g2, f 23 = .tuple #[.slice (some ⟨g1, 0, none⟩) ns.length ns.length, .slice (some ⟨g2, 0, none⟩) ns.length ns.length] ∧ SI w1 (fun _ => True) (some ⟨g2, 0, none⟩) (colL ds (lowL 2 ms) (partsL ns.length ds (lowL 2 ms))) := hdep { on := 3, ground := .data } (by simp) rfl 23 rfl
          generalize hA : fr _ _ _ f = A at hK ⊢
          have e23 : A.tmps[23]?.getD undef = f 23 := by rw [← hA]; exact fr_in _ _ _ _ 23 (by decide) (by simp)
          clear hA hdep
          obtain ⟨g1, g2, h23, l1⟩ := h23
          rw [h23] at e23
          have Hf23 := Lib.hid h23
          clear h23
          go_simp
          exact hK _ _ (Below.refl _ _) hC ⟨g1, g2, rfl, l1⟩
        · simp only [List.getElem?_toArray, List.getElem?_cons_zero, List.getElem?_cons_succ, Option.some.injEq] at ho
          subst ho
          simp only [Option.some.injEq] at hd
          subst hd
          have h19 : ∃ g1 g2, f 19 = .tuple #[.slice (some ⟨g1, 0, none⟩) ns.length ns.length, .slice (some ⟨g2, 0, none⟩) ns.length ns.length] ∧ SI w1 (fun _ => True) (some ⟨g2, 0, none⟩) (colL ds (lowL 2 ms) (partsL ns.length ds (lowL 2 ms))) := hdep { on := 4, ground := .data } (by simp) rfl 19 rfl
          generalize hA : fr _ _ _ f = A at hK ⊢
          have e19 : A.tmps[19]?.getD undef = f 19 := by rw [← hA]; exact fr_in _ _ _ _ 19 (by decide) (by simp)
          clear hA hdep
          obtain ⟨g1, g2, h19, l1⟩ := h19
          rw [h19] at e19
          have Hf19 := Lib.hid h19
          clear h19
          go_simp
          exact hK _ _ (Below.refl _ _) hC ⟨g1, rfl⟩
        · simp only [List.getElem?_toArray, List.getElem?_cons_zero, List.getElem?_cons_succ, Option.some.injEq] at ho
          subst ho
          simp only [Option.some.injEq] at hd
          subst hd
          have h19 : ∃ g1 g2, f 19 = .tuple #[.slice (some ⟨g1, 0, none⟩) ns.length ns.length, .slice (some ⟨g2, 0, none⟩) ns.length ns.length] ∧ SI w1 (fun _ => True) (some ⟨g2, 0, none⟩) (colL ds (lowL 2 ms) (partsL ns.length ds (lowL 2 ms))) := hdep { on := 4, ground := .data } (by simp) rfl 19 rfl
          generalize hA : fr _ _ _ f = A at hK ⊢
          have e19 : A.tmps[19]?.getD undef = f 19 := by rw [← hA]; exact fr_in _ _ _ _ 19 (by decide) (by simp)
          clear hA hdep
          obtain ⟨g1, g2, h19, l1⟩ := h19
          rw [h19] at e19
          have Hf19 := Lib.hid h19
          clear h19
          go_simp
          exact hK _ _ (Below.refl _ _) hC ⟨g2, rfl, l1⟩
        · simp only [List.getElem?_toArray, List.getElem?_cons_zero, List.getElem?_cons_succ, Option.some.injEq] at ho
          subst ho
          simp only [Option.some.injEq] at hd
          subst hd
          have h24 : ∃ g1, f 24 = .slice (some ⟨g1, 0, none⟩) ns.length ns.length := hdep { on := 5, ground := .data } (by simp) rfl 24 rfl
          generalize hA : fr _ _ _ f = A at hK ⊢
          have e24 : A.tmps[24]?.getD undef = f 24 := by rw [← hA]; exact fr_in _ _ _ _ 24 (by decide) (by simp)
          clear hA hdep
          obtain ⟨g1, h24⟩ := h24
          rw [h24] at e24
          have Hf24 := Lib.hid h24
          clear h24
          go_simp
          exact hK _ _ (Below.refl _ _) hC ⟨g1, rfl⟩
        · simp only [List.getElem?_toArray, List.getElem?_cons_zero, List.getElem?_cons_succ, Option.some.injEq] at ho
          subst ho
          simp only [Option.some.injEq] at hd
          subst hd
          have h25 : ∃ g2, f 25 = .slice (some ⟨g2, 0, none⟩) ns.length ns.length ∧ SI w1 (fun _ => True) (some ⟨g2, 0, none⟩) (colL ds (lowL 2 ms) (partsL ns.length ds (lowL 2 ms))) := hdep { on := 6, ground := .data } (by simp) rfl 25 rfl
          generalize hA : fr _ _ _ f = A at hK ⊢
          have e25 : A.tmps[25]?.getD undef = f 25 := by rw [← hA]; exact fr_in _ _ _ _ 25 (by decide) (by simp)
          clear hA hdep
          obtain ⟨g2, h25, l1⟩ := h25
          rw [h25] at e25
          have Hf25 := Lib.hid h25
          clear h25
          go_simp
          exact hK _ _ (Below.refl _ _) hC ⟨g2, rfl, l1⟩
      · intro f w1 hC hall
        have q0 : ∃ g2, f 8 = .slice (some ⟨g2, 0, none⟩) ns.length ns.length ∧ SI w1 (fun _ => True) (some ⟨g2, 0, none⟩) (colL ds (lowL 2 ms) (partsL ns.length ds (lowL 2 ms))) := hall 8 8 (by decide) rfl
        have H0 := Lib.hid q0
        clear hall q0
        simp only [fr, upd, List.mapIdx_cons, List.mapIdx_nil]
        simp
        go_wp2_with fail
        go_meet
        case rel =>
          obtain ⟨g2, a1, a2⟩ := H0.out
          exact ⟨g2, a1, a2, hC⟩
    case rest =>
      obtain ⟨w5, rfl⟩ : ∃ W0, W0 = wc := ⟨_, rfl⟩
      obtain ⟨ga, rfl, sA, hb5⟩ := hcut
      have n0 := (hb5.cell (p := ⟨w.heap.size, 0, none⟩) (World.block_lt_of_cell? _ _ n0)).trans n0
      have n1 := (hb5.cell (p := ⟨w.heap.size, 1, none⟩) (World.block_lt_of_cell? _ _ n1)).trans n1
      have hn1 := hn1.below hb5
      have hs1 := hs1.keep (Kept.of_below hb5)
      go_upto_region 5 with (fail)
      go_cut [10] (fun v10 wx => ∃ g2, v10 = .slice (some ⟨g2, 0, none⟩) ns.length ns.length ∧ SI wx (fun _ => True) (some ⟨g2, 0, none⟩) (colL ds (lowL 1 ms) (partsL ns.length ds (lowL 1 ms))) ∧ Below w5.heap.size w5 wx)
      case first =>
        refine wp_region_ext1 (by kernel_rfl) 9 [27, 28, 29, 30, 26, 31, 32, 9, 10] (fun w' => Below w5.heap.size w5 w') (fun a b => Below a.heap.size a b) (fun d vv w' => if d = 27 then vv = .agg #[.slice A1 ns.length c1, .slice A2 ds.length c2] else if d = 28 then vv = .slice U ms.length cu else if d = 29 then ∃ A' c', vv = .slice A' (lowL 1 ms).length c' ∧ SI w' (fun _ => True) A' (lowL 1 ms) else if d = 30 then ∃ g1 g2, vv = .tuple #[.slice (some ⟨g1, 0, none⟩) ns.length ns.length, .slice (some ⟨g2, 0, none⟩) ns.length ns.length] ∧ SI w' (fun _ => True) (some ⟨g2, 0, none⟩) (colL ds (lowL 1 ms) (partsL ns.length ds (lowL 1 ms))) else if d = 26 then ∃ g1 g2, vv = .tuple #[.slice (some ⟨g1, 0, none⟩) ns.length ns.length, .slice (some ⟨g2, 0, none⟩) ns.length ns.length] ∧ SI w' (fun _ => True) (some ⟨g2, 0, none⟩) (colL ds (lowL 1 ms) (partsL ns.length ds (lowL 1 ms))) else if d = 31 then ∃ g1, vv = .slice (some ⟨g1, 0, none⟩) ns.length ns.length else if d = 32 then ∃ g2, vv = .slice (some ⟨g2, 0, none⟩) ns.length ns.length ∧ SI w' (fun _ => True) (some ⟨g2, 0, none⟩) (colL ds (lowL 1 ms) (partsL ns.length ds (lowL 1 ms))) else if d = 9 then ∃ g1, vv = .slice (some ⟨g1, 0, none⟩) ns.length ns.length else if d = 10 then ∃ g2, vv = .slice (some ⟨g2, 0, none⟩) ns.length ns.length ∧ SI w' (fun _ => True) (some ⟨g2, 0, none⟩) (colL ds (lowL 1 ms) (partsL ns.length ds (lowL 1 ms))) else False) (by kernel_rfl) ((Below.refl _ _).drew) (fun d v w1 w2 _ hE hT => by
            by_cases h29 : d = 29
            · subst h29; obtain ⟨A', c', a1, a2⟩ := hT; exact ⟨A', c', a1, a2.keep (Kept.of_below hE)⟩
            by_cases h30 : d = 30
            · subst h30; obtain ⟨g1, g2, a1, a2⟩ := hT; exact ⟨g1, g2, a1, a2.keep (Kept.of_below hE)⟩
            by_cases h26 : d = 26
            · subst h26; obtain ⟨g1, g2, a1, a2⟩ := hT; exact ⟨g1, g2, a1, a2.keep (Kept.of_below hE)⟩
            by_cases h32 : d = 32
            · subst h32; obtain ⟨g2, a1, a2⟩ := hT; exact ⟨g2, a1, a2.keep (Kept.of_below hE)⟩
            by_cases h10 : d = 10
            · subst h10; obtain ⟨g2, a1, a2⟩ := hT; exact ⟨g2, a1, a2.keep (Kept.of_below hE)⟩
            simp only [if_neg h29, if_neg h30, if_neg h26, if_neg h32, if_neg h10] at hT ⊢
            exact hT) ?_ ?_
        · intro i o d hi ho hd f w1 hC hdep K hK
          have hi' : i = 0 ∨ i = 1 ∨ i = 2 ∨ i = 3 ∨ i = 4 ∨ i = 5 ∨ i = 6 ∨ i = 7 ∨ i = 8 := by omega
          rcases hi' with rfl | rfl | rfl | rfl | rfl | rfl | rfl | rfl | rfl
          · simp only [List.getElem?_toArray, List.getElem?_cons_zero, Option.some.injEq] at ho
            subst ho
            simp only [Option.some.injEq] at hd
            subst hd
            generalize hA : fr _ _ _ f = A at hK ⊢
            have e2 : A.tmps[2]?.getD undef = .pointer (some ⟨w.heap.size, 0, none⟩) := by rw [← hA]; exact fr_out _ _ _ _ 2 _ (by decide) rfl
            clear hA hdep
            have hcell0 := (hC.cell (p := ⟨w.heap.size, 0, none⟩) (World.block_lt_of_cell? _ _ n0)).trans n0
            have hcell1 := (hC.cell (p := ⟨w.heap.size, 1, none⟩) (World.block_lt_of_cell? _ _ n1)).trans n1
            go_simp
            exact hK _ _ (Below.refl _ _) hC rfl
          · simp only [List.getElem?_toArray, List.getElem?_cons_zero, List.getElem?_cons_succ, Option.some.injEq] at ho
            subst ho
            simp only [Option.some.injEq] at hd
            subst hd
            generalize hA : fr _ _ _ f = A at hK ⊢
            have e1 : A.tmps[1]?.getD undef = .slice U ms.length cu := by rw [← hA]; exact fr_out _ _ _ _ 1 _ (by decide) rfl
            clear hA hdep
            go_simp
            exact hK _ _ (Below.refl _ _) hC rfl
          · simp only [List.getElem?_toArray, List.getElem?_cons_zero, List.getElem?_cons_succ, Option.some.injEq] at ho
            subst ho
            simp only [Option.some.injEq] at hd
            subst hd
            have h28 : f 28 = .slice U ms.length cu := hdep { on := 1, ground := .data } (by simp) rfl 28 rfl
            generalize hA : fr _ _ _ f = A at hK ⊢
            have e28 : A.tmps[28]?.getD undef = f 28 := by rw [← hA]; exact fr_in _ _ _ _ 28 (by decide) (by simp)
            clear hA hdep
            rw [h28] at e28
            clear h28
            go_simp
            refine (lowest_any w1 _ U cu ms (hs1.keep (Kept.of_below hC)) (by omega)).mono ?_
            rintro e' w2 ⟨A5, c5, rfl, ho5, hb2⟩
            exact hK _ _ hb2 (hC.trans (hb2.mono hC.size)) ⟨A5, c5, rfl, (OI.si ho5).mono (fun _ _ _ => trivial)⟩
          · simp only [List.getElem?_toArray, List.getElem?_cons_zero, List.getElem?_cons_succ, Option.some.injEq] at ho
            subst ho
            simp only [Option.some.injEq] at hd
            subst hd
            have h27 : f 27 = .agg #[.slice A1 ns.length c1, .slice A2 ds.length c2] := hdep { on := 0, ground := .data } (by simp) rfl 27 rfl
            have h29 : ∃ A' c', f 29 = .slice A' (lowL 1 ms).length c' ∧ SI w1 (fun _ => True) A' (lowL 1 ms) := hdep { on := 2, ground := .data } (by simp) rfl 29 rfl
            generalize hA : fr _ _ _ f = A at hK ⊢
            have e27 : A.tmps[27]?.getD undef = f 27 := by rw [← hA]; exact fr_in _ _ _ _ 27 (by decide) (by simp)
            have e29 : A.tmps[29]?.getD undef = f 29 := by rw [← hA]; exact fr_in _ _ _ _ 29 (by decide) (by simp)
            clear hA hdep
            rw [h27] at e27
            clear h27
            obtain ⟨Ak, ck, h29, l1⟩ := h29
            rw [h29] at e29
            have Hf29 := Lib.hid h29
            clear h29
            go_simp
            refine (both_any w1 _ A1 A2 c1 c2 ns ds (hn1.below hC) HD.out Ak ck (lowL 1 ms) l1 (by rw [Hlow.out, Z2.out])).mono ?_
            rintro e' w2 ⟨g1, g2, rfl, o1, o2, _, _, hb2⟩
            exact hK _ _ hb2 (hC.trans (hb2.mono hC.size)) ⟨g1, g2, rfl, o2.si.mono (fun _ _ _ => trivial)⟩
          · simp only [List.getElem?_toArray, List.getElem?_cons_zero, List.getElem?_cons_succ, Option.some.injEq] at ho
            subst ho
            simp only [Option.some.injEq] at hd
            subst hd
            have h30 : ∃ g1 g2, f 30 = .tuple #[.slice (some ⟨g1, 0, none⟩) ns.length ns.length, .slice (some ⟨g2, 0, none⟩) ns.length ns.length] ∧ SI w1 (fun _ => True) (some ⟨g2, 0, none⟩) (colL ds (lowL 1 ms) (partsL ns.length ds (lowL 1 ms))) := hdep { on := 3, ground := .data } (by simp) rfl 30 rfl
            generalize hA : fr _ _ _ f = A at hK ⊢
            have e30 : A.tmps[30]?.getD undef = f 30 := by rw [← hA]; exact fr_in _ _ _ _ 30 (by decide) (by simp)
            clear hA hdep
            obtain ⟨g1, g2, h30, l1⟩ := h30
            rw [h30] at e30
            have Hf30 := Lib.hid h30
            clear h30
            go_simp
            exact hK _ _ (Below.refl _ _) hC ⟨g1, g2, rfl, l1⟩
          · simp only [List.getElem?_toArray, List.getElem?_cons_zero, List.getElem?_cons_succ, Option.some.injEq] at ho
            subst ho
            simp only [Option.some.injEq] at hd
            subst hd
            have h26 : ∃ g1 g2, f 26 = .tuple #[.slice (some ⟨g1, 0, none⟩) ns.length ns.length, .slice (some ⟨g2, 0, none⟩) ns.length ns.length] ∧ SI w1 (fun _ => True) (some ⟨g2, 0, none⟩) (colL ds (lowL 1 ms) (partsL ns.length ds (lowL 1 ms))) := hdep { on := 4, ground := .data } (by simp) rfl 26 rfl
            generalize hA : fr _ _ _ f = A at hK ⊢
            have e26 : A.tmps[26]?.getD undef = f 26 := by rw [← hA]; exact fr_in _ _ _ _ 26 (by decide) (by simp)
            clear hA hdep
            obtain ⟨g1, g2, h26, l1⟩ := h26
            rw [h26] at e26
            have Hf26 := Lib.hid h26
            clear h26
            go_simp
            exact hK _ _ (Below.refl _ _) hC ⟨g1, rfl⟩
          · simp only [List.getElem?_toArray, List.getElem?_cons_zero, List.getElem?_cons_succ, Option.some.injEq] at ho
            subst ho
            simp only [Option.some.injEq] at hd
            subst hd
            have h26 : ∃ g1 g2, f 26 = .tuple #[.slice (some ⟨g1, 0, none⟩) ns.length ns.length, .slice (some ⟨g2, 0, none⟩) ns.length ns.length] ∧ SI w1 (fun _ => True) (some ⟨g2, 0, none⟩) (colL ds (lowL 1 ms) (partsL ns.length ds (lowL 1 ms))) := hdep { on := 4, ground := .data } (by simp) rfl 26 rfl
            generalize hA : fr _ _ _ f = A at hK ⊢
            have e26 : A.tmps[26]?.getD undef = f 26 := by rw [← hA]; exact fr_in _ _ _ _ 26 (by decide) (by simp)
            clear hA hdep
            obtain ⟨g1, g2, h26, l1⟩ := h26
            rw [h26] at e26
            have Hf26 := Lib.hid h26
            clear h26
            go_simp
            exact hK _ _ (Below.refl _ _) hC ⟨g2, rfl, l1⟩
          · simp only [List.getElem?_toArray, List.getElem?_cons_zero, List.getElem?_cons_succ, Option.some.injEq] at ho
            subst ho
            simp only [Option.some.injEq] at hd
            subst hd
            have h31 : ∃ g1, f 31 = .slice (some ⟨g1, 0, none⟩) ns.length ns.length := hdep { on := 5, ground := .data } (by simp) rfl 31 rfl
            generalize hA : fr _ _ _ f = A at hK ⊢
            have e31 : A.tmps[31]?.getD undef = f 31 := by rw [← hA]; exact fr_in _ _ _ _ 31 (by decide) (by simp)
            clear hA hdep
            obtain ⟨g1, h31⟩ := h31
            rw [h31] at e31
            have Hf31 := Lib.hid h31
            clear h31
            go_simp
            exact hK _ _ (Below.refl _ _) hC ⟨g1, rfl⟩
          · simp only [List.getElem?_toArray, List.getElem?_cons_zero, List.getElem?_cons_succ, Option.some.injEq] at ho
            subst ho
            simp only [Option.some.injEq] at hd
            subst hd
            have h32 : ∃ g2, f 32 = .slice (some ⟨g2, 0, none⟩) ns.length ns.length ∧ SI w1 (fun _ => True) (some ⟨g2, 0, none⟩) (colL ds (lowL 1 ms) (partsL ns.length ds (lowL 1 ms))) := hdep { on := 6, ground := .data } (by simp) rfl 32 rfl
            generalize hA : fr _ _ _ f = A at hK ⊢
            have e32 : A.tmps[32]?.getD undef = f 32 := by rw [← hA]; exact fr_in _ _ _ _ 32 (by decide) (by simp)
            clear hA hdep
            obtain ⟨g2, h32, l1⟩ := h32
            rw [h32] at e32
            have Hf32 := Lib.hid h32
            clear h32
            go_simp
            exact hK _ _ (Below.refl _ _) hC ⟨g2, rfl, l1⟩
        · intro f w1 hC hall
          have q0 : ∃ g2, f 10 = .slice (some ⟨g2, 0, none⟩) ns.length ns.length ∧ SI w1 (fun _ => True) (some ⟨g2, 0, none⟩) (colL ds (lowL 1 ms) (partsL ns.length ds (lowL 1 ms))) := hall 8 10 (by decide) rfl
          have H0 := Lib.hid q0
          clear hall q0
          simp only [fr, upd, List.mapIdx_cons, List.mapIdx_nil]
          simp
          go_wp2_with fail
          go_meet
          case rel =>
            obtain ⟨g2, a1, a2⟩ := H0.out
            exact ⟨g2, a1, a2, hC⟩
      case rest =>
        obtain ⟨w6, rfl⟩ : ∃ W0, W0 = wc := ⟨_, rfl⟩
        obtain ⟨gb, rfl, sB, hb6⟩ := hcut
        have sA := sA.keep (Kept.of_below hb6)
        have m0 := (hb6.cell (p := ⟨w.heap.size, 0, none⟩) (World.block_lt_of_cell? _ _ n0)).trans n0
        have hb16 := hbA.trans ((hb5.trans (hb6.mono hb5.size)).mono hbA.size)
        have la : (colL ds (lowL 2 ms) (partsL ns.length ds (lowL 2 ms))).length = ns.length := by rw [colL_len, partsL_len]
        have lb : (colL ds (lowL 1 ms) (partsL ns.length ds (lowL 1 ms))).length = ns.length := by rw [colL_len, partsL_len]
        clear n0 n1 hn1 hs1 hb5 hb6 hbA HD Hlow Z2
        generalize colL ds (lowL 2 ms) (partsL ns.length ds (lowL 2 ms)) = ca at *
        generalize colL ds (lowL 1 ms) (partsL ns.length ds (lowL 1 ms)) = cb at *
        have Hzl := Lib.hid (show (shadeL ca cb).length = ns.length by simp [shadeL, la, lb])
        have Hzk := Lib.hid (fun (k : Nat) (h1 : k < (shadeL ca cb).length) (h2 : k < ca.length) (h3 : k < cb.length) => show (shadeL ca cb)[k] = ⟨liveOf ca[k], liveOf cb[k], earthOf ca[k], earthOf cb[k]⟩ by simp [shadeL])
        have La := Lib.hid la
        have Lb := Lib.hid lb
        clear la lb
        generalize shadeL ca cb = Z at *
        go_wp2_with (at_make; go_must (refine wpList_makeR (f := shdV) (m := 4) rfl (.tmp 35) (.tmp 35) 69 rfl 135 _ 4 Tryd.underlying69 shdInfo ⟨false, false, false, false⟩ rfl shdV_len (by decide) _ _ ns.length rfl rfl (by omega) (by simp [maxLen]; omega) ?_); intro w7 ho7 hb7 hz7)
        rw [show List.replicate ns.length (⟨false, false, false, false⟩ : Shd) = filled Z ⟨false, false, false, false⟩ 0 by rw [filled_zero, Hzl.out]] at ho7
        go_loopg [39] ns.length (fun g i wr => ∃ k : Nat, k + g = ns.length ∧ i = .int .i64 k ∧ OS wr (fun g => g = w6.heap.size) (some ⟨w6.heap.size, 0, none⟩) ns.length (filled Z ⟨false, false, false, false⟩ k) ∧ Below w6.heap.size w6 wr)
        case atStart => exact ⟨0, by omega, rfl, ho7, hb7⟩
        case round =>
          clear ho7 hb7 m0
          obtain ⟨k, hk, rfl, hO, hB⟩ := hrel
          have Hk := Lib.hid hk
          clear hk
          by_cases hlt : k < ns.length
          · have hka : k < ca.length := by rw [La.out]; exact hlt
            have hkb : k < cb.length := by rw [Lb.out]; exact hlt
            have hkz : k < Z.length := by rw [Hzl.out]; exact hlt
            obtain ⟨g1, o1, e1, _, _, a1⟩ := (sA.keep (Kept.of_below hB)).at_ hka
            injection e1 with e1
            injection e1 with e1 e2
            subst e1 e2
            obtain ⟨g1, o1, e1, _, _, b1⟩ := (sB.keep (Kept.of_below hB)).at_ hkb
            injection e1 with e1
            injection e1 with e1 e2
            subst e1 e2
            have hkf : k < (filled Z ⟨false, false, false, false⟩ k).length := by rw [filled_len _ _ _ (by omega)]; exact hkz
            obtain ⟨g1, o1, e1, _, _, hcl⟩ := OV.rec hO shdV_len hkf (by decide)
            injection e1 with e1
            injection e1 with e1 e2
            subst e1 e2
            obtain ⟨c0, f0⟩ := hcl 0 _ rfl
            obtain ⟨d1, f1⟩ := hcl 1 _ rfl
            obtain ⟨d2, f2⟩ := hcl 2 _ rfl
            obtain ⟨d3, f3⟩ := hcl 3 _ rfl
            simp only [Nat.zero_add, Nat.add_zero] at a1 b1 c0 d1 d2 d3 f0 f1 f2 f3
            have HZk := Lib.hid (Hzk.out k hkz hka hkb)
            have Hst := Lib.hid (filled_step Z ⟨false, false, false, false⟩ k hkz)
            clear hcl
            go_wp2_with (fail)
            go_still_tail 28, (by kernel_rfl)
            change wpList _ _ _ _ _ wr.drew
            go_wp2_with (fail)
            go_roundg (gk - 1)
            case measure => have := Hk.out; omega
            case rel =>
              refine ⟨k + 1, by have := Hk.out; omega, by go_num, ?_, ?_⟩
              · rw [← Hst.out, HZk.out]
                have hp := hO.put hkf ⟨liveOf ca[k], liveOf cb[k], earthOf ca[k], earthOf cb[k]⟩
                simp only [liveOf, earthOf] at hp ⊢
                exact hp.drew
              · exact ((((hB.setCell (p := ⟨w6.heap.size, _, none⟩) (Nat.le_refl _) _).setCell (p := ⟨w6.heap.size, _, none⟩) (Nat.le_refl _) _).setCell (p := ⟨w6.heap.size, _, none⟩) (Nat.le_refl _) _).setCell (p := ⟨w6.heap.size, _, none⟩) (Nat.le_refl _) _).drew
          · rw [filled_all Z _ k (by rw [Hzl.out]; omega)] at hO
            go_wp2_with (fail)
            go_ret2
            rw [HE.out]
            exact ⟨some ⟨w6.heap.size, 0, none⟩, ns.length, by rw [Hzl.out]; rfl, hO.mono (fun x _ hx => by subst hx; exact hb16.size), hb16.trans (hB.mono hb16.size)⟩
end Go.Proofs.YtgpcojmdfmngeaaDoor

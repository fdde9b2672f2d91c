/-
  Walks of the reference's place, change, Check (interruption).
-/
import Derived.Test.YtgpcojmdfmngeaaDoorR06s
import Derived.Test.YtgpcojmdfmngeaaDoorGh
import Derived.Test.YtgpcojmdfmngeaaDoorGa
namespace Go.Proofs.YtgpcojmdfmngeaaDoor
open Go.RowKit
set_option maxHeartbeats 400000
set_option maxRecDepth 100000

abbrev chgAgg (x : Chg) : Value := .agg #[.int .i64 x.t, .int .i64 x.dev, .int .i64 x.pos]
/-- the first error of a change, but for its time -/
def placeE (n : Nat) (x : Chg) : Int := if x.dev < 0 ∨ (n : Int) ≤ x.dev then 8 else if x.pos ≠ 1 ∧ x.pos ≠ 2 then 10 else 0
def changeE (n : Nat) (x : Chg) (last : Int) : Int := if x.t < 0 ∨ x.t < last then 11 else placeE n x

set_option maxHeartbeats 2000000 in
theorem refPlace_any (w : World) (A1 A2 : Option Addr) (n1 c1 n2 c2 : Nat) (x : Chg) :
    Calls Tryd.prog 149 #[.agg #[.slice A1 n1 c1, .slice A2 n2 c2], chgAgg x] w fun e w' => e = .returned (.int .i64 (placeE n2 x)) ∧ Below w.heap.size w w' := by
  obtain ⟨t, dv, ps⟩ := x
  have hb := ((Below.refl w.heap.size w).alloc (Nat.le_refl _) (.cells #[.slice A1 n1 c1, .slice A2 n2 c2] 26)).alloc (by simp) (.cells #[.int .i64 t, .int .i64 dv, .int .i64 ps] 86)
  have HE := Lib.hid (show placeE n2 ⟨t, dv, ps⟩ = if dv < 0 ∨ (n2 : Int) ≤ dv then 8 else if ps ≠ 1 ∧ ps ≠ 2 then 10 else 0 from rfl)
  by_cases h3 : dv < 0
  · have d3 : decide (dv < 0) = true := decide_eq_true h3
    rw [if_pos (.inl h3)] at HE
    go_enter Tryd.func149, Tryd.ntmps149
    go_wp2_with (fail)
    go_ret
    exact ⟨by rw [HE.out]; rfl, hb⟩
  · have d3 : decide (dv < 0) = false := decide_eq_false h3
    by_cases h4 : (n2 : Int) ≤ dv
    · have d4 : decide ((n2 : Int) ≤ dv) = true := decide_eq_true h4
      rw [if_pos (.inr h4)] at HE
      go_enter Tryd.func149, Tryd.ntmps149
      go_wp2_with (fail)
      go_ret
      exact ⟨by rw [HE.out]; rfl, hb⟩
    · have d4 : decide ((n2 : Int) ≤ dv) = false := decide_eq_false h4
      rw [if_neg (by omega)] at HE
      by_cases h5 : (ps != 1) = true
      · by_cases h6 : (ps != 2) = true
        · rw [if_pos ⟨by simpa using h5, by simpa using h6⟩] at HE
          go_enter Tryd.func149, Tryd.ntmps149
          go_wp2_with (fail)
          go_ret
          exact ⟨by rw [HE.out]; rfl, hb⟩
        · have h6 : (ps != 2) = false := by simpa using h6
          rw [if_neg (by simp at h6; simp [h6])] at HE
          go_enter Tryd.func149, Tryd.ntmps149
          go_wp2_with (fail)
          go_ret
          exact ⟨by rw [HE.out]; rfl, hb⟩
      · have h5 : (ps != 1) = false := by simpa using h5
        rw [if_neg (by simp at h5; simp [h5])] at HE
        go_enter Tryd.func149, Tryd.ntmps149
        go_wp2_with (fail)
        go_ret
        exact ⟨by rw [HE.out]; rfl, hb⟩

set_option maxHeartbeats 2000000 in
theorem refChange_any (w : World) (A1 A2 : Option Addr) (n1 c1 n2 c2 : Nat) (x : Chg) (last : Int) :
    Calls Tryd.prog 150 #[.agg #[.slice A1 n1 c1, .slice A2 n2 c2], chgAgg x, .int .i64 last] w fun e w' => e = .returned (.int .i64 (changeE n2 x last)) ∧ Below w.heap.size w w' := by
  have hb := ((Below.refl w.heap.size w).alloc (Nat.le_refl _) (.cells #[.slice A1 n1 c1, .slice A2 n2 c2] 26)).alloc (by simp) (.cells #[.int .i64 x.t, .int .i64 x.dev, .int .i64 x.pos] 86)
  have HE := Lib.hid (show changeE n2 x last = if x.t < 0 ∨ x.t < last then 11 else placeE n2 x from rfl)
  have HP := Lib.hid (refPlace_any ((w.alloc (.cells #[.slice A1 n1 c1, .slice A2 n2 c2] 26)).alloc (.cells #[.int .i64 x.t, .int .i64 x.dev, .int .i64 x.pos] 86)) A1 A2 n1 c1 n2 c2 x)
  generalize placeE n2 x = pe at *
  obtain ⟨t, dv, ps⟩ := x
  simp only at HE HP hb
  by_cases h3 : t < 0
  · have d3 : decide (t < 0) = true := decide_eq_true h3
    rw [if_pos (.inl h3)] at HE
    go_enter Tryd.func150, Tryd.ntmps150
    go_wp2_with (fail)
    go_ret
    exact ⟨by rw [HE.out]; rfl, hb⟩
  · have d3 : decide (t < 0) = false := decide_eq_false h3
    by_cases h4 : t < last
    · have d4 : decide (t < last) = true := decide_eq_true h4
      rw [if_pos (.inr h4)] at HE
      go_enter Tryd.func150, Tryd.ntmps150
      go_wp2_with (fail)
      go_ret
      exact ⟨by rw [HE.out]; rfl, hb⟩
    · have d4 : decide (t < last) = false := decide_eq_false h4
      rw [if_neg (by omega)] at HE
      go_enter Tryd.func150, Tryd.ntmps150
      go_wp2_with (fail)
      refine HP.out.mono ?_
      rintro e w1 ⟨rfl, hb1⟩
      go_wp2_with (fail)
      go_ret
      exact ⟨by rw [HE.out]; rfl, hb.trans (hb1.mono hb.size)⟩

/-- chgE with its parts named -/
theorem chgE_place (n : Nat) (til : Int) (xs : List Chg) (k : Nat) (h : k < xs.length) (last : Int) :
    chgE n (til - 1) (xs.drop k) last = if xs[k].t < last ∨ til ≤ xs[k].t then 11 else if placeE n xs[k] ≠ 0 then placeE n xs[k] else chgE n (til - 1) (xs.drop (k + 1)) xs[k].t := by
  rw [chgE_drop n _ xs k h last]
  unfold placeE
  by_cases h1 : xs[k].t < last ∨ til ≤ xs[k].t
  · rw [if_pos h1, if_pos (by omega)]
  · rw [if_neg h1, if_neg (by omega)]
    by_cases h2 : xs[k].dev < 0 ∨ (n : Int) ≤ xs[k].dev
    · rw [if_pos h2, if_pos h2]; simp
    · rw [if_neg h2, if_neg h2]
      by_cases h3 : xs[k].pos ≠ 1 ∧ xs[k].pos ≠ 2
      · rw [if_pos h3, if_pos h3]; simp
      · rw [if_neg h3, if_neg h3]; simp

set_option maxHeartbeats 4000000 in
theorem refCheck22_any (w : World) (S : Nat → Prop) (A1 A2 : Option Addr) (c1 c2 : Nat) (ns : List Node) (ds : List Dev) (hn : NetIn w S A1 A2 ns ds) (hl1 : ns.length ≤ 65536) (hl2 : ds.length ≤ 65536)
    (U : Option Addr) (cu : Nat) (st : List Int) (hs : SI w S U st) (hsl : st.length ≤ 65536) (T : Nat → Prop) (A : Option Addr) (c : Nat) (xs : List Chg) (hx : SV w T A (recV chgV xs)) (hxl : xs.length ≤ 65536) (til : Int) :
    Calls Tryd.prog 87 #[.agg #[.slice A1 ns.length c1, .slice A2 ds.length c2], .slice U st.length cu, .slice A xs.length c, .int .i64 til] w fun e w' => e = .returned (.int .i64 (checkE ns ds st xs til)) ∧ Below w.heap.size w w' := by
  have hb := (Below.refl w.heap.size w).alloc (Nat.le_refl _) (.cells #[.slice A1 ns.length c1, .slice A2 ds.length c2] 26)
  have HC := Lib.hid (refState_any _ S A1 A2 c1 c2 ns ds (hn.below hb) hl1 hl2 U cu st (hs.keep (Kept.of_below hb)) hsl)
  have HE := Lib.hid (show checkE ns ds st xs til = if maskC isPos ns ds st ≠ 0 then maskC isPos ns ds st else if til < 1 ∨ 16777216 < til then 11 else changesE ds.length (til - 1) xs from rfl)
  generalize maskC isPos ns ds st = ce at *
  by_cases h0 : (ce != 0) = true
  · have H0 := Lib.hid (show ¬ ce = 0 by simpa using h0)
    go_enter Tryd.func87, Tryd.ntmps87
    go_wp2_with (fail)
    refine (HC.out).mono ?_
    rintro e w1 ⟨rfl, hb1⟩
    go_wp2_with (fail)
    go_ret
    rw [HE.out, if_pos H0.out]
    exact ⟨rfl, hb.trans (hb1.mono hb.size)⟩
  · have h0' : (ce != 0) = false := by simpa using h0
    have hz : ce = 0 := by simpa using h0
    rw [if_neg (by simpa using hz)] at HE
    clear h0 hz
    by_cases h1 : til < 1
    · have d1 : decide (til < 1) = true := decide_eq_true h1
      rw [if_pos (.inl h1)] at HE
      go_enter Tryd.func87, Tryd.ntmps87
      go_wp2_with (fail)
      refine (HC.out).mono ?_
      rintro e w1 ⟨rfl, hb1⟩
      go_wp2_with (fail)
      go_ret
      rw [HE.out]
      exact ⟨rfl, hb.trans (hb1.mono hb.size)⟩
    have d1 : decide (til < 1) = false := decide_eq_false h1
    by_cases h2 : 16777216 < til
    · have d2 : decide (16777216 < til) = true := decide_eq_true h2
      rw [if_pos (.inr h2)] at HE
      go_enter Tryd.func87, Tryd.ntmps87
      go_wp2_with (fail)
      refine (HC.out).mono ?_
      rintro e w1 ⟨rfl, hb1⟩
      go_wp2_with (fail)
      go_ret
      rw [HE.out]
      exact ⟨rfl, hb.trans (hb1.mono hb.size)⟩
    have d2 : decide (16777216 < til) = false := decide_eq_false h2
    rw [if_neg (by omega)] at HE
    by_cases h3 : 4096 < xs.length
    · have d3 : decide ((4096 : Int) < xs.length) = true := decide_eq_true (by omega)
      rw [show changesE ds.length (til - 1) xs = 1 from if_pos h3] at HE
      go_enter Tryd.func87, Tryd.ntmps87
      go_wp2_with (fail)
      refine (HC.out).mono ?_
      rintro e w1 ⟨rfl, hb1⟩
      go_wp2_with (fail)
      go_ret
      rw [HE.out]
      exact ⟨rfl, hb.trans (hb1.mono hb.size)⟩
    have d3 : decide ((4096 : Int) < xs.length) = false := decide_eq_false (by omega)
    rw [show changesE ds.length (til - 1) xs = chgE ds.length (til - 1) xs 0 from if_neg h3] at HE
    have HD := Lib.hid (fun (k : Nat) (h : k < xs.length) (last : Int) => chgE_place ds.length til xs k h last)
    have H0 := Lib.hid (show chgE ds.length (til - 1) xs 0 = chgE ds.length (til - 1) (xs.drop 0) 0 from rfl)
    clear h1 h2 h3
    go_enter Tryd.func87, Tryd.ntmps87
    go_wp2_with (fail)
    refine (HC.out).mono ?_
    rintro e w1 ⟨rfl, hb1⟩
    have hbA := hb.trans (hb1.mono hb.size)
    have Hbox := Lib.hid (box_at hb1)
    have hwz : w.heap.size < w1.heap.size := (Array.getElem?_eq_some_iff.1 Hbox.out).1
    have hx1 := hx.keep (Kept.of_below hbA)
    clear hb1 hb HC hx hs hn
    go_wp2_with (fail)
    go_loopg [10, 11] xs.length (fun g s i wr => ∃ (k : Nat) (last : Int), k + g = xs.length ∧ i = .int .i64 k ∧ s = .int .i64 last ∧ Hid (chgE ds.length (til - 1) xs 0 = chgE ds.length (til - 1) (xs.drop k) last) ∧ Below w1.heap.size w1 wr)
    case atStart => exact ⟨0, 0, by omega, rfl, rfl, H0, Below.refl _ _⟩
    case round =>
      obtain ⟨k, last, hk, rfl, rfl, HI, hB⟩ := hrel
      have Hk := Lib.hid hk
      clear hk
      have hbR := hbA.trans (hB.mono hbA.size)
      by_cases hlt : k < xs.length
      · obtain ⟨b, off, rfl, _, _, hc⟩ := (hx1.keep (Kept.of_below hB)).rec chgV_len (by decide) hlt
        have q0 := hc 0 _ rfl
        have q1 := hc 1 _ rfl
        have q2 := hc 2 _ rfl
        simp only [Nat.add_zero] at q0
        have hd := HD.out k hlt last
        clear hc
        generalize xs[k] = x at *
        have hpe : ∃ pe, pe = placeE ds.length x := ⟨_, rfl⟩
        obtain ⟨pe, hpe⟩ := hpe
        rw [← hpe] at hd
        have HPl := Lib.hid (fun W => by have := refPlace_any W A1 A2 ns.length c1 ds.length c2 x; rw [← hpe] at this; exact this)
        clear hpe
        obtain ⟨t, dv, ps⟩ := x
        simp only at hd q0 q1 q2
        by_cases h1 : t < last
        · have e1 : decide (t < last) = true := decide_eq_true h1
          have Hd := Lib.hid (show chgE ds.length (til - 1) (xs.drop k) last = 11 by rw [hd, if_pos (.inl h1)])
          clear hd
          go_wp2_with (fail)
          go_ret
          rw [HE.out, HI.out, Hd.out]
          exact ⟨rfl, hbR⟩
        have e1 : decide (t < last) = false := decide_eq_false h1
        by_cases h2 : til ≤ t
        · have e2 : decide (til ≤ t) = true := decide_eq_true h2
          have Hd := Lib.hid (show chgE ds.length (til - 1) (xs.drop k) last = 11 by rw [hd, if_pos (.inr h2)])
          clear hd
          go_wp2_with (fail)
          go_ret
          rw [HE.out, HI.out, Hd.out]
          exact ⟨rfl, hbR⟩
        have e2 : decide (til ≤ t) = false := decide_eq_false h2
        rw [if_neg (by omega)] at hd
        have Hd := Lib.hid hd
        have hbx := (hB.block _ hwz).trans Hbox.out
        have n0 : wr.cell? ⟨w.heap.size, 0, none⟩ = some (.slice A1 ns.length c1) := by rw [cell_of_row wr _ 0 _ _ _ hbx]; rfl
        have n1 : wr.cell? ⟨w.heap.size, 1, none⟩ = some (.slice A2 ds.length c2) := by rw [cell_of_row wr _ 1 _ _ _ hbx]; rfl
        clear hd hbx
        obtain ⟨wi, rfl⟩ : ∃ x : World, x = wr := ⟨_, rfl⟩
        obtain ⟨gko, rfl⟩ : ∃ x : Nat, x = gk := ⟨_, rfl⟩
        go_upto_region 14 with (fail)
        go_cut [12] (fun v12 wx => v12 = .int .i64 pe ∧ Below wi.heap.size wi wx)
        case first =>
          refine wp_region_ext1 (by kernel_rfl) 7 [50, 51, 52, 53, 54, 55, 12] (fun w' => Below wi.heap.size wi w') (fun a b => Below a.heap.size a b) (fun d vv w' => if d = 50 then vv = .agg #[.slice A1 ns.length c1, .slice A2 ds.length c2] else if d = 51 then vv = .slice (some ⟨b, off, none⟩) xs.length c else if d = 52 then vv = .int .i64 (k : Nat) else if d = 53 then vv = .pointer (some ⟨b, off + k * 3, none⟩) else if d = 54 then vv = chgAgg ⟨t, dv, ps⟩ else if d = 55 then vv = .int .i64 pe else if d = 12 then vv = .int .i64 pe else False) (by kernel_rfl) ((Below.refl _ _).drew) (fun _ _ _ _ _ _ h => h) ?_ ?_
          · intro i o d hi ho hd f w1 hC hdep K hK
            have hi' : i = 0 ∨ i = 1 ∨ i = 2 ∨ i = 3 ∨ i = 4 ∨ i = 5 ∨ i = 6 := by omega
            rcases hi' with rfl | rfl | rfl | rfl | rfl | rfl | rfl
            · simp only [List.getElem?_toArray, List.getElem?_cons_zero, Option.some.injEq] at ho
              subst ho
              simp only [Option.some.injEq] at hd
              subst hd
              generalize hA : fr _ _ _ f = A at hK ⊢
              have e4 : A.tmps[4]?.getD undef = .pointer (some ⟨w.heap.size, 0, none⟩) := by rw [← hA]; exact fr_out _ _ _ _ 4 _ (by decide) rfl
              clear hA hdep
              have hcn0 := (hC.cell (World.block_lt_of_cell? _ _ n0)).trans n0
              have hcn1 := (hC.cell (World.block_lt_of_cell? _ _ n1)).trans n1
              go_simp
              exact hK _ _ (Below.refl _ _) hC rfl
            · simp only [List.getElem?_toArray, List.getElem?_cons_zero, List.getElem?_cons_succ, Option.some.injEq] at ho
              subst ho
              simp only [Option.some.injEq] at hd
              subst hd
              generalize hA : fr _ _ _ f = A at hK ⊢
              have e2 : A.tmps[2]?.getD undef = .slice (some ⟨b, off, none⟩) xs.length c := by rw [← hA]; exact fr_out _ _ _ _ 2 _ (by decide) rfl
              clear hA hdep
              go_simp
              exact hK _ _ (Below.refl _ _) hC rfl
            · simp only [List.getElem?_toArray, List.getElem?_cons_zero, List.getElem?_cons_succ, Option.some.injEq] at ho
              subst ho
              simp only [Option.some.injEq] at hd
              subst hd
              generalize hA : fr _ _ _ f = A at hK ⊢
              have e11 : A.tmps[11]?.getD undef = .int .i64 (k : Nat) := by rw [← hA]; exact fr_out _ _ _ _ 11 _ (by decide) rfl
              clear hA hdep
              go_simp
              exact hK _ _ (Below.refl _ _) hC rfl
            · simp only [List.getElem?_toArray, List.getElem?_cons_zero, List.getElem?_cons_succ, Option.some.injEq] at ho
              subst ho
              simp only [Option.some.injEq] at hd
              subst hd
              have h51 : f 51 = .slice (some ⟨b, off, none⟩) xs.length c := hdep { on := 1, ground := .data } (by simp) rfl 51 rfl
              have h52 : f 52 = .int .i64 (k : Nat) := hdep { on := 2, ground := .data } (by simp) rfl 52 rfl
              generalize hA : fr _ _ _ f = A at hK ⊢
              have e51 : A.tmps[51]?.getD undef = f 51 := by rw [← hA]; exact fr_in _ _ _ _ 51 (by decide) (by simp)
              have e52 : A.tmps[52]?.getD undef = f 52 := by rw [← hA]; exact fr_in _ _ _ _ 52 (by decide) (by simp)
              clear hA hdep
              rw [h51] at e51
              clear h51
              rw [h52] at e52
              clear h52
              go_simp
              exact hK _ _ (Below.refl _ _) hC rfl
            · simp only [List.getElem?_toArray, List.getElem?_cons_zero, List.getElem?_cons_succ, Option.some.injEq] at ho
              subst ho
              simp only [Option.some.injEq] at hd
              subst hd
              have h53 : f 53 = .pointer (some ⟨b, off + k * 3, none⟩) := hdep { on := 3, ground := .data } (by simp) rfl 53 rfl
              generalize hA : fr _ _ _ f = A at hK ⊢
              have e53 : A.tmps[53]?.getD undef = f 53 := by rw [← hA]; exact fr_in _ _ _ _ 53 (by decide) (by simp)
              clear hA hdep
              rw [h53] at e53
              clear h53
              have hcq0 := (hC.cell (World.block_lt_of_cell? _ _ q0)).trans q0
              have hcq1 := (hC.cell (World.block_lt_of_cell? _ _ q1)).trans q1
              have hcq2 := (hC.cell (World.block_lt_of_cell? _ _ q2)).trans q2
              go_simp
              exact hK _ _ (Below.refl _ _) hC rfl
            · simp only [List.getElem?_toArray, List.getElem?_cons_zero, List.getElem?_cons_succ, Option.some.injEq] at ho
              subst ho
              simp only [Option.some.injEq] at hd
              subst hd
              have h50 : f 50 = .agg #[.slice A1 ns.length c1, .slice A2 ds.length c2] := hdep { on := 0, ground := .data } (by simp) rfl 50 rfl
              have h54 : f 54 = chgAgg ⟨t, dv, ps⟩ := hdep { on := 4, ground := .data } (by simp) rfl 54 rfl
              generalize hA : fr _ _ _ f = A at hK ⊢
              have e50 : A.tmps[50]?.getD undef = f 50 := by rw [← hA]; exact fr_in _ _ _ _ 50 (by decide) (by simp)
              have e54 : A.tmps[54]?.getD undef = f 54 := by rw [← hA]; exact fr_in _ _ _ _ 54 (by decide) (by simp)
              clear hA hdep
              rw [h50] at e50
              clear h50
              rw [h54] at e54
              clear h54
              go_simp
              refine (HPl.out w1).mono ?_
              rintro e' w2 ⟨rfl, hb2⟩
              exact hK _ _ hb2 (hC.trans (hb2.mono hC.size)) rfl
            · simp only [List.getElem?_toArray, List.getElem?_cons_zero, List.getElem?_cons_succ, Option.some.injEq] at ho
              subst ho
              simp only [Option.some.injEq] at hd
              subst hd
              have h55 : f 55 = .int .i64 pe := hdep { on := 5, ground := .data } (by simp) rfl 55 rfl
              generalize hA : fr _ _ _ f = A at hK ⊢
              have e55 : A.tmps[55]?.getD undef = f 55 := by rw [← hA]; exact fr_in _ _ _ _ 55 (by decide) (by simp)
              clear hA hdep
              rw [h55] at e55
              clear h55
              go_simp
              exact hK _ _ (Below.refl _ _) hC rfl
          · intro f w1 hC hall
            have q0 : f 12 = .int .i64 pe := hall 6 12 (by decide) rfl
            have H0 := Lib.hid q0
            clear hall q0
            simp only [fr, upd, List.mapIdx_cons, List.mapIdx_nil]
            simp
            go_wp2_with fail
            go_meet
            case rel => exact ⟨H0.out, hC⟩
        case rest =>
          obtain ⟨wx, rfl⟩ : ∃ x, x = wc := ⟨_, rfl⟩
          obtain ⟨rfl, hbx⟩ := hcut
          have hBx := hB.trans (hbx.mono hB.size)
          have p0 := (hbx.cell (World.block_lt_of_cell? _ _ q0)).trans q0
          clear q0 q1 q2 n0 n1 HPl
          by_cases h3 : (pe != 0) = true
          · have Hd2 := Lib.hid (show chgE ds.length (til - 1) (xs.drop k) last = pe by rw [Hd.out, if_pos (by simpa using h3)])
            go_wp2_with (fail)
            go_ret
            rw [HE.out, HI.out, Hd2.out]
            exact ⟨rfl, hbA.trans (hBx.mono hbA.size)⟩
          · have h3 : (pe != 0) = false := by simpa using h3
            have Hd2 := Lib.hid (show chgE ds.length (til - 1) (xs.drop k) last = chgE ds.length (til - 1) (xs.drop (k + 1)) t by rw [Hd.out, if_neg (by simpa using h3)])
            go_wp2_with (fail)
            go_roundg (gko - 1)
            case measure => have := Hk.out; omega
            case rel => exact ⟨k + 1, t, by have := Hk.out; omega, by go_num, rfl, Lib.hid (by rw [HI.out, Hd2.out]), hBx⟩
      · go_wp2_with (fail)
        go_ret
        rw [HE.out, HI.out, List.drop_of_length_le (by omega)]
        exact ⟨rfl, hbR⟩
end Go.Proofs.YtgpcojmdfmngeaaDoor

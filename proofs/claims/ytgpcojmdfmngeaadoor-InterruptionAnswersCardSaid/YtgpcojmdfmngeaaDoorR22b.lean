/-
  Walks of interruption.At and of the reference's At, at any changes.
-/
import Derived.Test.YtgpcojmdfmngeaaDoorR22
namespace Go.Proofs.YtgpcojmdfmngeaaDoor
open Go.RowKit
set_option maxHeartbeats 400000
set_option maxRecDepth 100000

/-- What At gives: the positions, an error. -/
def atE (ns : List Node) (ds : List Dev) (st : List Int) (xs : List Chg) (time : Int) : List Int × Int :=
  if maskC isPos ns ds st ≠ 0 then ([], maskC isPos ns ds st) else if changesE ds.length 9223372036854775807 xs ≠ 0 then ([], changesE ds.length 9223372036854775807 xs) else (putC time st xs, 0)

set_option maxHeartbeats 2000000 in
theorem At_any (w : World) (h : TabC w) (ht : Tab w) (S : Nat → Prop) (A1 A2 : Option Addr) (c1 c2 : Nat) (ns : List Node) (ds : List Dev) (hn : NetIn w S A1 A2 ns ds) (hl1 : ns.length ≤ 65536) (hl2 : ds.length ≤ 65536)
    (U : Option Addr) (cu : Nat) (st : List Int) (hs : SI w S U st) (hsl : st.length ≤ 65536) (T : Nat → Prop) (A : Option Addr) (c : Nat) (xs : List Chg) (hx : SV w T A (recV chgV xs)) (hxl : xs.length ≤ 65536) (time : Int) :
    Calls Tryd.prog 88 #[.agg #[.slice A1 ns.length c1, .slice A2 ds.length c2], .slice U st.length cu, .slice A xs.length c, .int .i64 time] w (RetIE w (atE ns ds st xs time)) := by
  by_cases hm : maskC isPos ns ds st = 0
  · by_cases hce : changesE ds.length 9223372036854775807 xs = 0
    · have := At_ok w h ht S A1 A2 c1 c2 ns ds hn hl1 hl2 U cu st hs hm T A c xs hx hce time
      unfold atE
      rw [if_neg (not_not_intro hm), if_neg (not_not_intro hce)]
      exact this
    · have HE := Lib.hid (show atE ns ds st xs time = ([], changesE ds.length 9223372036854775807 xs) by unfold atE; rw [if_neg (not_not_intro hm), if_pos hce])
      have hb := (Below.refl w.heap.size w).alloc (Nat.le_refl _) (.cells #[.slice A1 ns.length c1, .slice A2 ds.length c2] 26)
      have HC := mstate_any _ (h.below hb) (ht.below hb) S A1 A2 c1 c2 ns ds (hn.below hb) hl1 hl2 U cu st (hs.keep (Kept.of_below hb)) hsl
      rw [hm] at HC
      have HC := Lib.hid HC
      have hne : (changesE ds.length 9223372036854775807 xs != 0) = true := by simpa using hce
      have HQ := Lib.hid (fun (w1 : World) (hbA : Below w.heap.size w w1) => changes_any w1 A1 A2 ns.length c1 ds.length c2 T A c xs (hx.keep (Kept.of_below hbA)) hxl 9223372036854775807)
      clear hm hce
      generalize changesE ds.length 9223372036854775807 xs = ce at *
      go_enter Tryd.func88, Tryd.ntmps88
      go_wp2_with (fail)
      refine (HC.out).mono ?_
      rintro e w1 ⟨rfl, hb1⟩
      have hbA := hb.trans (hb1.mono hb.size)
      have Hbox := Lib.hid (box_at hb1)
      have n0 : w1.cell? ⟨w.heap.size, 0, none⟩ = some (.slice A1 ns.length c1) := by rw [cell_of_row w1 _ 0 _ _ _ Hbox.out]; rfl
      have n1 : w1.cell? ⟨w.heap.size, 1, none⟩ = some (.slice A2 ds.length c2) := by rw [cell_of_row w1 _ 1 _ _ _ Hbox.out]; rfl
      go_wp2_with (fail)
      refine (HQ.out w1 hbA).mono ?_
      rintro e w2 ⟨rfl, hb2⟩
      go_wp2_with (fail)
      go_ret2
      rw [HE.out]
      exact ⟨none, 0, rfl, OI.nil _ _, hbA.trans (hb2.mono hbA.size)⟩
  · have HE := Lib.hid (show atE ns ds st xs time = ([], maskC isPos ns ds st) by unfold atE; rw [if_pos hm])
    have hb := (Below.refl w.heap.size w).alloc (Nat.le_refl _) (.cells #[.slice A1 ns.length c1, .slice A2 ds.length c2] 26)
    have HC := Lib.hid (mstate_any _ (h.below hb) (ht.below hb) S A1 A2 c1 c2 ns ds (hn.below hb) hl1 hl2 U cu st (hs.keep (Kept.of_below hb)) hsl)
    have hne : (maskC isPos ns ds st != 0) = true := by simpa using hm
    have heq : (maskC isPos ns ds st == 0) = false := by simpa using hm
    clear hm
    generalize maskC isPos ns ds st = ce at *
    go_enter Tryd.func88, Tryd.ntmps88
    go_wp2_with (fail)
    refine (HC.out).mono ?_
    rintro e w1 ⟨rfl, hb1⟩
    go_wp2_with (fail)
    go_ret2
    rw [HE.out]
    exact ⟨none, 0, rfl, OI.nil _ _, hb.trans (hb1.mono hb.size)⟩

theorem chgE_change (n : Nat) (xs : List Chg) (k : Nat) (h : k < xs.length) (last : Int) (hl : 0 ≤ last) (hw : xs[k].t ≤ 9223372036854775807) :
    (changeE n xs[k] last ≠ 0 → chgE n 9223372036854775807 (xs.drop k) last = changeE n xs[k] last) ∧ (changeE n xs[k] last = 0 → chgE n 9223372036854775807 (xs.drop k) last = chgE n 9223372036854775807 (xs.drop (k + 1)) xs[k].t ∧ 0 ≤ xs[k].t) := by
  rw [chgE_drop n _ xs k h last]
  unfold changeE placeE
  by_cases h1 : xs[k].t < last
  · have a : xs[k].t < 0 ∨ xs[k].t < last := .inr h1
    have b : xs[k].t < last ∨ 9223372036854775807 < xs[k].t := .inl h1
    simp only [if_pos a, if_pos b]
    simp
  · have a : ¬ (xs[k].t < 0 ∨ xs[k].t < last) := by omega
    have b : ¬ (xs[k].t < last ∨ 9223372036854775807 < xs[k].t) := by omega
    simp only [if_neg a, if_neg b]
    by_cases h2 : xs[k].dev < 0 ∨ (n : Int) ≤ xs[k].dev
    · simp only [if_pos h2]
      simp
    · simp only [if_neg h2]
      by_cases h3 : xs[k].pos ≠ 1 ∧ xs[k].pos ≠ 2
      · simp only [if_pos h3]
        simp
      · simp only [if_neg h3]
        simp
        omega

set_option maxHeartbeats 4000000 in
theorem refAt22_any (w : World) (S : Nat → Prop) (A1 A2 : Option Addr) (c1 c2 : Nat) (ns : List Node) (ds : List Dev) (hn : NetIn w S A1 A2 ns ds) (hl1 : ns.length ≤ 65536) (hl2 : ds.length ≤ 65536)
    (U : Option Addr) (cu : Nat) (st : List Int) (hs : SI w S U st) (hsl : st.length ≤ 65536) (T : Nat → Prop) (A : Option Addr) (c : Nat) (xs : List Chg) (hx : SV w T A (recV chgV xs)) (hxl : xs.length ≤ 65536) (hwf : ∀ x ∈ xs, x.t ≤ 9223372036854775807) (time : Int) :
    Calls Tryd.prog 89 #[.agg #[.slice A1 ns.length c1, .slice A2 ds.length c2], .slice U st.length cu, .slice A xs.length c, .int .i64 time] w (RetIE w (atE ns ds st xs time)) := by
  have hb := (Below.refl w.heap.size w).alloc (Nat.le_refl _) (.cells #[.slice A1 ns.length c1, .slice A2 ds.length c2] 26)
  have HC := Lib.hid (refState_any _ S A1 A2 c1 c2 ns ds (hn.below hb) hl1 hl2 U cu st (hs.keep (Kept.of_below hb)) hsl)
  have HE := Lib.hid (show atE ns ds st xs time = if maskC isPos ns ds st ≠ 0 then ([], maskC isPos ns ds st) else if changesE ds.length 9223372036854775807 xs ≠ 0 then ([], changesE ds.length 9223372036854775807 xs) else (putC time st xs, 0) from rfl)
  have HZ := Lib.hid (@maskC_zero isPos ns ds st)
  generalize maskC isPos ns ds st = ce at *
  by_cases h0 : (ce != 0) = true
  · have H0 := Lib.hid (show ¬ ce = 0 by simpa using h0)
    go_enter Tryd.func89, Tryd.ntmps89
    go_wp2_with (fail)
    refine (HC.out).mono ?_
    rintro e w1 ⟨rfl, hb1⟩
    go_wp2_with (fail)
    go_ret2
    rw [HE.out, if_pos H0.out]
    exact ⟨none, 0, rfl, OI.nil _ _, hb.trans (hb1.mono hb.size)⟩
  · have h0' : (ce != 0) = false := by simpa using h0
    have hz : ce = 0 := by simpa using h0
    rw [if_neg (by simpa using hz)] at HE
    have HE := Lib.hid HE.out
    have Hsl := Lib.hid (HZ.out hz).2.1
    clear h0 hz HZ
    by_cases h3 : 4096 < xs.length
    · have d3 : decide ((4096 : Int) < xs.length) = true := decide_eq_true (by omega)
      rw [show changesE ds.length 9223372036854775807 xs = 1 from if_pos h3, if_pos (by decide)] at HE
      go_enter Tryd.func89, Tryd.ntmps89
      go_wp2_with (fail)
      refine (HC.out).mono ?_
      rintro e w1 ⟨rfl, hb1⟩
      go_wp2_with (fail)
      go_ret2
      rw [HE.out]
      exact ⟨none, 0, rfl, OI.nil _ _, hb.trans (hb1.mono hb.size)⟩
    have d3 : decide ((4096 : Int) < xs.length) = false := decide_eq_false (by omega)
    rw [show changesE ds.length 9223372036854775807 xs = chgE ds.length 9223372036854775807 xs 0 from if_neg h3] at HE
    have HD := Lib.hid (fun (k : Nat) (h : k < xs.length) (last : Int) (hl : 0 ≤ last) => chgE_change ds.length xs k h last hl (hwf _ (List.getElem_mem h)))
    have H0 := Lib.hid (show chgE ds.length 9223372036854775807 xs 0 = chgE ds.length 9223372036854775807 (xs.drop 0) 0 from rfl)
    have HZ := Lib.hid (show chgE ds.length 9223372036854775807 xs 0 = 0 → _ from chgE_zero)
    clear hwf
    go_enter Tryd.func89, Tryd.ntmps89
    go_wp2_with (fail)
    refine (HC.out).mono ?_
    rintro e w1 ⟨rfl, hb1⟩
    have hbA := hb.trans (hb1.mono hb.size)
    have Hbox := Lib.hid (box_at hb1)
    have hwz : w.heap.size < w1.heap.size := (Array.getElem?_eq_some_iff.1 Hbox.out).1
    have hx1 := hx.keep (Kept.of_below hbA)
    have hs1 := hs.keep (Kept.of_below hbA)
    clear hb1 hb HC hx hs hn
    go_wp2_with (fail)
    go_loopg [11, 12] xs.length (fun g s i wr => ∃ (k : Nat) (last : Int), k + g = xs.length ∧ i = .int .i64 k ∧ s = .int .i64 last ∧ 0 ≤ last ∧ Hid (chgE ds.length 9223372036854775807 xs 0 = chgE ds.length 9223372036854775807 (xs.drop k) last) ∧ Below w1.heap.size w1 wr)
    case atStart => exact ⟨0, 0, by omega, rfl, rfl, Int.le_refl _, H0, Below.refl _ _⟩
    case round =>
      obtain ⟨k, last, hk, rfl, rfl, hlast, HI, hB⟩ := hrel
      have Hk := Lib.hid hk
      clear hk
      have hbR := hbA.trans (hB.mono hbA.size)
      by_cases hlt : k < xs.length
      · obtain ⟨b, off, rfl, _, _, hc⟩ := (hx1.keep (Kept.of_below hB)).rec chgV_len (by decide) hlt
        have q0 := hc 0 _ rfl
        have q1 := hc 1 _ rfl
        have q2 := hc 2 _ rfl
        simp only [Nat.add_zero] at q0
        have hd := HD.out k hlt last hlast
        clear hc
        generalize xs[k] = x at *
        have hpe : ∃ pe, pe = changeE ds.length x last := ⟨_, rfl⟩
        obtain ⟨pe, hpe⟩ := hpe
        rw [← hpe] at hd
        have HPl := Lib.hid (fun W => by have := refChange_any W A1 A2 ns.length c1 ds.length c2 x last; rw [← hpe] at this; exact this)
        have Hd := Lib.hid hd
        clear hpe hd
        obtain ⟨t, dv, ps⟩ := x
        simp only at q0 q1 q2
        have hbx := (hB.block _ hwz).trans Hbox.out
        have n0 : wr.cell? ⟨w.heap.size, 0, none⟩ = some (.slice A1 ns.length c1) := by rw [cell_of_row wr _ 0 _ _ _ hbx]; rfl
        have n1 : wr.cell? ⟨w.heap.size, 1, none⟩ = some (.slice A2 ds.length c2) := by rw [cell_of_row wr _ 1 _ _ _ hbx]; rfl
        clear hbx
        obtain ⟨wi, rfl⟩ : ∃ x : World, x = wr := ⟨_, rfl⟩
        obtain ⟨gko, rfl⟩ : ∃ x : Nat, x = gk := ⟨_, rfl⟩
        go_upto_region 10 with (fail)
        go_cut [13] (fun v13 wx => v13 = .int .i64 pe ∧ Below wi.heap.size wi wx)
        case first =>
          refine wp_region_ext1 (by kernel_rfl) 8 [31, 32, 33, 34, 35, 36, 37, 13] (fun w' => Below wi.heap.size wi w') (fun a b => Below a.heap.size a b) (fun d vv w' => if d = 31 then vv = .agg #[.slice A1 ns.length c1, .slice A2 ds.length c2] else if d = 32 then vv = .slice (some ⟨b, off, none⟩) xs.length c else if d = 33 then vv = .int .i64 (k : Nat) else if d = 34 then vv = .pointer (some ⟨b, off + k * 3, none⟩) else if d = 35 then vv = chgAgg ⟨t, dv, ps⟩ else if d = 36 then vv = .int .i64 last else if d = 37 then vv = .int .i64 pe else if d = 13 then vv = .int .i64 pe else False) (by kernel_rfl) ((Below.refl _ _).drew) (fun _ _ _ _ _ _ h => h) ?_ ?_
          · intro i o d hi ho hd f w1 hC hdep K hK
            have hi' : i = 0 ∨ i = 1 ∨ i = 2 ∨ i = 3 ∨ i = 4 ∨ i = 5 ∨ i = 6 ∨ i = 7 := by omega
            rcases hi' with rfl | rfl | rfl | rfl | rfl | rfl | rfl | rfl
            · simp only [List.getElem?_toArray, List.getElem?_cons_zero, Option.some.injEq] at ho
              subst ho
              simp only [Option.some.injEq] at hd
              subst hd
              generalize hA : fr _ _ _ f = A at hK ⊢
              have e4 : A.tmps[4]?.getD undef = .pointer (some ⟨w.heap.size, 0, none⟩) := by rw [← hA]; exact fr_out _ _ _ _ 4 _ (by decide) rfl
              clear hA hdep
              have hcn0 := (hC.cell (World.block_lt_of_cell? _ _ n0)).trans n0
              have hcn1 := (hC.cell (World.block_lt_of_cell? _ _ n1)).trans n1
              go_simp
              exact hK _ _ (Below.refl _ _) hC rfl
            · simp only [List.getElem?_toArray, List.getElem?_cons_zero, List.getElem?_cons_succ, Option.some.injEq] at ho
              subst ho
              simp only [Option.some.injEq] at hd
              subst hd
              generalize hA : fr _ _ _ f = A at hK ⊢
              have e2 : A.tmps[2]?.getD undef = .slice (some ⟨b, off, none⟩) xs.length c := by rw [← hA]; exact fr_out _ _ _ _ 2 _ (by decide) rfl
              clear hA hdep
              go_simp
              exact hK _ _ (Below.refl _ _) hC rfl
            · simp only [List.getElem?_toArray, List.getElem?_cons_zero, List.getElem?_cons_succ, Option.some.injEq] at ho
              subst ho
              simp only [Option.some.injEq] at hd
              subst hd
              generalize hA : fr _ _ _ f = A at hK ⊢
              have e12 : A.tmps[12]?.getD undef = .int .i64 (k : Nat) := by rw [← hA]; exact fr_out _ _ _ _ 12 _ (by decide) rfl
              clear hA hdep
              go_simp
              exact hK _ _ (Below.refl _ _) hC rfl
            · simp only [List.getElem?_toArray, List.getElem?_cons_zero, List.getElem?_cons_succ, Option.some.injEq] at ho
              subst ho
              simp only [Option.some.injEq] at hd
              subst hd
              have h32 : f 32 = .slice (some ⟨b, off, none⟩) xs.length c := hdep { on := 1, ground := .data } (by simp) rfl 32 rfl
              have h33 : f 33 = .int .i64 (k : Nat) := hdep { on := 2, ground := .data } (by simp) rfl 33 rfl
              generalize hA : fr _ _ _ f = A at hK ⊢
              have e32 : A.tmps[32]?.getD undef = f 32 := by rw [← hA]; exact fr_in _ _ _ _ 32 (by decide) (by simp)
              have e33 : A.tmps[33]?.getD undef = f 33 := by rw [← hA]; exact fr_in _ _ _ _ 33 (by decide) (by simp)
              clear hA hdep
              rw [h32] at e32
              clear h32
              rw [h33] at e33
              clear h33
              go_simp
              exact hK _ _ (Below.refl _ _) hC rfl
            · simp only [List.getElem?_toArray, List.getElem?_cons_zero, List.getElem?_cons_succ, Option.some.injEq] at ho
              subst ho
              simp only [Option.some.injEq] at hd
              subst hd
              have h34 : f 34 = .pointer (some ⟨b, off + k * 3, none⟩) := hdep { on := 3, ground := .data } (by simp) rfl 34 rfl
              generalize hA : fr _ _ _ f = A at hK ⊢
              have e34 : A.tmps[34]?.getD undef = f 34 := by rw [← hA]; exact fr_in _ _ _ _ 34 (by decide) (by simp)
              clear hA hdep
              rw [h34] at e34
              clear h34
              have hcq0 := (hC.cell (World.block_lt_of_cell? _ _ q0)).trans q0
              have hcq1 := (hC.cell (World.block_lt_of_cell? _ _ q1)).trans q1
              have hcq2 := (hC.cell (World.block_lt_of_cell? _ _ q2)).trans q2
              go_simp
              exact hK _ _ (Below.refl _ _) hC rfl
            · simp only [List.getElem?_toArray, List.getElem?_cons_zero, List.getElem?_cons_succ, Option.some.injEq] at ho
              subst ho
              simp only [Option.some.injEq] at hd
              subst hd
              generalize hA : fr _ _ _ f = A at hK ⊢
              have e11 : A.tmps[11]?.getD undef = .int .i64 last := by rw [← hA]; exact fr_out _ _ _ _ 11 _ (by decide) rfl
              clear hA hdep
              go_simp
              exact hK _ _ (Below.refl _ _) hC rfl
            · simp only [List.getElem?_toArray, List.getElem?_cons_zero, List.getElem?_cons_succ, Option.some.injEq] at ho
              subst ho
              simp only [Option.some.injEq] at hd
              subst hd
              have h31 : f 31 = .agg #[.slice A1 ns.length c1, .slice A2 ds.length c2] := hdep { on := 0, ground := .data } (by simp) rfl 31 rfl
              have h35 : f 35 = chgAgg ⟨t, dv, ps⟩ := hdep { on := 4, ground := .data } (by simp) rfl 35 rfl
              have h36 : f 36 = .int .i64 last := hdep { on := 5, ground := .data } (by simp) rfl 36 rfl
              generalize hA : fr _ _ _ f = A at hK ⊢
              have e31 : A.tmps[31]?.getD undef = f 31 := by rw [← hA]; exact fr_in _ _ _ _ 31 (by decide) (by simp)
              have e35 : A.tmps[35]?.getD undef = f 35 := by rw [← hA]; exact fr_in _ _ _ _ 35 (by decide) (by simp)
              have e36 : A.tmps[36]?.getD undef = f 36 := by rw [← hA]; exact fr_in _ _ _ _ 36 (by decide) (by simp)
              clear hA hdep
              rw [h31] at e31
              clear h31
              rw [h35] at e35
              clear h35
              rw [h36] at e36
              clear h36
              go_simp
              refine (HPl.out w1).mono ?_
              rintro e' w2 ⟨rfl, hb2⟩
              exact hK _ _ hb2 (hC.trans (hb2.mono hC.size)) rfl
            · simp only [List.getElem?_toArray, List.getElem?_cons_zero, List.getElem?_cons_succ, Option.some.injEq] at ho
              subst ho
              simp only [Option.some.injEq] at hd
              subst hd
              have h37 : f 37 = .int .i64 pe := hdep { on := 6, ground := .data } (by simp) rfl 37 rfl
              generalize hA : fr _ _ _ f = A at hK ⊢
              have e37 : A.tmps[37]?.getD undef = f 37 := by rw [← hA]; exact fr_in _ _ _ _ 37 (by decide) (by simp)
              clear hA hdep
              rw [h37] at e37
              clear h37
              go_simp
              exact hK _ _ (Below.refl _ _) hC rfl
          · intro f w1 hC hall
            have q0 : f 13 = .int .i64 pe := hall 7 13 (by decide) rfl
            have H0 := Lib.hid q0
            clear hall q0
            simp only [fr, upd, List.mapIdx_cons, List.mapIdx_nil]
            simp
            go_wp2_with fail
            go_meet
            case rel => exact ⟨H0.out, hC⟩
        case rest =>
          obtain ⟨wx, rfl⟩ : ∃ x, x = wc := ⟨_, rfl⟩
          obtain ⟨rfl, hbx⟩ := hcut
          have hBx := hB.trans (hbx.mono hB.size)
          have p0 := (hbx.cell (World.block_lt_of_cell? _ _ q0)).trans q0
          clear q0 q1 q2 n0 n1 HPl
          by_cases h3 : (pe != 0) = true
          · have Hd2 := Lib.hid (show chgE ds.length 9223372036854775807 (xs.drop k) last = pe from Hd.out.1 (by simpa using h3))
            go_wp2_with (fail)
            go_ret2
            rw [HE.out, if_pos (by rw [HI.out, Hd2.out]; simpa using h3), HI.out, Hd2.out]
            exact ⟨none, 0, rfl, OI.nil _ _, hbA.trans (hBx.mono hbA.size)⟩
          · have h3 : (pe != 0) = false := by simpa using h3
            obtain ⟨hd2, hd3⟩ := Hd.out.2 (by simpa using h3)
            have Hd2 := Lib.hid hd2
            clear hd2
            go_wp2_with (fail)
            go_roundg (gko - 1)
            case measure => have := Hk.out; omega
            case rel => exact ⟨k + 1, t, by have := Hk.out; omega, by go_num, rfl, hd3, Lib.hid (by rw [HI.out, Hd2.out]), hBx⟩
      · have hzero : chgE ds.length 9223372036854775807 xs 0 = 0 := by rw [HI.out, List.drop_of_length_le (by omega)]; rfl
        rw [hzero, if_neg (by decide)] at HE
        have HE := Lib.hid HE.out
        have Hdv := Lib.hid (HZ.out hzero)
        have hsR := hs1.keep (Kept.of_below hB)
        obtain ⟨wa, rfl⟩ : ∃ x : World, x = wr := ⟨_, rfl⟩
        have hxR := (hx1.mono (T := fun g => g < wa.heap.size) (fun g hl _ => by have := hB.size; omega)).keep (Kept.of_below hB)
        clear HD H0 HZ HI hlast hzero hs1 hx1 Hk
        go_wp2_with (at_builtin; go_must (refine wpList_pushAll (B := wa.heap.size) (xs := []) (ys := st) (T := S) rfl (.const (.slice none 0 0)) (.tmp 46) rfl rfl rfl rfl rfl (OI.nil _ _) hsR (by simp; omega) (Nat.le_refl _) ?_); intro A3 c3 w3 ho3 hb3 _ _; rw [List.nil_append] at ho3)
        have ho3 : OI w3 (fun g => wa.heap.size ≤ g ∧ g < w3.heap.size) A3 c3 st := ho3.mono (fun g hl hg => ⟨hg, hl⟩)
        have hx3 := hxR.keep (Kept.of_below hb3)
        have hbC := hbR.trans (hb3.mono hbR.size)
        have hwz2 : w.heap.size ≤ wa.heap.size := hbR.size
        obtain ⟨z2, hz2⟩ : ∃ x, x = wa.heap.size := ⟨_, rfl⟩
        obtain ⟨z3, hz3⟩ : ∃ x, x = w3.heap.size := ⟨_, rfl⟩
        have hz23 : z2 ≤ z3 := by rw [hz2, hz3]; exact hb3.size
        rw [← hz2] at hx3 ho3 hwz2
        rw [← hz3] at ho3
        have hz3' : z3 ≤ w3.heap.size := by omega
        have H0 := Lib.hid (show putC time st xs = putC time st (xs.drop 0) from rfl)
        clear hz2 hz3 hb3 hbR hB hsR hxR
        go_wp2_with (fail)
        go_loopg [15] xs.length (fun g i wr => ∃ (k : Nat) (row : List Int), k + g = xs.length ∧ i = .int .i64 k ∧ row.length = st.length ∧ OI wr (fun g => z2 ≤ g ∧ g < z3) A3 c3 row ∧ SV wr (fun g => g < z2) A (recV chgV xs) ∧ Hid (putC time st xs = putC time row (xs.drop k)) ∧ Below w.heap.size w wr ∧ z3 ≤ wr.heap.size)
        case atStart => exact ⟨0, st, by omega, rfl, rfl, ho3, hx3, H0, hbC, hz3'⟩
        case round =>
          clear ho3 hx3 hbC
          obtain ⟨k, row, hk, rfl, hrl, ho, hxs, HP, hB, hzr⟩ := hrel
          have Hk := Lib.hid hk
          have Hrl := Lib.hid hrl
          clear hk hrl
          by_cases hlt : k < xs.length
          · obtain ⟨b, off, rfl, hbz, _, hc⟩ := hxs.rec chgV_len (by decide) hlt
            have q0 := hc 0 _ rfl
            have q1 := hc 1 _ rfl
            have q2 := hc 2 _ rfl
            simp only [Nat.add_zero] at q0
            have hd := putC_drop time row xs k hlt
            have hdv := Hdv.out xs[k] (List.getElem_mem hlt)
            clear hc
            generalize xs[k] = x at *
            obtain ⟨t, dv, ps⟩ := x
            simp only at hd hdv q0 q1 q2
            obtain ⟨dn, rfl⟩ := Int.eq_ofNat_of_zero_le hdv.1
            have hdr : dn < row.length := by rw [Hrl.out, Hsl.out]; omega
            have hds : dn < st.length := by rw [Hsl.out]; omega
            obtain ⟨g4, o4, rfl, hg4, hg4l, r1, r2⟩ := ho.at_ hdr
            rw [Int.toNat_natCast] at hd
            by_cases h1 : decide (t ≤ time) = true
            · have Hd := Lib.hid (show putC time row (xs.drop k) = putC time (row.set dn ps) (xs.drop (k + 1)) by rw [hd, if_pos (by simpa using h1)])
              clear hd
              go_wp2_with (fail)
              go_still_tail 12, (by kernel_rfl)
              change wpList _ _ _ _ _ wr.drew
              go_wp2_with (fail)
              go_roundg (gk - 1)
              case measure => have := Hk.out; omega
              case rel => exact ⟨k + 1, row.set dn ps, by have := Hk.out; omega, by go_num, by rw [List.length_set]; exact Hrl.out, (ho.set dn ps).keep (Kept.drew _ _), (hxs.keep (Kept.setCell (p := ⟨g4, _, none⟩) (by show ¬ g4 < z2; omega) _)).keep (Kept.drew _ _), Lib.hid (by rw [HP.out, Hd.out]), (hB.setCell (p := ⟨g4, _, none⟩) (by show w.heap.size ≤ g4; omega) _).drew, by show z3 ≤ (World.setCell _ _ _).heap.size; simp [World.setCell]; omega⟩
            · have h1 : decide (t ≤ time) = false := by simpa using h1
              have Hd := Lib.hid (show putC time row (xs.drop k) = putC time row (xs.drop (k + 1)) by rw [hd, if_neg (by simpa using h1)])
              clear hd
              go_wp2_with (fail)
              go_roundg (gk - 1)
              case measure => have := Hk.out; omega
              case rel => exact ⟨k + 1, row, by have := Hk.out; omega, by go_num, Hrl.out, ho, hxs, Lib.hid (by rw [HP.out, Hd.out]), hB, hzr⟩
          · have hrow : putC time st xs = row := by rw [HP.out, List.drop_of_length_le (by omega)]; rfl
            go_wp2_with (fail)
            go_ret2
            rw [HE.out]
            refine ⟨A3, c3, ?_, ?_, hB⟩
            · show _ = Ending.returned (.tuple #[.slice A3 (putC time st xs).length c3, .int .i64 0])
              rw [hrow, Hrl.out]; rfl
            · show OI _ _ _ _ (putC time st xs)
              rw [hrow]
              exact ho.mono (fun g _ hg => by have := hg.1; show w.heap.size ≤ g; omega)
end Go.Proofs.YtgpcojmdfmngeaaDoor

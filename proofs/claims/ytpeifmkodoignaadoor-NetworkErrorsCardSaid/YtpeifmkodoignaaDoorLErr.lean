/-
  The law NetworkErrors, walked: up to what is chosen.
-/
import Derived.Test.YtpeifmkodoignaaDoorL03o
import Derived.Test.YtpeifmkodoignaaDoorMkB
import Derived.Test.YtpeifmkodoignaaDoorExt2
import Derived.Deep.CutBlock
namespace Go.Proofs.YtpeifmkodoignaaDoor
open Go.RowKit
set_option maxHeartbeats 400000
set_option maxRecDepth 100000

set_option maxHeartbeats 4000000 in
theorem networkErrors_row (w : World) (h : TabC w) (A : Option Addr) (c : Nat) (xs : List Int) (hs : SI w (fun _ => True) A xs) (which : Nat) (hwh : which < 256) :
    Calls Tryd.prog 7 #[.slice A xs.length c, .int .u8 which] w (RetT w) := by
  by_cases hf : xs.length ≤ 400
  · have hfd : decide ((xs.length : Int) ≤ 400) = true := decide_eq_true (by omega)
    go_enter Tryd.func7, Tryd.ntmps7
    go_wp2_with (fail)
    refine (few_any w A xs.length c).mono ?_
    rw [hfd]
    rintro e w' ⟨rfl, rfl⟩
    go_wp2_with (fail)
    refine (new_any w _ A c xs hs hf).mono ?_
    rintro e w1 ⟨rfl, hd1, hb1, hz1⟩
    have Hz1 := Lib.hid hz1
    clear hz1
    go_wp2_with (fail)
    refine (network_any w1 w.heap.size hd1 6 9 (by decide) (by decide) (by decide) (by decide)).mono ?_
    rintro e w2 ⟨A1, c1, A2, c2, ns, ds, rfl, ho1, ho2, hd2, hg2, hgood⟩
    have L := LS.start hd1 hb1 Hz1.out ho1 ho2 hd2 hg2 hgood
    have O := Own.start (w := w) Hz1.out ho1 ho2 (.cells #[.slice A1 ns.length c1, .slice A2 ds.length c2] 30)
    have hn2 : 2 ≤ ns.length := hgood.two
    have hnl : ns.length ≤ 6 := hgood.most
    have hd0 : 1 ≤ ds.length := hgood.one
    have hdl : ds.length ≤ 9 := hgood.few
    obtain ⟨W, hW⟩ : ∃ W, W = w2.alloc (.cells #[.slice A1 ns.length c1, .slice A2 ds.length c2] 30) := ⟨_, rfl⟩
    rw [← hW] at L O
    have HW := Lib.hid hW
    clear hd1 hb1 Hz1 ho1 ho2 hd2 hg2 hW
    go_upto_region 5 with (fail)
    rw [← HW.out]
    obtain ⟨gn, hgn⟩ : ∃ x, x = w2.heap.size := ⟨_, rfl⟩
    rw [← hgn] at L O ⊢
    clear hgn HW w2 w1
    go_cut [7, 8] (fun v7 v8 wx => ∃ (a b : Nat), v7 = .int .i64 a ∧ v8 = .int .i64 b ∧ a < ns.length ∧ b < ds.length ∧ LS w wx (gn + 1) gn A1 c1 ns A2 c2 ds ∧ Own w wx (gn + 1) A1 c1 ns A2 c2 ds)
    case first =>
      refine wp_region_ext1 (by kernel_rfl) 12 [21, 22, 23, 24, 25, 26, 27, 28, 29, 30, 7, 8] (fun w' => LS w w' (gn + 1) gn A1 c1 ns A2 c2 ds ∧ Own w w' (gn + 1) A1 c1 ns A2 c2 ds) (fun _ _ => True) (fun d v _ => if d = 21 then v = .pointer (some ⟨w.heap.size, 0, none⟩) else if d = 22 then v = .pointer (some ⟨gn, 0, none⟩) else if d = 23 then v = .slice A1 ns.length c1 else if d = 24 then v = .int .i64 (ns.length : Nat) else if d = 26 then v = .pointer (some ⟨w.heap.size, 0, none⟩) else if d = 27 then v = .pointer (some ⟨gn, 1, none⟩) else if d = 28 then v = .slice A2 ds.length c2 else if d = 29 then v = .int .i64 (ds.length : Nat) else if d = 25 then ∃ r : Nat, v = .int .i64 r ∧ r < ns.length else if d = 7 then ∃ r : Nat, v = .int .i64 r ∧ r < ns.length else if d = 30 then ∃ r : Nat, v = .int .i64 r ∧ r < ds.length else if d = 8 then ∃ r : Nat, v = .int .i64 r ∧ r < ds.length else False) (by kernel_rfl) (⟨L.below ((Below.refl _ _).drew), O.fr (Fr.of_below ((Below.refl _ _).drew))⟩) (fun _ _ _ _ _ _ h => h) ?_ ?_
      · intro i o d hi ho hd f w1 hC hdep K hK
        have hi' : i = 0 ∨ i = 1 ∨ i = 2 ∨ i = 3 ∨ i = 4 ∨ i = 5 ∨ i = 6 ∨ i = 7 ∨ i = 8 ∨ i = 9 ∨ i = 10 ∨ i = 11 := by omega
        rcases hi' with rfl | rfl | rfl | rfl | rfl | rfl | rfl | rfl | rfl | rfl | rfl | rfl
        · simp only [List.getElem?_toArray, List.getElem?_cons_zero, Option.some.injEq] at ho
          subst ho
          simp only [Option.some.injEq] at hd
          subst hd
          generalize hA : fr _ _ _ f = A at hK ⊢
          have e5 : A.tmps[5]?.getD undef = .pointer (some ⟨w.heap.size, 0, none⟩) := by rw [← hA]; exact fr_out _ _ _ _ 5 _ (by decide) rfl
          clear hA hdep
          go_simp
          exact hK _ _ trivial hC rfl
        · simp only [List.getElem?_toArray, List.getElem?_cons_zero, List.getElem?_cons_succ, Option.some.injEq] at ho
          subst ho
          simp only [Option.some.injEq] at hd
          subst hd
          generalize hA : fr _ _ _ f = A at hK ⊢
          have e6 : A.tmps[6]?.getD undef = .pointer (some ⟨gn, 0, none⟩) := by rw [← hA]; exact fr_out _ _ _ _ 6 _ (by decide) rfl
          clear hA hdep
          go_simp
          exact hK _ _ trivial hC rfl
        · simp only [List.getElem?_toArray, List.getElem?_cons_zero, List.getElem?_cons_succ, Option.some.injEq] at ho
          subst ho
          simp only [Option.some.injEq] at hd
          subst hd
          have h22 : f 22 = .pointer (some ⟨gn, 0, none⟩) := hdep { on := 1, ground := .data } (by simp) rfl 22 rfl
          generalize hA : fr _ _ _ f = A at hK ⊢
          have e22 : A.tmps[22]?.getD undef = f 22 := by rw [← hA]; exact fr_in _ _ _ _ 22 (by decide) (by simp)
          clear hA hdep
          rw [h22] at e22
          clear h22
          have hcell := (hC.1).n0
          go_simp
          exact hK _ _ trivial hC rfl
        · simp only [List.getElem?_toArray, List.getElem?_cons_zero, List.getElem?_cons_succ, Option.some.injEq] at ho
          subst ho
          simp only [Option.some.injEq] at hd
          subst hd
          have h23 : f 23 = .slice A1 ns.length c1 := hdep { on := 2, ground := .data } (by simp) rfl 23 rfl
          generalize hA : fr _ _ _ f = A at hK ⊢
          have e23 : A.tmps[23]?.getD undef = f 23 := by rw [← hA]; exact fr_in _ _ _ _ 23 (by decide) (by simp)
          clear hA hdep
          rw [h23] at e23
          clear h23
          go_simp
          exact hK _ _ trivial hC rfl
        · simp only [List.getElem?_toArray, List.getElem?_cons_zero, List.getElem?_cons_succ, Option.some.injEq] at ho
          subst ho
          simp only [Option.some.injEq] at hd
          subst hd
          have h21 : f 21 = .pointer (some ⟨w.heap.size, 0, none⟩) := hdep { on := 0, ground := .data } (by simp) rfl 21 rfl
          have h24 : f 24 = .int .i64 (ns.length : Nat) := hdep { on := 3, ground := .data } (by simp) rfl 24 rfl
          generalize hA : fr _ _ _ f = A at hK ⊢
          have e21 : A.tmps[21]?.getD undef = f 21 := by rw [← hA]; exact fr_in _ _ _ _ 21 (by decide) (by simp)
          have e24 : A.tmps[24]?.getD undef = f 24 := by rw [← hA]; exact fr_in _ _ _ _ 24 (by decide) (by simp)
          clear hA hdep
          rw [h21] at e21
          clear h21
          rw [h24] at e24
          clear h24
          go_simp
          refine (next_any _ _ (hC.1).deck _ (by omega)).mono ?_
          rintro e w2 ⟨r, rfl, hr1, _, hd2, hg2, hz2⟩
          exact hK _ _ trivial (⟨hC.1.grown hg2 hd2, hC.2.fr (Fr.of_grown hg2 hC.1.top)⟩) ⟨r, rfl, by have := hr1 (by omega); omega⟩
        · simp only [List.getElem?_toArray, List.getElem?_cons_zero, List.getElem?_cons_succ, Option.some.injEq] at ho
          subst ho
          simp only [Option.some.injEq] at hd
          subst hd
          generalize hA : fr _ _ _ f = A at hK ⊢
          have e5 : A.tmps[5]?.getD undef = .pointer (some ⟨w.heap.size, 0, none⟩) := by rw [← hA]; exact fr_out _ _ _ _ 5 _ (by decide) rfl
          clear hA hdep
          go_simp
          exact hK _ _ trivial hC rfl
        · simp only [List.getElem?_toArray, List.getElem?_cons_zero, List.getElem?_cons_succ, Option.some.injEq] at ho
          subst ho
          simp only [Option.some.injEq] at hd
          subst hd
          generalize hA : fr _ _ _ f = A at hK ⊢
          have e6 : A.tmps[6]?.getD undef = .pointer (some ⟨gn, 0, none⟩) := by rw [← hA]; exact fr_out _ _ _ _ 6 _ (by decide) rfl
          clear hA hdep
          go_simp
          exact hK _ _ trivial hC rfl
        · simp only [List.getElem?_toArray, List.getElem?_cons_zero, List.getElem?_cons_succ, Option.some.injEq] at ho
          subst ho
          simp only [Option.some.injEq] at hd
          subst hd
          have h27 : f 27 = .pointer (some ⟨gn, 1, none⟩) := hdep { on := 6, ground := .data } (by simp) rfl 27 rfl
          generalize hA : fr _ _ _ f = A at hK ⊢
          have e27 : A.tmps[27]?.getD undef = f 27 := by rw [← hA]; exact fr_in _ _ _ _ 27 (by decide) (by simp)
          clear hA hdep
          rw [h27] at e27
          clear h27
          have hcell := (hC.1).n1
          go_simp
          exact hK _ _ trivial hC rfl
        · simp only [List.getElem?_toArray, List.getElem?_cons_zero, List.getElem?_cons_succ, Option.some.injEq] at ho
          subst ho
          simp only [Option.some.injEq] at hd
          subst hd
          have h28 : f 28 = .slice A2 ds.length c2 := hdep { on := 7, ground := .data } (by simp) rfl 28 rfl
          generalize hA : fr _ _ _ f = A at hK ⊢
          have e28 : A.tmps[28]?.getD undef = f 28 := by rw [← hA]; exact fr_in _ _ _ _ 28 (by decide) (by simp)
          clear hA hdep
          rw [h28] at e28
          clear h28
          go_simp
          exact hK _ _ trivial hC rfl
        · simp only [List.getElem?_toArray, List.getElem?_cons_zero, List.getElem?_cons_succ, Option.some.injEq] at ho
          subst ho
          simp only [Option.some.injEq] at hd
          subst hd
          have h26 : f 26 = .pointer (some ⟨w.heap.size, 0, none⟩) := hdep { on := 5, ground := .data } (by simp) rfl 26 rfl
          have h29 : f 29 = .int .i64 (ds.length : Nat) := hdep { on := 8, ground := .data } (by simp) rfl 29 rfl
          generalize hA : fr _ _ _ f = A at hK ⊢
          have e26 : A.tmps[26]?.getD undef = f 26 := by rw [← hA]; exact fr_in _ _ _ _ 26 (by decide) (by simp)
          have e29 : A.tmps[29]?.getD undef = f 29 := by rw [← hA]; exact fr_in _ _ _ _ 29 (by decide) (by simp)
          clear hA hdep
          rw [h26] at e26
          clear h26
          rw [h29] at e29
          clear h29
          go_simp
          refine (next_any _ _ (hC.1).deck _ (by omega)).mono ?_
          rintro e w2 ⟨r, rfl, hr1, _, hd2, hg2, hz2⟩
          exact hK _ _ trivial (⟨hC.1.grown hg2 hd2, hC.2.fr (Fr.of_grown hg2 hC.1.top)⟩) ⟨r, rfl, by have := hr1 (by omega); omega⟩
        · simp only [List.getElem?_toArray, List.getElem?_cons_zero, List.getElem?_cons_succ, Option.some.injEq] at ho
          subst ho
          simp only [Option.some.injEq] at hd
          subst hd
          have h25 : ∃ r : Nat, f 25 = .int .i64 r ∧ r < ns.length := hdep { on := 4, ground := .data } (by simp) rfl 25 rfl
          generalize hA : fr _ _ _ f = A at hK ⊢
          have e25 : A.tmps[25]?.getD undef = f 25 := by rw [← hA]; exact fr_in _ _ _ _ 25 (by decide) (by simp)
          clear hA hdep
          obtain ⟨r25, h25, l25⟩ := h25
          rw [h25] at e25
          clear h25
          go_simp
          exact hK _ _ trivial hC ⟨r25, rfl, l25⟩
        · simp only [List.getElem?_toArray, List.getElem?_cons_zero, List.getElem?_cons_succ, Option.some.injEq] at ho
          subst ho
          simp only [Option.some.injEq] at hd
          subst hd
          have h30 : ∃ r : Nat, f 30 = .int .i64 r ∧ r < ds.length := hdep { on := 9, ground := .data } (by simp) rfl 30 rfl
          generalize hA : fr _ _ _ f = A at hK ⊢
          have e30 : A.tmps[30]?.getD undef = f 30 := by rw [← hA]; exact fr_in _ _ _ _ 30 (by decide) (by simp)
          clear hA hdep
          obtain ⟨r30, h30, l30⟩ := h30
          rw [h30] at e30
          clear h30
          go_simp
          exact hK _ _ trivial hC ⟨r30, rfl, l30⟩
      · intro f w1 hC hall
        have q0 : ∃ r : Nat, f 7 = .int .i64 r ∧ r < ns.length := hall 10 7 (by decide) rfl
        have q1 : ∃ r : Nat, f 8 = .int .i64 r ∧ r < ds.length := hall 11 8 (by decide) rfl
        have H0 := Lib.hid q0
        have H1 := Lib.hid q1
        clear hall q0 q1
        simp only [fr, upd, List.mapIdx_cons, List.mapIdx_nil]
        simp
        go_wp2_with fail
        go_meet
        case rel =>
          obtain ⟨a, e1, l1⟩ := H0.out
          obtain ⟨b, e2, l2⟩ := H1.out
          exact ⟨a, b, e1, e2, l1, l2, hC⟩
    case rest =>
      obtain ⟨v, i, rfl, rfl, hv, hi, L, O⟩ := hcut
      obtain ⟨W, rfl⟩ : ∃ W, W = wc := ⟨_, rfl⟩
      go_upto_block 0 with (fail)
      have n0 := L.n0
      have n1 := L.n1
      have h9 : (which : Int) % 9 = 0 ∨ (which : Int) % 9 = 1 ∨ (which : Int) % 9 = 2 ∨ (which : Int) % 9 = 3 ∨ (which : Int) % 9 = 4 ∨ (which : Int) % 9 = 5 ∨ (which : Int) % 9 = 6 ∨ (which : Int) % 9 = 7 ∨ (which : Int) % 9 = 8 := by omega
      generalize (which : Int) % 9 = r at h9 ⊢
      have H9 : Hid (r = 0) ∨ Hid (r = 1) ∨ Hid (r = 2) ∨ Hid (r = 3) ∨ Hid (r = 4) ∨ Hid (r = 5) ∨ Hid (r = 6) ∨ Hid (r = 7) ∨ Hid (r = 8) := by
        rcases h9 with h | h | h | h | h | h | h | h | h <;> simp only [Lib.hid h, true_or, or_true]
      clear h9
      go_cut [9] (fun v9 wx => ∃ (ns' : List Node) (ds' : List Dev) (e : Int), v9 = .int .i64 e ∧ e ≠ 0 ∧ checkL ns' ds' = e ∧ ns'.length = ns.length ∧ ds'.length = ds.length ∧ LS w wx (gn + 1) gn A1 c1 ns' A2 c2 ds')
      case first =>
        rcases H9 with hk | hk | hk | hk | hk | hk | hk | hk | hk
        · obtain ⟨g, off, q, e1, hc, hf, L2⟩ := L.setNode O hv (j := 0) (by decide) (.string ⟨#[57]⟩) (modN 0 ns[v]) rfl (show (1 : Nat) ≤ maxLen by simp [maxLen])
          subst e1
          rw [Nat.add_zero] at hc hf L2
          have b0 : (r == 0) = true := by rw [hk.out]; decide
          go_wp2_with (fail)
          go_meet
          case rel => exact ⟨_, _, wantE 0, rfl, by decide, modN_err hgood (by decide) (by decide) hv 0 (by decide), by simp, rfl, L2⟩
        · obtain ⟨g, off, q, e1, hc, hf, L2⟩ := L.setDev O hi (j := 0) (by decide) (.string ⟨#[]⟩) (modD 1 ns.length ns[v].name ds[i]) rfl (show (0 : Nat) ≤ maxLen by simp [maxLen])
          subst e1
          rw [Nat.add_zero] at hc hf L2
          have b0 : (r == 0) = false := by rw [hk.out]; decide
          have b1 : (r == 1) = true := by rw [hk.out]; decide
          go_wp2_with (fail)
          go_meet
          case rel => exact ⟨_, _, wantE 1, rfl, by decide, modD_err hgood (by decide) (by decide) hv hi 1 (by decide), rfl, by simp, L2⟩
        · obtain ⟨g, off, q, e1, hc, hf, L2⟩ := L.setDev O hi (j := 0) (by decide) (.string ns[v].name) (modD 2 ns.length ns[v].name ds[i]) rfl (L.net.nsz ns[v] (List.getElem_mem hv))
          subst e1
          rw [Nat.add_zero] at hc hf L2
          have b0 : (r == 0) = false := by rw [hk.out]; decide
          have b1 : (r == 1) = false := by rw [hk.out]; decide
          have b2 : (r == 2) = true := by rw [hk.out]; decide
          obtain ⟨g1, o1, rfl, _, _, p0, _, _⟩ := L.net.node hv
          go_wp2_with (fail)
          go_region
          go_wp2_with (fail)
          go_meet
          case rel => exact ⟨_, _, wantE 2, rfl, by decide, modD_err hgood (by decide) (by decide) hv hi 2 (by decide), rfl, by simp, L2.below ((Below.refl _ _).drew)⟩
        · obtain ⟨g, off, q, e1, hc, hf, L2⟩ := L.setNode O hv (j := 1) (by decide) (.int .i64 (-1)) (modN 3 ns[v]) rfl (L.net.nsz ns[v] (List.getElem_mem hv))
          subst e1
          have b0 : (r == 0) = false := by rw [hk.out]; decide
          have b1 : (r == 1) = false := by rw [hk.out]; decide
          have b2 : (r == 2) = false := by rw [hk.out]; decide
          have b3 : (r == 3) = true := by rw [hk.out]; decide
          go_wp2_with (fail)
          go_meet
          case rel => exact ⟨_, _, wantE 3, rfl, by decide, modN_err hgood (by decide) (by decide) hv 3 (by decide), by simp, rfl, L2⟩
        · obtain ⟨g, off, q, e1, hc, hf, L2⟩ := L.setNode O hv (j := 2) (by decide) (.int .i64 8) (modN 4 ns[v]) rfl (L.net.nsz ns[v] (List.getElem_mem hv))
          subst e1
          have b0 : (r == 0) = false := by rw [hk.out]; decide
          have b1 : (r == 1) = false := by rw [hk.out]; decide
          have b2 : (r == 2) = false := by rw [hk.out]; decide
          have b3 : (r == 3) = false := by rw [hk.out]; decide
          have b4 : (r == 4) = true := by rw [hk.out]; decide
          go_wp2_with (fail)
          go_meet
          case rel => exact ⟨_, _, wantE 4, rfl, by decide, modN_err hgood (by decide) (by decide) hv 4 (by decide), by simp, rfl, L2⟩
        · obtain ⟨g, off, q, e1, hc, hf, L2⟩ := L.setDev O hi (j := 1) (by decide) (.int .i64 7) (modD 5 ns.length ns[v].name ds[i]) rfl (L.net.dsz ds[i] (List.getElem_mem hi))
          subst e1
          have b0 : (r == 0) = false := by rw [hk.out]; decide
          have b1 : (r == 1) = false := by rw [hk.out]; decide
          have b2 : (r == 2) = false := by rw [hk.out]; decide
          have b3 : (r == 3) = false := by rw [hk.out]; decide
          have b4 : (r == 4) = false := by rw [hk.out]; decide
          have b5 : (r == 5) = true := by rw [hk.out]; decide
          go_wp2_with (fail)
          go_meet
          case rel => exact ⟨_, _, wantE 5, rfl, by decide, modD_err hgood (by decide) (by decide) hv hi 5 (by decide), rfl, by simp, L2⟩
        · obtain ⟨g, off, q, e1, hc, hf, L2⟩ := L.setDev O hi (j := 2) (by decide) (.int .i64 (ns.length : Nat)) (modD 6 ns.length ns[v].name ds[i]) rfl (L.net.dsz ds[i] (List.getElem_mem hi))
          subst e1
          have b0 : (r == 0) = false := by rw [hk.out]; decide
          have b1 : (r == 1) = false := by rw [hk.out]; decide
          have b2 : (r == 2) = false := by rw [hk.out]; decide
          have b3 : (r == 3) = false := by rw [hk.out]; decide
          have b4 : (r == 4) = false := by rw [hk.out]; decide
          have b5 : (r == 5) = false := by rw [hk.out]; decide
          have b6 : (r == 6) = true := by rw [hk.out]; decide
          go_wp2_with (fail)
          go_meet
          case rel => exact ⟨_, _, wantE 6, rfl, by decide, modD_err hgood (by decide) (by decide) hv hi 6 (by decide), rfl, by simp, L2⟩
        · obtain ⟨g, off, q, e1, hc, hf, L2⟩ := L.setDev O hi (j := 3) (by decide) (.int .i64 ds[i].a) (modD 7 ns.length ns[v].name ds[i]) rfl (L.net.dsz ds[i] (List.getElem_mem hi))
          subst e1
          have b0 : (r == 0) = false := by rw [hk.out]; decide
          have b1 : (r == 1) = false := by rw [hk.out]; decide
          have b2 : (r == 2) = false := by rw [hk.out]; decide
          have b3 : (r == 3) = false := by rw [hk.out]; decide
          have b4 : (r == 4) = false := by rw [hk.out]; decide
          have b5 : (r == 5) = false := by rw [hk.out]; decide
          have b6 : (r == 6) = false := by rw [hk.out]; decide
          have b7 : (r == 7) = true := by rw [hk.out]; decide
          obtain ⟨_, _, e2, _, _, _, _, p2, _, _⟩ := L.net.dev hi
          injection e2 with e2
          injection e2 with e2 e3
          subst e2
          subst e3
          go_wp2_with (fail)
          go_region
          go_wp2_with (fail)
          go_meet
          case rel => exact ⟨_, _, wantE 7, rfl, by decide, modD_err hgood (by decide) (by decide) hv hi 7 (by decide), rfl, by simp, L2.below ((Below.refl _ _).drew)⟩
        · obtain ⟨g, off, q, e1, hc, hf, L2⟩ := L.setDev O hi (j := 4) (by decide) (.int .i64 (-1)) (modD 8 ns.length ns[v].name ds[i]) rfl (L.net.dsz ds[i] (List.getElem_mem hi))
          subst e1
          have b0 : (r == 0) = false := by rw [hk.out]; decide
          have b1 : (r == 1) = false := by rw [hk.out]; decide
          have b2 : (r == 2) = false := by rw [hk.out]; decide
          have b3 : (r == 3) = false := by rw [hk.out]; decide
          have b4 : (r == 4) = false := by rw [hk.out]; decide
          have b5 : (r == 5) = false := by rw [hk.out]; decide
          have b6 : (r == 6) = false := by rw [hk.out]; decide
          have b7 : (r == 7) = false := by rw [hk.out]; decide
          go_wp2_with (fail)
          go_meet
          case rel => exact ⟨_, _, wantE 8, rfl, by decide, modD_err hgood (by decide) (by decide) hv hi 8 (by decide), rfl, by simp, L2⟩
      case rest =>
        obtain ⟨ns', ds', e, rfl, he, hce, hnl', hdl', L⟩ := hcut
        clear n0 n1 O
        have Hce := Lib.hid hce
        have he' : (e == e) = true := by simp
        have he0 : (e != 0) = true := by simpa using he
        have Hway : Hid (wayL ns' ds' (List.replicate ds'.length false) 0 0 = ([], false, e)) := Lib.hid (by unfold wayL; rw [if_pos (by rw [hce]; exact he), hce])
        have Hnode := Lib.hid (show nodeL ns' ds' ⟨#[78, 48, 49]⟩ = -1 by unfold nodeL; rw [if_neg (by rw [hce]; exact he)])
        have Hat := Lib.hid (show atL ns' ds' 0 = [] by unfold atL; rw [if_neg (fun h => he (hce ▸ h.1))])
        have hn6 : ns'.length ≤ 6 := by omega
        have hd9 : ds'.length ≤ 9 := by omega
        clear hce hnl' hdl'
        obtain ⟨W2, rfl⟩ : ∃ W2, W2 = wc := ⟨_, rfl⟩
        go_upto_region 25 with (fail)
        go_cut [12] (fun v12 wx => v12 = .int .i64 e ∧ LS w wx (gn + 1) gn A1 c1 ns' A2 c2 ds')
        case first =>
          refine wp_region_ext1 (by kernel_rfl) 13 [110, 111, 112, 113, 114, 115, 109, 116, 117, 118, 10, 11, 12] (fun w' => LS w w' (gn + 1) gn A1 c1 ns' A2 c2 ds') (fun a b => Below a.heap.size a b) (fun d v w' => if d = 110 then v = .agg #[.slice A1 ns'.length c1, .slice A2 ds'.length c2] else if d = 111 then v = .pointer (some ⟨gn, 1, none⟩) else if d = 112 then v = .slice A2 ds'.length c2 else if d = 113 then v = .int .i64 (ds'.length : Nat) else if d = 117 then v = .bool false else if d = 118 then v = .int .i64 e else if d = 11 then v = .bool false else if d = 12 then v = .int .i64 e else if d = 114 then ∃ g, v = .slice (some ⟨g, 0, none⟩) ds'.length ds'.length ∧ SB w' (fun _ => True) (some ⟨g, 0, none⟩) (List.replicate ds'.length false) else if d = 115 then ∃ A c, v = .tuple #[.slice A 0 c, .bool false, .int .i64 e] else if d = 109 then ∃ A c, v = .tuple #[.slice A 0 c, .bool false, .int .i64 e] else if d = 116 then ∃ A c, v = .slice A 0 c else if d = 10 then ∃ A c, v = .slice A 0 c else False) (by kernel_rfl) (L.below ((Below.refl _ _).drew)) (fun d v w1 w2 _ hE hT => by
            by_cases hd : d = 114
            · subst hd
              obtain ⟨g, e1, e2⟩ : ∃ g, v = .slice (some ⟨g, 0, none⟩) ds'.length ds'.length ∧ SB w1 (fun _ => True) (some ⟨g, 0, none⟩) (List.replicate ds'.length false) := hT
              exact (show ∃ g, v = .slice (some ⟨g, 0, none⟩) ds'.length ds'.length ∧ SB w2 (fun _ => True) (some ⟨g, 0, none⟩) (List.replicate ds'.length false) from ⟨g, e1, e2.keep (Kept.of_below hE)⟩)
            · simp only [if_neg hd] at hT ⊢
              exact hT) ?_ ?_
          · intro i o d hi ho hd f w1 hC hdep K hK
            have hi' : i = 0 ∨ i = 1 ∨ i = 2 ∨ i = 3 ∨ i = 4 ∨ i = 5 ∨ i = 6 ∨ i = 7 ∨ i = 8 ∨ i = 9 ∨ i = 10 ∨ i = 11 ∨ i = 12 := by omega
            rcases hi' with rfl | rfl | rfl | rfl | rfl | rfl | rfl | rfl | rfl | rfl | rfl | rfl | rfl
            · simp only [List.getElem?_toArray, List.getElem?_cons_zero, Option.some.injEq] at ho
              subst ho
              simp only [Option.some.injEq] at hd
              subst hd
              generalize hA : fr _ _ _ f = A at hK ⊢
              have e6 : A.tmps[6]?.getD undef = .pointer (some ⟨gn, 0, none⟩) := by rw [← hA]; exact fr_out _ _ _ _ 6 _ (by decide) rfl
              clear hA hdep
              have k0 := hC.n0
              have k1 := hC.n1
              go_simp
              exact hK _ _ (Below.refl _ _) hC rfl
            · simp only [List.getElem?_toArray, List.getElem?_cons_zero, List.getElem?_cons_succ, Option.some.injEq] at ho
              subst ho
              simp only [Option.some.injEq] at hd
              subst hd
              generalize hA : fr _ _ _ f = A at hK ⊢
              have e6 : A.tmps[6]?.getD undef = .pointer (some ⟨gn, 0, none⟩) := by rw [← hA]; exact fr_out _ _ _ _ 6 _ (by decide) rfl
              clear hA hdep
              go_simp
              exact hK _ _ (Below.refl _ _) hC rfl
            · simp only [List.getElem?_toArray, List.getElem?_cons_zero, List.getElem?_cons_succ, Option.some.injEq] at ho
              subst ho
              simp only [Option.some.injEq] at hd
              subst hd
              have h111 : f 111 = .pointer (some ⟨gn, 1, none⟩) := hdep { on := 1, ground := .data } (by simp) rfl 111 rfl
              generalize hA : fr _ _ _ f = A at hK ⊢
              have e111 : A.tmps[111]?.getD undef = f 111 := by rw [← hA]; exact fr_in _ _ _ _ 111 (by decide) (by simp)
              clear hA hdep
              rw [h111] at e111
              clear h111
              have k1 := hC.n1
              go_simp
              exact hK _ _ (Below.refl _ _) hC rfl
            · simp only [List.getElem?_toArray, List.getElem?_cons_zero, List.getElem?_cons_succ, Option.some.injEq] at ho
              subst ho
              simp only [Option.some.injEq] at hd
              subst hd
              have h112 : f 112 = .slice A2 ds'.length c2 := hdep { on := 2, ground := .data } (by simp) rfl 112 rfl
              generalize hA : fr _ _ _ f = A at hK ⊢
              have e112 : A.tmps[112]?.getD undef = f 112 := by rw [← hA]; exact fr_in _ _ _ _ 112 (by decide) (by simp)
              clear hA hdep
              rw [h112] at e112
              clear h112
              go_simp
              exact hK _ _ (Below.refl _ _) hC rfl
            · simp only [List.getElem?_toArray, List.getElem?_cons_zero, List.getElem?_cons_succ, Option.some.injEq] at ho
              subst ho
              simp only [Option.some.injEq] at hd
              subst hd
              have h113 : f 113 = .int .i64 (ds'.length : Nat) := hdep { on := 3, ground := .data } (by simp) rfl 113 rfl
              generalize hA : fr _ _ _ f = A at hK ⊢
              have e113 : A.tmps[113]?.getD undef = f 113 := by rw [← hA]; exact fr_in _ _ _ _ 113 (by decide) (by simp)
              clear hA hdep
              rw [h113] at e113
              clear h113
              obtain ⟨w2, hmk, ho2, hb2, _⟩ := make_bools w1 ds'.length (by omega)
              go_simp
              exact hK _ _ hb2 (hC.below hb2) ⟨_, rfl, (OV.sv ho2).mono (fun _ _ _ => trivial)⟩
            · simp only [List.getElem?_toArray, List.getElem?_cons_zero, List.getElem?_cons_succ, Option.some.injEq] at ho
              subst ho
              simp only [Option.some.injEq] at hd
              subst hd
              have h110 : f 110 = .agg #[.slice A1 ns'.length c1, .slice A2 ds'.length c2] := hdep { on := 0, ground := .data } (by simp) rfl 110 rfl
              have h114 : ∃ g, f 114 = .slice (some ⟨g, 0, none⟩) ds'.length ds'.length ∧ SB w1 (fun _ => True) (some ⟨g, 0, none⟩) (List.replicate ds'.length false) := hdep { on := 4, ground := .data } (by simp) rfl 114 rfl
              generalize hA : fr _ _ _ f = A at hK ⊢
              have e110 : A.tmps[110]?.getD undef = f 110 := by rw [← hA]; exact fr_in _ _ _ _ 110 (by decide) (by simp)
              have e114 : A.tmps[114]?.getD undef = f 114 := by rw [← hA]; exact fr_in _ _ _ _ 114 (by decide) (by simp)
              clear hA hdep
              rw [h110] at e110
              clear h110
              obtain ⟨g114, h114, s114⟩ := h114
              rw [h114] at e114
              have Hf114 := Lib.hid h114
              clear h114
              go_simp
              have HY := way_any w1 (h.below hC.bel) (fun _ => True) A1 A2 c1 c2 ns' ds' (hC.net.mono (fun _ _ _ => trivial)) (by omega) (by omega) (some ⟨g114, 0, none⟩) ds'.length (List.replicate ds'.length false) s114 (by simp; omega) 0 0
              rw [Hway.out, List.length_replicate] at HY
              refine HY.mono ?_
              rintro e' w2 ⟨A5, c5, rfl, _, hb2⟩
              exact hK _ _ hb2 (hC.below hb2) ⟨A5, c5, rfl⟩
            · simp only [List.getElem?_toArray, List.getElem?_cons_zero, List.getElem?_cons_succ, Option.some.injEq] at ho
              subst ho
              simp only [Option.some.injEq] at hd
              subst hd
              have h115 : ∃ A c, f 115 = .tuple #[.slice A 0 c, .bool false, .int .i64 e] := hdep { on := 5, ground := .data } (by simp) rfl 115 rfl
              generalize hA : fr _ _ _ f = A at hK ⊢
              have e115 : A.tmps[115]?.getD undef = f 115 := by rw [← hA]; exact fr_in _ _ _ _ 115 (by decide) (by simp)
              clear hA hdep
              obtain ⟨A5, c5, h115⟩ := h115
              rw [h115] at e115
              have Hf115 := Lib.hid h115
              clear h115
              go_simp
              exact hK _ _ (Below.refl _ _) hC ⟨A5, c5, rfl⟩
            · simp only [List.getElem?_toArray, List.getElem?_cons_zero, List.getElem?_cons_succ, Option.some.injEq] at ho
              subst ho
              simp only [Option.some.injEq] at hd
              subst hd
              have h109 : ∃ A c, f 109 = .tuple #[.slice A 0 c, .bool false, .int .i64 e] := hdep { on := 6, ground := .data } (by simp) rfl 109 rfl
              generalize hA : fr _ _ _ f = A at hK ⊢
              have e109 : A.tmps[109]?.getD undef = f 109 := by rw [← hA]; exact fr_in _ _ _ _ 109 (by decide) (by simp)
              clear hA hdep
              obtain ⟨A9, c9, h109⟩ := h109
              rw [h109] at e109
              have Hf109 := Lib.hid h109
              clear h109
              go_simp
              exact hK _ _ (Below.refl _ _) hC ⟨A9, c9, rfl⟩
            · simp only [List.getElem?_toArray, List.getElem?_cons_zero, List.getElem?_cons_succ, Option.some.injEq] at ho
              subst ho
              simp only [Option.some.injEq] at hd
              subst hd
              have h109 : ∃ A c, f 109 = .tuple #[.slice A 0 c, .bool false, .int .i64 e] := hdep { on := 6, ground := .data } (by simp) rfl 109 rfl
              generalize hA : fr _ _ _ f = A at hK ⊢
              have e109 : A.tmps[109]?.getD undef = f 109 := by rw [← hA]; exact fr_in _ _ _ _ 109 (by decide) (by simp)
              clear hA hdep
              obtain ⟨A9, c9, h109⟩ := h109
              rw [h109] at e109
              have Hf109 := Lib.hid h109
              clear h109
              go_simp
              exact hK _ _ (Below.refl _ _) hC rfl
            · simp only [List.getElem?_toArray, List.getElem?_cons_zero, List.getElem?_cons_succ, Option.some.injEq] at ho
              subst ho
              simp only [Option.some.injEq] at hd
              subst hd
              have h109 : ∃ A c, f 109 = .tuple #[.slice A 0 c, .bool false, .int .i64 e] := hdep { on := 6, ground := .data } (by simp) rfl 109 rfl
              generalize hA : fr _ _ _ f = A at hK ⊢
              have e109 : A.tmps[109]?.getD undef = f 109 := by rw [← hA]; exact fr_in _ _ _ _ 109 (by decide) (by simp)
              clear hA hdep
              obtain ⟨A9, c9, h109⟩ := h109
              rw [h109] at e109
              have Hf109 := Lib.hid h109
              clear h109
              go_simp
              exact hK _ _ (Below.refl _ _) hC rfl
            · simp only [List.getElem?_toArray, List.getElem?_cons_zero, List.getElem?_cons_succ, Option.some.injEq] at ho
              subst ho
              simp only [Option.some.injEq] at hd
              subst hd
              have h116 : ∃ A c, f 116 = .slice A 0 c := hdep { on := 7, ground := .data } (by simp) rfl 116 rfl
              generalize hA : fr _ _ _ f = A at hK ⊢
              have e116 : A.tmps[116]?.getD undef = f 116 := by rw [← hA]; exact fr_in _ _ _ _ 116 (by decide) (by simp)
              clear hA hdep
              obtain ⟨A6, c6, h116⟩ := h116
              rw [h116] at e116
              have Hf116 := Lib.hid h116
              clear h116
              go_simp
              exact hK _ _ (Below.refl _ _) hC ⟨A6, c6, rfl⟩
            · simp only [List.getElem?_toArray, List.getElem?_cons_zero, List.getElem?_cons_succ, Option.some.injEq] at ho
              subst ho
              simp only [Option.some.injEq] at hd
              subst hd
              have h117 : f 117 = .bool false := hdep { on := 8, ground := .data } (by simp) rfl 117 rfl
              generalize hA : fr _ _ _ f = A at hK ⊢
              have e117 : A.tmps[117]?.getD undef = f 117 := by rw [← hA]; exact fr_in _ _ _ _ 117 (by decide) (by simp)
              clear hA hdep
              rw [h117] at e117
              clear h117
              go_simp
              exact hK _ _ (Below.refl _ _) hC rfl
            · simp only [List.getElem?_toArray, List.getElem?_cons_zero, List.getElem?_cons_succ, Option.some.injEq] at ho
              subst ho
              simp only [Option.some.injEq] at hd
              subst hd
              have h118 : f 118 = .int .i64 e := hdep { on := 9, ground := .data } (by simp) rfl 118 rfl
              generalize hA : fr _ _ _ f = A at hK ⊢
              have e118 : A.tmps[118]?.getD undef = f 118 := by rw [← hA]; exact fr_in _ _ _ _ 118 (by decide) (by simp)
              clear hA hdep
              rw [h118] at e118
              clear h118
              go_simp
              exact hK _ _ (Below.refl _ _) hC rfl
          · intro f w1 hC hall
            have q12 : f 12 = .int .i64 e := hall 12 12 (by decide) rfl
            have H12 := Lib.hid q12
            clear hall q12
            simp only [fr, upd, List.mapIdx_cons, List.mapIdx_nil]
            simp
            go_wp2_with fail
            go_meet
            case rel => exact ⟨H12.out, hC⟩
        case rest =>
          obtain ⟨rfl, L⟩ := hcut
          have n0 := L.n0
          have n1 := L.n1
          have HC := check_any wc (h.below L.bel) _ A1 A2 c1 c2 ns' ds' L.net (by omega) (by omega)
          rw [Hce.out] at HC
          have HC := Lib.hid HC
          go_wp2_with (fail)
          refine (HC.out).mono ?_
          rintro e' w3 ⟨rfl, hb3⟩
          have L3 := L.below hb3
          have m0 := L3.n0
          have m1 := L3.n1
          clear n0 n1
          have HN := node_net w3 (h.below L3.bel) _ A1 A2 c1 c2 ns' ds' L3.net (by omega) (by omega) ⟨#[78, 48, 49]⟩
          rw [Hnode.out] at HN
          have HN := Lib.hid HN
          go_wp2_with (fail)
          refine (HN.out).mono ?_
          rintro e' w4 ⟨rfl, hb4⟩
          have L4 := L3.below hb4
          have k0 := L4.n0
          have k1 := L4.n1
          clear m0 m1
          have HT := at_any w4 (h.below L4.bel) _ A1 A2 c1 c2 ns' ds' L4.net (by omega) (by omega) 0
          rw [Hat.out] at HT
          have HT := Lib.hid HT
          go_wp2_with (fail)
          refine (HT.out).mono ?_
          rintro e' w5 ⟨A5, c5, rfl, _, hb5⟩
          have L5 := L4.below hb5
          go_wp2_with (fail)
          refine (awake03 w5 (h.below L5.bel)).mono ?_
          rintro e' w8 ⟨rfl, hb8⟩
          go_wp2_with (fail)
          go_ret
          exact ⟨rfl, L5.bel.trans (hb8.mono L5.bel.size)⟩
  · have hfd : decide ((xs.length : Int) ≤ 400) = false := decide_eq_false (by omega)
    go_enter Tryd.func7, Tryd.ntmps7
    go_wp2_with (fail)
    refine (few_any w A xs.length c).mono ?_
    rw [hfd]
    rintro e w' ⟨rfl, rfl⟩
    go_wp2_with (fail)
    refine (awake03 w h).mono ?_
    rintro e w8 ⟨rfl, hb8⟩
    go_wp2_with (fail)
    go_ret
    exact ⟨rfl, hb8⟩

theorem networkErrors_rowI (w : World) (h : TabC w) (A : Option Addr) (c : Nat) (xs : List Int) (hs : SI w (fun _ => True) A xs) (a : Int) (ha : (Lit.int .u8 a).wf = true) :
    Calls Tryd.prog 7 #[.slice A xs.length c, .int .u8 a] w (RetT w) := by
  have hb : 0 ≤ a ∧ a ≤ 255 := by simp [Lit.wf, IntKind.min, IntKind.max, IntKind.signed, IntKind.bits] at ha; exact ha
  obtain ⟨n, rfl⟩ := Int.eq_ofNat_of_zero_le hb.1
  exact networkErrors_row w h A c xs hs n (by omega)
end Go.Proofs.YtpeifmkodoignaaDoor

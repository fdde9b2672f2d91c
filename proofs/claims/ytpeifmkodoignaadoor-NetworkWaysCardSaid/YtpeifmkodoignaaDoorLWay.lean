/-
  The law NetworkWays, walked.
-/
import Derived.Test.YtpeifmkodoignaaDoorObs
import Derived.Test.YtpeifmkodoignaaDoorPWay
import Derived.Test.YtpeifmkodoignaaDoorRChk3
import Derived.Test.YtpeifmkodoignaaDoorExt2
namespace Go.Proofs.YtpeifmkodoignaaDoor
open Go.RowKit
set_option maxHeartbeats 400000
set_option maxRecDepth 100000

set_option maxHeartbeats 4000000 in
theorem networkWays_row (w : World) (h : TabC w) (A : Option Addr) (c : Nat) (xs : List Int) (hs : SI w (fun _ => True) A xs) :
    Calls Tryd.prog 3 #[.slice A xs.length c] w (RetT w) := by
  by_cases hf : xs.length ≤ 400
  · have hfd : decide ((xs.length : Int) ≤ 400) = true := decide_eq_true (by omega)
    go_enter Tryd.func3, Tryd.ntmps3
    go_wp2_with (fail)
    refine (few_any w A xs.length c).mono ?_
    rw [hfd]
    rintro e w' ⟨rfl, rfl⟩
    go_wp2_with (fail)
    refine (new_any w _ A c xs hs hf).mono ?_
    rintro e w1 ⟨rfl, hd1, hb1, hz1⟩
    have Hz1 := Lib.hid hz1
    clear hz1
    go_wp2_with (fail)
    refine (network_any w1 w.heap.size hd1 8 14 (by decide) (by decide) (by decide) (by decide)).mono ?_
    rintro e w2 ⟨A1, c1, A2, c2, ns, ds, rfl, ho1, ho2, hd2, hg2, hgood⟩
    have L := LS.start hd1 hb1 Hz1.out ho1 ho2 hd2 hg2 hgood
    have hn2 : 2 ≤ ns.length := hgood.two
    have hnl : ns.length ≤ 8 := hgood.most
    have hdl : ds.length ≤ 14 := hgood.few
    have Hc0 := Lib.hid (good_check hgood (by decide) (by decide))
    obtain ⟨W, hW⟩ : ∃ W, W = w2.alloc (.cells #[.slice A1 ns.length c1, .slice A2 ds.length c2] 30) := ⟨_, rfl⟩
    rw [← hW] at L
    have HW := Lib.hid hW
    clear hd1 hb1 Hz1 ho1 ho2 hd2 hg2 hW
    go_upto_region 5 with (fail)
    rw [← HW.out]
    obtain ⟨gn, hgn⟩ : ∃ x, x = w2.heap.size := ⟨_, rfl⟩
    rw [← hgn] at L ⊢
    clear hgn HW w2 w1
    have n1 := L.n1
    obtain ⟨w3, hmk, ho3, hb3, hz3⟩ := make_bools W ds.length (by omega)
    have L3 := L.below hb3
    have htop := L.top
    have hgne := L.gne
    have ob3 : OB w3 W.heap.size ds.length (List.replicate ds.length false) := ho3
    go_wp2_with (fail)
    obtain ⟨g1, hg1⟩ : ∃ x, x = W.heap.size := ⟨_, rfl⟩
    rw [← hg1] at ob3 htop ⊢
    clear hmk n1 L hb3 hz3 ho3 hg1 W
    go_loopg [33] ds.length (fun g i wr => ∃ (k : Nat) (us : List Bool), k + g = ds.length ∧ i = .int .i64 k ∧ us.length = ds.length ∧ OB wr g1 ds.length us ∧ LS w wr (gn + 1) gn A1 c1 ns A2 c2 ds)
    case atStart => exact ⟨0, _, by omega, rfl, by simp, ob3, L3⟩
    case round =>
      clear ob3 L3
      obtain ⟨k, us, hk, rfl, hul, ob1, L⟩ := hrel
      have Hk := Lib.hid hk
      have Hul := Lib.hid hul
      clear hk hul
      by_cases hlt : k < ds.length
      · have hku : k < us.length := by rw [Hul.out]; exact hlt
        go_wp2_with (fail)
        refine (one_any _ _ L.deck _ (by decide)).mono ?_
        rintro e w4 ⟨b1, rfl, hd4, hg4, hz4⟩
        have L4 := L.grown hg4 hd4
        have ob14 := ob1.fr (hg4.block g1 (OV.block ob1 g1 rfl).2 (by intro e; injection e with e; omega))
        obtain ⟨u1, u2, _⟩ := ob14.at_ hku
        clear hz4 hg4
        go_wp2_with (fail)
        go_roundg (gk - 1)
        case measure => have := Hk.out; omega
        case rel => exact ⟨k + 1, us.set k (!b1), by have := Hk.out; omega, by go_num, by simp [Hul.out], ob14.set k (!b1), L4.setB htop _⟩
      · clear Hk
        obtain ⟨W5, rfl⟩ : ∃ W5, W5 = wr := ⟨_, rfl⟩
        go_upto_region 11 with (fail)
        go_cut [7, 8] (fun v7 v8 wx => ∃ (a b : Nat), v7 = .int .i64 a ∧ v8 = .int .i64 b ∧ a < ns.length ∧ b < ns.length ∧ LS w wx (gn + 1) gn A1 c1 ns A2 c2 ds ∧ OB wx g1 ds.length us)
        case first =>
          refine wp_region_ext1 (by kernel_rfl) 12 [43, 44, 45, 46, 47, 48, 49, 50, 51, 52, 7, 8] (fun w' => LS w w' (gn + 1) gn A1 c1 ns A2 c2 ds ∧ OB w' g1 ds.length us) (fun _ _ => True) (fun d v _ => if d = 43 then v = .pointer (some ⟨w.heap.size, 0, none⟩) else if d = 44 then v = .pointer (some ⟨gn, 0, none⟩) else if d = 45 then v = .slice A1 ns.length c1 else if d = 46 then v = .int .i64 (ns.length : Nat) else if d = 48 then v = .pointer (some ⟨w.heap.size, 0, none⟩) else if d = 49 then v = .pointer (some ⟨gn, 0, none⟩) else if d = 50 then v = .slice A1 ns.length c1 else if d = 51 then v = .int .i64 (ns.length : Nat) else if d = 47 then ∃ r : Nat, v = .int .i64 r ∧ r < ns.length else if d = 7 then ∃ r : Nat, v = .int .i64 r ∧ r < ns.length else if d = 52 then ∃ r : Nat, v = .int .i64 r ∧ r < ns.length else if d = 8 then ∃ r : Nat, v = .int .i64 r ∧ r < ns.length else False) (by kernel_rfl) (⟨L.below ((Below.refl _ _).drew), ob1.fr rfl⟩) (fun _ _ _ _ _ _ h => h) ?_ ?_
          · intro i o d hi ho hd f w1 hC hdep K hK
            have hi' : i = 0 ∨ i = 1 ∨ i = 2 ∨ i = 3 ∨ i = 4 ∨ i = 5 ∨ i = 6 ∨ i = 7 ∨ i = 8 ∨ i = 9 ∨ i = 10 ∨ i = 11 := by omega
            rcases hi' with rfl | rfl | rfl | rfl | rfl | rfl | rfl | rfl | rfl | rfl | rfl | rfl
            · simp only [List.getElem?_toArray, List.getElem?_cons_zero, Option.some.injEq] at ho
              subst ho
              simp only [Option.some.injEq] at hd
              subst hd
              generalize hA : fr _ _ _ f = A at hK ⊢
              have e3 : A.tmps[3]?.getD undef = .pointer (some ⟨w.heap.size, 0, none⟩) := by rw [← hA]; exact fr_out _ _ _ _ 3 _ (by decide) rfl
              clear hA hdep
              go_simp
              exact hK _ _ trivial hC rfl
            · simp only [List.getElem?_toArray, List.getElem?_cons_zero, List.getElem?_cons_succ, Option.some.injEq] at ho
              subst ho
              simp only [Option.some.injEq] at hd
              subst hd
              generalize hA : fr _ _ _ f = A at hK ⊢
              have e4 : A.tmps[4]?.getD undef = .pointer (some ⟨gn, 0, none⟩) := by rw [← hA]; exact fr_out _ _ _ _ 4 _ (by decide) rfl
              clear hA hdep
              go_simp
              exact hK _ _ trivial hC rfl
            · simp only [List.getElem?_toArray, List.getElem?_cons_zero, List.getElem?_cons_succ, Option.some.injEq] at ho
              subst ho
              simp only [Option.some.injEq] at hd
              subst hd
              have h44 : f 44 = .pointer (some ⟨gn, 0, none⟩) := hdep { on := 1, ground := .data } (by simp) rfl 44 rfl
              generalize hA : fr _ _ _ f = A at hK ⊢
              have e44 : A.tmps[44]?.getD undef = f 44 := by rw [← hA]; exact fr_in _ _ _ _ 44 (by decide) (by simp)
              clear hA hdep
              rw [h44] at e44
              clear h44
              have hcell := (hC.1).n0
              go_simp
              exact hK _ _ trivial hC rfl
            · simp only [List.getElem?_toArray, List.getElem?_cons_zero, List.getElem?_cons_succ, Option.some.injEq] at ho
              subst ho
              simp only [Option.some.injEq] at hd
              subst hd
              have h45 : f 45 = .slice A1 ns.length c1 := hdep { on := 2, ground := .data } (by simp) rfl 45 rfl
              generalize hA : fr _ _ _ f = A at hK ⊢
              have e45 : A.tmps[45]?.getD undef = f 45 := by rw [← hA]; exact fr_in _ _ _ _ 45 (by decide) (by simp)
              clear hA hdep
              rw [h45] at e45
              clear h45
              go_simp
              exact hK _ _ trivial hC rfl
            · simp only [List.getElem?_toArray, List.getElem?_cons_zero, List.getElem?_cons_succ, Option.some.injEq] at ho
              subst ho
              simp only [Option.some.injEq] at hd
              subst hd
              have h43 : f 43 = .pointer (some ⟨w.heap.size, 0, none⟩) := hdep { on := 0, ground := .data } (by simp) rfl 43 rfl
              have h46 : f 46 = .int .i64 (ns.length : Nat) := hdep { on := 3, ground := .data } (by simp) rfl 46 rfl
              generalize hA : fr _ _ _ f = A at hK ⊢
              have e43 : A.tmps[43]?.getD undef = f 43 := by rw [← hA]; exact fr_in _ _ _ _ 43 (by decide) (by simp)
              have e46 : A.tmps[46]?.getD undef = f 46 := by rw [← hA]; exact fr_in _ _ _ _ 46 (by decide) (by simp)
              clear hA hdep
              rw [h43] at e43
              clear h43
              rw [h46] at e46
              clear h46
              go_simp
              refine (next_any _ _ (hC.1).deck _ (by omega)).mono ?_
              rintro e w2 ⟨r, rfl, hr1, _, hd2, hg2, hz2⟩
              exact hK _ _ trivial (⟨hC.1.grown hg2 hd2, hC.2.fr (hg2.block g1 (OV.block hC.2 g1 rfl).2 (by intro e; injection e with e; omega))⟩) ⟨r, rfl, by have := hr1 (by omega); omega⟩
            · simp only [List.getElem?_toArray, List.getElem?_cons_zero, List.getElem?_cons_succ, Option.some.injEq] at ho
              subst ho
              simp only [Option.some.injEq] at hd
              subst hd
              generalize hA : fr _ _ _ f = A at hK ⊢
              have e3 : A.tmps[3]?.getD undef = .pointer (some ⟨w.heap.size, 0, none⟩) := by rw [← hA]; exact fr_out _ _ _ _ 3 _ (by decide) rfl
              clear hA hdep
              go_simp
              exact hK _ _ trivial hC rfl
            · simp only [List.getElem?_toArray, List.getElem?_cons_zero, List.getElem?_cons_succ, Option.some.injEq] at ho
              subst ho
              simp only [Option.some.injEq] at hd
              subst hd
              generalize hA : fr _ _ _ f = A at hK ⊢
              have e4 : A.tmps[4]?.getD undef = .pointer (some ⟨gn, 0, none⟩) := by rw [← hA]; exact fr_out _ _ _ _ 4 _ (by decide) rfl
              clear hA hdep
              go_simp
              exact hK _ _ trivial hC rfl
            · simp only [List.getElem?_toArray, List.getElem?_cons_zero, List.getElem?_cons_succ, Option.some.injEq] at ho
              subst ho
              simp only [Option.some.injEq] at hd
              subst hd
              have h49 : f 49 = .pointer (some ⟨gn, 0, none⟩) := hdep { on := 6, ground := .data } (by simp) rfl 49 rfl
              generalize hA : fr _ _ _ f = A at hK ⊢
              have e49 : A.tmps[49]?.getD undef = f 49 := by rw [← hA]; exact fr_in _ _ _ _ 49 (by decide) (by simp)
              clear hA hdep
              rw [h49] at e49
              clear h49
              have hcell := (hC.1).n0
              go_simp
              exact hK _ _ trivial hC rfl
            · simp only [List.getElem?_toArray, List.getElem?_cons_zero, List.getElem?_cons_succ, Option.some.injEq] at ho
              subst ho
              simp only [Option.some.injEq] at hd
              subst hd
              have h50 : f 50 = .slice A1 ns.length c1 := hdep { on := 7, ground := .data } (by simp) rfl 50 rfl
              generalize hA : fr _ _ _ f = A at hK ⊢
              have e50 : A.tmps[50]?.getD undef = f 50 := by rw [← hA]; exact fr_in _ _ _ _ 50 (by decide) (by simp)
              clear hA hdep
              rw [h50] at e50
              clear h50
              go_simp
              exact hK _ _ trivial hC rfl
            · simp only [List.getElem?_toArray, List.getElem?_cons_zero, List.getElem?_cons_succ, Option.some.injEq] at ho
              subst ho
              simp only [Option.some.injEq] at hd
              subst hd
              have h48 : f 48 = .pointer (some ⟨w.heap.size, 0, none⟩) := hdep { on := 5, ground := .data } (by simp) rfl 48 rfl
              have h51 : f 51 = .int .i64 (ns.length : Nat) := hdep { on := 8, ground := .data } (by simp) rfl 51 rfl
              generalize hA : fr _ _ _ f = A at hK ⊢
              have e48 : A.tmps[48]?.getD undef = f 48 := by rw [← hA]; exact fr_in _ _ _ _ 48 (by decide) (by simp)
              have e51 : A.tmps[51]?.getD undef = f 51 := by rw [← hA]; exact fr_in _ _ _ _ 51 (by decide) (by simp)
              clear hA hdep
              rw [h48] at e48
              clear h48
              rw [h51] at e51
              clear h51
              go_simp
              refine (next_any _ _ (hC.1).deck _ (by omega)).mono ?_
              rintro e w2 ⟨r, rfl, hr1, _, hd2, hg2, hz2⟩
              exact hK _ _ trivial (⟨hC.1.grown hg2 hd2, hC.2.fr (hg2.block g1 (OV.block hC.2 g1 rfl).2 (by intro e; injection e with e; omega))⟩) ⟨r, rfl, by have := hr1 (by omega); omega⟩
            · simp only [List.getElem?_toArray, List.getElem?_cons_zero, List.getElem?_cons_succ, Option.some.injEq] at ho
              subst ho
              simp only [Option.some.injEq] at hd
              subst hd
              have h47 : ∃ r : Nat, f 47 = .int .i64 r ∧ r < ns.length := hdep { on := 4, ground := .data } (by simp) rfl 47 rfl
              generalize hA : fr _ _ _ f = A at hK ⊢
              have e47 : A.tmps[47]?.getD undef = f 47 := by rw [← hA]; exact fr_in _ _ _ _ 47 (by decide) (by simp)
              clear hA hdep
              obtain ⟨r47, h47, l47⟩ := h47
              rw [h47] at e47
              clear h47
              go_simp
              exact hK _ _ trivial hC ⟨r47, rfl, l47⟩
            · simp only [List.getElem?_toArray, List.getElem?_cons_zero, List.getElem?_cons_succ, Option.some.injEq] at ho
              subst ho
              simp only [Option.some.injEq] at hd
              subst hd
              have h52 : ∃ r : Nat, f 52 = .int .i64 r ∧ r < ns.length := hdep { on := 9, ground := .data } (by simp) rfl 52 rfl
              generalize hA : fr _ _ _ f = A at hK ⊢
              have e52 : A.tmps[52]?.getD undef = f 52 := by rw [← hA]; exact fr_in _ _ _ _ 52 (by decide) (by simp)
              clear hA hdep
              obtain ⟨r52, h52, l52⟩ := h52
              rw [h52] at e52
              clear h52
              go_simp
              exact hK _ _ trivial hC ⟨r52, rfl, l52⟩
          · intro f w1 hC hall
            have q0 : ∃ r : Nat, f 7 = .int .i64 r ∧ r < ns.length := hall 10 7 (by decide) rfl
            have q1 : ∃ r : Nat, f 8 = .int .i64 r ∧ r < ns.length := hall 11 8 (by decide) rfl
            have H0 := Lib.hid q0
            have H1 := Lib.hid q1
            clear hall q0 q1
            simp only [fr, upd, List.mapIdx_cons, List.mapIdx_nil]
            simp
            go_wp2_with fail
            go_meet
            case rel =>
              obtain ⟨a, e1, l1⟩ := H0.out
              obtain ⟨b, e2, l2⟩ := H1.out
              exact ⟨a, b, e1, e2, l1, l2, hC⟩
        case rest =>
          clear L ob1
          obtain ⟨a, b, rfl, rfl, ha, hb, L, ob1⟩ := hcut
          obtain ⟨W6, rfl⟩ : ∃ W6, W6 = wc := ⟨_, rfl⟩
          have n0 := L.n0
          have n1 := L.n1
          have hD := checkL_zero Hc0.out
          have hn1 : 1 ≤ ns.length := by omega
          have hgs : ∀ g ∈ [b], g < ns.length := by simpa using hb
          have HY1 := way_any W6 (h.below L.bel) (fun _ => True) A1 A2 c1 c2 ns ds (L.net.mono (fun _ _ _ => trivial)) (by omega) (by omega) _ ds.length us ob1.sb (by rw [Hul.out]; omega) a b
          rw [Hul.out, wayL_ok Hc0.out Hul.out ha hb] at HY1
          have HW2 := wayL_ok (use := us) Hc0.out Hul.out hb ha
          have HB := way_back (use := us) Hc0.out ha hb
          have HL1 := fun hp => way_len (use := us) Hc0.out ha hb hp
          have HL2 := fun hp => way_len (use := us) Hc0.out hb ha hp
          have Hfar := dist_far hD hn1 us [b] hgs a
          have HDi := Lib.hid (dist_ok hD hn1 us [b] hgs)
          have Hstep := Lib.hid (dist_step hD hn1 us [b] hgs)
          generalize hD1 : distL ds us [b] = D1 at *
          generalize hD2 : distL ds us [a] = D2 at *
          clear hD1 hD2 hgs
          rw [← HB] at HW2 HL2
          generalize hT2 : (trailZ D2 (ds.zip us) (PO.at_ D1 a).toNat b).1 = T2 at *
          clear hT2
          have HW2 := Lib.hid HW2
          by_cases hd : PO.at_ D1 a < 0
          · rw [if_pos hd] at HY1
            have HY1 := Lib.hid HY1
            clear HL1 HL2 HB
            go_wp2_with (fail)
            refine (HY1.out).mono ?_
            rintro e w7 ⟨A7, c7, rfl, _, hb7⟩
            have L7 := L.below hb7
            have ob17 := ob1.fr (hb7.block g1 (OV.block ob1 g1 rfl).2)
            have m0 := L7.n0
            have m1 := L7.n1
            clear n0 n1
            have HY2 := way_any w7 (h.below L7.bel) (fun _ => True) A1 A2 c1 c2 ns ds (L7.net.mono (fun _ _ _ => trivial)) (by omega) (by omega) _ ds.length us ob17.sb (by rw [Hul.out]; omega) b a
            rw [Hul.out, HW2.out, if_pos hd] at HY2
            have HY2 := Lib.hid HY2
            go_wp2_with (fail)
            refine (HY2.out).mono ?_
            rintro e w8 ⟨A8, c8, rfl, _, hb8⟩
            have L8 := L7.below hb8
            have k0 := L8.n0
            clear HY1 HY2 HW2 m0 m1
            have hnp : ¬ ns = [] := fun e => by rw [e] at hn1; simp at hn1
            go_wp2_with (fail)
            refine (awake03 w8 (h.below L8.bel)).mono ?_
            rintro e w9 ⟨rfl, hb9⟩
            go_wp2_with (fail)
            go_ret
            exact ⟨rfl, L8.bel.trans (hb9.mono L8.bel.size)⟩
          · obtain ⟨F, hF⟩ : ∃ F : Nat, PO.at_ D1 a = F := ⟨(PO.at_ D1 a).toNat, by omega⟩
            have HF := Lib.hid hF
            have HT1 := HL1 (by omega)
            have HT2 := HL2 (by omega)
            rw [if_neg hd] at HY1
            have HW3 : Hid (wayL ns ds us b a = (T2, true, 0)) := Lib.hid (by rw [HW2.out, if_neg hd])
            rw [hF] at HY1 HT1 HT2 Hfar
            rw [Int.toNat_natCast] at HY1 HT1
            have hl2 : T2.length = F := by omega
            have hl1 : (trailZ D1 (ds.zip us) F a).1.length = F := by omega
            have hFn : F < ns.length := by omega
            have Htr : Hid (trailZ D1 (ds.zip us) F a = (([] : List Nat) ++ (trailZ D1 (ds.zip us) F a).1, (trailZ D1 (ds.zip us) F a).2)) := Lib.hid (by simp)
            clear HL1 HL2 HB HW2 HT1 HT2 hF hd Hfar
            obtain ⟨T1, hT1⟩ : ∃ T1, T1 = (trailZ D1 (ds.zip us) F a).1 := ⟨_, rfl⟩
            rw [← hT1] at HY1 hl1
            have HT1 := Lib.hid hT1
            have hne : ((T1.length : Int) != T2.length) = false := by simp; omega
            have hlt1 : T1.length < ns.length := by omega
            have hdc1 : decide (ns.length ≤ T1.length) = false := decide_eq_false (by omega)
            have hdc2 : decide ((ns.length : Int) ≤ (T1.length : Int)) = false := decide_eq_false (by omega)
            have Hl1 := Lib.hid hl1
            have HY1 := Lib.hid HY1
            clear hT1 hl1 hl2 Htr
            go_wp2_with (fail)
            refine (HY1.out).mono ?_
            rintro e w7 ⟨A7, c7, rfl, ho7, hb7⟩
            have L7 := L.below hb7
            have ob17 := ob1.fr (hb7.block g1 (OV.block ob1 g1 rfl).2)
            have m0 := L7.n0
            have m1 := L7.n1
            clear n0 n1
            have HY2 := way_any w7 (h.below L7.bel) (fun _ => True) A1 A2 c1 c2 ns ds (L7.net.mono (fun _ _ _ => trivial)) (by omega) (by omega) _ ds.length us ob17.sb (by rw [Hul.out]; omega) b a
            rw [Hul.out, HW3.out] at HY2
            have HY2 := Lib.hid HY2
            go_wp2_with (fail)
            refine (HY2.out).mono ?_
            rintro e w8 ⟨A8, c8, rfl, _, hb8⟩
            have L8 := L7.below hb8
            have ob18 := ob17.fr (hb8.block g1 (OV.block ob17 g1 rfl).2)
            have hs8 := (ho7.si.mono (T := fun _ => True) (fun _ _ _ => trivial)).keep (Kept.of_below hb8)
            have k0 := L8.n0
            have k1 := L8.n1
            clear HY1 HY2 HW3 m0 m1 ho7
            go_wp2_with (fail)
            clear k0 k1 hne hdc1 hdc2
            have hlit := OI.lit w8 [(a : Int)] (by simp [maxLen])
            have hF2 := Hl1.out
            go_loopg [15, 16, 110] T1.length (fun g s15 s16 i wr => ∃ (t u : Nat) (seen : List Int) (A' : Option Addr) (c' : Nat), t + g = T1.length ∧ i = .int .i64 t ∧ s16 = .int .i64 u ∧ s15 = .slice A' (t + 1) c' ∧ seen.length = t + 1 ∧ OI wr (fun g => w8.heap.size ≤ g) A' c' seen ∧ Below w8.heap.size w8 wr ∧ u < ns.length ∧
              T1.drop t = (trailZ D1 (ds.zip us) (F - t) u).1 ∧ PO.at_ D1 u = ((F - t : Nat) : Int) ∧ ∀ s ∈ seen, ∃ n : Nat, s = n ∧ ((F - t : Nat) : Int) ≤ PO.at_ D1 n)
            case atStart =>
              refine ⟨0, a, [(a : Int)], _, _, by omega, rfl, rfl, rfl, rfl, hlit, (Below.refl _ _).alloc (Nat.le_refl _) _, ha, by rw [HT1.out]; rfl, by rw [HF.out]; rfl, fun s hs => ?_⟩
              obtain rfl : s = a := by simpa using hs
              exact ⟨a, rfl, by rw [HF.out]; exact Int.le_refl _⟩
            case round =>
              clear hlit
              obtain ⟨t, u, seen, A', c', ht, rfl, rfl, rfl, hsl, hown, hbel, hu, hdr, hat, hseen⟩ := hrel
              have Ht := Lib.hid ht
              have Hsl := Lib.hid hsl
              have Hdr := Lib.hid hdr
              have Hat := Lib.hid hat
              have Hseen := Lib.hid hseen
              have HF2 := Lib.hid hF2
              clear ht hsl hdr hat hseen hF2
              have L9 := L8.below hbel
              have ob19 := ob18.fr (hbel.block g1 (OV.block ob18 g1 rfl).2)
              have hs9 := hs8.keep (Kept.of_below hbel)
              by_cases hlt2 : t < T1.length
              · obtain ⟨f, hf⟩ : ∃ f, F - t = f + 1 := ⟨F - t - 1, by have := HF2.out; omega⟩
                have hst := Hstep.out u (by rw [Hat.out]; omega)
                obtain ⟨⟨i, u'⟩, hiu⟩ := Option.isSome_iff_exists.1 hst
                obtain ⟨hi1, hi2, huse, hac, hau⟩ := stepZ_at Hul.out hiu
                have hdr := Hdr.out
                rw [hf] at hdr
                simp only [trailZ, hiu] at hdr
                rw [List.drop_eq_getElem_cons hlt2] at hdr
                injection hdr with hd1 hd2
                obtain ⟨b7, o7, rfl, _, _, q7⟩ := hs9.at_ (k := t) (by rw [nats_len]; exact hlt2)
                have q7' : wr.cell? ⟨b7, o7 + t, none⟩ = some (.int .i64 (i : Nat)) := by rw [q7]; simp [nats, hd1]
                obtain ⟨v1, v2, _⟩ := ob19.at_ hi2
                rw [huse] at v1
                have hu' : u' < ns.length := by
                  have := across_lt (hD.ends ds[i] (List.getElem_mem hi1)).2.2 hn1 u
                  omega
                have hoth : otherL ns ds i u = u' := by unfold otherL; rw [if_pos ⟨Hc0.out, by omega, by omega⟩]; simp [hi1, hac]
                have hnot : decide ((u' : Int) ∈ seen) = false := decide_eq_false (fun hm => by
                  obtain ⟨n, e1, e2⟩ := Hseen.out _ hm
                  obtain rfl : n = u' := by omega
                  have := Hat.out
                  omega)
                have HO := refOther_any wr _ A1 A2 c1 c2 ns ds L9.net (by omega) (by omega) i u
                rw [hoth] at HO
                have HO := Lib.hid HO
                have Hd2 := Lib.hid hd2
                have Hau : Hid (PO.at_ D1 u' = PO.at_ D1 u - 1) := Lib.hid hau
                have Hf := Lib.hid hf
                have Hnot := Lib.hid hnot
                have j0 := L9.n0
                have j1 := L9.n1
                have hi3 : ¬ ds.length ≤ i := by omega
                clear hst hiu hd1 hd2 huse hac hau hoth hnot hf q7
                go_wp2_with (fail)
                refine (HO.out).mono ?_
                rintro e w10 ⟨rfl, hb10⟩
                have hbel10 := hbel.trans (hb10.mono hbel.size)
                have hown10 := hown.keep (Kept.of_below hb10)
                have HH := refHas_any w10 _ A' c' seen hown10.si (by rw [Hsl.out]; omega) u'
                rw [Hnot.out, Hsl.out] at HH
                have HH := Lib.hid HH
                clear q7' v1 v2 j0 j1
                go_wp2_with (fail)
                refine (HH.out).mono ?_
                rintro e w' ⟨rfl, rfl⟩
                go_wp2_with (at_builtin; go_must (refine wpList_push (B := w8.heap.size) (xs := seen) rfl (.tmp 140) (.tmp 142) rfl rfl rfl Hsl.out.symm (hown10.keep (Kept.alloc _ _ _)) (new_cell _ _ _) (by rw [Hsl.out]; omega) (by have := hbel10.size; simp; omega) ?_); intro A4 c4 w4 ho4 hb4 _ _)
                rw [Hsl.out]
                go_wp2_with (fail)
                go_roundg (gk - 1)
                case measure => have := Ht.out; omega
                case rel =>
                  have h1 := Hat.out
                  have h2 := Hau.out
                  have h3 := Hf.out
                  refine ⟨t + 1, u', seen ++ [(u' : Int)], A4, c4, by have := Ht.out; omega, by go_num, rfl, rfl, by simp [Hsl.out], ho4, (hbel10.alloc hbel10.size _).trans hb4, hu', by rw [Hd2.out, show F - (t + 1) = f by omega], by omega, fun s hs => ?_⟩
                  rcases List.mem_append.1 hs with hs | hs
                  · obtain ⟨n, e1, e2⟩ := Hseen.out s hs
                    exact ⟨n, e1, by omega⟩
                  · obtain rfl : s = u' := by simpa using hs
                    exact ⟨u', rfl, by omega⟩
              · have hub : u = b := by
                  have h1 := Hat.out
                  have := HF2.out
                  have := Ht.out
                  rw [show F - t = 0 by omega] at h1
                  have := (HDi.out.zero u).1 h1
                  simpa using this
                have hubB : ((u : Int) == b) = true := by simp [hub]
                clear hub
                go_wp2_with (fail)
                refine (awake03 wr (h.below L9.bel)).mono ?_
                rintro e w9 ⟨rfl, hb9⟩
                go_wp2_with (fail)
                go_ret
                exact ⟨rfl, L9.bel.trans (hb9.mono L9.bel.size)⟩
  · have hfd : decide ((xs.length : Int) ≤ 400) = false := decide_eq_false (by omega)
    go_enter Tryd.func3, Tryd.ntmps3
    go_wp2_with (fail)
    refine (few_any w A xs.length c).mono ?_
    rw [hfd]
    rintro e w' ⟨rfl, rfl⟩
    go_wp2_with (fail)
    refine (awake03 w h).mono ?_
    rintro e w8 ⟨rfl, hb8⟩
    go_wp2_with (fail)
    go_ret
    exact ⟨rfl, hb8⟩
end Go.Proofs.YtpeifmkodoignaaDoor

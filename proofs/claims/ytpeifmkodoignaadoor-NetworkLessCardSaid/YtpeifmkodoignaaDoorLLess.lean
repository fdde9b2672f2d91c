/-
  The law NetworkLess, walked.
-/
import Derived.Test.YtpeifmkodoignaaDoorObs
import Derived.Test.YtpeifmkodoignaaDoorPWay
import Derived.Test.YtpeifmkodoignaaDoorExt2
namespace Go.Proofs.YtpeifmkodoignaaDoor
open Go.RowKit
set_option maxHeartbeats 400000
set_option maxRecDepth 100000

def slB (g n : Nat) : Value := .slice (some ⟨g, 0, none⟩) n n

set_option maxHeartbeats 4000000 in
theorem networkLess_row (w : World) (h : TabC w) (A : Option Addr) (c : Nat) (xs : List Int) (hs : SI w (fun _ => True) A xs) :
    Calls Tryd.prog 4 #[.slice A xs.length c] w (RetT w) := by
  by_cases hf : xs.length ≤ 400
  · have hfd : decide ((xs.length : Int) ≤ 400) = true := decide_eq_true (by omega)
    go_enter Tryd.func4, Tryd.ntmps4
    go_wp2_with (fail)
    refine (few_any w A xs.length c).mono ?_
    rw [hfd]
    rintro e w' ⟨rfl, rfl⟩
    go_wp2_with (fail)
    refine (new_any w _ A c xs hs hf).mono ?_
    rintro e w1 ⟨rfl, hd1, hb1, hz1⟩
    have Hz1 := Lib.hid hz1
    clear hz1
    go_wp2_with (fail)
    refine (network_any w1 w.heap.size hd1 8 14 (by decide) (by decide) (by decide) (by decide)).mono ?_
    rintro e w2 ⟨A1, c1, A2, c2, ns, ds, rfl, ho1, ho2, hd2, hg2, hgood⟩
    have L := LS.start hd1 hb1 Hz1.out ho1 ho2 hd2 hg2 hgood
    have hn2 : 2 ≤ ns.length := hgood.two
    have hnl : ns.length ≤ 8 := hgood.most
    have hdl : ds.length ≤ 14 := hgood.few
    have Hc0 := Lib.hid (good_check hgood (by decide) (by decide))
    obtain ⟨W, hW⟩ : ∃ W, W = w2.alloc (.cells #[.slice A1 ns.length c1, .slice A2 ds.length c2] 30) := ⟨_, rfl⟩
    rw [← hW] at L
    have HW := Lib.hid hW
    clear hd1 hb1 Hz1 ho1 ho2 hd2 hg2 hW
    go_upto_region 5 with (fail)
    rw [← HW.out]
    obtain ⟨gn, hgn⟩ : ∃ x, x = w2.heap.size := ⟨_, rfl⟩
    rw [← hgn] at L ⊢
    clear hgn HW w2 w1
    go_cut [5, 6] (fun v5 v6 wx => ∃ (g1 g2 : Nat), v5 = slB g1 ds.length ∧ v6 = slB g2 ds.length ∧ g1 ≠ g2 ∧ gn + 1 ≤ g1 ∧ gn + 1 ≤ g2 ∧ OB wx g1 ds.length (List.replicate ds.length false) ∧ OB wx g2 ds.length (List.replicate ds.length false) ∧ LS w wx (gn + 1) gn A1 c1 ns A2 c2 ds)
    case first =>
      refine wp_region_extX (by kernel_rfl) 10 [24, 25, 26, 27, 28, 29, 30, 31, 5, 6] (fun w' => LS w w' (gn + 1) gn A1 c1 ns A2 c2 ds) (fun a b => Below a.heap.size a b) (fun d v w' => if d = 24 then v = .pointer (some ⟨gn, 1, none⟩) else if d = 25 then v = .slice A2 ds.length c2 else if d = 26 then v = .int .i64 (ds.length : Nat) else if d = 28 then v = .pointer (some ⟨gn, 1, none⟩) else if d = 29 then v = .slice A2 ds.length c2 else if d = 30 then v = .int .i64 (ds.length : Nat) else if d = 27 then ∃ g, v = slB g ds.length ∧ gn + 1 ≤ g ∧ OB w' g ds.length (List.replicate ds.length false) else if d = 31 then ∃ g, v = slB g ds.length ∧ gn + 1 ≤ g ∧ OB w' g ds.length (List.replicate ds.length false) else if d = 5 then ∃ g, v = slB g ds.length ∧ gn + 1 ≤ g ∧ OB w' g ds.length (List.replicate ds.length false) else if d = 6 then ∃ g, v = slB g ds.length ∧ gn + 1 ≤ g ∧ OB w' g ds.length (List.replicate ds.length false) else False) (fun dn f _ => (dn 3 = true → dn 7 = true → f 27 ≠ f 31) ∧ (dn 8 = true → dn 3 = true ∧ f 5 = f 27) ∧ (dn 9 = true → dn 7 = true ∧ f 6 = f 31)) (by kernel_rfl) (L.below ((Below.refl _ _).drew)) (⟨fun h => (by cases h), fun h => (by cases h), fun h => (by cases h)⟩) (fun d v w1 w2 _ hE hT => by
          have key : (∃ g, v = slB g ds.length ∧ gn + 1 ≤ g ∧ OB w1 g ds.length (List.replicate ds.length false)) → ∃ g, v = slB g ds.length ∧ gn + 1 ≤ g ∧ OB w2 g ds.length (List.replicate ds.length false) := fun ⟨g, e1, e2, e3⟩ => ⟨g, e1, e2, e3.fr (hE.block g (OV.block e3 g rfl).2)⟩
          by_cases h27 : d = 27
          · subst h27; exact key hT
          · by_cases h31 : d = 31
            · subst h31; exact key hT
            · by_cases h5 : d = 5
              · subst h5; exact key hT
              · by_cases h6 : d = 6
                · subst h6; exact key hT
                · simp only [if_neg h27, if_neg h31, if_neg h5, if_neg h6] at hT ⊢
                  exact hT) ?_ ?_
      · intro i o d hi ho hd dn f w1 hC hX hT hni hdn K hK
        have hi' : i = 0 ∨ i = 1 ∨ i = 2 ∨ i = 3 ∨ i = 4 ∨ i = 5 ∨ i = 6 ∨ i = 7 ∨ i = 8 ∨ i = 9 := by omega
        rcases hi' with rfl | rfl | rfl | rfl | rfl | rfl | rfl | rfl | rfl | rfl
        · simp only [List.getElem?_toArray, List.getElem?_cons_zero, Option.some.injEq] at ho
          subst ho
          simp only [Option.some.injEq] at hd
          subst hd
          generalize hA : fr _ _ _ f = A at hK ⊢
          have e4 : A.tmps[4]?.getD undef = .pointer (some ⟨gn, 0, none⟩) := by rw [← hA]; exact fr_out _ _ _ _ 4 _ (by decide) rfl
          clear hA
          have HX := Lib.hid hX
          have HT := Lib.hid hT
          have HN := Lib.hid hni
          have HDN := Lib.hid hdn
          clear hX hT hni hdn
          go_simp
          exact hK _ _ (Below.refl _ _) hC rfl (by simpa using HX.out)
        · simp only [List.getElem?_toArray, List.getElem?_cons_zero, List.getElem?_cons_succ, Option.some.injEq] at ho
          subst ho
          simp only [Option.some.injEq] at hd
          subst hd
          have h24 : f 24 = .pointer (some ⟨gn, 1, none⟩) := hT 0 24 (by decide) rfl (hdn { on := 0, ground := .data } (by simp) rfl)
          generalize hA : fr _ _ _ f = A at hK ⊢
          have e24 : A.tmps[24]?.getD undef = f 24 := by rw [← hA]; exact fr_in _ _ _ _ 24 (by decide) (by simp)
          clear hA
          have HX := Lib.hid hX
          have HT := Lib.hid hT
          have HN := Lib.hid hni
          have HDN := Lib.hid hdn
          clear hX hT hni hdn
          have Hf24 := Lib.hid h24
          rw [h24] at e24
          clear h24
          have k1 := hC.n1
          go_simp
          exact hK _ _ (Below.refl _ _) hC rfl (by simpa using HX.out)
        · simp only [List.getElem?_toArray, List.getElem?_cons_zero, List.getElem?_cons_succ, Option.some.injEq] at ho
          subst ho
          simp only [Option.some.injEq] at hd
          subst hd
          have h25 : f 25 = .slice A2 ds.length c2 := hT 1 25 (by decide) rfl (hdn { on := 1, ground := .data } (by simp) rfl)
          generalize hA : fr _ _ _ f = A at hK ⊢
          have e25 : A.tmps[25]?.getD undef = f 25 := by rw [← hA]; exact fr_in _ _ _ _ 25 (by decide) (by simp)
          clear hA
          have HX := Lib.hid hX
          have HT := Lib.hid hT
          have HN := Lib.hid hni
          have HDN := Lib.hid hdn
          clear hX hT hni hdn
          have Hf25 := Lib.hid h25
          rw [h25] at e25
          clear h25
          go_simp
          exact hK _ _ (Below.refl _ _) hC rfl (by simpa using HX.out)
        · simp only [List.getElem?_toArray, List.getElem?_cons_zero, List.getElem?_cons_succ, Option.some.injEq] at ho
          subst ho
          simp only [Option.some.injEq] at hd
          subst hd
          have h26 : f 26 = .int .i64 (ds.length : Nat) := hT 2 26 (by decide) rfl (hdn { on := 2, ground := .data } (by simp) rfl)
          generalize hA : fr _ _ _ f = A at hK ⊢
          have e26 : A.tmps[26]?.getD undef = f 26 := by rw [← hA]; exact fr_in _ _ _ _ 26 (by decide) (by simp)
          clear hA
          have HX := Lib.hid hX
          have HT := Lib.hid hT
          have HN := Lib.hid hni
          have HDN := Lib.hid hdn
          clear hX hT hni hdn
          have Hf26 := Lib.hid h26
          rw [h26] at e26
          clear h26
          obtain ⟨w2, hmk, ho2, hb2, _⟩ := make_bools w1 ds.length (by omega)
          go_simp
          have hob : ∀ g, f 31 = slB g ds.length → OB w1 g ds.length (List.replicate ds.length false) → f 31 ≠ slB w1.heap.size ds.length := fun g e1 e2 e3 => by
            have hl := (OV.block e2 g rfl).2
            rw [e1] at e3
            simp only [slB, Value.slice.injEq, Option.some.injEq, Addr.mk.injEq, and_true] at e3
            omega
          have hot : dn 7 = true → f 31 ≠ slB w1.heap.size ds.length := fun hdn => by
            obtain ⟨g, e1, _, e2⟩ : ∃ g, f 31 = slB g ds.length ∧ gn + 1 ≤ g ∧ OB w1 g ds.length (List.replicate ds.length false) := HT.out 7 31 (by decide) rfl hdn
            exact hob g e1 e2
          have hn3 := HN.out
          have hx := HX.out
          refine hK _ _ hb2 (hC.below hb2) ⟨_, rfl, hC.top, ho2⟩ ?_
          refine ⟨fun _ h => ?_, fun h => ?_, fun h => ?_⟩
          · simp at h ⊢; exact fun e => hot h e.symm
          · have h8 : dn 8 = true := by simpa using h
            have := hx.2.1 h8
            rw [hn3] at this; cases this.1
          · have h9 : dn 9 = true := by simpa using h
            have := hx.2.2 h9
            simpa using this
        · simp only [List.getElem?_toArray, List.getElem?_cons_zero, List.getElem?_cons_succ, Option.some.injEq] at ho
          subst ho
          simp only [Option.some.injEq] at hd
          subst hd
          generalize hA : fr _ _ _ f = A at hK ⊢
          have e4 : A.tmps[4]?.getD undef = .pointer (some ⟨gn, 0, none⟩) := by rw [← hA]; exact fr_out _ _ _ _ 4 _ (by decide) rfl
          clear hA
          have HX := Lib.hid hX
          have HT := Lib.hid hT
          have HN := Lib.hid hni
          have HDN := Lib.hid hdn
          clear hX hT hni hdn
          go_simp
          exact hK _ _ (Below.refl _ _) hC rfl (by simpa using HX.out)
        · simp only [List.getElem?_toArray, List.getElem?_cons_zero, List.getElem?_cons_succ, Option.some.injEq] at ho
          subst ho
          simp only [Option.some.injEq] at hd
          subst hd
          have h28 : f 28 = .pointer (some ⟨gn, 1, none⟩) := hT 4 28 (by decide) rfl (hdn { on := 4, ground := .data } (by simp) rfl)
          generalize hA : fr _ _ _ f = A at hK ⊢
          have e28 : A.tmps[28]?.getD undef = f 28 := by rw [← hA]; exact fr_in _ _ _ _ 28 (by decide) (by simp)
          clear hA
          have HX := Lib.hid hX
          have HT := Lib.hid hT
          have HN := Lib.hid hni
          have HDN := Lib.hid hdn
          clear hX hT hni hdn
          have Hf28 := Lib.hid h28
          rw [h28] at e28
          clear h28
          have k1 := hC.n1
          go_simp
          exact hK _ _ (Below.refl _ _) hC rfl (by simpa using HX.out)
        · simp only [List.getElem?_toArray, List.getElem?_cons_zero, List.getElem?_cons_succ, Option.some.injEq] at ho
          subst ho
          simp only [Option.some.injEq] at hd
          subst hd
          have h29 : f 29 = .slice A2 ds.length c2 := hT 5 29 (by decide) rfl (hdn { on := 5, ground := .data } (by simp) rfl)
          generalize hA : fr _ _ _ f = A at hK ⊢
          have e29 : A.tmps[29]?.getD undef = f 29 := by rw [← hA]; exact fr_in _ _ _ _ 29 (by decide) (by simp)
          clear hA
          have HX := Lib.hid hX
          have HT := Lib.hid hT
          have HN := Lib.hid hni
          have HDN := Lib.hid hdn
          clear hX hT hni hdn
          have Hf29 := Lib.hid h29
          rw [h29] at e29
          clear h29
          go_simp
          exact hK _ _ (Below.refl _ _) hC rfl (by simpa using HX.out)
        · simp only [List.getElem?_toArray, List.getElem?_cons_zero, List.getElem?_cons_succ, Option.some.injEq] at ho
          subst ho
          simp only [Option.some.injEq] at hd
          subst hd
          have h30 : f 30 = .int .i64 (ds.length : Nat) := hT 6 30 (by decide) rfl (hdn { on := 6, ground := .data } (by simp) rfl)
          generalize hA : fr _ _ _ f = A at hK ⊢
          have e30 : A.tmps[30]?.getD undef = f 30 := by rw [← hA]; exact fr_in _ _ _ _ 30 (by decide) (by simp)
          clear hA
          have HX := Lib.hid hX
          have HT := Lib.hid hT
          have HN := Lib.hid hni
          have HDN := Lib.hid hdn
          clear hX hT hni hdn
          have Hf30 := Lib.hid h30
          rw [h30] at e30
          clear h30
          obtain ⟨w2, hmk, ho2, hb2, _⟩ := make_bools w1 ds.length (by omega)
          go_simp
          have hob : ∀ g, f 27 = slB g ds.length → OB w1 g ds.length (List.replicate ds.length false) → f 27 ≠ slB w1.heap.size ds.length := fun g e1 e2 e3 => by
            have hl := (OV.block e2 g rfl).2
            rw [e1] at e3
            simp only [slB, Value.slice.injEq, Option.some.injEq, Addr.mk.injEq, and_true] at e3
            omega
          have hot : dn 3 = true → f 27 ≠ slB w1.heap.size ds.length := fun hdn => by
            obtain ⟨g, e1, _, e2⟩ : ∃ g, f 27 = slB g ds.length ∧ gn + 1 ≤ g ∧ OB w1 g ds.length (List.replicate ds.length false) := HT.out 3 27 (by decide) rfl hdn
            exact hob g e1 e2
          have hn7 := HN.out
          have hx := HX.out
          refine hK _ _ hb2 (hC.below hb2) ⟨_, rfl, hC.top, ho2⟩ ?_
          refine ⟨fun _ h => ?_, fun h => ?_, fun h => ?_⟩
          · rename_i h3; simp at h3 ⊢; exact hot h3
          · have h8 : dn 8 = true := by simpa using h
            have := hx.2.1 h8
            simpa using this
          · have h9 : dn 9 = true := by simpa using h
            have := hx.2.2 h9
            rw [hn7] at this; cases this.1
        · simp only [List.getElem?_toArray, List.getElem?_cons_zero, List.getElem?_cons_succ, Option.some.injEq] at ho
          subst ho
          simp only [Option.some.injEq] at hd
          subst hd
          have h27 : ∃ g, f 27 = slB g ds.length ∧ gn + 1 ≤ g ∧ OB w1 g ds.length (List.replicate ds.length false) := hT 3 27 (by decide) rfl (hdn { on := 3, ground := .data } (by simp) rfl)
          have hd3 : dn 3 = true := hdn { on := 3, ground := .data } (by simp) rfl
          generalize hA : fr _ _ _ f = A at hK ⊢
          have e27 : A.tmps[27]?.getD undef = f 27 := by rw [← hA]; exact fr_in _ _ _ _ 27 (by decide) (by simp)
          clear hA
          have HX := Lib.hid hX
          have HT := Lib.hid hT
          have HN := Lib.hid hni
          have HDN := Lib.hid hdn
          clear hX hT hni hdn
          obtain ⟨g27, h27, l27, o27⟩ := h27
          rw [h27] at e27
          have Hf27 := Lib.hid h27
          clear h27
          go_simp
          have hx := HX.out
          refine hK _ _ (Below.refl _ _) hC ⟨g27, rfl, l27, o27⟩ ⟨by simpa using hx.1, fun _ => ⟨by simp [hd3], by simp [Hf27.out, slB]⟩, by simpa using hx.2.2⟩
        · simp only [List.getElem?_toArray, List.getElem?_cons_zero, List.getElem?_cons_succ, Option.some.injEq] at ho
          subst ho
          simp only [Option.some.injEq] at hd
          subst hd
          have h31 : ∃ g, f 31 = slB g ds.length ∧ gn + 1 ≤ g ∧ OB w1 g ds.length (List.replicate ds.length false) := hT 7 31 (by decide) rfl (hdn { on := 7, ground := .data } (by simp) rfl)
          have hd7 : dn 7 = true := hdn { on := 7, ground := .data } (by simp) rfl
          generalize hA : fr _ _ _ f = A at hK ⊢
          have e31 : A.tmps[31]?.getD undef = f 31 := by rw [← hA]; exact fr_in _ _ _ _ 31 (by decide) (by simp)
          clear hA
          have HX := Lib.hid hX
          have HT := Lib.hid hT
          have HN := Lib.hid hni
          have HDN := Lib.hid hdn
          clear hX hT hni hdn
          obtain ⟨g31, h31, l31, o31⟩ := h31
          rw [h31] at e31
          have Hf31 := Lib.hid h31
          clear h31
          go_simp
          have hx := HX.out
          refine hK _ _ (Below.refl _ _) hC ⟨g31, rfl, l31, o31⟩ ⟨by simpa using hx.1, by simpa using hx.2.1, fun _ => ⟨by simp [hd7], by simp [Hf31.out, slB]⟩⟩
      · intro dn f w1 hC hX hall hT
        have q5 : ∃ g, f 5 = slB g ds.length ∧ gn + 1 ≤ g ∧ OB w1 g ds.length (List.replicate ds.length false) := hT 8 5 (by decide) rfl
        have q6 : ∃ g, f 6 = slB g ds.length ∧ gn + 1 ≤ g ∧ OB w1 g ds.length (List.replicate ds.length false) := hT 9 6 (by decide) rfl
        have qx : f 5 ≠ f 6 := by rw [(hX.2.1 (hall 8 (by decide))).2, (hX.2.2 (hall 9 (by decide))).2]; exact hX.1 (hall 3 (by decide)) (hall 7 (by decide))
        have H5 := Lib.hid q5
        have H6 := Lib.hid q6
        have HQ := Lib.hid qx
        clear hall hT hX q5 q6 qx
        simp only [fr, upd, List.mapIdx_cons, List.mapIdx_nil]
        simp
        go_wp2_with fail
        go_meet
        case rel =>
          obtain ⟨g1, e1, l1, o1⟩ := H5.out
          obtain ⟨g2, e2, l2, o2⟩ := H6.out
          refine ⟨g1, g2, e1, e2, fun e => HQ.out (by rw [e1, e2, e]), l1, l2, o1, o2, hC⟩
    case rest =>
      obtain ⟨g1, g2, rfl, rfl, hg12, hg1, hg2, ob1, ob2, L⟩ := hcut
      unfold slB
      have hgne := L.gne
      go_wp2_with (fail)
      obtain ⟨W2, rfl⟩ : ∃ W2, W2 = wc := ⟨_, rfl⟩
      go_loopg [34] ds.length (fun g i wr => ∃ (k : Nat) (us ms : List Bool), k + g = ds.length ∧ i = .int .i64 k ∧ us.length = ds.length ∧ ms.length = ds.length ∧ OB wr g1 ds.length us ∧ OB wr g2 ds.length ms ∧ LS w wr (gn + 1) gn A1 c1 ns A2 c2 ds ∧
        ∀ j (h1 : j < us.length) (h2 : j < ms.length), j < k → us[j] = true → ms[j] = true)
      case atStart => exact ⟨0, _, _, by omega, rfl, by simp, by simp, ob1, ob2, L, fun j _ _ h => by omega⟩
      case round =>
        clear ob1 ob2 L
        obtain ⟨k, us, ms, hk, rfl, hul, hml, ob1, ob2, L, hmo⟩ := hrel
        have Hk := Lib.hid hk
        have Hul := Lib.hid hul
        have Hml := Lib.hid hml
        have Hmo := Lib.hid hmo
        clear hk hul hml hmo
        by_cases hlt : k < ds.length
        · have hku : k < us.length := by rw [Hul.out]; exact hlt
          have hkm : k < ms.length := by rw [Hml.out]; exact hlt
          go_wp2_with (fail)
          refine (one_any _ _ L.deck _ (by decide)).mono ?_
          rintro e w3 ⟨b1, rfl, hd3, hg3, hz3⟩
          have L3 := L.grown hg3 hd3
          have ob13 := ob1.fr (hg3.block g1 (OV.block ob1 g1 rfl).2 (by intro e; injection e with e; omega))
          have ob23 := ob2.fr (hg3.block g2 (OV.block ob2 g2 rfl).2 (by intro e; injection e with e; omega))
          clear L ob1 ob2 hg3 hd3 hz3
          obtain ⟨u1, u2, _⟩ := ob13.at_ hku
          obtain ⟨m1, m2, _⟩ := ob23.at_ hkm
          have hne12 : ¬ g2 = g1 := fun e => hg12 e.symm
          have L4 := L3.setB (k := k) hg1 (.bool (!b1))
          have ob14 := ob13.set k (!b1)
          have ob24 : OB (w3.setCell ⟨g1, k, none⟩ (.bool (!b1))) g2 ds.length ms := ob23.fr (Below.heap_setCell _ _ _ _ hne12)
          have hk4 : k < (us.set k (!b1)).length := by rw [List.length_set]; exact hku
          obtain ⟨v1, v2, _⟩ := ob14.at_ hk4
          rw [List.getElem_set_self] at v1
          obtain ⟨x1, x2, _⟩ := ob24.at_ hkm
          have HU := Lib.hid ob14
          have HM := Lib.hid ob24
          have HL := Lib.hid L4
          clear ob13 ob23 L3 ob14 ob24 L4
          obtain ⟨W4, hW4⟩ : ∃ W4, W4 = w3.setCell ⟨g1, k, none⟩ (.bool (!b1)) := ⟨_, rfl⟩
          rw [← hW4] at v1 v2 x1 x2 HU HM HL
          have HW4 := Lib.hid hW4
          clear hW4
          cases b1
          · have HW5 : Hid (W4 = w3.setCell ⟨g1, k, none⟩ (.bool true)) := HW4
            clear HW4
            go_upto_region 10 with (fail)
            rw [← HW5.out]
            clear HW5
            have v1 : W4.cell? ⟨g1, k, none⟩ = some (.bool true) := v1
            go_wp2_with (fail)
            go_roundg (gk - 1)
            case measure => have := Hk.out; omega
            case rel =>
              refine ⟨k + 1, us.set k true, ms.set k true, by have := Hk.out; omega, by go_num, by simp [Hul.out], by simp [Hml.out], HU.out.fr (Below.heap_setCell _ _ _ _ hg12), HM.out.set k true, HL.out.setB hg2 _, fun j h1 h2 hj hu => ?_⟩
              by_cases hjk : j = k
              · subst hjk; simp
              · rw [List.getElem_set_ne (by omega)] at hu ⊢
                exact Hmo.out j (by simpa using h1) (by simpa using h2) (by omega) hu
          · have HW5 : Hid (W4 = w3.setCell ⟨g1, k, none⟩ (.bool false)) := HW4
            clear HW4
            go_upto_region 10 with (fail)
            rw [← HW5.out]
            clear HW5
            have v1 : W4.cell? ⟨g1, k, none⟩ = some (.bool false) := v1
            go_wp2_with (fail)
            refine (one_any _ _ HL.out.deck _ (by decide)).mono ?_
            rintro e w5 ⟨b2, rfl, hd5, hg5, hz5⟩
            have L5 := HL.out.grown hg5 hd5
            have ob15 := HU.out.fr (hg5.block g1 (OV.block HU.out g1 rfl).2 (by intro e; injection e with e; omega))
            have ob25 := HM.out.fr (hg5.block g2 (OV.block HM.out g2 rfl).2 (by intro e; injection e with e; omega))
            obtain ⟨y1, y2, _⟩ := ob25.at_ hkm
            clear v1 v2 x1 x2 u1 u2 m1 m2 hz5 hg5
            go_wp2_with (fail)
            go_roundg (gk - 1)
            case measure => have := Hk.out; omega
            case rel =>
              refine ⟨k + 1, us.set k false, ms.set k b2, by have := Hk.out; omega, by go_num, by simp [Hul.out], by simp [Hml.out], ob15.fr (Below.heap_setCell _ _ _ _ hg12), ob25.set k b2, L5.setB hg2 _, fun j h1 h2 hj hu => ?_⟩
              by_cases hjk : j = k
              · subst hjk; rw [List.getElem_set_self] at hu; cases hu
              · rw [List.getElem_set_ne (by omega)] at hu ⊢
                exact Hmo.out j (by simpa using h1) (by simpa using h2) (by omega) hu
        · have hmo : ∀ j (h1 : j < us.length) (h2 : j < ms.length), us[j] = true → ms[j] = true := fun j h1 h2 => Hmo.out j h1 h2 (by have := Hk.out; have := Hul.out; omega)
          have Hmore := Lib.hid (zip_more Hul.out Hml.out hmo)
          clear hmo Hmo
          obtain ⟨W5, rfl⟩ : ∃ W5, W5 = wr := ⟨_, rfl⟩
          go_upto_region 12 with (fail)
          go_cut [8, 9] (fun v8 v9 wx => ∃ (a b : Nat), v8 = .int .i64 a ∧ v9 = .int .i64 b ∧ a < ns.length ∧ b < ns.length ∧ LS w wx (gn + 1) gn A1 c1 ns A2 c2 ds ∧ OB wx g1 ds.length us ∧ OB wx g2 ds.length ms)
          case first =>
            refine wp_region_ext1 (by kernel_rfl) 12 [55, 56, 57, 58, 59, 60, 61, 62, 63, 64, 8, 9] (fun w' => LS w w' (gn + 1) gn A1 c1 ns A2 c2 ds ∧ OB w' g1 ds.length us ∧ OB w' g2 ds.length ms) (fun _ _ => True) (fun d v _ => if d = 55 then v = .pointer (some ⟨w.heap.size, 0, none⟩) else if d = 56 then v = .pointer (some ⟨gn, 0, none⟩) else if d = 57 then v = .slice A1 ns.length c1 else if d = 58 then v = .int .i64 (ns.length : Nat) else if d = 60 then v = .pointer (some ⟨w.heap.size, 0, none⟩) else if d = 61 then v = .pointer (some ⟨gn, 0, none⟩) else if d = 62 then v = .slice A1 ns.length c1 else if d = 63 then v = .int .i64 (ns.length : Nat) else if d = 59 then ∃ r : Nat, v = .int .i64 r ∧ r < ns.length else if d = 8 then ∃ r : Nat, v = .int .i64 r ∧ r < ns.length else if d = 64 then ∃ r : Nat, v = .int .i64 r ∧ r < ns.length else if d = 9 then ∃ r : Nat, v = .int .i64 r ∧ r < ns.length else False) (by kernel_rfl) (⟨L.below ((Below.refl _ _).drew), ob1.fr rfl, ob2.fr rfl⟩) (fun _ _ _ _ _ _ h => h) ?_ ?_
            · intro i o d hi ho hd f w1 hC hdep K hK
              have hi' : i = 0 ∨ i = 1 ∨ i = 2 ∨ i = 3 ∨ i = 4 ∨ i = 5 ∨ i = 6 ∨ i = 7 ∨ i = 8 ∨ i = 9 ∨ i = 10 ∨ i = 11 := by omega
              rcases hi' with rfl | rfl | rfl | rfl | rfl | rfl | rfl | rfl | rfl | rfl | rfl | rfl
              · simp only [List.getElem?_toArray, List.getElem?_cons_zero, Option.some.injEq] at ho
                subst ho
                simp only [Option.some.injEq] at hd
                subst hd
                generalize hA : fr _ _ _ f = A at hK ⊢
                have e3 : A.tmps[3]?.getD undef = .pointer (some ⟨w.heap.size, 0, none⟩) := by rw [← hA]; exact fr_out _ _ _ _ 3 _ (by decide) rfl
                clear hA hdep
                go_simp
                exact hK _ _ trivial hC rfl
              · simp only [List.getElem?_toArray, List.getElem?_cons_zero, List.getElem?_cons_succ, Option.some.injEq] at ho
                subst ho
                simp only [Option.some.injEq] at hd
                subst hd
                generalize hA : fr _ _ _ f = A at hK ⊢
                have e4 : A.tmps[4]?.getD undef = .pointer (some ⟨gn, 0, none⟩) := by rw [← hA]; exact fr_out _ _ _ _ 4 _ (by decide) rfl
                clear hA hdep
                go_simp
                exact hK _ _ trivial hC rfl
              · simp only [List.getElem?_toArray, List.getElem?_cons_zero, List.getElem?_cons_succ, Option.some.injEq] at ho
                subst ho
                simp only [Option.some.injEq] at hd
                subst hd
                have h56 : f 56 = .pointer (some ⟨gn, 0, none⟩) := hdep { on := 1, ground := .data } (by simp) rfl 56 rfl
                generalize hA : fr _ _ _ f = A at hK ⊢
                have e56 : A.tmps[56]?.getD undef = f 56 := by rw [← hA]; exact fr_in _ _ _ _ 56 (by decide) (by simp)
                clear hA hdep
                rw [h56] at e56
                clear h56
                have hcell := (hC.1).n0
                go_simp
                exact hK _ _ trivial hC rfl
              · simp only [List.getElem?_toArray, List.getElem?_cons_zero, List.getElem?_cons_succ, Option.some.injEq] at ho
                subst ho
                simp only [Option.some.injEq] at hd
                subst hd
                have h57 : f 57 = .slice A1 ns.length c1 := hdep { on := 2, ground := .data } (by simp) rfl 57 rfl
                generalize hA : fr _ _ _ f = A at hK ⊢
                have e57 : A.tmps[57]?.getD undef = f 57 := by rw [← hA]; exact fr_in _ _ _ _ 57 (by decide) (by simp)
                clear hA hdep
                rw [h57] at e57
                clear h57
                go_simp
                exact hK _ _ trivial hC rfl
              · simp only [List.getElem?_toArray, List.getElem?_cons_zero, List.getElem?_cons_succ, Option.some.injEq] at ho
                subst ho
                simp only [Option.some.injEq] at hd
                subst hd
                have h55 : f 55 = .pointer (some ⟨w.heap.size, 0, none⟩) := hdep { on := 0, ground := .data } (by simp) rfl 55 rfl
                have h58 : f 58 = .int .i64 (ns.length : Nat) := hdep { on := 3, ground := .data } (by simp) rfl 58 rfl
                generalize hA : fr _ _ _ f = A at hK ⊢
                have e55 : A.tmps[55]?.getD undef = f 55 := by rw [← hA]; exact fr_in _ _ _ _ 55 (by decide) (by simp)
                have e58 : A.tmps[58]?.getD undef = f 58 := by rw [← hA]; exact fr_in _ _ _ _ 58 (by decide) (by simp)
                clear hA hdep
                rw [h55] at e55
                clear h55
                rw [h58] at e58
                clear h58
                go_simp
                refine (next_any _ _ (hC.1).deck _ (by omega)).mono ?_
                rintro e w2 ⟨r, rfl, hr1, _, hd2, hg2x, hz2⟩
                exact hK _ _ trivial (⟨hC.1.grown hg2x hd2, hC.2.1.fr (hg2x.block g1 (OV.block hC.2.1 g1 rfl).2 (by intro e; injection e with e; omega)), hC.2.2.fr (hg2x.block g2 (OV.block hC.2.2 g2 rfl).2 (by intro e; injection e with e; omega))⟩) ⟨r, rfl, by have := hr1 (by omega); omega⟩
              · simp only [List.getElem?_toArray, List.getElem?_cons_zero, List.getElem?_cons_succ, Option.some.injEq] at ho
                subst ho
                simp only [Option.some.injEq] at hd
                subst hd
                generalize hA : fr _ _ _ f = A at hK ⊢
                have e3 : A.tmps[3]?.getD undef = .pointer (some ⟨w.heap.size, 0, none⟩) := by rw [← hA]; exact fr_out _ _ _ _ 3 _ (by decide) rfl
                clear hA hdep
                go_simp
                exact hK _ _ trivial hC rfl
              · simp only [List.getElem?_toArray, List.getElem?_cons_zero, List.getElem?_cons_succ, Option.some.injEq] at ho
                subst ho
                simp only [Option.some.injEq] at hd
                subst hd
                generalize hA : fr _ _ _ f = A at hK ⊢
                have e4 : A.tmps[4]?.getD undef = .pointer (some ⟨gn, 0, none⟩) := by rw [← hA]; exact fr_out _ _ _ _ 4 _ (by decide) rfl
                clear hA hdep
                go_simp
                exact hK _ _ trivial hC rfl
              · simp only [List.getElem?_toArray, List.getElem?_cons_zero, List.getElem?_cons_succ, Option.some.injEq] at ho
                subst ho
                simp only [Option.some.injEq] at hd
                subst hd
                have h61 : f 61 = .pointer (some ⟨gn, 0, none⟩) := hdep { on := 6, ground := .data } (by simp) rfl 61 rfl
                generalize hA : fr _ _ _ f = A at hK ⊢
                have e61 : A.tmps[61]?.getD undef = f 61 := by rw [← hA]; exact fr_in _ _ _ _ 61 (by decide) (by simp)
                clear hA hdep
                rw [h61] at e61
                clear h61
                have hcell := (hC.1).n0
                go_simp
                exact hK _ _ trivial hC rfl
              · simp only [List.getElem?_toArray, List.getElem?_cons_zero, List.getElem?_cons_succ, Option.some.injEq] at ho
                subst ho
                simp only [Option.some.injEq] at hd
                subst hd
                have h62 : f 62 = .slice A1 ns.length c1 := hdep { on := 7, ground := .data } (by simp) rfl 62 rfl
                generalize hA : fr _ _ _ f = A at hK ⊢
                have e62 : A.tmps[62]?.getD undef = f 62 := by rw [← hA]; exact fr_in _ _ _ _ 62 (by decide) (by simp)
                clear hA hdep
                rw [h62] at e62
                clear h62
                go_simp
                exact hK _ _ trivial hC rfl
              · simp only [List.getElem?_toArray, List.getElem?_cons_zero, List.getElem?_cons_succ, Option.some.injEq] at ho
                subst ho
                simp only [Option.some.injEq] at hd
                subst hd
                have h60 : f 60 = .pointer (some ⟨w.heap.size, 0, none⟩) := hdep { on := 5, ground := .data } (by simp) rfl 60 rfl
                have h63 : f 63 = .int .i64 (ns.length : Nat) := hdep { on := 8, ground := .data } (by simp) rfl 63 rfl
                generalize hA : fr _ _ _ f = A at hK ⊢
                have e60 : A.tmps[60]?.getD undef = f 60 := by rw [← hA]; exact fr_in _ _ _ _ 60 (by decide) (by simp)
                have e63 : A.tmps[63]?.getD undef = f 63 := by rw [← hA]; exact fr_in _ _ _ _ 63 (by decide) (by simp)
                clear hA hdep
                rw [h60] at e60
                clear h60
                rw [h63] at e63
                clear h63
                go_simp
                refine (next_any _ _ (hC.1).deck _ (by omega)).mono ?_
                rintro e w2 ⟨r, rfl, hr1, _, hd2, hg2x, hz2⟩
                exact hK _ _ trivial (⟨hC.1.grown hg2x hd2, hC.2.1.fr (hg2x.block g1 (OV.block hC.2.1 g1 rfl).2 (by intro e; injection e with e; omega)), hC.2.2.fr (hg2x.block g2 (OV.block hC.2.2 g2 rfl).2 (by intro e; injection e with e; omega))⟩) ⟨r, rfl, by have := hr1 (by omega); omega⟩
              · simp only [List.getElem?_toArray, List.getElem?_cons_zero, List.getElem?_cons_succ, Option.some.injEq] at ho
                subst ho
                simp only [Option.some.injEq] at hd
                subst hd
                have h59 : ∃ r : Nat, f 59 = .int .i64 r ∧ r < ns.length := hdep { on := 4, ground := .data } (by simp) rfl 59 rfl
                generalize hA : fr _ _ _ f = A at hK ⊢
                have e59 : A.tmps[59]?.getD undef = f 59 := by rw [← hA]; exact fr_in _ _ _ _ 59 (by decide) (by simp)
                clear hA hdep
                obtain ⟨r59, h59, l59⟩ := h59
                rw [h59] at e59
                clear h59
                go_simp
                exact hK _ _ trivial hC ⟨r59, rfl, l59⟩
              · simp only [List.getElem?_toArray, List.getElem?_cons_zero, List.getElem?_cons_succ, Option.some.injEq] at ho
                subst ho
                simp only [Option.some.injEq] at hd
                subst hd
                have h64 : ∃ r : Nat, f 64 = .int .i64 r ∧ r < ns.length := hdep { on := 9, ground := .data } (by simp) rfl 64 rfl
                generalize hA : fr _ _ _ f = A at hK ⊢
                have e64 : A.tmps[64]?.getD undef = f 64 := by rw [← hA]; exact fr_in _ _ _ _ 64 (by decide) (by simp)
                clear hA hdep
                obtain ⟨r64, h64, l64⟩ := h64
                rw [h64] at e64
                clear h64
                go_simp
                exact hK _ _ trivial hC ⟨r64, rfl, l64⟩
            · intro f w1 hC hall
              have q0 : ∃ r : Nat, f 8 = .int .i64 r ∧ r < ns.length := hall 10 8 (by decide) rfl
              have q1 : ∃ r : Nat, f 9 = .int .i64 r ∧ r < ns.length := hall 11 9 (by decide) rfl
              have H0 := Lib.hid q0
              have H1 := Lib.hid q1
              clear hall q0 q1
              simp only [fr, upd, List.mapIdx_cons, List.mapIdx_nil]
              simp
              go_wp2_with fail
              go_meet
              case rel =>
                obtain ⟨a, e1, l1⟩ := H0.out
                obtain ⟨b, e2, l2⟩ := H1.out
                exact ⟨a, b, e1, e2, l1, l2, hC⟩
          case rest =>
            clear L ob1 ob2
            obtain ⟨a, b, rfl, rfl, ha, hb, L, ob1, ob2⟩ := hcut
            obtain ⟨W6, rfl⟩ : ∃ W6, W6 = wc := ⟨_, rfl⟩
            have n0 := L.n0
            have n1 := L.n1
            have HY1 := way_any W6 (h.below L.bel) (fun _ => True) A1 A2 c1 c2 ns ds (L.net.mono (fun _ _ _ => trivial)) (by omega) (by omega) _ ds.length us ob1.sb (by rw [Hul.out]; omega) a b
            rw [Hul.out, wayL_ok Hc0.out Hul.out ha hb] at HY1
            have HM := Lib.hid (fun hp => way_more (more := ms) Hc0.out ha hb Hmore.out hp)
            have HL1 := Lib.hid (fun hp => way_len (use := us) Hc0.out ha hb hp)
            have HL2 := Lib.hid (fun hp => way_len (use := ms) Hc0.out ha hb hp)
            have HS := Lib.hid (fun (e : a = b) => show PO.at_ (distL ds us [b]) a = 0 by subst e; exact way_self Hc0.out ha)
            have HW2 := Lib.hid (wayL_ok (use := ms) Hc0.out Hml.out ha hb)
            generalize hD1 : distL ds us [b] = D1 at *
            generalize hD2 : distL ds ms [b] = D2 at *
            clear hD1 hD2
            generalize hT1 : (trailZ D1 (ds.zip us) (PO.at_ D1 a).toNat a).1 = T1 at *
            generalize hT2 : (trailZ D2 (ds.zip ms) (PO.at_ D2 a).toNat a).1 = T2 at *
            clear hT1 hT2
            generalize hd1 : PO.at_ D1 a = d1 at *
            generalize hd2 : PO.at_ D2 a = d2 at *
            clear hd1 hd2
            by_cases hd : d1 < 0
            · by_cases hd' : d2 < 0
              · rw [if_pos hd] at HY1
                have HY1 := Lib.hid HY1
                go_wp2_with (fail)
                refine (HY1.out).mono ?_
                rintro e w7 ⟨A7, c7, rfl, _, hb7⟩
                have L7 := L.below hb7
                have ob27 := ob2.fr (hb7.block g2 (OV.block ob2 g2 rfl).2)
                have m0 := L7.n0
                have m1 := L7.n1
                clear n0 n1
                have HY2 := way_any w7 (h.below L7.bel) (fun _ => True) A1 A2 c1 c2 ns ds (L7.net.mono (fun _ _ _ => trivial)) (by omega) (by omega) _ ds.length ms ob27.sb (by rw [Hml.out]; omega) a b
                rw [Hml.out, HW2.out, if_pos hd'] at HY2
                have HY2 := Lib.hid HY2
                go_wp2_with (fail)
                refine (HY2.out).mono ?_
                rintro e w8 ⟨A8, c8, rfl, _, hb8⟩
                have L8 := L7.below hb8
                clear HY1 HY2 HW2 m0 m1
                have hab : ((a : Int) != b) = true := by
                  simp only [bne_iff_ne, ne_eq]
                  intro e
                  have := HS.out (by omega)
                  omega
                go_wp2_with (fail)
                refine (awake03 w8 (h.below L8.bel)).mono ?_
                rintro e w9 ⟨rfl, hb9⟩
                go_wp2_with (fail)
                go_ret
                exact ⟨rfl, L8.bel.trans (hb9.mono L8.bel.size)⟩
              · rw [if_pos hd] at HY1
                have HY1 := Lib.hid HY1
                go_wp2_with (fail)
                refine (HY1.out).mono ?_
                rintro e w7 ⟨A7, c7, rfl, _, hb7⟩
                have L7 := L.below hb7
                have ob27 := ob2.fr (hb7.block g2 (OV.block ob2 g2 rfl).2)
                have m0 := L7.n0
                have m1 := L7.n1
                clear n0 n1
                have HY2 := way_any w7 (h.below L7.bel) (fun _ => True) A1 A2 c1 c2 ns ds (L7.net.mono (fun _ _ _ => trivial)) (by omega) (by omega) _ ds.length ms ob27.sb (by rw [Hml.out]; omega) a b
                rw [Hml.out, HW2.out, if_neg (show ¬ d2 < 0 by omega)] at HY2
                have HY2 := Lib.hid HY2
                go_wp2_with (fail)
                refine (HY2.out).mono ?_
                rintro e w8 ⟨A8, c8, rfl, _, hb8⟩
                have L8 := L7.below hb8
                clear HY1 HY2 HW2 m0 m1
                have hab : ((a : Int) != b) = true := by
                  simp only [bne_iff_ne, ne_eq]
                  intro e
                  have := HS.out (by omega)
                  omega
                go_wp2_with (fail)
                refine (awake03 w8 (h.below L8.bel)).mono ?_
                rintro e w9 ⟨rfl, hb9⟩
                go_wp2_with (fail)
                go_ret
                exact ⟨rfl, L8.bel.trans (hb9.mono L8.bel.size)⟩
            · have hm := HM.out (by omega)
              have HMM := Lib.hid hm
              have hm2 := hm.1
              have HT1 := Lib.hid (HL1.out (by omega))
              have HT2 := Lib.hid (HL2.out hm.1)
              clear hm
              rw [if_neg hd] at HY1
              have HY1 := Lib.hid HY1
              go_wp2_with (fail)
              refine (HY1.out).mono ?_
              rintro e w7 ⟨A7, c7, rfl, _, hb7⟩
              have L7 := L.below hb7
              have ob27 := ob2.fr (hb7.block g2 (OV.block ob2 g2 rfl).2)
              have m0 := L7.n0
              have m1 := L7.n1
              clear n0 n1
              have HY2 := way_any w7 (h.below L7.bel) (fun _ => True) A1 A2 c1 c2 ns ds (L7.net.mono (fun _ _ _ => trivial)) (by omega) (by omega) _ ds.length ms ob27.sb (by rw [Hml.out]; omega) a b
              rw [Hml.out, HW2.out, if_neg (Int.not_lt.2 hm2)] at HY2
              have HY2 := Lib.hid HY2
              go_wp2_with (fail)
              refine (HY2.out).mono ?_
              rintro e w8 ⟨A8, c8, rfl, _, hb8⟩
              have L8 := L7.below hb8
              clear HY1 HY2 HW2 m0 m1
              have hlen : T2.length ≤ T1.length := by have h1 := HT1.out; have h2 := HT2.out; have h3 := HMM.out.2; omega
              by_cases hab : a = b
              · have hab1 : ((a : Int) != b) = false := by simp [hab]
                have hl0 : ((T1.length : Int) == 0) = true := by rw [HT1.out, HS.out hab]; rfl
                clear hab
                go_wp2_with (fail)
                refine (awake03 w8 (h.below L8.bel)).mono ?_
                rintro e w9 ⟨rfl, hb9⟩
                go_wp2_with (fail)
                go_ret
                exact ⟨rfl, L8.bel.trans (hb9.mono L8.bel.size)⟩
              · have hab1 : ((a : Int) != b) = true := by simp; omega
                clear hab
                go_wp2_with (fail)
                refine (awake03 w8 (h.below L8.bel)).mono ?_
                rintro e w9 ⟨rfl, hb9⟩
                go_wp2_with (fail)
                go_ret
                exact ⟨rfl, L8.bel.trans (hb9.mono L8.bel.size)⟩
  · have hfd : decide ((xs.length : Int) ≤ 400) = false := decide_eq_false (by omega)
    go_enter Tryd.func4, Tryd.ntmps4
    go_wp2_with (fail)
    refine (few_any w A xs.length c).mono ?_
    rw [hfd]
    rintro e w' ⟨rfl, rfl⟩
    go_wp2_with (fail)
    refine (awake03 w h).mono ?_
    rintro e w8 ⟨rfl, hb8⟩
    go_wp2_with (fail)
    go_ret
    exact ⟨rfl, hb8⟩
end Go.Proofs.YtpeifmkodoignaaDoor

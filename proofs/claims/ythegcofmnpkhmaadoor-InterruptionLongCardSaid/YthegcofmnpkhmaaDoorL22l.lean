/-
  The law InterruptionLong, walked.
-/
import Derived.Test.YthegcofmnpkhmaaDoorL22h
namespace Go.Proofs.YthegcofmnpkhmaaDoor
open Go.RowKit
set_option maxHeartbeats 400000
set_option maxRecDepth 100000

set_option maxHeartbeats 8000000 in
theorem interruptionLong_row (w : World) (h : TabC w) (ht : Tab w) (A : Option Addr) (c : Nat) (xs : List Int) (hs : SI w (fun _ => True) A xs) (lim : Int) (_hl : (Lit.int .i64 lim).wf = true) :
    Calls Tryd.prog 9 #[.slice A xs.length c, .int .i64 lim] w (RetT w) := by
  by_cases hf : xs.length ≤ 400
  · have hfd : decide ((xs.length : Int) ≤ 400) = true := decide_eq_true (by omega)
    go_enter Tryd.func9, Tryd.ntmps9
    go_wp2_with (fail)
    refine (few_any w A xs.length c).mono ?_
    rw [hfd]
    rintro e w' ⟨rfl, rfl⟩
    go_wp2_with (fail)
    refine (new_any w _ A c xs hs hf).mono ?_
    rintro e w1 ⟨rfl, hd1, hb1, hz1⟩
    have Hz1 := Lib.hid hz1
    clear hz1
    go_wp2_with (fail)
    refine (network_any w1 w.heap.size hd1 5 8 (by decide) (by decide) (by decide) (by decide)).mono ?_
    rintro e w2 ⟨A1, c1, A2, c2, ns, ds, rfl, ho1, ho2, hd2, hg2, hgood⟩
    have L := LS.start hd1 hb1 Hz1.out ho1 ho2 hd2 hg2 hgood
    have hc0 := good_check hgood (by decide) (by decide)
    have Hc0 := Lib.hid hc0
    have hnl : ns.length ≤ 5 := hgood.most
    have hdl : ds.length ≤ 8 := hgood.few
    have hd1' : 1 ≤ ds.length := hgood.one
    obtain ⟨W, hW⟩ : ∃ W, W = w2.alloc (.cells #[.slice A1 ns.length c1, .slice A2 ds.length c2] 26) := ⟨_, rfl⟩
    rw [← hW] at L
    have HW := Lib.hid hW
    have n0 := L.n0
    have n1 := L.n1
    rw [hW] at n0 n1
    clear hd1 hb1 Hz1 ho1 ho2 hd2 hg2 hc0 hW hgood
    go_wp2_with (fail)
    rw [← HW.out]
    refine (state_any W w.heap.size L.deck A1 ns.length c1 A2 c2 ds _ (fun b hb => by have := hb.1; omega) L.net.devs (by omega)).mono ?_
    rintro e w3 ⟨As, cs, st, rfl, hstl, hst, ho3, hd3, hf3⟩
    have L3 := L.state hf3 hd3
    have hWs := hf3.size
    have hM := L.top
    have Hstl := Lib.hid hstl
    have Hst := Lib.hid hst
    have sS : SI w3 (fun g => w2.heap.size < g) As st := (OI.si ho3).mono (fun g hl hg => by have hg : W.heap.size ≤ g := hg; show w2.heap.size < g; omega)
    clear n0 n1 L hf3 hd3 hstl hst HW ho3
    obtain ⟨gn, hgn⟩ : ∃ x, x = w2.heap.size := ⟨_, rfl⟩
    rw [← hgn] at L3 sS hM ⊢
    clear hgn hM hWs W w2 w1
    have hC3 : LT w w3 (gn + 1) gn A1 c1 ns A2 c2 ds As st := ⟨L3, sS⟩
    clear L3 sS
    go_upto_region 6 with (fail)
    go_cut [8, 9] (fun v8 v9 wx => LT w wx (gn + 1) gn A1 c1 ns A2 c2 ds As st ∧ (∃ A' c' l, v8 = .slice A' (List.length l) c' ∧ (∀ o ∈ l, OkO 40 o) ∧ l.length ≤ 300 ∧ SV wx (fun g => gn < g) A' (recV outV l)) ∧ v9 = .int .i64 0)
    case first =>
      refine wp_region_ext1 (by kernel_rfl) 11 [38, 39, 40, 41, 42, 43, 37, 44, 45, 8, 9] (fun w' => LT w w' (gn + 1) gn A1 c1 ns A2 c2 ds As st) (fun a b => Fr a.heap.size w.heap.size a b) (fun d vv w' => if d = 38 then vv = .agg #[.slice A1 ns.length c1, .slice A2 ds.length c2] else if d = 39 then vv = .slice As st.length cs else if d = 40 then vv = .pointer (some ⟨w.heap.size, 0, none⟩) else if d = 41 then vv = .agg #[.slice A1 ns.length c1, .slice A2 ds.length c2] else if d = 45 then vv = .int .i64 0 else if d = 9 then vv = .int .i64 0 else if d = 42 then ∃ A' c' zs, vv = .slice A' (List.length zs) c' ∧ zs.length ≤ 8 ∧ OkC ds.length 23 zs ∧ SV w' (fun g => gn < g) A' (recV chgV zs) else if d = 43 then ∃ A' c' l, vv = .tuple #[.slice A' (List.length l) c', .int .i64 0] ∧ (∀ o ∈ l, OkO 40 o) ∧ l.length ≤ 300 ∧ SV w' (fun g => gn < g) A' (recV outV l) else if d = 37 then ∃ A' c' l, vv = .tuple #[.slice A' (List.length l) c', .int .i64 0] ∧ (∀ o ∈ l, OkO 40 o) ∧ l.length ≤ 300 ∧ SV w' (fun g => gn < g) A' (recV outV l) else if d = 44 then ∃ A' c' l, vv = .slice A' (List.length l) c' ∧ (∀ o ∈ l, OkO 40 o) ∧ l.length ≤ 300 ∧ SV w' (fun g => gn < g) A' (recV outV l) else if d = 8 then ∃ A' c' l, vv = .slice A' (List.length l) c' ∧ (∀ o ∈ l, OkO 40 o) ∧ l.length ≤ 300 ∧ SV w' (fun g => gn < g) A' (recV outV l) else False) (by kernel_rfl) (hC3.bl ((Below.refl _ _).drew)) (fun d v w1 w2 hC hE hT => by
          by_cases h42 : d = 42
          · subst h42
            obtain ⟨A', c', l, a1, a2, a3, a4⟩ := hT
            exact ⟨A', c', l, a1, a2, a3, a4.keep ⟨hE.size, fun k hk hl => hE.block k hl (by have := hC.1.gne; have hk : gn < k := hk; omega)⟩⟩
          by_cases h43 : d = 43
          · subst h43
            obtain ⟨A', c', l, a1, a2, a3, a4⟩ := hT
            exact ⟨A', c', l, a1, a2, a3, a4.keep ⟨hE.size, fun k hk hl => hE.block k hl (by have := hC.1.gne; have hk : gn < k := hk; omega)⟩⟩
          by_cases h37 : d = 37
          · subst h37
            obtain ⟨A', c', l, a1, a2, a3, a4⟩ := hT
            exact ⟨A', c', l, a1, a2, a3, a4.keep ⟨hE.size, fun k hk hl => hE.block k hl (by have := hC.1.gne; have hk : gn < k := hk; omega)⟩⟩
          by_cases h44 : d = 44
          · subst h44
            obtain ⟨A', c', l, a1, a2, a3, a4⟩ := hT
            exact ⟨A', c', l, a1, a2, a3, a4.keep ⟨hE.size, fun k hk hl => hE.block k hl (by have := hC.1.gne; have hk : gn < k := hk; omega)⟩⟩
          by_cases h8 : d = 8
          · subst h8
            obtain ⟨A', c', l, a1, a2, a3, a4⟩ := hT
            exact ⟨A', c', l, a1, a2, a3, a4.keep ⟨hE.size, fun k hk hl => hE.block k hl (by have := hC.1.gne; have hk : gn < k := hk; omega)⟩⟩
          simp only [if_neg h42, if_neg h43, if_neg h37, if_neg h44, if_neg h8] at hT ⊢
          exact hT) ?_ ?_
      · intro i o d hi ho hd f w1 hC hdep K hK
        have hi' : i = 0 ∨ i = 1 ∨ i = 2 ∨ i = 3 ∨ i = 4 ∨ i = 5 ∨ i = 6 ∨ i = 7 ∨ i = 8 ∨ i = 9 ∨ i = 10 := by omega
        rcases hi' with rfl | rfl | rfl | rfl | rfl | rfl | rfl | rfl | rfl | rfl | rfl
        · simp only [List.getElem?_toArray, List.getElem?_cons_zero, Option.some.injEq] at ho
          subst ho
          simp only [Option.some.injEq] at hd
          subst hd
          generalize hA : fr _ _ _ f = A at hK ⊢
          have e6 : A.tmps[6]?.getD undef = .pointer (some ⟨gn, 0, none⟩) := by rw [← hA]; exact fr_out _ _ _ _ 6 _ (by decide) rfl
          clear hA hdep
          have hcell0 := hC.1.n0
          have hcell1 := hC.1.n1
          go_simp
          exact hK _ _ (Fr.refl _ _ _) hC rfl
        · simp only [List.getElem?_toArray, List.getElem?_cons_zero, List.getElem?_cons_succ, Option.some.injEq] at ho
          subst ho
          simp only [Option.some.injEq] at hd
          subst hd
          generalize hA : fr _ _ _ f = A at hK ⊢
          have e7 : A.tmps[7]?.getD undef = .slice As st.length cs := by rw [← hA]; exact fr_out _ _ _ _ 7 _ (by decide) rfl
          clear hA hdep
          go_simp
          exact hK _ _ (Fr.refl _ _ _) hC rfl
        · simp only [List.getElem?_toArray, List.getElem?_cons_zero, List.getElem?_cons_succ, Option.some.injEq] at ho
          subst ho
          simp only [Option.some.injEq] at hd
          subst hd
          generalize hA : fr _ _ _ f = A at hK ⊢
          have e5 : A.tmps[5]?.getD undef = .pointer (some ⟨w.heap.size, 0, none⟩) := by rw [← hA]; exact fr_out _ _ _ _ 5 _ (by decide) rfl
          clear hA hdep
          go_simp
          exact hK _ _ (Fr.refl _ _ _) hC rfl
        · simp only [List.getElem?_toArray, List.getElem?_cons_zero, List.getElem?_cons_succ, Option.some.injEq] at ho
          subst ho
          simp only [Option.some.injEq] at hd
          subst hd
          generalize hA : fr _ _ _ f = A at hK ⊢
          have e6 : A.tmps[6]?.getD undef = .pointer (some ⟨gn, 0, none⟩) := by rw [← hA]; exact fr_out _ _ _ _ 6 _ (by decide) rfl
          clear hA hdep
          have hcell0 := hC.1.n0
          have hcell1 := hC.1.n1
          go_simp
          exact hK _ _ (Fr.refl _ _ _) hC rfl
        · simp only [List.getElem?_toArray, List.getElem?_cons_zero, List.getElem?_cons_succ, Option.some.injEq] at ho
          subst ho
          simp only [Option.some.injEq] at hd
          subst hd
          have h40 : f 40 = .pointer (some ⟨w.heap.size, 0, none⟩) := hdep { on := 2, ground := .data } (by simp) rfl 40 rfl
          have h41 : f 41 = .agg #[.slice A1 ns.length c1, .slice A2 ds.length c2] := hdep { on := 3, ground := .data } (by simp) rfl 41 rfl
          generalize hA : fr _ _ _ f = A at hK ⊢
          have e40 : A.tmps[40]?.getD undef = f 40 := by rw [← hA]; exact fr_in _ _ _ _ 40 (by decide) (by simp)
          have e41 : A.tmps[41]?.getD undef = f 41 := by rw [← hA]; exact fr_in _ _ _ _ 41 (by decide) (by simp)
          clear hA hdep
          rw [h40] at e40
          clear h40
          rw [h41] at e41
          clear h41
          go_simp
          refine (mkChanges_any w1 w.heap.size hC.1.deck A1 ns.length c1 A2 c2 ds.length hd1' (by omega) 8 (by decide)).mono ?_
          rintro e' w2 ⟨A5, c5, x5, rfl, b1, b2, b3, b4, b5⟩
          exact hK _ _ b5 (hC.fr b5 b4) ⟨A5, c5, x5, rfl, b1, b2, (OV.sv b3).mono (fun g _ hg => by have := hC.1.gnm; have := hC.1.top; have hg : w1.heap.size ≤ g := hg; show gn < g; omega)⟩
        · simp only [List.getElem?_toArray, List.getElem?_cons_zero, List.getElem?_cons_succ, Option.some.injEq] at ho
          subst ho
          simp only [Option.some.injEq] at hd
          subst hd
          have h38 : f 38 = .agg #[.slice A1 ns.length c1, .slice A2 ds.length c2] := hdep { on := 0, ground := .data } (by simp) rfl 38 rfl
          have h39 : f 39 = .slice As st.length cs := hdep { on := 1, ground := .data } (by simp) rfl 39 rfl
          have h42 : ∃ A' c' zs, f 42 = .slice A' (List.length zs) c' ∧ zs.length ≤ 8 ∧ OkC ds.length 23 zs ∧ SV w1 (fun g => gn < g) A' (recV chgV zs) := hdep { on := 4, ground := .data } (by simp) rfl 42 rfl
          generalize hA : fr _ _ _ f = A at hK ⊢
          have e38 : A.tmps[38]?.getD undef = f 38 := by rw [← hA]; exact fr_in _ _ _ _ 38 (by decide) (by simp)
          have e39 : A.tmps[39]?.getD undef = f 39 := by rw [← hA]; exact fr_in _ _ _ _ 39 (by decide) (by simp)
          have e42 : A.tmps[42]?.getD undef = f 42 := by rw [← hA]; exact fr_in _ _ _ _ 42 (by decide) (by simp)
          clear hA hdep
          rw [h38] at e38
          clear h38
          rw [h39] at e39
          clear h39
          obtain ⟨Ak, ck, lk, h42, p1, p2, p3⟩ := h42
          rw [h42] at e42
          have Hf42 := Lib.hid h42
          clear h42
          go_simp
          refine (Outages_any w1 (h.below hC.1.bel) (ht.below hC.1.bel) (fun _ => True) A1 A2 c1 c2 ns ds (hC.1.net.mono (fun _ _ _ => trivial)) (by omega) (by omega) As cs st (hC.2.mono (fun _ _ _ => trivial)) (by have := Hstl.out; omega) _ Ak ck lk p3 (by omega) 40).mono ?_
          rw [good_outages Hc0.out Hstl.out Hst.out p2 (by decide) (by decide) (by decide) (by omega)]
          rintro e' w2 ⟨A5, c5, rfl, b1, b2⟩
          exact hK _ _ (Fr.of_below b2) (hC.bl b2) ⟨A5, c5, _, rfl, outL_ok (til := 40) (checkL_cust Hc0.out), by have := outL_few ns (supF ns ds st lk) 40; show (outL ns (supF ns ds st lk) 40).length ≤ 300; omega, (OV.sv b1).mono (fun g _ hg => by have := hC.1.gnm; have := hC.1.top; have hg : w1.heap.size ≤ g := hg; show gn < g; omega)⟩
        · simp only [List.getElem?_toArray, List.getElem?_cons_zero, List.getElem?_cons_succ, Option.some.injEq] at ho
          subst ho
          simp only [Option.some.injEq] at hd
          subst hd
          have h43 : ∃ A' c' l, f 43 = .tuple #[.slice A' (List.length l) c', .int .i64 0] ∧ (∀ o ∈ l, OkO 40 o) ∧ l.length ≤ 300 ∧ SV w1 (fun g => gn < g) A' (recV outV l) := hdep { on := 5, ground := .data } (by simp) rfl 43 rfl
          generalize hA : fr _ _ _ f = A at hK ⊢
          have e43 : A.tmps[43]?.getD undef = f 43 := by rw [← hA]; exact fr_in _ _ _ _ 43 (by decide) (by simp)
          clear hA hdep
          obtain ⟨Ak, ck, lk, h43, p1, p2, p3⟩ := h43
          rw [h43] at e43
          have Hf43 := Lib.hid h43
          clear h43
          go_simp
          exact hK _ _ (Fr.refl _ _ _) hC ⟨Ak, ck, lk, rfl, p1, p2, p3⟩
        · simp only [List.getElem?_toArray, List.getElem?_cons_zero, List.getElem?_cons_succ, Option.some.injEq] at ho
          subst ho
          simp only [Option.some.injEq] at hd
          subst hd
          have h37 : ∃ A' c' l, f 37 = .tuple #[.slice A' (List.length l) c', .int .i64 0] ∧ (∀ o ∈ l, OkO 40 o) ∧ l.length ≤ 300 ∧ SV w1 (fun g => gn < g) A' (recV outV l) := hdep { on := 6, ground := .data } (by simp) rfl 37 rfl
          generalize hA : fr _ _ _ f = A at hK ⊢
          have e37 : A.tmps[37]?.getD undef = f 37 := by rw [← hA]; exact fr_in _ _ _ _ 37 (by decide) (by simp)
          clear hA hdep
          obtain ⟨Ak, ck, lk, h37, p1, p2, p3⟩ := h37
          rw [h37] at e37
          have Hf37 := Lib.hid h37
          clear h37
          go_simp
          exact hK _ _ (Fr.refl _ _ _) hC ⟨Ak, ck, lk, rfl, p1, p2, p3⟩
        · simp only [List.getElem?_toArray, List.getElem?_cons_zero, List.getElem?_cons_succ, Option.some.injEq] at ho
          subst ho
          simp only [Option.some.injEq] at hd
          subst hd
          have h37 : ∃ A' c' l, f 37 = .tuple #[.slice A' (List.length l) c', .int .i64 0] ∧ (∀ o ∈ l, OkO 40 o) ∧ l.length ≤ 300 ∧ SV w1 (fun g => gn < g) A' (recV outV l) := hdep { on := 6, ground := .data } (by simp) rfl 37 rfl
          generalize hA : fr _ _ _ f = A at hK ⊢
          have e37 : A.tmps[37]?.getD undef = f 37 := by rw [← hA]; exact fr_in _ _ _ _ 37 (by decide) (by simp)
          clear hA hdep
          obtain ⟨Ak, ck, lk, h37, p1, p2, p3⟩ := h37
          rw [h37] at e37
          have Hf37 := Lib.hid h37
          clear h37
          go_simp
          exact hK _ _ (Fr.refl _ _ _) hC rfl
        · simp only [List.getElem?_toArray, List.getElem?_cons_zero, List.getElem?_cons_succ, Option.some.injEq] at ho
          subst ho
          simp only [Option.some.injEq] at hd
          subst hd
          have h44 : ∃ A' c' l, f 44 = .slice A' (List.length l) c' ∧ (∀ o ∈ l, OkO 40 o) ∧ l.length ≤ 300 ∧ SV w1 (fun g => gn < g) A' (recV outV l) := hdep { on := 7, ground := .data } (by simp) rfl 44 rfl
          generalize hA : fr _ _ _ f = A at hK ⊢
          have e44 : A.tmps[44]?.getD undef = f 44 := by rw [← hA]; exact fr_in _ _ _ _ 44 (by decide) (by simp)
          clear hA hdep
          obtain ⟨Ak, ck, lk, h44, p1, p2, p3⟩ := h44
          rw [h44] at e44
          have Hf44 := Lib.hid h44
          clear h44
          go_simp
          exact hK _ _ (Fr.refl _ _ _) hC ⟨Ak, ck, lk, rfl, p1, p2, p3⟩
        · simp only [List.getElem?_toArray, List.getElem?_cons_zero, List.getElem?_cons_succ, Option.some.injEq] at ho
          subst ho
          simp only [Option.some.injEq] at hd
          subst hd
          have h45 : f 45 = .int .i64 0 := hdep { on := 8, ground := .data } (by simp) rfl 45 rfl
          generalize hA : fr _ _ _ f = A at hK ⊢
          have e45 : A.tmps[45]?.getD undef = f 45 := by rw [← hA]; exact fr_in _ _ _ _ 45 (by decide) (by simp)
          clear hA hdep
          rw [h45] at e45
          clear h45
          go_simp
          exact hK _ _ (Fr.refl _ _ _) hC rfl
      · intro f w1 hC hall
        have q0 : ∃ A' c' l, f 8 = .slice A' (List.length l) c' ∧ (∀ o ∈ l, OkO 40 o) ∧ l.length ≤ 300 ∧ SV w1 (fun g => gn < g) A' (recV outV l) := hall 9 8 (by decide) rfl
        have q1 : f 9 = .int .i64 0 := hall 10 9 (by decide) rfl
        have H0 := Lib.hid q0
        have H1 := Lib.hid q1
        clear hall q0 q1
        simp only [fr, upd, List.mapIdx_cons, List.mapIdx_nil]
        simp
        go_wp2_with fail
        go_meet
        case rel => exact ⟨hC, H0.out, H1.out⟩
    case rest =>
      clear hC3
      obtain ⟨W0, rfl⟩ : ∃ W0, W0 = wc := ⟨_, rfl⟩
      obtain ⟨hC, ⟨Ao, co, l, rfl, hok, hll, sO⟩, rfl⟩ := hcut
      have HE0 := Lib.hid (outsE_ok hok (by decide) (by omega))
      have Hok := Lib.hid hok
      have hbest := fun hn : l ≠ [] => best_is hn
      have Hbest := Lib.hid hbest
      have sO := sO.mono (T := fun _ => True) (fun _ _ _ => trivial)
      have hall16 : ∀ o ∈ l, OkO 16777216 o := fun o ho => (Hok.out o ho).mono (by decide)
      have hL40 : longL 40 l = 0 := longL_none Hok.out
      have hml := minL_bound hall16
      have H16 := Lib.hid hall16
      clear hok hbest hall16
      obtain ⟨kk, hkk⟩ : ∃ kk, kk = lim % 42 := ⟨_, rfl⟩
      have HMd := mod_any lim 42 W0 (by decide) (by decide)
      rw [← hkk] at HMd
      have HMd := Lib.hid HMd
      have HA := Long_any W0 _ Ao co l sO (by omega) (-1)
      rw [longE_ok HE0.out] at HA
      have HA := Lib.hid HA
      clear hkk
      go_wp2_with (fail)
      refine HMd.out.mono ?_
      rintro e w' ⟨rfl, rfl⟩
      go_wp2_with (fail)
      refine HA.out.mono ?_
      rintro e wa ⟨rfl, hba⟩
      have hC := hC.bl hba
      have sO := sO.keep (Kept.of_below hba)
      clear HA HMd hba
      have HB := Long_any wa _ Ao co l sO (by omega) kk
      rw [longE_ok HE0.out] at HB
      have HB := Lib.hid HB
      go_wp2_with (fail)
      refine HB.out.mono ?_
      rintro e wb ⟨rfl, hbb⟩
      have hC := hC.bl hbb
      have sO := sO.keep (Kept.of_below hbb)
      clear HB hbb
      have HF := Long_any wb _ Ao co l sO (by omega) 40
      rw [longE_ok HE0.out, hL40] at HF
      have HF := Lib.hid HF
      clear hL40
      go_wp2_with (fail)
      refine HF.out.mono ?_
      rintro e wd ⟨rfl, hbd⟩
      have hC := hC.bl hbd
      have sO := sO.keep (Kept.of_below hbd)
      clear HF hbd
      have HM := Minutes_any wd _ Ao co l sO (by omega)
      rw [minutesE_ok HE0.out] at HM
      have HM := Lib.hid HM
      go_wp2_with (fail)
      refine HM.out.mono ?_
      rintro e we ⟨rfl, hbe⟩
      have hC := hC.bl hbe
      have sO := sO.keep (Kept.of_below hbe)
      clear HM hbe
      have HW := Lib.hid (OWorst_any we _ Ao co l sO (by omega))
      go_wp2_with (fail)
      refine HW.out.mono ?_
      rintro e wf ⟨rfl, hbf⟩
      have hC := hC.bl hbf
      have sO := sO.keep (Kept.of_below hbf)
      clear HW hbf
      have Hw := Lib.hid (show (l = [] ∧ worstE l = (0, false)) ∨ (l ≠ [] ∧ worstE l = (((bestN (minAt l) l.length : Nat) : Int), true)) by
        by_cases hn : l = []
        · exact .inl ⟨hn, by rw [hn]; rfl⟩
        · exact .inr ⟨hn, worstE_ok HE0.out hn⟩)
      obtain ⟨wx, hwx⟩ : ∃ x, x = worstE l := ⟨_, rfl⟩
      rw [← hwx] at Hw ⊢
      clear hwx
      obtain ⟨wi, wk⟩ := wx
      go_wp2_with (fail)
      go_loopg [21, 22, 76] l.length (fun g a b i wr => ∃ j : Nat, j + g = l.length ∧ i = .int .i64 j ∧ a = .int .i64 (longL (-1) (l.take j)) ∧ b = .int .i64 (longL kk (l.take j)) ∧ Below wf.heap.size wf wr)
      case atStart => exact ⟨0, by omega, rfl, rfl, rfl, Below.refl _ _⟩
      case round =>
        obtain ⟨j, hj, rfl, rfl, rfl, hB⟩ := hrel
        have Hj := Lib.hid hj
        clear hj
        have hC := hC.bl hB
        have sO := sO.keep (Kept.of_below hB)
        by_cases hlt : j < l.length
        · obtain ⟨b, off, rfl, _, _, hc⟩ := sO.rec outV_len (by decide) hlt
          have q0 := hc 0 _ rfl
          have q1 := hc 1 _ rfl
          have q2 := hc 2 _ rfl
          have q3 := hc 3 _ rfl
          simp only [Nat.add_zero] at q0
          have ho := Hok.out l[j] (List.getElem_mem hlt)
          have ht1 := longL_take (-1) l j hlt
          have ht2 := longL_take kk l j hlt
          have hb1 := longL_bound (-1) (l := l.take j) (fun o h => H16.out o (List.mem_of_mem_take h))
          have hb2 := longL_bound kk (l := l.take j) (fun o h => H16.out o (List.mem_of_mem_take h))
          rw [List.length_take] at hb1 hb2
          clear hc
          generalize l[j] = o at *
          obtain ⟨o1, o2, o3, o4, o5⟩ := ho
          obtain ⟨nd, cu, fr, til⟩ := o
          simp only at o1 o2 o3 o4 o5 ht1 ht2 q0 q1 q2 q3
          have hBn := hB.alloc hB.size (.cells #[.int .i64 nd, .int .i64 cu, .int .i64 fr, .int .i64 til] 88)
          rw [if_pos (by omega)] at ht1
          have Ht1 := Lib.hid ht1
          generalize longL (-1) (l.take j) = s1 at *
          generalize longL kk (l.take j) = s2 at *
          have hw1 : IntKind.i64.wrap (til - fr) = til - fr := IntWalk.i64_in _ (by omega)
          have hw2 : IntKind.i64.wrap (s1 + cu) = s1 + cu := IntWalk.i64_in _ (by omega)
          have hw3 : IntKind.i64.wrap (s2 + cu) = s2 + cu := IntWalk.i64_in _ (by omega)
          by_cases hg : kk < til - fr
          · have hgd : decide (kk < til - fr) = true := decide_eq_true hg
            have Ht2 := Lib.hid (show longL kk (l.take (j + 1)) = s2 + cu by rw [ht2, if_pos hg])
            clear ht1 ht2 hg
            go_wp2_with (fail)
            go_roundg (gk - 1)
            case measure => have := Hj.out; omega
            case rel => exact ⟨j + 1, by have := Hj.out; omega, by go_num, by rw [Ht1.out], by rw [Ht2.out], hBn⟩
          · have hgd : decide (kk < til - fr) = false := decide_eq_false hg
            have Ht2 := Lib.hid (show longL kk (l.take (j + 1)) = s2 by rw [ht2, if_neg hg, Int.add_zero])
            clear ht1 ht2 hg
            go_wp2_with (fail)
            go_roundg (gk - 1)
            case measure => have := Hj.out; omega
            case rel => exact ⟨j + 1, by have := Hj.out; omega, by go_num, by rw [Ht1.out], by rw [Ht2.out], hBn⟩
        · rw [List.take_of_length_le (by omega)]
          obtain ⟨wr0, rfl⟩ : ∃ x, x = wr := ⟨_, rfl⟩
          rcases Hw.out with ⟨hl0, hwe⟩ | ⟨hn, hwe⟩
          · injection hwe with e1 e2
            subst e1 e2 hl0
            have HAW := Lib.hid (awake22 wr0 (h.below hC.1.bel) (ht.below hC.1.bel))
            have hm0 : minL [] = 0 := rfl
            go_wp2_with (fail)
            refine HAW.out.mono ?_
            rintro e w8 ⟨rfl, hb8⟩
            go_wp2_with (fail)
            go_ret
            exact ⟨rfl, hC.1.bel.trans (hb8.mono hC.1.bel.size)⟩
          · injection hwe with e1 e2
            subst e1 e2
            obtain ⟨bi, hbi, hbl, hav2⟩ : ∃ bi, bestN (minAt l) l.length = bi ∧ ∃ h : bi < l.length, minL l ≤ minO (l[bi]'h) * l.length := ⟨_, rfl, Hbest.out hn⟩
            have hl0 : ¬ l.length = 0 := by intro e; exact hn (List.eq_nil_of_length_eq_zero e)
            have hlp : decide (0 < l.length) = true := decide_eq_true (by omega)
            have hlp2 : decide ((0 : Int) < l.length) = true := decide_eq_true (by omega)
            clear hn Hbest Hw
            rw [hbi]
            clear hbi
            obtain ⟨b, off, rfl, _, _, hc⟩ := sO.rec outV_len (by decide) hbl
            have q0 := hc 0 _ rfl
            have q1 := hc 1 _ rfl
            have q2 := hc 2 _ rfl
            have q3 := hc 3 _ rfl
            simp only [Nat.add_zero] at q0
            have ho := Hok.out l[bi] (List.getElem_mem hbl)
            have hmb := minO_bound (H16.out l[bi] (List.getElem_mem hbl))
            clear hc
            generalize l[bi] = o at *
            obtain ⟨o1, o2, o3, o4, o5⟩ := ho
            have hmo : o.cust * (o.til - o.fr) = minO o := rfl
            obtain ⟨nd, cu, fr, til⟩ := o
            simp only at o1 o2 o3 o4 o5 hmo q0 q1 q2 q3
            generalize minO ⟨nd, cu, fr, til⟩ = mo at *
            have hw1 : IntKind.i64.wrap (til - fr) = til - fr := IntWalk.i64_in _ (by omega)
            have hw2 : IntKind.i64.wrap (cu * (til - fr)) = mo := by rw [hmo]; exact IntWalk.i64_in _ (by omega)
            have hbm : 0 ≤ mo * (l.length : Int) ∧ mo * (l.length : Int) ≤ 17592186044416 * 300 := ⟨Int.mul_nonneg hmb.1 (by omega), Int.mul_le_mul hmb.2 (by omega) (by omega) (by decide)⟩
            have hw3 : IntKind.i64.wrap (mo * (l.length : Int)) = mo * (l.length : Int) := IntWalk.i64_in _ (by omega)
            generalize minL l = mm at *
            have hge : decide (mm ≤ mo * (l.length : Int)) = true := decide_eq_true hav2
            have hbi1 : decide ((bi : Int) < 0) = false := decide_eq_false (by omega)
            have hbi2 : decide ((l.length : Int) ≤ (bi : Int)) = false := decide_eq_false (by omega)
            have hCb := hC.bl ((Below.refl wr0.heap.size wr0).alloc (Nat.le_refl _) (.cells #[.int .i64 nd, .int .i64 cu, .int .i64 fr, .int .i64 til] 88))
            have n0 := hCb.1.n0
            have n1 := hCb.1.n1
            have HR := refState_any _ (fun _ => True) A1 A2 c1 c2 ns ds (hCb.1.net.mono (fun _ _ _ => trivial)) (by omega) (by omega) As cs st (hCb.2.mono (fun _ _ _ => trivial)) (by have := Hstl.out; omega)
            rw [mask_ok Hc0.out Hstl.out Hst.out] at HR
            have HR := Lib.hid HR
            clear hmo hav2
            go_wp2_with (fail)
            refine HR.out.mono ?_
            rintro e w7 ⟨rfl, hb7⟩
            have hC7 := hCb.bl hb7
            have HAW := Lib.hid (awake22 w7 (h.below hC7.1.bel) (ht.below hC7.1.bel))
            go_wp2_with (fail)
            refine HAW.out.mono ?_
            rintro e w8 ⟨rfl, hb8⟩
            go_wp2_with (fail)
            go_ret
            exact ⟨rfl, hC7.1.bel.trans (hb8.mono hC7.1.bel.size)⟩
  · have hfd : decide ((xs.length : Int) ≤ 400) = false := decide_eq_false (by omega)
    go_enter Tryd.func9, Tryd.ntmps9
    go_wp2_with (fail)
    refine (few_any w A xs.length c).mono ?_
    rw [hfd]
    rintro e w' ⟨rfl, rfl⟩
    go_wp2_with (fail)
    refine (awake22 w h ht).mono ?_
    rintro e w8 ⟨rfl, hb8⟩
    go_wp2_with (fail)
    go_ret
    exact ⟨rfl, hb8⟩
end Go.Proofs.YthegcofmnpkhmaaDoor

/-
  The law SupplyLost, walked.
-/
import Derived.Test.YtglhplddjjoggaaDoorL11a
namespace Go.Proofs.YtglhplddjjoggaaDoor
open Go.RowKit
set_option maxHeartbeats 400000
set_option maxRecDepth 100000

set_option maxHeartbeats 8000000 in
theorem supplyLost_row (w : World) (h : TabC w) (ht : Tab w) (A : Option Addr) (c : Nat) (xs : List Int) (hs : SI w (fun _ => True) A xs) :
    Calls Tryd.prog 6 #[.slice A xs.length c] w (RetT w) := by
  by_cases hf : xs.length ≤ 400
  · have hfd : decide ((xs.length : Int) ≤ 400) = true := decide_eq_true (by omega)
    go_enter Tryd.func6, Tryd.ntmps6
    go_wp2_with (fail)
    refine (few_any w A xs.length c).mono ?_
    rw [hfd]
    rintro e w' ⟨rfl, rfl⟩
    go_wp2_with (fail)
    refine (new_any w _ A c xs hs hf).mono ?_
    rintro e w1 ⟨rfl, hd1, hb1, hz1⟩
    have Hz1 := Lib.hid hz1
    clear hz1
    go_wp2_with (fail)
    refine (network_any w1 w.heap.size hd1 7 12 (by decide) (by decide) (by decide) (by decide)).mono ?_
    rintro e w2 ⟨A1, c1, A2, c2, ns, ds, rfl, ho1, ho2, hd2, hg2, hgood⟩
    have L := LS.start hd1 hb1 Hz1.out ho1 ho2 hd2 hg2 hgood
    have hc0 := good_check hgood (by decide) (by decide)
    have Hc0 := Lib.hid hc0
    have hnl : ns.length ≤ 7 := hgood.most
    have hdl : ds.length ≤ 12 := hgood.few
    obtain ⟨W, hW⟩ : ∃ W, W = w2.alloc (.cells #[.slice A1 ns.length c1, .slice A2 ds.length c2] 26) := ⟨_, rfl⟩
    rw [← hW] at L
    have HW := Lib.hid hW
    clear hd1 hb1 Hz1 ho1 ho2 hd2 hg2 hc0 hW hgood
    obtain ⟨gn, hgn⟩ : ∃ x, x = w2.heap.size := ⟨_, rfl⟩
    have Hgn := Lib.hid hgn
    rw [← hgn] at L
    clear hgn
    go_upto_region 5 with (fail)
    rw [← HW.out, ← Hgn.out]
    clear HW Hgn w2 w1
    go_cut [5, 6] (fun v5 v6 wx => LS w wx (gn + 1) gn A1 c1 ns A2 c2 ds ∧ (∃ A' c' st, v5 = .slice A' st.length c' ∧ st.length = ds.length ∧ (∀ x ∈ st, x = 1 ∨ x = 2) ∧ SI wx (fun g => gn < g) A' st) ∧ (∃ A' c' st, v6 = .slice A' st.length c' ∧ st.length = ds.length ∧ (∀ x ∈ st, x = 1 ∨ x = 2) ∧ SI wx (fun g => gn < g) A' st))
    case first =>
      refine wp_region_ext1 (by kernel_rfl) 8 [30, 31, 32, 33, 34, 35, 5, 6] (fun w' => LS w w' (gn + 1) gn A1 c1 ns A2 c2 ds) (fun a b => Fr a.heap.size w.heap.size a b) (fun d vv w' => if d = 30 then vv = .pointer (some ⟨w.heap.size, 0, none⟩) else if d = 31 then vv = .agg #[.slice A1 ns.length c1, .slice A2 ds.length c2] else if d = 33 then vv = .pointer (some ⟨w.heap.size, 0, none⟩) else if d = 34 then vv = .agg #[.slice A1 ns.length c1, .slice A2 ds.length c2] else if d = 32 then ∃ A' c' st, vv = .slice A' st.length c' ∧ st.length = ds.length ∧ (∀ x ∈ st, x = 1 ∨ x = 2) ∧ SI w' (fun g => gn < g) A' st else if d = 35 then ∃ A' c' st, vv = .slice A' st.length c' ∧ st.length = ds.length ∧ (∀ x ∈ st, x = 1 ∨ x = 2) ∧ SI w' (fun g => gn < g) A' st else if d = 5 then ∃ A' c' st, vv = .slice A' st.length c' ∧ st.length = ds.length ∧ (∀ x ∈ st, x = 1 ∨ x = 2) ∧ SI w' (fun g => gn < g) A' st else if d = 6 then ∃ A' c' st, vv = .slice A' st.length c' ∧ st.length = ds.length ∧ (∀ x ∈ st, x = 1 ∨ x = 2) ∧ SI w' (fun g => gn < g) A' st else False) (by kernel_rfl) (L.below ((Below.refl _ _).drew)) (fun d v w1 w2 hC hE hT => by
          have key : (∃ A' c' st, v = .slice A' st.length c' ∧ st.length = ds.length ∧ (∀ x ∈ st, x = 1 ∨ x = 2) ∧ SI w1 (fun g => gn < g) A' st) → ∃ A' c' st, v = .slice A' st.length c' ∧ st.length = ds.length ∧ (∀ x ∈ st, x = 1 ∨ x = 2) ∧ SI w2 (fun g => gn < g) A' st := fun ⟨A', c', st, e1, e2, e3, e4⟩ => ⟨A', c', st, e1, e2, e3, e4.keep ⟨hE.size, fun k hk hl => hE.block k hl (by have := hC.gne; have hk : gn < k := hk; omega)⟩⟩
          by_cases h32 : d = 32
          · subst h32; exact key hT
          by_cases h35 : d = 35
          · subst h35; exact key hT
          by_cases h5 : d = 5
          · subst h5; exact key hT
          by_cases h6 : d = 6
          · subst h6; exact key hT
          simp only [if_neg h32, if_neg h35, if_neg h5, if_neg h6] at hT ⊢
          exact hT) ?_ ?_
      · intro i o d hi ho hd f w1 hC hdep K hK
        have hi' : i = 0 ∨ i = 1 ∨ i = 2 ∨ i = 3 ∨ i = 4 ∨ i = 5 ∨ i = 6 ∨ i = 7 := by omega
        rcases hi' with rfl | rfl | rfl | rfl | rfl | rfl | rfl | rfl
        · simp only [List.getElem?_toArray, List.getElem?_cons_zero, Option.some.injEq] at ho
          subst ho
          simp only [Option.some.injEq] at hd
          subst hd
          generalize hA : fr _ _ _ f = A at hK ⊢
          have e3 : A.tmps[3]?.getD undef = .pointer (some ⟨w.heap.size, 0, none⟩) := by rw [← hA]; exact fr_out _ _ _ _ 3 _ (by decide) rfl
          clear hA hdep
          go_simp
          exact hK _ _ (Fr.refl _ _ _) hC rfl
        · simp only [List.getElem?_toArray, List.getElem?_cons_zero, List.getElem?_cons_succ, Option.some.injEq] at ho
          subst ho
          simp only [Option.some.injEq] at hd
          subst hd
          generalize hA : fr _ _ _ f = A at hK ⊢
          have e4 : A.tmps[4]?.getD undef = .pointer (some ⟨gn, 0, none⟩) := by rw [← hA]; exact fr_out _ _ _ _ 4 _ (by decide) rfl
          clear hA hdep
          have hcell0 := hC.n0
          have hcell1 := hC.n1
          go_simp
          exact hK _ _ (Fr.refl _ _ _) hC rfl
        · simp only [List.getElem?_toArray, List.getElem?_cons_zero, List.getElem?_cons_succ, Option.some.injEq] at ho
          subst ho
          simp only [Option.some.injEq] at hd
          subst hd
          have h30 : f 30 = .pointer (some ⟨w.heap.size, 0, none⟩) := hdep { on := 0, ground := .data } (by simp) rfl 30 rfl
          have h31 : f 31 = .agg #[.slice A1 ns.length c1, .slice A2 ds.length c2] := hdep { on := 1, ground := .data } (by simp) rfl 31 rfl
          generalize hA : fr _ _ _ f = A at hK ⊢
          have e30 : A.tmps[30]?.getD undef = f 30 := by rw [← hA]; exact fr_in _ _ _ _ 30 (by decide) (by simp)
          have e31 : A.tmps[31]?.getD undef = f 31 := by rw [← hA]; exact fr_in _ _ _ _ 31 (by decide) (by simp)
          clear hA hdep
          rw [h30] at e30
          clear h30
          rw [h31] at e31
          clear h31
          go_simp
          refine (state_any w1 w.heap.size hC.deck A1 ns.length c1 A2 c2 ds _ (fun b hb => by have := hb.1; omega) hC.net.devs (by omega)).mono ?_
          rintro e' w2 ⟨A5, c5, s5, rfl, l4, l5, ho5, hd5, hf5⟩
          exact hK _ _ hf5 (hC.state hf5 hd5) ⟨A5, c5, s5, rfl, l4, l5, (OI.si ho5).mono (fun g _ hg => by have := hC.gnm; have := hC.top; have hg : w1.heap.size ≤ g := hg; show gn < g; omega)⟩
        · simp only [List.getElem?_toArray, List.getElem?_cons_zero, List.getElem?_cons_succ, Option.some.injEq] at ho
          subst ho
          simp only [Option.some.injEq] at hd
          subst hd
          generalize hA : fr _ _ _ f = A at hK ⊢
          have e3 : A.tmps[3]?.getD undef = .pointer (some ⟨w.heap.size, 0, none⟩) := by rw [← hA]; exact fr_out _ _ _ _ 3 _ (by decide) rfl
          clear hA hdep
          go_simp
          exact hK _ _ (Fr.refl _ _ _) hC rfl
        · simp only [List.getElem?_toArray, List.getElem?_cons_zero, List.getElem?_cons_succ, Option.some.injEq] at ho
          subst ho
          simp only [Option.some.injEq] at hd
          subst hd
          generalize hA : fr _ _ _ f = A at hK ⊢
          have e4 : A.tmps[4]?.getD undef = .pointer (some ⟨gn, 0, none⟩) := by rw [← hA]; exact fr_out _ _ _ _ 4 _ (by decide) rfl
          clear hA hdep
          have hcell0 := hC.n0
          have hcell1 := hC.n1
          go_simp
          exact hK _ _ (Fr.refl _ _ _) hC rfl
        · simp only [List.getElem?_toArray, List.getElem?_cons_zero, List.getElem?_cons_succ, Option.some.injEq] at ho
          subst ho
          simp only [Option.some.injEq] at hd
          subst hd
          have h33 : f 33 = .pointer (some ⟨w.heap.size, 0, none⟩) := hdep { on := 3, ground := .data } (by simp) rfl 33 rfl
          have h34 : f 34 = .agg #[.slice A1 ns.length c1, .slice A2 ds.length c2] := hdep { on := 4, ground := .data } (by simp) rfl 34 rfl
          generalize hA : fr _ _ _ f = A at hK ⊢
          have e33 : A.tmps[33]?.getD undef = f 33 := by rw [← hA]; exact fr_in _ _ _ _ 33 (by decide) (by simp)
          have e34 : A.tmps[34]?.getD undef = f 34 := by rw [← hA]; exact fr_in _ _ _ _ 34 (by decide) (by simp)
          clear hA hdep
          rw [h33] at e33
          clear h33
          rw [h34] at e34
          clear h34
          go_simp
          refine (state_any w1 w.heap.size hC.deck A1 ns.length c1 A2 c2 ds _ (fun b hb => by have := hb.1; omega) hC.net.devs (by omega)).mono ?_
          rintro e' w2 ⟨A5, c5, s5, rfl, l4, l5, ho5, hd5, hf5⟩
          exact hK _ _ hf5 (hC.state hf5 hd5) ⟨A5, c5, s5, rfl, l4, l5, (OI.si ho5).mono (fun g _ hg => by have := hC.gnm; have := hC.top; have hg : w1.heap.size ≤ g := hg; show gn < g; omega)⟩
        · simp only [List.getElem?_toArray, List.getElem?_cons_zero, List.getElem?_cons_succ, Option.some.injEq] at ho
          subst ho
          simp only [Option.some.injEq] at hd
          subst hd
          have h32 : ∃ A' c' st, f 32 = .slice A' st.length c' ∧ st.length = ds.length ∧ (∀ x ∈ st, x = 1 ∨ x = 2) ∧ SI w1 (fun g => gn < g) A' st := hdep { on := 2, ground := .data } (by simp) rfl 32 rfl
          generalize hA : fr _ _ _ f = A at hK ⊢
          have e32 : A.tmps[32]?.getD undef = f 32 := by rw [← hA]; exact fr_in _ _ _ _ 32 (by decide) (by simp)
          clear hA hdep
          obtain ⟨Ak, ck, sk, h32, l1, l2, l3⟩ := h32
          rw [h32] at e32
          have Hf32 := Lib.hid h32
          clear h32
          go_simp
          exact hK _ _ (Fr.refl _ _ _) hC ⟨Ak, ck, sk, by rw [l1], l1, l2, l3⟩
        · simp only [List.getElem?_toArray, List.getElem?_cons_zero, List.getElem?_cons_succ, Option.some.injEq] at ho
          subst ho
          simp only [Option.some.injEq] at hd
          subst hd
          have h35 : ∃ A' c' st, f 35 = .slice A' st.length c' ∧ st.length = ds.length ∧ (∀ x ∈ st, x = 1 ∨ x = 2) ∧ SI w1 (fun g => gn < g) A' st := hdep { on := 5, ground := .data } (by simp) rfl 35 rfl
          generalize hA : fr _ _ _ f = A at hK ⊢
          have e35 : A.tmps[35]?.getD undef = f 35 := by rw [← hA]; exact fr_in _ _ _ _ 35 (by decide) (by simp)
          clear hA hdep
          obtain ⟨Ak, ck, sk, h35, l1, l2, l3⟩ := h35
          rw [h35] at e35
          have Hf35 := Lib.hid h35
          clear h35
          go_simp
          exact hK _ _ (Fr.refl _ _ _) hC ⟨Ak, ck, sk, by rw [l1], l1, l2, l3⟩
      · intro f w1 hC hall
        have q0 : ∃ A' c' st, f 5 = .slice A' st.length c' ∧ st.length = ds.length ∧ (∀ x ∈ st, x = 1 ∨ x = 2) ∧ SI w1 (fun g => gn < g) A' st := hall 6 5 (by decide) rfl
        have q1 : ∃ A' c' st, f 6 = .slice A' st.length c' ∧ st.length = ds.length ∧ (∀ x ∈ st, x = 1 ∨ x = 2) ∧ SI w1 (fun g => gn < g) A' st := hall 7 6 (by decide) rfl
        have H0 := Lib.hid q0
        have H1 := Lib.hid q1
        clear hall q0 q1
        simp only [fr, upd, List.mapIdx_cons, List.mapIdx_nil]
        simp
        go_wp2_with fail
        go_meet
        case rel => exact ⟨hC, H0.out, H1.out⟩
    case rest =>
      clear L
      obtain ⟨W0, rfl⟩ : ∃ W0, W0 = wc := ⟨_, rfl⟩
      obtain ⟨L, ⟨As, cs, s, rfl, hsl, hsp, sS⟩, ⟨At, ct, t, rfl, htl, htp, sT⟩⟩ := hcut
      have Hsl := Lib.hid hsl
      have Hsp := Lib.hid hsp
      have Htl := Lib.hid htl
      have Htp := Lib.hid htp
      clear hsl hsp htl htp
      have sS := sS.mono (T := fun _ => True) (fun _ _ _ => trivial)
      have sT := sT.mono (T := fun _ => True) (fun _ _ _ => trivial)
      have n0 := L.n0
      have n1 := L.n1
      have HA := Lib.hid (Customers_len W0 (h.below L.bel) (ht.below L.bel) _ A1 A2 c1 c2 ns ds (L.net.mono (T := fun _ => True) (fun _ _ _ => trivial)) Hc0.out _ _ cs s rfl sS Hsl.out Hsp.out)
      go_wp2_with (fail)
      refine HA.out.mono ?_
      rintro e wa ⟨rfl, hba⟩
      have La := L.below hba
      have sS := sS.keep (Kept.of_below hba)
      have sT := sT.keep (Kept.of_below hba)
      have m0 := La.n0
      have m1 := La.n1
      clear L HA n0 n1 hba
      have HB := Lib.hid (Customers_len wa (h.below La.bel) (ht.below La.bel) _ A1 A2 c1 c2 ns ds (La.net.mono (T := fun _ => True) (fun _ _ _ => trivial)) Hc0.out _ _ ct t rfl sT Htl.out Htp.out)
      go_wp2_with (fail)
      refine HB.out.mono ?_
      rintro e wb ⟨rfl, hbb⟩
      have Lb := La.below hbb
      have sS := sS.keep (Kept.of_below hbb)
      have sT := sT.keep (Kept.of_below hbb)
      have n0 := Lb.n0
      have n1 := Lb.n1
      clear La HB m0 m1 hbb
      have HC := Lib.hid (Lost_len wb (h.below Lb.bel) (ht.below Lb.bel) _ A1 A2 c1 c2 ns ds (Lb.net.mono (T := fun _ => True) (fun _ _ _ => trivial)) Hc0.out _ _ cs s rfl sS Hsl.out Hsp.out _ _ ct t rfl sT Htl.out Htp.out)
      go_wp2_with (fail)
      refine HC.out.mono ?_
      rintro e wc ⟨Ac, cc, rfl, oC, hbc⟩
      have sC := (OI.si oC).mono (T := fun _ => True) (fun _ _ _ => trivial)
      have Lc := Lb.below hbc
      have sS := sS.keep (Kept.of_below hbc)
      have sT := sT.keep (Kept.of_below hbc)
      have m0 := Lc.n0
      have m1 := Lc.n1
      clear Lb HC n0 n1 hbc oC
      have HF := Lib.hid (Lost_len wc (h.below Lc.bel) (ht.below Lc.bel) _ A1 A2 c1 c2 ns ds (Lc.net.mono (T := fun _ => True) (fun _ _ _ => trivial)) Hc0.out _ _ ct t rfl sT Htl.out Htp.out _ _ cs s rfl sS Hsl.out Hsp.out)
      go_wp2_with (fail)
      refine HF.out.mono ?_
      rintro e wd ⟨Ad, cd, rfl, oD, hbd⟩
      have sD := (OI.si oD).mono (T := fun _ => True) (fun _ _ _ => trivial)
      have Ld := Lc.below hbd
      have sS := sS.keep (Kept.of_below hbd)
      have sC := sC.keep (Kept.of_below hbd)
      have n0 := Ld.n0
      have n1 := Ld.n1
      clear Lc HF m0 m1 hbd oD sT
      have HG := Lost_len wd (h.below Ld.bel) (ht.below Ld.bel) _ A1 A2 c1 c2 ns ds (Ld.net.mono (T := fun _ => True) (fun _ _ _ => trivial)) Hc0.out _ _ cs s rfl sS Hsl.out Hsp.out _ _ cs s rfl sS Hsl.out Hsp.out
      rw [lost_self] at HG
      have HG := Lib.hid HG
      have Hsum := Lib.hid (lost_sum ns ds s t)
      have Hap := Lib.hid (lost_apart ns ds s t)
      have hlC := Nat.le_trans (lostL_len (supL ns ds s) (supL ns ds t)) (supL_len ns ds s)
      have hlD := Nat.le_trans (lostL_len (supL ns ds t) (supL ns ds s)) (supL_len ns ds t)
      have hb1 := custF_bound (checkL_cust Hc0.out) (lostL (supL ns ds s) (supL ns ds t))
      have hb2 := custF_bound (checkL_cust Hc0.out) (lostL (supL ns ds t) (supL ns ds s))
      have hb3 := custF_bound (checkL_cust Hc0.out) (supL ns ds s)
      have hb4 := custF_bound (checkL_cust Hc0.out) (supL ns ds t)
      have hl3 := supL_len ns ds s
      have hl4 := supL_len ns ds t
      generalize lostL (supL ns ds s) (supL ns ds t) = lC at *
      generalize lostL (supL ns ds t) (supL ns ds s) = lD at *
      generalize custF ns lC = kC at *
      generalize custF ns lD = kD at *
      generalize custF ns (supL ns ds s) = kA at *
      generalize custF ns (supL ns ds t) = kB at *
      have hb1 : 0 ≤ kC ∧ kC ≤ 1000000000 := by omega
      have hb2 : 0 ≤ kD ∧ kD ≤ 1000000000 := by omega
      have hb3 : 0 ≤ kA ∧ kA ≤ 1000000000 := by omega
      have hb4 : 0 ≤ kB ∧ kB ≤ 1000000000 := by omega
      clear hl3 hl4
      go_wp2_with (fail)
      refine HG.out.mono ?_
      rintro e we ⟨Ae, ce, rfl, oE, hbe⟩
      have Le := Ld.below hbe
      have sC := sC.keep (Kept.of_below hbe)
      have sD := sD.keep (Kept.of_below hbe)
      clear Ld HG n0 n1 hbe sS oE
      go_wp2_with (fail)
      go_loopg [74] lC.length (fun g i wr => wr = we ∧ ∃ k : Nat, k + g = lC.length ∧ i = .int .i64 k)
      case atStart => exact ⟨rfl, 0, by omega, rfl⟩
      case round =>
        obtain ⟨rfl, k, hk, rfl⟩ := hrel
        have Hk := Lib.hid hk
        clear hk
        by_cases hlt : k < lC.length
        · obtain ⟨b, off, rfl, _, _, q⟩ := sC.at_ hlt
          have HH := refHas_any wr _ Ad cd lD sD (by omega) lC[k]
          rw [decide_eq_false (Hap.out lC[k] (List.getElem_mem hlt))] at HH
          have HH := Lib.hid HH
          go_wp2_with (fail)
          refine HH.out.mono ?_
          rintro e w' ⟨rfl, rfl⟩
          go_wp2_with (fail)
          go_roundg (gk - 1)
          case measure => have := Hk.out; omega
          case rel => exact ⟨rfl, k + 1, by have := Hk.out; omega, by go_num⟩
        · have HAW := Lib.hid (awake11 wr (h.below Le.bel) (ht.below Le.bel))
          have hsum : (kA - kC + kD == kB) = true := by simp [Hsum.out]
          go_wp2_with (fail)
          refine HAW.out.mono ?_
          rintro e w8 ⟨rfl, hb8⟩
          go_wp2_with (fail)
          go_ret
          exact ⟨rfl, Le.bel.trans (hb8.mono Le.bel.size)⟩
  · have hfd : decide ((xs.length : Int) ≤ 400) = false := decide_eq_false (by omega)
    go_enter Tryd.func6, Tryd.ntmps6
    go_wp2_with (fail)
    refine (few_any w A xs.length c).mono ?_
    rw [hfd]
    rintro e w' ⟨rfl, rfl⟩
    go_wp2_with (fail)
    refine (awake11 w h ht).mono ?_
    rintro e w8 ⟨rfl, hb8⟩
    go_wp2_with (fail)
    go_ret
    exact ⟨rfl, hb8⟩
end Go.Proofs.YtglhplddjjoggaaDoor

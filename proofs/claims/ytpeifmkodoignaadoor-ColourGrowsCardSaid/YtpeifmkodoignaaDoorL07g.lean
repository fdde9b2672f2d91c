/-
  The law ColourGrows, walked.
-/
import Derived.Test.YtpeifmkodoignaaDoorL07s
import Derived.Test.YtpeifmkodoignaaDoorPGrow
import Derived.Test.YtpeifmkodoignaaDoorRChkJ
namespace Go.Proofs.YtpeifmkodoignaaDoor
open Go.RowKit
set_option maxHeartbeats 400000
set_option maxRecDepth 100000

set_option maxHeartbeats 4000000 in
theorem colourGrows_row (w : World) (h : TabC w) (ht : Tab w) (A : Option Addr) (c : Nat) (xs : List Int) (hs : SI w (fun _ => True) A xs) :
    Calls Tryd.prog 8 #[.slice A xs.length c] w (RetT w) := by
  by_cases hf : xs.length ≤ 400
  · have hfd : decide ((xs.length : Int) ≤ 400) = true := decide_eq_true (by omega)
    go_enter Tryd.func8, Tryd.ntmps8
    go_wp2_with (fail)
    refine (few_any w A xs.length c).mono ?_
    rw [hfd]
    rintro e w' ⟨rfl, rfl⟩
    go_wp2_with (fail)
    refine (new_any w _ A c xs hs hf).mono ?_
    rintro e w1 ⟨rfl, hd1, hb1, hz1⟩
    have Hz1 := Lib.hid hz1
    clear hz1
    go_wp2_with (fail)
    refine (network_any w1 w.heap.size hd1 7 12 (by decide) (by decide) (by decide) (by decide)).mono ?_
    rintro e w2 ⟨A1, c1, A2, c2, ns, ds, rfl, ho1, ho2, hd2, hg2, hgood⟩
    have L := LS.start hd1 hb1 Hz1.out ho1 ho2 hd2 hg2 hgood
    have hc0 := good_check hgood (by decide) (by decide)
    have Hc0 := Lib.hid hc0
    have hn1 : 1 ≤ ns.length := by have := hgood.two; omega
    have hnl : ns.length ≤ 7 := hgood.most
    have hdl : ds.length ≤ 12 := hgood.few
    obtain ⟨W, hW⟩ : ∃ W, W = w2.alloc (.cells #[.slice A1 ns.length c1, .slice A2 ds.length c2] 30) := ⟨_, rfl⟩
    rw [← hW] at L
    have HW := Lib.hid hW
    have n0 := L.n0
    have n1 := L.n1
    rw [hW] at n0 n1
    clear hd1 hb1 Hz1 ho1 ho2 hd2 hg2 hc0 hW
    go_wp2_with (fail)
    rw [← HW.out]
    refine (state_any W w.heap.size L.deck A1 ns.length c1 A2 c2 ds _ (fun b hb => by have := hb.1; omega) L.net.devs (by omega)).mono ?_
    rintro e w3 ⟨As, cs, st, rfl, hstl, hst, ho3, hd3, hf3⟩
    have L3 := L.state hf3 hd3
    have hWs := hf3.size
    have hM := L.top
    have Hstl := Lib.hid hstl
    have Hst := Lib.hid hst
    have hd1 : 1 ≤ ds.length := hgood.one
    have ho3' : OI w3 (fun g => w2.heap.size + 1 ≤ g ∧ g < w3.heap.size) As cs st := ho3.mono (fun g hl hg => ⟨by have : W.heap.size ≤ g := hg; omega, hl⟩)
    clear n0 n1 L hf3 hd3 hstl hst HW ho3
    obtain ⟨gn, hgn⟩ : ∃ x, x = w2.heap.size := ⟨_, rfl⟩
    rw [← hgn] at L3 ho3' hM ⊢
    have hM3 : gn + 1 ≤ w3.heap.size := by omega
    have hgw := L3.gne
    clear hgn hM hWs W w2 w1
    have Hlt := Lib.hid (show st.length ≤ 12 by have := Hstl.out; omega)
    go_wp2_with (fail)
    refine (next_any w3 w.heap.size L3.deck st.length (by have := Hlt.out; omega)).mono ?_
    rintro e w4 ⟨r, rfl, hr, _, hd4, hg4, hz4⟩
    have hrs : r < st.length := by have := hr (by have := Hstl.out; omega); omega
    have L4 := L3.grown hg4 hd4
    have ho4 := ho3'.keep (Kept.grown hg4 (fun b hb _ e => by injection e with e; have := hb.1; omega))
    obtain ⟨gs, os, rfl, hgs, hgsl, s1, s2⟩ := ho4.at_ hrs
    have hz3 : gn + 1 ≤ gs := hgs.1
    have hz4' := hg4.size
    clear hr hg4 hd4 ho3' L3
    obtain ⟨w5, hw5⟩ : ∃ w5, w5 = w4.setCell ⟨gs, os + r, none⟩ (.int .i64 1) := ⟨_, rfl⟩
    have L5 : LS w w5 (gn + 1) gn A1 c1 ns A2 c2 ds := by rw [hw5]; exact L4.setB hz3 _
    have ho5 : OI w5 (fun g => gn + 1 ≤ g ∧ g < w3.heap.size) (some ⟨gs, os, none⟩) cs (st.set r 1) := by rw [hw5]; exact ho4.set r 1
    have HW5 := Lib.hid hw5
    have Hl1 := Lib.hid (show (st.set r 1).length = ds.length by rw [List.length_set, Hstl.out])
    have Hp1 := Lib.hid (show ∀ x ∈ st.set r 1, x = 1 ∨ x = 2 from fun x hx => by rcases List.mem_or_eq_of_mem_set hx with h1 | h1; exact Hst.out x h1; exact .inl h1)
    have HL1 := Lib.hid (show (st.set r 1).length = st.length from List.length_set)
    have hz45 : w3.heap.size ≤ w5.heap.size := by rw [hw5]; simpa using hz4'
    go_wp2_with (at_builtin; rw [← HW5.out]; refine wpList_pushAll (B := w5.heap.size) (xs := []) (ys := st.set r 1) (T := fun g => gn + 1 ≤ g ∧ g < w3.heap.size) rfl (.const (.slice none 0 0)) (.tmp 39) rfl rfl rfl rfl HL1.out.symm (OI.nil _ _) (OI.si ho5) (by have := Hlt.out; have := HL1.out; simp; omega) (Nat.le_refl _) ?_; intro At ct w6 ho6 hb6 hg6 hx6; rw [List.nil_append] at ho6 ⊢; rw [HL1.out]; obtain ⟨gt, ot, rfl, hgt, hgtl, t1, t2⟩ := ho6.at_ (k := r) (by rw [HL1.out]; exact hrs); have n06 := (L5.below hb6).n0; have n16 := (L5.below hb6).n1; have hgg : gn < gt := (by have := L5.top; omega))
    obtain ⟨w7, hw7⟩ : ∃ w7, w7 = w6.setCell ⟨gt, ot + r, none⟩ (.int .i64 2) := ⟨_, rfl⟩
    rw [← hw7]
    have L7 : LS w w7 (gn + 1) gn A1 c1 ns A2 c2 ds := by rw [hw7]; exact (L5.below hb6).setB (by omega) _
    have sS : SI w7 (fun _ => True) (some ⟨gs, os, none⟩) (st.set r 1) := by
      rw [hw7]
      exact ((((OI.si ho5).keep (Kept.of_below hb6)).keep (Kept.setCell (p := ⟨gt, _, none⟩) (by show ¬ (gn + 1 ≤ gt ∧ gt < w3.heap.size); omega) _))).mono (fun _ _ _ => trivial)
    have sT : SI w7 (fun _ => True) (some ⟨gt, ot, none⟩) ((st.set r 1).set r 2) := by
      rw [hw7]
      exact (OI.si (ho6.set r 2)).mono (fun _ _ _ => trivial)
    obtain ⟨s0, hs0⟩ : ∃ s0, s0 = st.set r 1 := ⟨_, rfl⟩
    rw [← hs0] at Hl1 Hp1 HL1 sS sT
    have Hl2 := Lib.hid (show (s0.set r 2).length = ds.length by rw [List.length_set, Hl1.out])
    have Hp2 := Lib.hid (show ∀ x ∈ s0.set r 2, x = 1 ∨ x = 2 from fun x hx => by rcases List.mem_or_eq_of_mem_set hx with h1 | h1; exact Hp1.out x h1; exact .inr h1)
    have HL2 := Lib.hid (show (s0.set r 2).length = st.length by rw [List.length_set, HL1.out])
    have hrd : r < ds.length := by have := Hstl.out; omega
    clear hw7 hs0 ho4 ho5 ho6 hb6 hg6 hx6 t1 t2 n06 n16 hgt hgtl hgg L5 L4 s1 s2 hw5 HW5 hz45 hz4 hz4' hgs hgsl hz3 w6 w5 w4 Hst
    have n0 := L7.n0
    have n1 := L7.n1
    have HA := Lib.hid (Colours_len w7 (h.below L7.bel) (ht.below L7.bel) _ A1 A2 c1 c2 ns ds (L7.net.mono (T := fun _ => True) (fun _ _ _ => trivial)) Hc0.out _ st.length cs s0 HL1.out.symm sS Hl1.out Hp1.out)
    refine HA.out.mono ?_
    rintro e wa ⟨Aa, ca, rfl, sA, hba⟩
    have La := L7.below hba
    have sT := sT.keep (Kept.of_below hba)
    have sS := sS.keep (Kept.of_below hba)
    have m0 := La.n0
    have m1 := La.n1
    clear L7 HA n0 n1 hba
    have HB := Lib.hid (Colours_len wa (h.below La.bel) (ht.below La.bel) _ A1 A2 c1 c2 ns ds (La.net.mono (T := fun _ => True) (fun _ _ _ => trivial)) Hc0.out _ st.length ct _ HL2.out.symm sT Hl2.out Hp2.out)
    go_wp2_with (fail)
    refine HB.out.mono ?_
    rintro e wb ⟨Ab, cb, rfl, sB, hbb⟩
    have Lb := La.below hbb
    have sA := sA.keep (Kept.of_below hbb)
    have sS := sS.keep (Kept.of_below hbb)
    have sT := sT.keep (Kept.of_below hbb)
    have n0 := Lb.n0
    have n1 := Lb.n1
    clear La HB m0 m1 hbb
    have HC := Lib.hid (Parts_len wb (h.below Lb.bel) (ht.below Lb.bel) _ A1 A2 c1 c2 ns ds (Lb.net.mono (T := fun _ => True) (fun _ _ _ => trivial)) Hc0.out _ st.length cs s0 HL1.out.symm sS Hl1.out Hp1.out)
    go_wp2_with (fail)
    refine HC.out.mono ?_
    rintro e wc ⟨Ac, cc, rfl, sC, hbc⟩
    have Lc := Lb.below hbc
    have sA := sA.keep (Kept.of_below hbc)
    have sB := sB.keep (Kept.of_below hbc)
    have sT := sT.keep (Kept.of_below hbc)
    have m0 := Lc.n0
    have m1 := Lc.n1
    clear Lb HC n0 n1 hbc sS
    have HF := Lib.hid (Parts_len wc (h.below Lc.bel) (ht.below Lc.bel) _ A1 A2 c1 c2 ns ds (Lc.net.mono (T := fun _ => True) (fun _ _ _ => trivial)) Hc0.out _ st.length ct _ HL2.out.symm sT Hl2.out Hp2.out)
    go_wp2_with (fail)
    refine HF.out.mono ?_
    rintro e wd ⟨Ag, cg, rfl, sG, hbd⟩
    have Ld := Lc.below hbd
    have sA := sA.keep (Kept.of_below hbd)
    have sB := sB.keep (Kept.of_below hbd)
    have sC := sC.keep (Kept.of_below hbd)
    have n0 := Ld.n0
    have n1 := Ld.n1
    have HD := checkL_zero Hc0.out
    have Hcol := Lib.hid (fun (v : Nat) (hv : v < ns.length) => (up_set s0 r).col HD hv)
    have Hpar := Lib.hid (fun (v : Nat) (hv : v < ns.length) => (up_set s0 r).parts HD hv)
    have Hcnt := Lib.hid (close_cnt HD s0 Hl1.out (List.getElem?_eq_getElem hrd))
    have lA := Lib.hid (show (colL ds s0 (partsL ns.length ds s0)).length = ns.length by rw [colL_len, partsL_len])
    have lB := Lib.hid (show (colL ds (s0.set r 2) (partsL ns.length ds (s0.set r 2))).length = ns.length by rw [colL_len, partsL_len])
    have lP := Lib.hid (partsL_len ns.length ds s0)
    have lQ := Lib.hid (partsL_len ns.length ds (s0.set r 2))
    have HE := Lib.hid (HD.ends ds[r] (List.getElem_mem hrd)).2.2
    clear Lc HF m0 m1 hbd sT HD
    generalize colL ds s0 (partsL ns.length ds s0) = la at *
    generalize colL ds (s0.set r 2) (partsL ns.length ds (s0.set r 2)) = lb at *
    generalize partsL ns.length ds s0 = lp at *
    generalize partsL ns.length ds (s0.set r 2) = lq at *
    go_wp2_with (fail)
    go_loopg [16, 17, 113] ns.length (fun g s16 s17 i wr => ∃ k : Nat, k + g = ns.length ∧ i = .int .i64 k ∧ s16 = .int .i64 (cntR lp k) ∧ s17 = .int .i64 (cntR lq k) ∧ Below wd.heap.size wd wr)
    case atStart => exact ⟨0, by omega, rfl, rfl, rfl, Below.refl _ _⟩
    case round =>
      obtain ⟨k, hk, rfl, rfl, rfl, hB⟩ := hrel
      have Hk := Lib.hid hk
      clear hk n0 n1
      have hcp := cntR_le lp k
      have hcq := cntR_le lq k
      by_cases hlt : k < ns.length
      · have ka : k < la.length := by rw [lA.out]; exact hlt
        have kb : k < lb.length := by rw [lB.out]; exact hlt
        have kp : k < lp.length := by rw [lP.out]; exact hlt
        have kq : k < lq.length := by rw [lQ.out]; exact hlt
        obtain ⟨g1, o1, rfl, _, _, a1⟩ := (sA.keep (Kept.of_below hB)).at_ ka
        obtain ⟨g2, o2, rfl, _, _, b1⟩ := (sB.keep (Kept.of_below hB)).at_ kb
        obtain ⟨g3, o3, rfl, _, _, d1⟩ := (sC.keep (Kept.of_below hB)).at_ kp
        obtain ⟨g4, o4, rfl, _, _, e1⟩ := (sG.keep (Kept.of_below hB)).at_ kq
        obtain ⟨l, e, l', e', ea, eb, i1, i2⟩ := Hcol.out k hlt
        rw [at_get ka] at ea
        rw [at_get kb] at eb
        rw [ea] at a1
        rw [eb] at b1
        have F1 : (bits BinOp.and IntKind.i64 (colV l e) (colV l' e') != colV l e) = false := by
          clear a1 b1 d1 e1 ea eb
          cases l <;> cases e <;> cases l' <;> cases e' <;> first | decide | (exact absurd (i1 rfl) (by decide)) | (exact absurd (i2 rfl) (by decide))
        have F2 := Hpar.out k hlt
        have cp : cntR lp (k + 1) = cntR lp k + if PO.at_ lp k = k then 1 else 0 := rfl
        have cq : cntR lq (k + 1) = cntR lq k + if PO.at_ lq k = k then 1 else 0 := rfl
        rw [at_get kp] at F2 cp
        rw [at_get kq] at F2 cq
        clear ea eb ka kb i1 i2
        generalize colV l e = x at *
        generalize colV l' e' = y at *
        generalize lp[k] = p at *
        generalize lq[k] = q at *
        generalize cntR lp k = np at *
        generalize cntR lq k = nq' at *
        by_cases hp : (p == (k : Int)) = true
        · have Cp := Lib.hid (show cntR lp (k + 1) = np + 1 by rw [cp, if_pos (by simpa using hp)])
          clear cp
          by_cases hq : (q == (k : Int)) = true
          · have Cq := Lib.hid (show cntR lq (k + 1) = nq' + 1 by rw [cq, if_pos (by simpa using hq)])
            clear cq
            go_wp2_with (fail)
            go_quiet (fail)
            go_wp2_with (fail)
            go_roundg (gk - 1)
            case measure => have := Hk.out; omega
            case rel => exact ⟨k + 1, by have := Hk.out; omega, by go_num, by rw [Cp.out]; go_num, by rw [Cq.out]; go_num, hB.trans (below_drewN _ _ _)⟩
          · have hq : (q == (k : Int)) = false := by simpa using hq
            have Cq := Lib.hid (show cntR lq (k + 1) = nq' by rw [cq, if_neg (by simpa using hq)]; rfl)
            clear cq
            go_wp2_with (fail)
            go_quiet (fail)
            go_wp2_with (fail)
            go_roundg (gk - 1)
            case measure => have := Hk.out; omega
            case rel => exact ⟨k + 1, by have := Hk.out; omega, by go_num, by rw [Cp.out]; go_num, by rw [Cq.out], hB.trans (below_drewN _ _ _)⟩
        · have hp : (p == (k : Int)) = false := by simpa using hp
          have Cp := Lib.hid (show cntR lp (k + 1) = np by rw [cp, if_neg (by simpa using hp)]; rfl)
          clear cp
          by_cases hq : (q == (k : Int)) = true
          · have Cq := Lib.hid (show cntR lq (k + 1) = nq' + 1 by rw [cq, if_pos (by simpa using hq)])
            clear cq
            go_wp2_with (fail)
            go_quiet (fail)
            go_wp2_with (fail)
            go_roundg (gk - 1)
            case measure => have := Hk.out; omega
            case rel => exact ⟨k + 1, by have := Hk.out; omega, by go_num, by rw [Cp.out], by rw [Cq.out]; go_num, hB.trans (below_drewN _ _ _)⟩
          · have hq : (q == (k : Int)) = false := by simpa using hq
            have Cq := Lib.hid (show cntR lq (k + 1) = nq' by rw [cq, if_neg (by simpa using hq)]; rfl)
            clear cq
            go_wp2_with (fail)
            go_quiet (fail)
            go_wp2_with (fail)
            go_roundg (gk - 1)
            case measure => have := Hk.out; omega
            case rel => exact ⟨k + 1, by have := Hk.out; omega, by go_num, by rw [Cp.out], by rw [Cq.out], hB.trans (below_drewN _ _ _)⟩
      · have hkn : k = ns.length := by have := Hk.out; omega
        rw [hkn] at hcp hcq ⊢
        have Le := Ld.below hB
        have m1 := Le.n1
        obtain ⟨b', off, rfl, hS, hbl, q0, q1, q2, q3, q4⟩ := Le.net.dev hrd
        have HJ := fun w => refJoins_any ds[r].kind w
        obtain ⟨e1, e2, e3, e9⟩ := endsB_parts HE.out
        obtain ⟨ka, hka⟩ := Int.eq_ofNat_of_zero_le e1
        have kan : ka < ns.length := by omega
        have kap : ka < lp.length := by rw [lP.out]; exact kan
        rw [hka] at q2
        have hcn := Hcnt.out
        unfold lessZ at hcn
        rw [hka, Int.toNat_natCast] at hcn
        have sP := sC.keep (Kept.of_below hB)
        have hcp := cntR_le lp ns.length
        have hcq := cntR_le lq ns.length
        generalize cntR lp ns.length = np at *
        generalize cntR lq ns.length = nq' at *
        have HAW := Lib.hid (fun (w' : World) (hb : Below w.heap.size w w') => awake07 w' (h.below hb) (ht.below hb))
        clear hkn hka e1 e2 e9 hB Hcnt Hcol Hpar sA sB sC sG HE Hk
        by_cases hj : joinsB ds[r].kind = true
        · obtain ⟨f1, f2, f3⟩ := e3 hj
          obtain ⟨kb, hkb⟩ := Int.eq_ofNat_of_zero_le f1
          have kbn : kb < ns.length := by omega
          have kbp : kb < lp.length := by rw [lP.out]; exact kbn
          rw [hkb] at q3
          rw [hkb, Int.toNat_natCast] at hcn
          rw [hj] at HJ hcn
          have HJ := Lib.hid HJ
          clear e3 f1 f2 f3 hkb hj
          have hbA := (Below.refl wr.heap.size wr).alloc (Nat.le_refl _) (.cells #[.string ds[r].name, .int .i64 ds[r].kind, .int .i64 (ka : Int), .int .i64 (kb : Int), .int .i64 ds[r].comp] 43)
          have hbe := Le.bel.trans (hbA.mono Le.bel.size)
          obtain ⟨g3, o3, rfl, _, _, d1⟩ := (sP.keep (Kept.of_below hbA)).at_ kap
          obtain ⟨g4, o4, e4, _, _, d2⟩ := (sP.keep (Kept.of_below hbA)).at_ kbp
          injection e4 with e4
          injection e4 with e4 e5
          subst e4 e5
          rw [← at_get kap] at d1
          rw [← at_get kbp] at d2
          clear hbA sP
          obtain ⟨p, hp⟩ : ∃ p, p = PO.at_ lp ka := ⟨_, rfl⟩
          obtain ⟨q, hq⟩ : ∃ q, q = PO.at_ lp kb := ⟨_, rfl⟩
          rw [← hp] at d1 hcn
          rw [← hq] at d2 hcn
          clear hp hq
          by_cases hpq : (p != q) = true
          · have hne : ((nq' : Int) == (np : Int) - 1) = true := by
              rw [if_pos ⟨rfl, by simpa using hpq⟩] at hcn
              simp; omega
            clear hcn
            go_wp2_with (fail)
            go_quiet (first | exact Calls.quiet_of_same ((HJ.out _).mono (fun e w' hh => ⟨hh.1, hh.2.symm⟩)))
            go_wp2_with (fail)
            refine (HAW.out _ (hbe.trans (below_drewN _ _ _))).mono ?_
            rintro e w8 ⟨rfl, hb8⟩
            go_wp2_with (fail)
            go_ret
            have hbx := hbe.trans (below_drewN _ _ nq)
            exact ⟨rfl, hbx.trans (hb8.mono hbx.size)⟩
          · have hpq : (p != q) = false := by simpa using hpq
            have hne : ((nq' : Int) == (np : Int)) = true := by
              rw [if_neg (by simpa using hpq)] at hcn
              simp; omega
            clear hcn
            go_wp2_with (fail)
            go_quiet (first | exact Calls.quiet_of_same ((HJ.out _).mono (fun e w' hh => ⟨hh.1, hh.2.symm⟩)))
            go_wp2_with (fail)
            refine (HAW.out _ (hbe.trans (below_drewN _ _ _))).mono ?_
            rintro e w8 ⟨rfl, hb8⟩
            go_wp2_with (fail)
            go_ret
            have hbx := hbe.trans (below_drewN _ _ nq)
            exact ⟨rfl, hbx.trans (hb8.mono hbx.size)⟩
        · have hj : joinsB ds[r].kind = false := by simpa using hj
          rw [hj] at HJ hcn
          have HJ := Lib.hid HJ
          clear e3 hj
          have hbA := (Below.refl wr.heap.size wr).alloc (Nat.le_refl _) (.cells #[.string ds[r].name, .int .i64 ds[r].kind, .int .i64 (ka : Int), .int .i64 ds[r].b, .int .i64 ds[r].comp] 43)
          have hbe := Le.bel.trans (hbA.mono Le.bel.size)
          have hne : ((nq' : Int) == (np : Int)) = true := by
            rw [if_neg (by simp)] at hcn
            simp; omega
          clear hcn hbA sP
          go_wp2_with (fail)
          go_quiet (first | exact Calls.quiet_of_same ((HJ.out _).mono (fun e w' hh => ⟨hh.1, hh.2.symm⟩)))
          go_wp2_with (fail)
          refine (HAW.out _ (hbe.trans (below_drewN _ _ _))).mono ?_
          rintro e w8 ⟨rfl, hb8⟩
          go_wp2_with (fail)
          go_ret
          have hbx := hbe.trans (below_drewN _ _ nq)
          exact ⟨rfl, hbx.trans (hb8.mono hbx.size)⟩
  · have hfd : decide ((xs.length : Int) ≤ 400) = false := decide_eq_false (by omega)
    go_enter Tryd.func8, Tryd.ntmps8
    go_wp2_with (fail)
    refine (few_any w A xs.length c).mono ?_
    rw [hfd]
    rintro e w' ⟨rfl, rfl⟩
    go_wp2_with (fail)
    refine (awake07 w h ht).mono ?_
    rintro e w8 ⟨rfl, hb8⟩
    go_wp2_with (fail)
    go_ret
    exact ⟨rfl, hb8⟩
end Go.Proofs.YtpeifmkodoignaaDoor

/-
  The law SupplyGrows, walked.
-/
import Derived.Test.YtglhplddjjoggaaDoorL11a
namespace Go.Proofs.YtglhplddjjoggaaDoor
open Go.RowKit
set_option maxHeartbeats 400000
set_option maxRecDepth 100000

theorem putL_noEar (ds : List Dev) (st : List Int) (hl : st.length = ds.length) (r : Nat) (hr : r < ds.length) (h4 : ds[r].kind ≠ 4) : ∀ z ∈ ds.zip ((putL isEar ds st).set r 2), z.2 = 2 → z.1.kind ≠ 4 := by
  intro z hz h2 h4'
  obtain ⟨i, hi, rfl⟩ := List.mem_iff_getElem.1 hz
  rw [List.getElem_zip] at h2 h4'
  simp only [List.length_zip, List.length_set, putL_len] at hi
  simp only at h2 h4'
  by_cases e : i = r
  · subst e; exact h4 h4'
  · rw [List.getElem_set_ne (by omega), putL_at isEar ds st i (by omega) (by omega), if_pos (by simp [isEar, h4'])] at h2
    omega

set_option maxHeartbeats 8000000 in
theorem supplyGrows_row (w : World) (h : TabC w) (ht : Tab w) (A : Option Addr) (c : Nat) (xs : List Int) (hs : SI w (fun _ => True) A xs) :
    Calls Tryd.prog 7 #[.slice A xs.length c] w (RetT w) := by
  by_cases hf : xs.length ≤ 400
  · have hfd : decide ((xs.length : Int) ≤ 400) = true := decide_eq_true (by omega)
    go_enter Tryd.func7, Tryd.ntmps7
    go_wp2_with (fail)
    refine (few_any w A xs.length c).mono ?_
    rw [hfd]
    rintro e w' ⟨rfl, rfl⟩
    go_wp2_with (fail)
    refine (new_any w _ A c xs hs hf).mono ?_
    rintro e w1 ⟨rfl, hd1, hb1, hz1⟩
    have Hz1 := Lib.hid hz1
    clear hz1
    go_wp2_with (fail)
    refine (network_any w1 w.heap.size hd1 7 12 (by decide) (by decide) (by decide) (by decide)).mono ?_
    rintro e w2 ⟨A1, c1, A2, c2, ns, ds, rfl, ho1, ho2, hd2, hg2, hgood⟩
    have L := LS.start hd1 hb1 Hz1.out ho1 ho2 hd2 hg2 hgood
    have hc0 := good_check hgood (by decide) (by decide)
    have Hc0 := Lib.hid hc0
    have hnl : ns.length ≤ 7 := hgood.most
    have hdl : ds.length ≤ 12 := hgood.few
    have hd1' : 1 ≤ ds.length := hgood.one
    obtain ⟨W, hW⟩ : ∃ W, W = w2.alloc (.cells #[.slice A1 ns.length c1, .slice A2 ds.length c2] 26) := ⟨_, rfl⟩
    rw [← hW] at L
    have HW := Lib.hid hW
    have n0 := L.n0
    have n1 := L.n1
    rw [hW] at n0 n1
    clear hd1 hb1 Hz1 ho1 ho2 hd2 hg2 hc0 hW hgood
    go_wp2_with (fail)
    rw [← HW.out]
    refine (state_any W w.heap.size L.deck A1 ns.length c1 A2 c2 ds _ (fun b hb => by have := hb.1; omega) L.net.devs (by omega)).mono ?_
    rintro e w3 ⟨As, cs, st, rfl, hstl, hst, ho3, hd3, hf3⟩
    have L3 := L.state hf3 hd3
    have hWs := hf3.size
    have hM := L.top
    have Hstl := Lib.hid hstl
    have Hst := Lib.hid hst
    have ho3' : OI w3 (fun g => w2.heap.size + 1 ≤ g ∧ g < w3.heap.size) As cs st := ho3.mono (fun g hl hg => ⟨by have : W.heap.size ≤ g := hg; omega, hl⟩)
    clear n0 n1 L hf3 hd3 hstl hst HW ho3
    obtain ⟨gn, hgn⟩ : ∃ x, x = w2.heap.size := ⟨_, rfl⟩
    rw [← hgn] at L3 ho3' hM ⊢
    have hM3 : gn + 1 ≤ w3.heap.size := by omega
    have hgw := L3.gne
    clear hgn hM hWs W w2 w1
    have Hlt := Lib.hid (show st.length ≤ 12 by have := Hstl.out; omega)
    have n1 := L3.n1
    obtain ⟨z3, hq3⟩ : ∃ x, x = w3.heap.size := ⟨_, rfl⟩
    rw [← hq3] at ho3' hM3
    have hz3 : z3 ≤ w3.heap.size := by omega
    clear hq3
    have hlF := Lib.hid (show (putL isEar ds st).length = st.length from putL_len _ _ _)
    go_wp2_with (fail)
    go_loopg [35] ds.length (fun g i wr => ∃ k : Nat, k + g = ds.length ∧ i = .int .i64 k ∧ LS w wr (gn + 1) gn A1 c1 ns A2 c2 ds ∧ z3 ≤ wr.heap.size ∧ OI wr (fun g => gn + 1 ≤ g ∧ g < z3) As cs (mixL (putL isEar ds st) st k))
    case atStart => exact ⟨0, by omega, rfl, L3, hz3, ho3'⟩
    case round =>
      clear L3 ho3' hz3 n1 w3
      obtain ⟨k, hk, rfl, L, hz3, hoF⟩ := hrel
      have Hk := Lib.hid hk
      clear hk
      by_cases hlt : k < ds.length
      · obtain ⟨b, off, rfl, hS, hbl, q0, q1, q2, q3, q4⟩ := L.net.dev hlt
        have hks : k < st.length := by rw [Hstl.out]; exact hlt
        obtain ⟨gf, of, rfl, hgf, hgfl, f1, f2⟩ := hoF.at_ (k := k) (by rw [mixL_len hlF.out]; exact hks)
        have HzF := Lib.hid (putL_at isEar ds st k hlt hks)
        have HmF := Lib.hid (mixL_set hlF.out k hks)
        have HsF := Lib.hid (mixL_same hlF.out k hks)
        by_cases h4 : (ds[k].kind == 4) = true
        · have HmF := Lib.hid (show (mixL (putL isEar ds st) st k).set k 1 = mixL (putL isEar ds st) st (k + 1) by rw [← HmF.out, HzF.out]; simp [isEar, h4])
          go_wp2_with (fail)
          go_roundg (gk - 1)
          case measure => have := Hk.out; omega
          case rel =>
            refine ⟨k + 1, by have := Hk.out; omega, by go_num, (L.setB (g := gf) (by omega) _).below ((Below.refl _ _).alloc (Nat.le_refl _) _), by simp; omega, ?_⟩
            rw [← HmF.out]; exact (hoF.set k 1).keep (Kept.alloc _ _ _)
        · have h4 : (ds[k].kind == 4) = false := by simpa using h4
          have HsF := Lib.hid (HsF.out (by rw [HzF.out]; simp [isEar, h4]))
          go_wp2_with (fail)
          go_roundg (gk - 1)
          case measure => have := Hk.out; omega
          case rel => exact ⟨k + 1, by have := Hk.out; omega, by go_num, L.below ((Below.refl _ _).alloc (Nat.le_refl _) _), by simp; omega, by rw [← HsF.out]; exact hoF.keep (Kept.alloc _ _ _)⟩
      · rw [mixL_all hlF.out k (by have := Hstl.out; omega)] at hoF
        obtain ⟨wE, rfl⟩ : ∃ x, x = wr := ⟨_, rfl⟩
        have Hpp := Lib.hid (putL_pos (p := isEar) ds st Hst.out)
        have HnE := Lib.hid (putL_noEar ds st Hstl.out)
        obtain ⟨Z, hZ⟩ : ∃ Z, Z = putL isEar ds st := ⟨_, rfl⟩
        rw [← hZ] at hoF Hpp HnE hlF
        have HZl := Lib.hid (show Z.length = ds.length by rw [hlF.out, Hstl.out])
        clear hZ
        have Hst' := Hstl
        go_wp2_with (fail)
        refine (next_any wE w.heap.size L.deck st.length (by have := Hlt.out; omega)).mono ?_
        rintro e w4 ⟨r, rfl, hr, _, hd4, hg4, hz4⟩
        have hrs : r < ds.length := by have := hr (by have := Hstl.out; omega); have := Hstl.out; omega
        have hrz : r < Z.length := by rw [HZl.out]; exact hrs
        have hrst : r < st.length := by rw [Hstl.out]; exact hrs
        have L4 := L.grown hg4 hd4
        have ho4 := hoF.keep (Kept.grown hg4 (fun b hb _ e => by injection e with e; have := hb.1; omega))
        have hz4' := hg4.size
        have n1 := L4.n1
        obtain ⟨b, off, rfl, hS, hbl, q0, q1, q2, q3, q4⟩ := L4.net.dev hrs
        have hz34 : z3 ≤ w4.heap.size := by omega
        clear hr hg4 hd4 hoF L hz4 hz4' hz3 wE q0 q2 q3 q4
        by_cases h4 : (ds[r].kind == 4) = true
        · have HAW := Lib.hid (awake11 w4 (h.below L4.bel) (ht.below L4.bel))
          go_wp2_with (fail)
          refine HAW.out.mono ?_
          rintro e w8 ⟨rfl, hb8⟩
          go_wp2_with (fail)
          go_ret
          exact ⟨rfl, L4.bel.trans (hb8.mono L4.bel.size)⟩
        · have h4 : (ds[r].kind == 4) = false := by simpa using h4
          have HnE := Lib.hid (HnE.out r hrs (by simpa using h4))
          have HZs := Lib.hid (show Z.length = st.length by rw [HZl.out, Hstl.out])
          go_wp2_with (at_builtin; first
            | (refine wpList_pushAll (B := w4.heap.size) (xs := []) (ys := Z) (T := fun g => gn + 1 ≤ g ∧ g < z3) rfl (.const (.slice none 0 0)) (.tmp 59) rfl rfl rfl rfl HZs.out.symm (OI.nil _ _) (OI.si ho4) (by have := HZl.out; simp; omega) (Nat.le_refl _) ?_; intro Ad cd w5 ho5 hb5 hg5 hx5; rw [List.nil_append] at ho5 ⊢; rw [HZs.out])
            | (refine wpList_pushAll (B := w5.heap.size) (xs := []) (ys := Z) (T := fun g => gn + 1 ≤ g ∧ g < z3) rfl (.const (.slice none 0 0)) (.tmp 61) rfl rfl rfl rfl HZs.out.symm (OI.nil _ _) ((OI.si ho4).keep (Kept.of_below hb5)) (by have := HZl.out; simp; omega) (Nat.le_refl _) ?_; intro Af cf w6 ho6 hb6 hg6 hx6; rw [List.nil_append] at ho6 ⊢; rw [HZs.out]; obtain ⟨gf, of, rfl, hgf, hgfl, f1, f2⟩ := ho6.at_ (k := r) hrz; obtain ⟨gd, od, rfl, hgd, hgdl, d1, d2⟩ := (ho5.keep (Kept.of_below hb6)).at_ (k := r) hrz; have hz5 := hb5.size; have hz6 := hb6.size; have hb56 := hb5.trans (hb6.mono hz5); have n06 := (L4.below hb56).n0; have n16 := (L4.below hb56).n1; have hgd' : w4.heap.size ≤ gd := hgd; have hgf' : w5.heap.size ≤ gf := hgf; have hgdl' : gd < w5.heap.size := (OV.block ho5 gd rfl).2; have hn1 : ¬ gd = gf := (by omega); have hn2 : ¬ gf = gd := (by omega); have hn3 : ¬ gn = gd := (by omega); have hn4 : ¬ gn = gf := (by omega)))
          obtain ⟨w7, hw7⟩ : ∃ w7, w7 = (w6.setCell ⟨gd, od + r, none⟩ (.int .i64 1)).setCell ⟨gf, of + r, none⟩ (.int .i64 2) := ⟨_, rfl⟩
          rw [← hw7]
          have L7 : LS w w7 (gn + 1) gn A1 c1 ns (some ⟨b, off, none⟩) c2 ds := by rw [hw7]; exact ((L4.below hb56).setB (by omega) _).setB (by omega) _
          have sO : SI w7 (fun _ => True) (some ⟨gd, od, none⟩) (Z.set r 1) := by
            rw [hw7]
            have h1 := (((ho5.mono (T := fun g => w4.heap.size ≤ g ∧ g < w5.heap.size) (fun g hl hg => ⟨hg, hl⟩)).keep (Kept.of_below hb6)).set r 1)
            exact (OI.si (h1.keep (Kept.setCell (p := ⟨gf, of + r, none⟩) (by show ¬ (w4.heap.size ≤ gf ∧ gf < w5.heap.size); omega) (.int .i64 2)))).mono (fun _ _ _ => trivial)
          have sC : SI w7 (fun _ => True) (some ⟨gf, of, none⟩) (Z.set r 2) := by
            rw [hw7]
            exact (OI.si ((ho6.keep (Kept.setCell (p := ⟨gd, od + r, none⟩) (by show ¬ (w5.heap.size ≤ gd); omega) (.int .i64 1))).set r 2)).mono (fun _ _ _ => trivial)
          have hset : (Z.set r 1).set r 2 = Z.set r 2 := List.set_set ..
          have HU := up_set (Z.set r 1) r
          rw [hset] at HU
          have Hg := lost_grows (ns := ns) (fun v hv hs => supp_grows (checkL_zero Hc0.out) HU HnE.out hv hs)
          have Hol := Lib.hid (show (Z.set r 1).length = ds.length by rw [List.length_set, HZl.out])
          have Hop := Lib.hid (show ∀ x ∈ Z.set r 1, x = 1 ∨ x = 2 from fun x hx => by rcases List.mem_or_eq_of_mem_set hx with h1 | h1; exact Hpp.out x h1; exact .inl h1)
          have Hcl := Lib.hid (show (Z.set r 2).length = ds.length by rw [List.length_set, HZl.out])
          have Hcp := Lib.hid (show ∀ x ∈ Z.set r 2, x = 1 ∨ x = 2 from fun x hx => by rcases List.mem_or_eq_of_mem_set hx with h1 | h1; exact Hpp.out x h1; exact .inr h1)
          have Hos := Lib.hid (show st.length = (Z.set r 1).length by rw [Hol.out, Hstl.out])
          have Hcs := Lib.hid (show st.length = (Z.set r 2).length by rw [Hcl.out, Hstl.out])
          clear hset HU HnE hw7 ho4 ho5 ho6 hb5 hb6 hb56 hg5 hg6 hx5 hx6 n06 n16 hgd hgdl hgf hgfl d1 d2 f1 f2 hgd' hgf' hgdl' hn1 hn2 hn3 hn4 hz5 hz6 L4 n1 q1 w6 w5 w4 Hst Hpp hlF HZl HZs hS hbl hz34
          generalize Z.set r 1 = so at *
          generalize Z.set r 2 = sc at *
          have n0 := L7.n0
          have n1 := L7.n1
          have HA := Lost_len w7 (h.below L7.bel) (ht.below L7.bel) _ A1 _ c1 c2 ns ds (L7.net.mono (T := fun _ => True) (fun _ _ _ => trivial)) Hc0.out _ st.length cd so Hos.out sO Hol.out Hop.out _ st.length cf sc Hcs.out sC Hcl.out Hcp.out
          rw [Hg.1] at HA
          have HA := Lib.hid HA
          refine HA.out.mono ?_
          rintro e wa ⟨Aa, ca, rfl, oA, hba⟩
          have La := L7.below hba
          have sO := sO.keep (Kept.of_below hba)
          have sC := sC.keep (Kept.of_below hba)
          have m0 := La.n0
          have m1 := La.n1
          clear L7 HA n0 n1 hba oA
          have HB := Lib.hid (Customers_len wa (h.below La.bel) (ht.below La.bel) _ A1 _ c1 c2 ns ds (La.net.mono (T := fun _ => True) (fun _ _ _ => trivial)) Hc0.out _ st.length cd so Hos.out sO Hol.out Hop.out)
          go_wp2_with (fail)
          refine HB.out.mono ?_
          rintro e wb ⟨rfl, hbb⟩
          have Lb := La.below hbb
          have sO := sO.keep (Kept.of_below hbb)
          have sC := sC.keep (Kept.of_below hbb)
          have n0 := Lb.n0
          have n1 := Lb.n1
          clear La HB m0 m1 hbb
          have HC := Lib.hid (Customers_len wb (h.below Lb.bel) (ht.below Lb.bel) _ A1 _ c1 c2 ns ds (Lb.net.mono (T := fun _ => True) (fun _ _ _ => trivial)) Hc0.out _ st.length cf sc Hcs.out sC Hcl.out Hcp.out)
          go_wp2_with (fail)
          refine HC.out.mono ?_
          rintro e wc ⟨rfl, hbc⟩
          have Lc := Lb.below hbc
          have sO := sO.keep (Kept.of_below hbc)
          have sC := sC.keep (Kept.of_below hbc)
          have m0 := Lc.n0
          have m1 := Lc.n1
          clear Lb HC n0 n1 hbc
          have HD := Lib.hid (Lost_len wc (h.below Lc.bel) (ht.below Lc.bel) _ A1 _ c1 c2 ns ds (Lc.net.mono (T := fun _ => True) (fun _ _ _ => trivial)) Hc0.out _ st.length cf sc Hcs.out sC Hcl.out Hcp.out _ st.length cd so Hos.out sO Hol.out Hop.out)
          have hlD := Nat.le_trans (lostL_len (supL ns ds sc) (supL ns ds so)) (supL_len ns ds sc)
          have hb2 := custF_bound (checkL_cust Hc0.out) (lostL (supL ns ds sc) (supL ns ds so))
          have hb3 := custF_bound (checkL_cust Hc0.out) (supL ns ds so)
          have hl3 := supL_len ns ds so
          have hsum := Hg.2
          clear Hg
          generalize lostL (supL ns ds sc) (supL ns ds so) = lD at *
          generalize custF ns lD = kD at *
          generalize custF ns (supL ns ds so) = kA at *
          generalize custF ns (supL ns ds sc) = kB at *
          have hb2 : 0 ≤ kD ∧ kD ≤ 1000000000 := by omega
          have hb3 : 0 ≤ kA ∧ kA ≤ 1000000000 := by omega
          have hsum : (kB == kA + kD) = true := by simp [hsum]
          clear hl3
          go_wp2_with (fail)
          refine HD.out.mono ?_
          rintro e we ⟨Ae, ce, rfl, oE, hbe⟩
          have Le := Lc.below hbe
          clear Lc HD m0 m1 hbe sO sC oE
          have HAW := Lib.hid (awake11 we (h.below Le.bel) (ht.below Le.bel))
          go_wp2_with (fail)
          refine HAW.out.mono ?_
          rintro e w8 ⟨rfl, hb8⟩
          go_wp2_with (fail)
          go_ret
          exact ⟨rfl, Le.bel.trans (hb8.mono Le.bel.size)⟩
  · have hfd : decide ((xs.length : Int) ≤ 400) = false := decide_eq_false (by omega)
    go_enter Tryd.func7, Tryd.ntmps7
    go_wp2_with (fail)
    refine (few_any w A xs.length c).mono ?_
    rw [hfd]
    rintro e w' ⟨rfl, rfl⟩
    go_wp2_with (fail)
    refine (awake11 w h ht).mono ?_
    rintro e w8 ⟨rfl, hb8⟩
    go_wp2_with (fail)
    go_ret
    exact ⟨rfl, hb8⟩
end Go.Proofs.YtglhplddjjoggaaDoor

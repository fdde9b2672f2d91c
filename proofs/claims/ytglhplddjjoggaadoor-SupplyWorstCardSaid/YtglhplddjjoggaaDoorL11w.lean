/-
  The law SupplyWorst, walked.
-/
import Derived.Test.YtglhplddjjoggaaDoorPWst
import Derived.Test.YtglhplddjjoggaaDoorL11a
namespace Go.Proofs.YtglhplddjjoggaaDoor
open Go.RowKit
set_option maxHeartbeats 400000
set_option maxRecDepth 100000

set_option maxHeartbeats 8000000 in
theorem supplyWorst_row (w : World) (h : TabC w) (ht : Tab w) (A : Option Addr) (c : Nat) (xs : List Int) (hs : SI w (fun _ => True) A xs) :
    Calls Tryd.prog 9 #[.slice A xs.length c] w (RetT w) := by
  by_cases hf : xs.length ≤ 400
  · have hfd : decide ((xs.length : Int) ≤ 400) = true := decide_eq_true (by omega)
    go_enter Tryd.func9, Tryd.ntmps9
    go_wp2_with (fail)
    refine (few_any w A xs.length c).mono ?_
    rw [hfd]
    rintro e w' ⟨rfl, rfl⟩
    go_wp2_with (fail)
    refine (new_any w _ A c xs hs hf).mono ?_
    rintro e w1 ⟨rfl, hd1, hb1, hz1⟩
    have Hz1 := Lib.hid hz1
    clear hz1
    go_wp2_with (fail)
    refine (network_any w1 w.heap.size hd1 6 9 (by decide) (by decide) (by decide) (by decide)).mono ?_
    rintro e w2 ⟨A1, c1, A2, c2, ns, ds, rfl, ho1, ho2, hd2, hg2, hgood⟩
    have L := LS.start hd1 hb1 Hz1.out ho1 ho2 hd2 hg2 hgood
    have hc0 := good_check hgood (by decide) (by decide)
    have Hc0 := Lib.hid hc0
    have hnl : ns.length ≤ 6 := hgood.most
    have hdl : ds.length ≤ 9 := hgood.few
    obtain ⟨W, hW⟩ : ∃ W, W = w2.alloc (.cells #[.slice A1 ns.length c1, .slice A2 ds.length c2] 26) := ⟨_, rfl⟩
    rw [← hW] at L
    have HW := Lib.hid hW
    have n0 := L.n0
    have n1 := L.n1
    rw [hW] at n0 n1
    clear hd1 hb1 Hz1 ho1 ho2 hd2 hg2 hc0 hW hgood
    go_wp2_with (fail)
    rw [← HW.out]
    refine (masks_few W w.heap.size L.deck A1 ns.length c1 A2 c2 ds _ (fun b hb => by have := hb.1; omega) L.net.devs (by omega) 5 (by decide)).mono ?_
    rintro e w3 ⟨Am, cm, ms, rfl, hml, hm3, hm5, ho3, hd3, hf3⟩
    have L3 := L.state hf3 hd3
    have Hml := Lib.hid hml
    have Hm3 := Lib.hid hm3
    have sM : SI w3 (fun _ => True) Am ms := (OI.si ho3).mono (fun _ _ _ => trivial)
    clear n0 n1 L hf3 hd3 hml hm3 HW ho3
    obtain ⟨gn, hgn⟩ : ∃ x, x = w2.heap.size := ⟨_, rfl⟩
    rw [← hgn] at L3 ⊢
    clear hgn W w2 w1
    have n0 := L3.n0
    have n1 := L3.n1
    have HA := Lib.hid (Worst_ok w3 (h.below L3.bel) (ht.below L3.bel) _ A1 A2 c1 c2 ns ds (L3.net.mono (T := fun _ => True) (fun _ _ _ => trivial)) Hc0.out Am cm ms sM Hml.out Hm3.out (by omega))
    go_wp2_with (fail)
    refine HA.out.mono ?_
    rintro e w4 ⟨rfl, hb4⟩
    have L4 := L3.below hb4
    have sM := sM.keep (Kept.of_below hb4)
    have hmsl : ms.length ≤ 65536 := by have := Hml.out; omega
    have HB := refAll_ok w4 _ Am cm ms sM hmsl Hm3.out (by omega)
    rw [refA_allL ms Hm3.out] at HB
    have HB := Lib.hid HB
    clear L3 HA n0 n1 hb4
    go_wp2_with (fail)
    refine HB.out.mono ?_
    rintro e w5 ⟨Aa, ca, rfl, sR, hb5⟩
    have L5 := L4.below hb5
    have sR := sR.mono (T := fun _ => True) (fun _ _ _ => trivial)
    have Hget := Lib.hid (allL_get ms)
    have hal := allL_len ms
    have hN1 : 1 ≤ 2 ^ num3 ms := Nat.one_le_two_pow
    have hu6 : 2 ^ num3 ms ≤ 32 := Nat.le_trans (Nat.pow_le_pow_right (by omega) hm5) (by decide)
    obtain ⟨N, hN⟩ : ∃ N, N = 2 ^ num3 ms := ⟨_, rfl⟩
    rw [← hN] at hal hu6 hN1
    have Hst := Lib.hid (fun (k : Nat) (hk : k < (allL ms).length) => show (allL ms)[k].length = ds.length ∧ ∀ x ∈ (allL ms)[k], x = 1 ∨ x = 2 from ⟨by rw [Hget.out k hk, stF_len]; exact Hml.out, by rw [Hget.out k hk]; exact stF_mem (fun i => bit_two _ _) ms 0 Hm3.out⟩)
    have Hle := Lib.hid (fun (s : List Int) (hs : s ∈ allL ms) => worst_le (ns := ns) (ds := ds) s hs)
    have Hmem := Lib.hid (worst_mem (ns := ns) (ds := ds) (ss := allL ms) (by omega))
    clear hN hb5 L4 HB Hget
    rw [hal]
    have Hal := Lib.hid hal
    clear hal
    generalize worstL ns ds (allL ms) = wl at *
    generalize allL ms = all at *
    go_wp2_with (fail)
    go_loopg [10, 39] N (fun g v i wr => ∃ j : Nat, j + g = N ∧ i = .int .i64 j ∧ v = .bool (foundB ns ds wl (all.take j)) ∧ LS w wr (gn + 1) gn A1 c1 ns A2 c2 ds ∧ SR wr (fun _ => True) Aa all)
    case atStart => exact ⟨0, by omega, rfl, rfl, L5, sR⟩
    case round =>
      clear L5 sR
      obtain ⟨j, hj, rfl, rfl, L, sR⟩ := hrel
      have Hj := Lib.hid hj
      clear hj
      by_cases hlt : j < N
      · have hja : j < all.length := by rw [Hal.out]; exact hlt
        obtain ⟨b, off, Ar, cr, rfl, hc, _, sRow⟩ := sR.at_ hja
        obtain ⟨hs1, hs2⟩ := Hst.out j hja
        have HC := Lib.hid (Customers_len wr (h.below L.bel) (ht.below L.bel) (fun _ => True) A1 A2 c1 c2 ns ds (L.net.mono (T := fun _ => True) (fun _ _ _ => trivial)) Hc0.out Ar _ cr all[j] rfl (sRow.mono (fun _ _ _ => trivial)) hs1 hs2)
        have hle := Hle.out all[j] (List.getElem_mem hja)
        have Hsn := Lib.hid (show foundB ns ds wl (all.take (j + 1)) = (foundB ns ds wl (all.take j) || (kF ns ds all[j] == wl)) by rw [List.take_succ_eq_append_getElem hja, foundB_snoc])
        have H0 := Lib.hid (show custF ns (supL ns ds all[j]) = kF ns ds all[j] from rfl)
        rw [H0.out] at HC
        have n0 := L.n0
        have n1 := L.n1
        generalize kF ns ds all[j] = kk at *
        generalize foundB ns ds wl (all.take j) = fb at *
        generalize all[j] = sj at *
        have hlt0 : decide (kk < wl) = false := decide_eq_false (by omega)
        clear H0 hs1 hs2 sRow hle
        go_wp2_with (fail)
        refine HC.out.mono ?_
        rintro e w8 ⟨rfl, hb8⟩
        have L8 := L.below hb8
        have sR8 := sR.keep (Kept.of_below hb8)
        clear HC n0 n1 hc hb8 L sR
        cases fb
        · by_cases hk : (kk == wl) = true
          · have Hsn := Lib.hid (show foundB ns ds wl (all.take (j + 1)) = true by rw [Hsn.out, hk]; rfl)
            go_wp2_with (fail)
            go_roundg (gk - 1)
            case measure => have := Hj.out; omega
            case rel => exact ⟨j + 1, by have := Hj.out; omega, by go_num, by rw [Hsn.out], L8, sR8⟩
          · have hk : (kk == wl) = false := by simpa using hk
            have Hsn := Lib.hid (show foundB ns ds wl (all.take (j + 1)) = false by rw [Hsn.out, hk]; rfl)
            go_wp2_with (fail)
            go_roundg (gk - 1)
            case measure => have := Hj.out; omega
            case rel => exact ⟨j + 1, by have := Hj.out; omega, by go_num, by rw [Hsn.out], L8, sR8⟩
        · have Hsn := Lib.hid (show foundB ns ds wl (all.take (j + 1)) = true by rw [Hsn.out]; rfl)
          go_wp2_with (fail)
          go_roundg (gk - 1)
          case measure => have := Hj.out; omega
          case rel => exact ⟨j + 1, by have := Hj.out; omega, by go_num, by rw [Hsn.out], L8, sR8⟩
      · have hfb : foundB ns ds wl (all.take j) = true := by
          rw [List.take_of_length_le (by rw [Hal.out]; omega)]
          obtain ⟨s, hs, e⟩ := Hmem.out
          exact List.any_eq_true.2 ⟨s, hs, by simp [e]⟩
        rw [hfb]
        clear hfb
        have HAW := Lib.hid (awake11 wr (h.below L.bel) (ht.below L.bel))
        go_wp2_with (fail)
        refine HAW.out.mono ?_
        rintro e w8 ⟨rfl, hb8⟩
        go_wp2_with (fail)
        go_ret
        exact ⟨rfl, L.bel.trans (hb8.mono L.bel.size)⟩
  · have hfd : decide ((xs.length : Int) ≤ 400) = false := decide_eq_false (by omega)
    go_enter Tryd.func9, Tryd.ntmps9
    go_wp2_with (fail)
    refine (few_any w A xs.length c).mono ?_
    rw [hfd]
    rintro e w' ⟨rfl, rfl⟩
    go_wp2_with (fail)
    refine (awake11 w h ht).mono ?_
    rintro e w8 ⟨rfl, hb8⟩
    go_wp2_with (fail)
    go_ret
    exact ⟨rfl, hb8⟩
end Go.Proofs.YtglhplddjjoggaaDoor

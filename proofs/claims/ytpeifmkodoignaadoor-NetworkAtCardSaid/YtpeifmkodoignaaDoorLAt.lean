/-
  The law NetworkAt, walked.
-/
import Derived.Test.YtpeifmkodoignaaDoorL03b
import Derived.Test.YtpeifmkodoignaaDoorRChkJ
import Derived.Test.YtpeifmkodoignaaDoorPAt
namespace Go.Proofs.YtpeifmkodoignaaDoor
open Go.RowKit
set_option maxHeartbeats 400000
set_option maxRecDepth 100000

theorem networkAt_row (w : World) (h : TabC w) (A : Option Addr) (c : Nat) (xs : List Int) (hs : SI w (fun _ => True) A xs) :
    Calls Tryd.prog 6 #[.slice A xs.length c] w (RetT w) := by
  by_cases hf : xs.length ≤ 400
  · have hfd : decide ((xs.length : Int) ≤ 400) = true := decide_eq_true (by omega)
    go_enter Tryd.func6, Tryd.ntmps6
    go_wp2_with (fail)
    refine (few_any w A xs.length c).mono ?_
    rw [hfd]
    rintro e w' ⟨rfl, rfl⟩
    go_wp2_with (fail)
    refine (new_any w _ A c xs hs hf).mono ?_
    rintro e w1 ⟨rfl, hd1, hb1, hz1⟩
    have Hz1 := Lib.hid hz1
    clear hz1
    go_wp2_with (fail)
    refine (network_any w1 w.heap.size hd1 8 14 (by decide) (by decide) (by decide) (by decide)).mono ?_
    rintro e w2 ⟨A1, c1, A2, c2, ns, ds, rfl, ho1, ho2, hd2, hg2, hgood⟩
    have L := LS.start hd1 hb1 Hz1.out ho1 ho2 hd2 hg2 hgood
    have hc0 := good_check hgood (by decide) (by decide)
    have Hc0 := Lib.hid hc0
    have hD := checkL_zero hc0
    have hn1 : 1 ≤ ns.length := by have := hgood.two; omega
    have hnl : ns.length ≤ 8 := hgood.most
    have hdl : ds.length ≤ 14 := hgood.few
    obtain ⟨W, hW⟩ : ∃ W, W = w2.alloc (.cells #[.slice A1 ns.length c1, .slice A2 ds.length c2] 30) := ⟨_, rfl⟩
    rw [← hW] at L
    have HW := Lib.hid hW
    clear hd1 hb1 Hz1 ho1 ho2 hd2 hg2 hc0 hW
    have n1 := L.n1
    go_wp2_with (at_make; rw [← HW.out]; go_must (refine wpList_makeV rfl (.tmp 21) (.tmp 21) 22 rfl 3 _ 8 Tryd.underlying22 intInfo rfl _ _ ds.length rfl rfl (by omega) (by omega) ?_); intro w3 ho3 hb3 hz3; have n03 := (L.below hb3).n0)
    have L3 := L.below hb3
    have htop := L.top
    have ho3' : OI w3 (fun g => g = W.heap.size) (some ⟨W.heap.size, 0, none⟩) ds.length (csL ds 0 []) := by
      rw [← csL_zero hD]
      unfold OI
      rw [List.length_replicate, ints, List.map_replicate]
      exact ho3
    clear n03 n1 ho3 hb3 hz3 L
    obtain ⟨gc, hgc⟩ : ∃ x, x = W.heap.size := ⟨_, rfl⟩
    rw [← hgc] at htop ho3' ⊢
    clear hgc HW W
    obtain ⟨gn, hgn⟩ : ∃ x, x = w2.heap.size := ⟨_, rfl⟩
    rw [← hgn] at L3 htop ⊢
    clear hgn w2 w1
    go_loopg [26] ns.length (fun g i wr => ∃ (v : Nat), v + g = ns.length ∧ i = .int .i64 v ∧ LS w wr (gn + 1) gn A1 c1 ns A2 c2 ds ∧ OI wr (fun g => g = gc) (some ⟨gc, 0, none⟩) ds.length (csL ds v []))
    case atStart => exact ⟨0, by omega, rfl, L3, ho3'⟩
    case round =>
      clear L3 ho3' w3
      obtain ⟨v, hv, rfl, L, hown⟩ := hrel
      have Hv := Lib.hid hv
      clear hv
      have n0 := L.n0
      have n1 := L.n1
      by_cases hlt : v < ns.length
      · have hat : atL ns ds v = atFrom v ds 0 := by unfold atL; rw [if_pos ⟨Hc0.out, by simp [existsB]; omega⟩]
        have HA := at_any wr (h.below L.bel) _ A1 A2 c1 c2 ns ds L.net (by omega) (by omega) v
        rw [hat] at HA
        have HA := Lib.hid HA
        clear hat
        go_wp2_with (fail)
        refine (HA.out).mono ?_
        rintro e w4 ⟨At, ct, rfl, hoa, hb4⟩
        have L4 := L.below hb4
        have hown4 := hown.keep (Kept.of_below hb4)
        have Hown := Lib.hid hown
        clear n0 n1 HA hown
        have hsa := hoa.si
        clear hoa
        have Hmem := Lib.hid (fun (y : Int) => @mem_atFrom v y ds 0)
        have Hsor := Lib.hid (atFrom_sorted v ds 0)
        have hal : (atFrom v ds 0).length ≤ 14 := Nat.le_trans (atFrom_len v ds 0) hdl
        generalize hat : atFrom v ds 0 = at' at *
        have Hat := Lib.hid hat
        clear hat
        go_wp2_with (fail)
        obtain ⟨go, rfl⟩ : ∃ x : Nat, x = gk := ⟨_, rfl⟩
        obtain ⟨wo, rfl⟩ : ∃ wo : World, wo = wr := ⟨_, rfl⟩
        go_loopg [34] at'.length (fun g i wr => ∃ (t : Nat), t + g = at'.length ∧ i = .int .i64 t ∧ LS w wr (gn + 1) gn A1 c1 ns A2 c2 ds ∧ OI wr (fun g => g = gc) (some ⟨gc, 0, none⟩) ds.length (csL ds v (at'.take t)) ∧ SI wr (fun g => wo.heap.size ≤ g ∧ g ≠ gc) At at')
        case atStart =>
          have hgl : gc < wo.heap.size := (OV.block Hown.out gc rfl).2
          exact ⟨0, by omega, rfl, L4, hown4, hsa.mono (fun g _ hg => ⟨hg, by omega⟩)⟩
        case round =>
          clear L4 hown4 hsa
          obtain ⟨t, ht, rfl, L, hown, hsa⟩ := hrel
          have Ht := Lib.hid ht
          clear ht
          by_cases hlt2 : t < at'.length
          · obtain ⟨x, hx, hxe, hxi⟩ := (Hmem.out at'[t]).1 (List.getElem_mem hlt2)
            obtain ⟨ba, oa, rfl, _, _, qa⟩ := hsa.at_ hlt2
            rw [Nat.zero_add] at hxe
            rw [hxe] at qa
            have hxc : x < (csL ds v (at'.take t)).length := by rw [csL_len]; exact hx
            obtain ⟨_, _, e1, _, _, qc, qf⟩ := hown.at_ hxc
            injection e1 with e1
            injection e1 with e1 e2
            subst e1
            subst e2
            rw [Nat.zero_add] at qc qf
            have hbd := csL_bd ds v (at'.take t) x hxc
            have hset0 := hown.set x ((csL ds v (at'.take t))[x] + 1)
            rw [Nat.zero_add] at hset0
            have Hset := Lib.hid hset0
            clear hset0
            have hnot : (x : Int) ∉ at'.take t := fun hm => by
              obtain ⟨i, hi, e⟩ := List.getElem_of_mem hm
              have hi' : i < t := by simp at hi; omega
              have := List.pairwise_iff_getElem.1 Hsor.out i t (by omega) hlt2 hi'
              rw [List.getElem_take] at e
              omega
            have Hcs := Lib.hid (csL_set ds v (at'.take t) x hx hnot)
            have Htk := Lib.hid (show at'.take (t + 1) = at'.take t ++ [(x : Int)] by rw [List.take_succ_eq_append_getElem hlt2, hxe])
            have Hxe := Lib.hid hxe
            have Hxi := Lib.hid hxi
            clear hnot hxe hxi
            generalize (csL ds v (at'.take t))[x] = cv at *
            have n0 := L.n0
            have n1 := L.n1
            have hacr := at_across (hD.ends ds[x] (List.getElem_mem hx)).2.2 v Hxi.out
            have hoth : ∀ u, otherL ns ds x u = acrossL ds[x] u := fun u => by unfold otherL; rw [if_pos ⟨Hc0.out, by omega, by omega⟩]; simp [hx]
            have L5 := L.belowM ((Below.refl (gn + 1) wr).setCell (p := ⟨gc, x, none⟩) htop (.int .i64 (cv + 1)))
            have HO := other_any (wr.setCell ⟨gc, x, none⟩ (.int .i64 (cv + 1))) (h.below L5.bel) _ A1 A2 c1 c2 ns ds L5.net (by omega) (by omega) x v
            rw [hoth] at HO
            obtain ⟨hjb, hback⟩ := hacr
            have hoth2 : 0 ≤ acrossL ds[x] v → otherL ns ds x (acrossL ds[x] v) = v := fun h => by rw [hoth, hback h]
            clear hback hoth
            generalize acrossL ds[x] v = o at *
            have HO := Lib.hid HO
            by_cases ht0 : 0 < t
            · have hty : at'[t - 1] < (x : Int) := by
                have := List.pairwise_iff_getElem.1 Hsor.out (t - 1) t (by omega) hlt2 (by omega)
                rw [Hxe.out] at this
                exact this
              obtain ⟨_, _, e1, _, _, qb⟩ := hsa.at_ (k := t - 1) (by omega)
              injection e1 with e1
              injection e1 with e1 e2
              subst e1
              subst e2
              have hy0 : 0 ≤ at'[t - 1] := by
                obtain ⟨j, _, e, _⟩ := (Hmem.out at'[t - 1]).1 (List.getElem_mem _)
                rw [e]; omega
              generalize at'[t - 1] = y at *
              go_wp2_with (fail)
              refine (HO.out).mono ?_
              rintro e w6 ⟨rfl, hb6⟩
              have L6 := L5.below hb6
              have hown6 := Hset.out.keep (Kept.of_below hb6)
              have hsa6 := (hsa.keep (Kept.setCell (p := ⟨gc, x, none⟩) (by show ¬ (_ ∧ gc ≠ gc); omega) (.int .i64 (cv + 1)))).keep (Kept.of_below hb6)
              obtain ⟨bd', od', rfl, _, _, k0, k1, k2, k3, k4⟩ := L6.net.dev hx
              have m0 := L6.n0
              have m1 := L6.n1
              clear n0 n1 qa qc qf k0 k2 k3 k4
              by_cases ho : 0 ≤ o
              · rw [decide_eq_true ho] at hjb
                have HO2 := other_any w6 (h.below L6.bel) _ A1 _ c1 c2 ns ds L6.net (by omega) (by omega) x o
                rw [hoth2 ho] at HO2
                have HO2 := Lib.hid HO2
                have hod : decide (0 ≤ o) = true := decide_eq_true ho
                have HJ := refJoins_any ds[x].kind w6
                rw [hjb] at HJ
                have HJ := Lib.hid HJ
                clear hjb
                go_wp2_with (fail)
                refine (HJ.out).mono ?_
                rintro e w' ⟨rfl, rfl⟩
                go_wp2_with (fail)
                refine (HO2.out).mono ?_
                rintro e w7 ⟨rfl, hb7⟩
                go_wp2_with (fail)
                go_roundg (gk - 1)
                case measure => have := Ht.out; omega
                case rel =>
                  refine ⟨t + 1, by have := Ht.out; omega, by go_num, L6.below hb7, ?_, hsa6.keep (Kept.of_below hb7)⟩
                  rw [Htk.out, ← Hcs.out]
                  exact hown6.keep (Kept.of_below hb7)
              · rw [decide_eq_false ho] at hjb
                have hod : decide (0 ≤ o) = false := decide_eq_false ho
                have HJ := refJoins_any ds[x].kind w6
                rw [hjb] at HJ
                have HJ := Lib.hid HJ
                clear hjb
                go_wp2_with (fail)
                refine (HJ.out).mono ?_
                rintro e w' ⟨rfl, rfl⟩
                go_wp2_with (fail)
                go_roundg (gk - 1)
                case measure => have := Ht.out; omega
                case rel =>
                  refine ⟨t + 1, by have := Ht.out; omega, by go_num, L6, ?_, hsa6⟩
                  rw [Htk.out, ← Hcs.out]
                  exact hown6
            · have htd : decide ((0 : Int) < (t : Int)) = false := decide_eq_false (by omega)
              go_wp2_with (fail)
              refine (HO.out).mono ?_
              rintro e w6 ⟨rfl, hb6⟩
              have L6 := L5.below hb6
              have hown6 := Hset.out.keep (Kept.of_below hb6)
              have hsa6 := (hsa.keep (Kept.setCell (p := ⟨gc, x, none⟩) (by show ¬ (_ ∧ gc ≠ gc); omega) (.int .i64 (cv + 1)))).keep (Kept.of_below hb6)
              obtain ⟨bd', od', rfl, _, _, k0, k1, k2, k3, k4⟩ := L6.net.dev hx
              have m0 := L6.n0
              have m1 := L6.n1
              clear n0 n1 qa qc qf k0 k2 k3 k4
              by_cases ho : 0 ≤ o
              · rw [decide_eq_true ho] at hjb
                have HO2 := other_any w6 (h.below L6.bel) _ A1 _ c1 c2 ns ds L6.net (by omega) (by omega) x o
                rw [hoth2 ho] at HO2
                have HO2 := Lib.hid HO2
                have hod : decide (0 ≤ o) = true := decide_eq_true ho
                have HJ := refJoins_any ds[x].kind w6
                rw [hjb] at HJ
                have HJ := Lib.hid HJ
                clear hjb
                go_wp2_with (fail)
                refine (HJ.out).mono ?_
                rintro e w' ⟨rfl, rfl⟩
                go_wp2_with (fail)
                refine (HO2.out).mono ?_
                rintro e w7 ⟨rfl, hb7⟩
                go_wp2_with (fail)
                go_roundg (gk - 1)
                case measure => have := Ht.out; omega
                case rel =>
                  refine ⟨t + 1, by have := Ht.out; omega, by go_num, L6.below hb7, ?_, hsa6.keep (Kept.of_below hb7)⟩
                  rw [Htk.out, ← Hcs.out]
                  exact hown6.keep (Kept.of_below hb7)
              · rw [decide_eq_false ho] at hjb
                have hod : decide (0 ≤ o) = false := decide_eq_false ho
                have HJ := refJoins_any ds[x].kind w6
                rw [hjb] at HJ
                have HJ := Lib.hid HJ
                clear hjb
                go_wp2_with (fail)
                refine (HJ.out).mono ?_
                rintro e w' ⟨rfl, rfl⟩
                go_wp2_with (fail)
                go_roundg (gk - 1)
                case measure => have := Ht.out; omega
                case rel =>
                  refine ⟨t + 1, by have := Ht.out; omega, by go_num, L6, ?_, hsa6⟩
                  rw [Htk.out, ← Hcs.out]
                  exact hown6
          · have htl : at'.take t = at' := List.take_of_length_le (by omega)
            rw [htl, csL_next hD v at' Hat.out.symm] at hown
            clear htl
            go_wp2_with (fail)
            go_roundg (go - 1)
            case measure => have := Hv.out; omega
            case rel => exact ⟨v + 1, by have := Hv.out; omega, by go_num, L, hown⟩
      · have hvn : v = ns.length := by have := Hv.out; omega
        rw [hvn] at hown
        clear hvn Hv
        go_wp2_with (fail)
        clear n0 n1 hlt
        obtain ⟨wo, rfl⟩ : ∃ wo : World, wo = wr := ⟨_, rfl⟩
        go_loopg [96] ds.length (fun g i wr => ∃ (x : Nat), x + g = ds.length ∧ i = .int .i64 x ∧ LS w wr (gn + 1) gn A1 c1 ns A2 c2 ds ∧ OI wr (fun g => g = gc) (some ⟨gc, 0, none⟩) ds.length (csL ds ns.length []))
        case atStart => exact ⟨0, by omega, rfl, L, hown⟩
        case round =>
          clear L hown
          obtain ⟨x, hx0, rfl, L, hown⟩ := hrel
          have Hx := Lib.hid hx0
          clear hx0
          have n0 := L.n0
          have n1 := L.n1
          by_cases hlt : x < ds.length
          · have hxc : x < (csL ds ns.length []).length := by rw [csL_len]; exact hlt
            obtain ⟨_, _, e1, _, _, qc, _⟩ := hown.at_ hxc
            injection e1 with e1
            injection e1 with e1 e2
            subst e1
            subst e2
            rw [Nat.zero_add, csL_end hD x hlt] at qc
            obtain ⟨bd', od', rfl, _, _, k0, k1, k2, k3, k4⟩ := L.net.dev hlt
            have HJ := joins_any ds[x].kind wr
            generalize joinsB ds[x].kind = jb at *
            have HJ := Lib.hid HJ
            clear k0 k2 k3 k4
            cases jb
            · have qc' : wr.cell? ⟨gc, x, none⟩ = some (.int .i64 1) := qc
              clear qc
              go_wp2_with (fail)
              refine (HJ.out).mono ?_
              rintro e w' ⟨rfl, rfl⟩
              go_wp2_with (fail)
              go_roundg (gk - 1)
              case measure => have := Hx.out; omega
              case rel => exact ⟨x + 1, by have := Hx.out; omega, by go_num, L, hown⟩
            · have qc' : wr.cell? ⟨gc, x, none⟩ = some (.int .i64 2) := qc
              clear qc
              go_wp2_with (fail)
              refine (HJ.out).mono ?_
              rintro e w' ⟨rfl, rfl⟩
              go_wp2_with (fail)
              go_roundg (gk - 1)
              case measure => have := Hx.out; omega
              case rel => exact ⟨x + 1, by have := Hx.out; omega, by go_num, L, hown⟩
          · have HC := check_any wr (h.below L.bel) _ A1 A2 c1 c2 ns ds L.net (by omega) (by omega)
            rw [Hc0.out] at HC
            have HC := Lib.hid HC
            go_wp2_with (fail)
            refine (HC.out).mono ?_
            rintro e w7 ⟨rfl, hb7⟩
            have L7 := L.below hb7
            go_wp2_with (fail)
            refine (awake03 w7 (h.below L7.bel)).mono ?_
            rintro e w8 ⟨rfl, hb8⟩
            go_wp2_with (fail)
            go_ret
            exact ⟨rfl, L7.bel.trans (hb8.mono L7.bel.size)⟩
  · have hfd : decide ((xs.length : Int) ≤ 400) = false := decide_eq_false (by omega)
    go_enter Tryd.func6, Tryd.ntmps6
    go_wp2_with (fail)
    refine (few_any w A xs.length c).mono ?_
    rw [hfd]
    rintro e w' ⟨rfl, rfl⟩
    go_wp2_with (fail)
    refine (awake03 w h).mono ?_
    rintro e w8 ⟨rfl, hb8⟩
    go_wp2_with (fail)
    go_ret
    exact ⟨rfl, hb8⟩
end Go.Proofs.YtpeifmkodoignaaDoor

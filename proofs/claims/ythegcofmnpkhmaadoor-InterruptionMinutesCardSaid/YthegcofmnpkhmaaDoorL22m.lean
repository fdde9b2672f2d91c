/-
  The law InterruptionMinutes, walked.
-/
import Derived.Test.YthegcofmnpkhmaaDoorL22q
import Derived.Test.YthegcofmnpkhmaaDoorR11
import Derived.Test.YthegcofmnpkhmaaDoorGd
import Derived.BigQuiet
namespace Go.Proofs.YthegcofmnpkhmaaDoor
open Go.RowKit
set_option maxHeartbeats 400000
set_option maxRecDepth 100000

theorem any_take (l : List Out) (q : Out → Bool) (j : Nat) (h : j < l.length) : (l.take (j + 1)).any q = ((l.take j).any q || q l[j]) := by
  rw [List.take_succ_eq_append_getElem h, List.any_append]
  simp

set_option maxHeartbeats 16000000 in
theorem interruptionMinutes_row (w : World) (h : TabC w) (ht : Tab w) (A : Option Addr) (c : Nat) (xs : List Int) (hs : SI w (fun _ => True) A xs) :
    Calls Tryd.prog 6 #[.slice A xs.length c] w (RetT w) := by
  by_cases hf : xs.length ≤ 400
  · have hfd : decide ((xs.length : Int) ≤ 400) = true := decide_eq_true (by omega)
    go_enter Tryd.func6, Tryd.ntmps6
    go_wp2_with (fail)
    refine (few_any w A xs.length c).mono ?_
    rw [hfd]
    rintro e w' ⟨rfl, rfl⟩
    go_wp2_with (fail)
    refine (new_any w _ A c xs hs hf).mono ?_
    rintro e w1 ⟨rfl, hd1, hb1, hz1⟩
    have Hz1 := Lib.hid hz1
    clear hz1
    go_wp2_with (fail)
    refine (network_any w1 w.heap.size hd1 5 8 (by decide) (by decide) (by decide) (by decide)).mono ?_
    rintro e w2 ⟨A1, c1, A2, c2, ns, ds, rfl, ho1, ho2, hd2, hg2, hgood⟩
    have L := LS.start hd1 hb1 Hz1.out ho1 ho2 hd2 hg2 hgood
    have hc0 := good_check hgood (by decide) (by decide)
    have Hc0 := Lib.hid hc0
    have hnl : ns.length ≤ 5 := hgood.most
    have hdl : ds.length ≤ 8 := hgood.few
    have hd1' : 1 ≤ ds.length := hgood.one
    obtain ⟨W, hW⟩ : ∃ W, W = w2.alloc (.cells #[.slice A1 ns.length c1, .slice A2 ds.length c2] 26) := ⟨_, rfl⟩
    rw [← hW] at L
    have HW := Lib.hid hW
    have n0 := L.n0
    have n1 := L.n1
    rw [hW] at n0 n1
    clear hd1 hb1 Hz1 ho1 ho2 hd2 hg2 hc0 hW hgood
    go_wp2_with (fail)
    rw [← HW.out]
    refine (state_any W w.heap.size L.deck A1 ns.length c1 A2 c2 ds _ (fun b hb => by have := hb.1; omega) L.net.devs (by omega)).mono ?_
    rintro e w3 ⟨As, cs, st, rfl, hstl, hst, ho3, hd3, hf3⟩
    have L3 := L.state hf3 hd3
    have hWs := hf3.size
    have hM := L.top
    have Hstl := Lib.hid hstl
    have Hst := Lib.hid hst
    have sS : SI w3 (fun g => w2.heap.size < g) As st := (OI.si ho3).mono (fun g hl hg => by have hg : W.heap.size ≤ g := hg; show w2.heap.size < g; omega)
    clear n0 n1 L hf3 hd3 hstl hst HW ho3
    obtain ⟨gn, hgn⟩ : ∃ x, x = w2.heap.size := ⟨_, rfl⟩
    rw [← hgn] at L3 sS hM ⊢
    clear hgn hM hWs W w2 w1
    have hC3 : LT w w3 (gn + 1) gn A1 c1 ns A2 c2 ds As st := ⟨L3, sS⟩
    clear L3 sS
    have n0 := hC3.1.n0
    have n1 := hC3.1.n1
    go_wp2_with (fail)
    refine (mkChanges_any w3 w.heap.size hC3.1.deck A1 ns.length c1 A2 c2 ds.length hd1' (by omega) 7 (by decide)).mono ?_
    rintro e w4 ⟨Ac, cc, zs, rfl, hzl, hzo, hoz, hd4, hf4⟩
    have hC4 := hC3.fr hf4 hd4
    have sZ : SV w4 (fun _ => True) Ac (recV chgV zs) := (OV.sv hoz).mono (fun _ _ _ => trivial)
    have Hzo := Lib.hid (show OkC ds.length 20 zs from hzo)
    clear n0 n1 hC3 hf4 hd4 hoz hzo
    have m0 := hC4.1.n0
    have m1 := hC4.1.n1
    have HO := Outages_any w4 (h.below hC4.1.bel) (ht.below hC4.1.bel) (fun _ => True) A1 A2 c1 c2 ns ds (hC4.1.net.mono (fun _ _ _ => trivial)) (by omega) (by omega) As cs st (hC4.2.mono (fun _ _ _ => trivial)) (by have := Hstl.out; omega) _ Ac cc zs sZ (by omega) 30
    rw [good_outages Hc0.out Hstl.out Hst.out Hzo.out (by decide) (by decide) (by decide) (by omega), show ((30 : Int)).toNat = 30 from rfl] at HO
    have HO := Lib.hid HO
    have Hcust := Lib.hid (checkL_cust Hc0.out)
    have hol : (outL ns (supF ns ds st zs) 30).length ≤ 300 := by have := outL_few ns (supF ns ds st zs) 30; omega
    have Hok := Lib.hid (outL_ok (F := supF ns ds st zs) (til := 30) Hcust.out)
    have Hany := Lib.hid (fun (v s : Nat) (hs : s < 30) (hv : v < ns.length) => outL_any ns (supF ns ds st zs) 30 v s hs hv)
    have Hsum := Lib.hid (show minL (outL ns (supF ns ds st zs) 30) = totT ns (supF ns ds st zs) 30 by rw [totT_sum]; exact min_outs ns _ 30 ns.length)
    have HF := Lib.hid (show ∀ v s : Nat, supF ns ds st zs v s = (supL ns ds (putC s st zs)).contains (v : Int) from fun _ _ => rfl)
    obtain ⟨F, hF⟩ : ∃ F, F = supF ns ds st zs := ⟨_, rfl⟩
    rw [← hF] at HO hol Hok Hany Hsum HF
    obtain ⟨l, hl, hord⟩ : ∃ l, l = outL ns F 30 ∧ ∀ (i : Nat) (h1 : i < l.length) (h2 : i + 1 < l.length), OrdO l[i] l[i + 1] := ⟨_, rfl, fun i _ h2 => outL_ord ns F 30 h2⟩
    have Hord := Lib.hid hord
    simp only [← hl] at HO hol Hok Hany Hsum
    have Ebz := Lib.hid (outsE_ok Hok.out (by decide) (by omega))
    have hmb := minL_bound (fun o ho => (Hok.out o ho).mono (by decide))
    clear hF hl hord
    go_wp2_with (fail)
    refine HO.out.mono ?_
    rintro e w5 ⟨Ao, co, rfl, hoo, hb5⟩
    have hC5 := hC4.bl hb5
    have sZ := sZ.keep (Kept.of_below hb5)
    have sO := (OV.sv hoo).mono (T := fun _ => True) (fun _ _ _ => trivial)
    clear HO hoo hb5 hC4 m0 m1
    have HM := Minutes_any w5 _ Ao co l sO (by omega)
    rw [minutesE_ok Ebz.out, Hsum.out] at HM
    rw [Hsum.out] at hmb
    have HM := Lib.hid HM
    clear Hsum
    go_wp2_with (fail)
    refine HM.out.mono ?_
    rintro e w6 ⟨rfl, hb6⟩
    have hC6 := hC5.bl hb6
    have sZ := sZ.keep (Kept.of_below hb6)
    have sO := sO.keep (Kept.of_below hb6)
    clear HM hb6 hC5
    have Htb := Lib.hid (fun t => totT_bound Hcust.out hnl F t)
    have Hdb := Lib.hid (fun s k hk => downC_bound Hcust.out F s k hk)
    have Hmask := Lib.hid (mask_ok Hc0.out Hstl.out Hst.out)
    go_wp2_with (fail)
    go_loopg [12, 13] 30 (fun g sm tv wr => ∃ t : Nat, t + g = 30 ∧ tv = .int .i64 t ∧ sm = .int .i64 (totT ns F t) ∧ Below w6.heap.size w6 wr)
    case atStart => exact ⟨0, by omega, rfl, rfl, Below.refl _ _⟩
    case round =>
      obtain ⟨t, htg, rfl, rfl, hB⟩ := hrel
      have hC := hC6.bl hB
      have sZt := sZ.keep (Kept.of_below hB)
      have sOt := sO.keep (Kept.of_below hB)
      by_cases htl : t < 30
      · have htd : decide ((t : Int) < 30) = true := decide_eq_true (by omega)
        have Htg := Lib.hid htg
        obtain ⟨gko, rfl⟩ : ∃ x : Nat, x = gk := ⟨_, rfl⟩
        obtain ⟨wo, rfl⟩ : ∃ x : World, x = wr := ⟨_, rfl⟩
        have HAt := At_ok wo (h.below hC.1.bel) (ht.below hC.1.bel) (fun _ => True) A1 A2 c1 c2 ns ds (hC.1.net.mono (fun _ _ _ => trivial)) (by omega) (by omega) As cs st (hC.2.mono (fun _ _ _ => trivial)) Hmask.out _ Ac cc zs sZt (okC_changes Hzo.out (by omega) (by omega)) t
        have hlen := putC_len t zs st
        have hpos := putC_pos t zs st (fun x hx => (Hzo.out.1 x hx).2.2.2.2) Hst.out
        have hFt := fun v : Nat => HF.out v t
        obtain ⟨tt, htt⟩ : ∃ tt, tt = putC t st zs := ⟨_, rfl⟩
        rw [← htt] at HAt hlen hpos
        simp only [← htt] at hFt
        have HFt := Lib.hid hFt
        have htl' : tt.length = ds.length := by rw [hlen]; exact Hstl.out
        have Hm2 := Lib.hid (mask_ok Hc0.out htl' hpos)
        have hts : tt.length ≤ 65536 := by omega
        have HAt := Lib.hid HAt
        have n0 := hC.1.n0
        have n1 := hC.1.n1
        clear hlen hpos hFt htt htg htl'
        go_wp2_with (fail)
        refine HAt.out.mono ?_
        rintro e wa ⟨At, ct, rfl, oT, hba⟩
        have hCa := hC.bl hba
        have sOa := sOt.keep (Kept.of_below hba)
        have sT := (OI.si oT).mono (T := fun _ => True) (fun _ _ _ => trivial)
        clear n0 n1 HAt oT sOt
        have n0 := hCa.1.n0
        have n1 := hCa.1.n1
        have HSu := refSupplied_any wa (fun _ => True) A1 A2 c1 c2 ns ds (hCa.1.net.mono (fun _ _ _ => trivial)) (by omega) (by omega) At ct tt sT hts
        rw [show suppliedE ns ds tt = (supL ns ds tt, 0) by unfold suppliedE; rw [Hm2.out]; rfl] at HSu
        have HSu := Lib.hid HSu
        go_wp2_with (fail)
        refine HSu.out.mono ?_
        rintro e wu ⟨Au, cu, rfl, oU, hbu⟩
        have hCu := hCa.bl hbu
        have sOu := sOa.keep (Kept.of_below hbu)
        have sU := (OI.si oU).mono (T := fun _ => True) (fun _ _ _ => trivial)
        have hBu := (hB.trans (hba.mono hB.size)).trans (hbu.mono (hB.trans (hba.mono hB.size)).size)
        have hul := supL_len ns ds tt
        clear n0 n1 HSu oU sOa hCa hC hba hbu hB sT sZt
        have n0 := hCu.1.n0
        have htb := Htb.out t
        generalize supL ns ds tt = up at *
        go_wp2_with (fail)
        go_loopg [12, 76] ns.length (fun g sm i wn => ∃ k : Nat, k + g = ns.length ∧ i = .int .i64 k ∧ sm = .int .i64 (totT ns F t + downC ns F t k) ∧ Below wu.heap.size wu wn)
        case atStart => exact ⟨0, by omega, rfl, by simp [downC, sumC], Below.refl _ _⟩
        case round =>
          obtain ⟨k, hk, rfl, rfl, hBn⟩ := hrel
          have Hk := Lib.hid hk
          have hCn := hCu.bl hBn
          have sOn := sOu.keep (Kept.of_below hBn)
          clear hk n0
          by_cases hlk : k < ns.length
          · obtain ⟨b, off, rfl, _, _, q0, q1, q2⟩ := hCn.1.net.node hlk
            have hany := Hany.out k t htl hlk
            have hdn := downC_succ ns F t k
            have hdb := Hdb.out t k (by omega)
            have hcu := Hcust.out ns[k] (List.getElem_mem hlk)
            have hFk := HFt.out k
            rw [custAt_nat hlk] at hany hdn
            have hbx := (Below.refl wr.heap.size wr).alloc (Nat.le_refl _) (.cells #[.string ns[k].name, .int .i64 ns[k].cust, .int .i64 ns[k].comp] 84)
            have box := heap_alloc_new wr (.cells #[.string ns[k].name, .int .i64 ns[k].cust, .int .i64 ns[k].comp] 84)
            have sOx := sOn.keep (Kept.of_below hbx)
            have sUx := (sU.keep (Kept.of_below hBn)).keep (Kept.of_below hbx)
            generalize ns[k].cust = cs' at *
            generalize ns[k].name = nm' at *
            generalize ns[k].comp = cp' at *
            obtain ⟨gkn, rfl⟩ : ∃ x : Nat, x = gk := ⟨_, rfl⟩
            obtain ⟨wn, rfl⟩ : ∃ x : World, x = wr := ⟨_, rfl⟩
            have Hany1 := Lib.hid hany
            have Hdn := Lib.hid hdn
            have HFk := Lib.hid hFk
            obtain ⟨wx, hwx⟩ : ∃ x, x = wn.alloc (.cells #[.string nm', .int .i64 cs', .int .i64 cp'] 84) := ⟨_, rfl⟩
            have hzx : wn.heap.size < wx.heap.size := by rw [hwx]; simp
            rw [← hwx] at hbx box sOx sUx
            have Hwx := Lib.hid hwx
            clear hany hdn hFk hwx sOn
            go_wp2_with (fail)
            rw [← Hwx.out]
            go_loopg [20, 83] l.length (fun g ob i wq => ∃ j : Nat, j + g = l.length ∧ i = .int .i64 j ∧ ob = .bool ((l.take j).any (outB k t)) ∧ Below wx.heap.size wx wq)
            case atStart => exact ⟨0, by omega, rfl, rfl, Below.refl _ _⟩
            case round =>
              obtain ⟨j, hj, rfl, rfl, hBq⟩ := hrel
              have Hj := Lib.hid hj
              have sOq := sOx.keep (Kept.of_below hBq)
              clear hj q0 q1 q2
              by_cases hlj : j < l.length
              · obtain ⟨b2, off2, rfl, _, _, hc⟩ := sOq.rec outV_len (by decide) hlj
                have q0 := hc 0 _ rfl
                have q1 := hc 1 _ rfl
                have q2 := hc 2 _ rfl
                have q3 := hc 3 _ rfl
                simp only [Nat.add_zero] at q0
                have hat := any_take l (outB k t) j hlj
                have hBz := hBq.alloc hBq.size (.cells #[.int .i64 l[j].node, .int .i64 l[j].cust, .int .i64 l[j].fr, .int .i64 l[j].til] 88)
                have hob : outB k t l[j] = ((l[j].node == (k : Int)) && decide (l[j].fr ≤ (t : Int)) && decide ((t : Int) < l[j].til)) := rfl
                clear hc
                generalize (l.take j).any (outB k t) = acc at *
                generalize outB k t l[j] = now at *
                generalize l[j] = o at *
                obtain ⟨nd, cu2, fr, til⟩ := o
                simp only at hob q0 q1 q2 q3 hBz
                cases acc
                · by_cases e1 : (nd == (k : Int)) = true
                  · by_cases e2 : fr ≤ (t : Int)
                    · have e2d : decide (fr ≤ (t : Int)) = true := decide_eq_true e2
                      by_cases e3 : (t : Int) < til
                      · have e3d : decide ((t : Int) < til) = true := decide_eq_true e3
                        have Hat := Lib.hid (show (l.take (j + 1)).any (outB k t) = true by rw [hat, hob, e1, e2d, e3d]; rfl)
                        clear hat hob
                        go_wp2_with (fail)
                        go_roundg (gk - 1)
                        case measure => have := Hj.out; omega
                        case rel => exact ⟨j + 1, by have := Hj.out; omega, by go_num, by rw [Hat.out], hBz⟩
                      · have e3d : decide ((t : Int) < til) = false := decide_eq_false e3
                        have Hat := Lib.hid (show (l.take (j + 1)).any (outB k t) = false by rw [hat, hob, e1, e2d, e3d]; rfl)
                        clear hat hob
                        go_wp2_with (fail)
                        go_roundg (gk - 1)
                        case measure => have := Hj.out; omega
                        case rel => exact ⟨j + 1, by have := Hj.out; omega, by go_num, by rw [Hat.out], hBz⟩
                    · have e2d : decide (fr ≤ (t : Int)) = false := decide_eq_false e2
                      have Hat := Lib.hid (show (l.take (j + 1)).any (outB k t) = false by rw [hat, hob, e1, e2d]; rfl)
                      clear hat hob
                      go_wp2_with (fail)
                      go_roundg (gk - 1)
                      case measure => have := Hj.out; omega
                      case rel => exact ⟨j + 1, by have := Hj.out; omega, by go_num, by rw [Hat.out], hBz⟩
                  · have e1 : (nd == (k : Int)) = false := by simpa using e1
                    have Hat := Lib.hid (show (l.take (j + 1)).any (outB k t) = false by rw [hat, hob, e1]; rfl)
                    clear hat hob
                    go_wp2_with (fail)
                    go_roundg (gk - 1)
                    case measure => have := Hj.out; omega
                    case rel => exact ⟨j + 1, by have := Hj.out; omega, by go_num, by rw [Hat.out], hBz⟩
                · have Hat := Lib.hid (show (l.take (j + 1)).any (outB k t) = true by rw [hat, Bool.true_or])
                  clear hat hob
                  go_wp2_with (fail)
                  go_roundg (gk - 1)
                  case measure => have := Hj.out; omega
                  case rel => exact ⟨j + 1, by have := Hj.out; omega, by go_num, by rw [Hat.out], hBz⟩
              · have hjl : (l.take j).any (outB k t) = (!decide (cs' = 0) && !F k t) := by rw [List.take_of_length_le (by omega)]; exact Hany1.out
                have hbxq := (hBq.block _ hzx).trans box
                have p1 : wr.cell? ⟨wn.heap.size, 1, none⟩ = some (.int .i64 cs') := by rw [cell_of_row wr _ 1 _ _ _ hbxq]; rfl
                have sUq := sUx.keep (Kept.of_below hBq)
                have HH := refHas_any wr _ Au cu up sUq (by omega) (k : Int)
                have hFm := HFk.out
                have hbn := (hBn.trans (hbx.mono hBn.size)).trans (hBq.mono (hBn.trans (hbx.mono hBn.size)).size)
                clear hbxq sUq sOq
                by_cases hc0 : cs' = 0
                · have hjl2 : (l.take j).any (outB k t) = false := by rw [hjl, hc0]; simp
                  have Hs := Lib.hid (show totT ns F t + downC ns F t (k + 1) = totT ns F t + downC ns F t k by rw [Hdn.out, hc0]; simp)
                  have hcp : decide (0 < cs') = false := decide_eq_false (by omega)
                  rw [hjl2]
                  clear hjl hjl2 hFm HH hc0
                  go_wp2_with (fail)
                  go_roundg (gkn - 1)
                  case measure => have := Hk.out; omega
                  case rel => exact ⟨k + 1, by have := Hk.out; omega, by go_num, by rw [Hs.out], hbn⟩
                · have hcp : decide (0 < cs') = true := decide_eq_true (by omega)
                  cases hFv : F k t
                  · have hjl2 : (l.take j).any (outB k t) = true := by rw [hjl, hFv]; simp [hc0]
                    have Hs := Lib.hid (show totT ns F t + downC ns F t (k + 1) = totT ns F t + downC ns F t k + cs' by rw [Hdn.out, hFv]; simp; omega)
                    rw [hFv] at hFm
                    rw [decide_eq_false (by intro hm; rw [List.contains_iff_mem.2 hm] at hFm; cases hFm)] at HH
                    have HH := Lib.hid HH
                    rw [hjl2]
                    have hsm : 0 ≤ totT ns F t + downC ns F t k ∧ totT ns F t + downC ns F t k ≤ 1000000000 := by omega
                    generalize totT ns F t + downC ns F t k = sm at *
                    have hws : IntKind.i64.wrap (sm + cs') = sm + cs' := IntWalk.i64_in _ (by omega)
                    clear hjl hjl2 hFm hc0
                    go_wp2_with (fail)
                    refine HH.out.mono ?_
                    rintro e w' ⟨rfl, rfl⟩
                    go_wp2_with (fail)
                    go_roundg (gkn - 1)
                    case measure => have := Hk.out; omega
                    case rel => exact ⟨k + 1, by have := Hk.out; omega, by go_num, by rw [Hs.out], hbn⟩
                  · have hjl2 : (l.take j).any (outB k t) = false := by rw [hjl, hFv]; simp
                    have Hs := Lib.hid (show totT ns F t + downC ns F t (k + 1) = totT ns F t + downC ns F t k by rw [Hdn.out, hFv]; simp)
                    rw [hFv] at hFm
                    rw [decide_eq_true (List.contains_iff_mem.1 hFm.symm)] at HH
                    have HH := Lib.hid HH
                    rw [hjl2]
                    clear hjl hjl2 hFm hc0
                    go_wp2_with (fail)
                    refine HH.out.mono ?_
                    rintro e w' ⟨rfl, rfl⟩
                    go_wp2_with (fail)
                    go_roundg (gkn - 1)
                    case measure => have := Hk.out; omega
                    case rel => exact ⟨k + 1, by have := Hk.out; omega, by go_num, by rw [Hs.out], hbn⟩
          · have hkn : k = ns.length := by have := Hk.out; omega
            subst hkn
            go_wp2_with (fail)
            go_roundg (gko - 1)
            case measure => have := Htg.out; omega
            case rel => exact ⟨t + 1, by have := Htg.out; omega, by go_num, rfl, hBu.trans (hBn.mono hBu.size)⟩
      · have ht30 : t = 30 := by omega
        subst ht30
        obtain ⟨wo, rfl⟩ : ∃ x : World, x = wr := ⟨_, rfl⟩
        generalize totT ns F 30 = tot at *
        clear htg htl sZt
        go_wp2_with (fail)
        go_loopg [128] l.length (fun g i wn => ∃ k : Nat, k + g = l.length ∧ i = .int .i64 k ∧ Below wo.heap.size wo wn)
        case atStart => exact ⟨0, by omega, rfl, Below.refl _ _⟩
        case round =>
          obtain ⟨k, hk, rfl, hBn⟩ := hrel
          have Hk := Lib.hid hk
          have sOn := sOt.keep (Kept.of_below hBn)
          clear hk
          by_cases hlk : k < l.length
          · obtain ⟨b2, off2, rfl, _, _, hc⟩ := sOn.rec outV_len (by decide) hlk
            have q0 := hc 0 _ rfl
            have q1 := hc 1 _ rfl
            have q2 := hc 2 _ rfl
            have q3 := hc 3 _ rfl
            simp only [Nat.add_zero] at q0
            have ho := Hok.out l[k] (List.getElem_mem hlk)
            have hBz := hBn.alloc hBn.size (.cells #[.int .i64 l[k].node, .int .i64 l[k].cust, .int .i64 l[k].fr, .int .i64 l[k].til] 88)
            have sOz := sOn.keep (Kept.alloc _ wr (.cells #[.int .i64 l[k].node, .int .i64 l[k].cust, .int .i64 l[k].fr, .int .i64 l[k].til] 88))
            clear hc
            by_cases hk0 : k = 0
            · subst hk0
              generalize l[0] = o at *
              obtain ⟨o1, o2, o3, o4, o5⟩ := ho
              obtain ⟨nd, cu, fr, til⟩ := o
              simp only at o1 o2 o3 q0 q1 q2 q3 hBz
              simp only [Nat.zero_mul, Nat.add_zero] at q0 q1 q2 q3
              have e1 : decide (fr < 0) = false := decide_eq_false (by omega)
              have e2 : decide ((30 : Int) < til) = false := decide_eq_false (by omega)
              clear sOz
              go_wp2_with (fail)
              go_quiet (fail)
              go_wp2_with (fail)
              go_roundg (gk - 1)
              case measure => have := Hk.out; omega
              case rel => exact ⟨1, by have := Hk.out; omega, by go_num, hBz.trans (below_drewN _ _ _)⟩
            · obtain ⟨k', rfl⟩ : ∃ k', k = k' + 1 := ⟨k - 1, by omega⟩
              have hord := Hord.out k' (by omega) hlk
              obtain ⟨b3, off3, e3, _, _, hc⟩ := sOz.rec outV_len (by decide) (show k' < l.length by omega)
              injection e3 with e3
              injection e3 with e3 e4
              subst e3 e4
              have r0 := hc 0 _ rfl
              have r3 := hc 3 _ rfl
              simp only [Nat.add_zero] at r0
              clear hc
              generalize l[k'] = p at *
              generalize l[k' + 1] = o at *
              obtain ⟨o1, o2, o3, o4, o5⟩ := ho
              obtain ⟨nd, cu, fr, til⟩ := o
              obtain ⟨pn, pc, pf, pt⟩ := p
              unfold OrdO at hord
              simp only at o1 o2 o3 q0 q1 q2 q3 hBz r0 r3 hord
              have e1 : decide (fr < 0) = false := decide_eq_false (by omega)
              have e2 : decide ((30 : Int) < til) = false := decide_eq_false (by omega)
              have e5 : decide ((0 : Int) < ((k' + 1 : Nat) : Int)) = true := decide_eq_true (by omega)
              have e6 : decide (0 < k' + 1) = true := decide_eq_true (by omega)
              have hwk : IntKind.i64.wrap (((k' + 1 : Nat) : Int) - 1) = (k' : Int) := by rw [show ((k' + 1 : Nat) : Int) - 1 = (k' : Int) by omega]; exact IntWalk.i64_in _ (by omega)
              have e7 : decide (nd < pn) = false := decide_eq_false (by omega)
              by_cases hpn : (pn == nd) = true
              · have e8 : decide (fr ≤ pt) = false := decide_eq_false (by simp at hpn; omega)
                clear sOz hord
                go_wp2_with (fail)
                go_quiet (fail)
                go_wp2_with (fail)
                go_roundg (gk - 1)
                case measure => have := Hk.out; omega
                case rel => exact ⟨k' + 1 + 1, by have := Hk.out; omega, by go_num, hBz.trans (below_drewN _ _ _)⟩
              · have hpn : (pn == nd) = false := by simpa using hpn
                clear sOz hord
                go_wp2_with (fail)
                go_quiet (fail)
                go_wp2_with (fail)
                go_roundg (gk - 1)
                case measure => have := Hk.out; omega
                case rel => exact ⟨k' + 1 + 1, by have := Hk.out; omega, by go_num, hBz.trans (below_drewN _ _ _)⟩
          · have hCn := hC.bl hBn
            have HAW := Lib.hid (awake22 wr (h.below hCn.1.bel) (ht.below hCn.1.bel))
            go_wp2_with (fail)
            refine HAW.out.mono ?_
            rintro e w8 ⟨rfl, hb8⟩
            go_wp2_with (fail)
            go_ret
            exact ⟨rfl, hCn.1.bel.trans (hb8.mono hCn.1.bel.size)⟩
  · have hfd : decide ((xs.length : Int) ≤ 400) = false := decide_eq_false (by omega)
    go_enter Tryd.func6, Tryd.ntmps6
    go_wp2_with (fail)
    refine (few_any w A xs.length c).mono ?_
    rw [hfd]
    rintro e w' ⟨rfl, rfl⟩
    go_wp2_with (fail)
    refine (awake22 w h ht).mono ?_
    rintro e w8 ⟨rfl, hb8⟩
    go_wp2_with (fail)
    go_ret
    exact ⟨rfl, hb8⟩
end Go.Proofs.YthegcofmnpkhmaaDoor

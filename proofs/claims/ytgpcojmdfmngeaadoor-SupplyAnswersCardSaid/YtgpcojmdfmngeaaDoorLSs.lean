/-
  The law SupplyAnswers, walked: the loops over pairs.
-/
import Derived.Test.YtgpcojmdfmngeaaDoorLSr
import Derived.Test.YtgpcojmdfmngeaaDoorAns
import Derived.Test.YtgpcojmdfmngeaaDoorNar
import Derived.Test.YtgpcojmdfmngeaaDoorMkf
import Derived.Test.YtgpcojmdfmngeaaDoorRo06
import Derived.Test.YtgpcojmdfmngeaaDoorMkU
import Derived.Test.YtgpcojmdfmngeaaDoorGf
import Derived.Test.YtgpcojmdfmngeaaDoorR11c
import Derived.Test.YtgpcojmdfmngeaaDoorR11d
import Derived.Test.YtgpcojmdfmngeaaDoorSwy
import Derived.Test.YtgpcojmdfmngeaaDoorGa
namespace Go.Proofs.YtgpcojmdfmngeaaDoor
open Go.RowKit
set_option maxHeartbeats 400000
set_option maxRecDepth 100000

set_option maxHeartbeats 16000000 in
theorem supplyRed_ok (w : World) (h : TabC w) (ht : Tab w) (A : Option Addr) (c : Nat) (xs : List Int) (hs : SI w (fun _ => True) A xs) (Aa : Option Addr) (ca : Nat) (la : List Int) (hsa : SI w (fun _ => True) Aa la)
    (R1 R2 : Option Addr) (d1 d2 : Nat) (rn : List Node) (rd : List Dev) (hr : NetIn w (fun _ => True) R1 R2 rn rd) (hr1 : rn.length ≤ maxLen) (hr2 : rd.length ≤ maxLen) (v : Int) (hf : xs.length ≤ 400) (h100 : la.length ≤ 100) (hli : lightB rn rd = true) :
    (supplyRedB w h ht A c xs hs Aa ca la hsa R1 R2 d1 d2 rn rd hr hr1 hr2 v hf h100 hli).1 := by
  unfold supplyRedB
  dsimp only
  set_option tactic.hygienic false in intros
  go_loopg [191] 2 (fun g i wr => ∃ j : Nat, j + g = 2 ∧ i = .int .i64 j ∧ AS wb WQ wr)
  case atStart => exact ⟨0, rfl, rfl, SQ⟩
  case round =>
    clear SQ
    obtain ⟨j, hj, rfl, S⟩ := hrel
    have Hj := Lib.hid hj
    clear hj
    obtain ⟨gkj, rfl⟩ : ∃ x : Nat, x = gk := ⟨_, rfl⟩
    by_cases hltj : j < 2
    · obtain ⟨P, pc, pl, Q, qc, ql, u0, u1, sp, sq, hpl, hql⟩ := Hpq.out j hltj
      have z0 := (S.fr.cell hgpl hgpb (j * 2)).trans u0
      have z1 := (S.fr.cell hgpl hgpb (j * 2 + 1)).trans u1
      obtain ⟨Wr2, rfl⟩ : ∃ x, x = wr := ⟨_, rfl⟩
      obtain ⟨WT, hWT⟩ : ∃ x, x = Wr2.alloc (.cells #[.slice P pl.length pc, .slice Q ql.length qc] 100) := ⟨_, rfl⟩
      have ST1 : AS wb WQ WT := by rw [hWT]; exact S.below ((Below.refl _ _).alloc (Nat.le_refl _) _)
      have ST := AS.start ST1.deck ST1.bel
      have hrowT : WT.heap[Wr2.heap.size]? = some (.cells #[.slice P pl.length pc, .slice Q ql.length qc] 100 (0, 0)) := by rw [hWT]; exact heap_alloc_new Wr2 _
      have hgtb : Wr2.heap.size ≠ wb.heap.size := by have := S.deck.lt; omega
      have hgtl : Wr2.heap.size < WT.heap.size := (Array.getElem?_eq_some_iff.1 hrowT).1
      have t0 : WT.cell? ⟨Wr2.heap.size, 0, none⟩ = some (.slice P pl.length pc) := by rw [cell_of_row WT _ 0 _ _ _ hrowT]; rfl
      have t1 : WT.cell? ⟨Wr2.heap.size, 1, none⟩ = some (.slice Q ql.length qc) := by rw [cell_of_row WT _ 1 _ _ _ hrowT]; rfl
      have SPT := SQ1.more ST1
      have y0 := (SPT.fr.cell hgqP hgqb 0).trans X0.out
      have y1 := (SPT.fr.cell hgqP hgqb 1).trans X1.out
      obtain ⟨tt, tk, te, HLo, htt⟩ : ∃ (tt : List Int) (tk te : Int), Hid ((∀ W, AS wb WP W → Calls Tryd.prog 79 #[.agg #[.slice B1 bn.length b1, .slice B2 be.length b2], .slice P pl.length pc, .slice Q ql.length qc] W fun e w' => ∃ A c, e = .returned (.tuple #[.slice A tt.length c, .int .i64 tk, .int .i64 te]) ∧ OI w' (fun g => W.heap.size ≤ g) A c tt ∧ Below W.heap.size W w') ∧ ∀ W, AS wb WP W → Calls Tryd.prog 103 #[.agg #[.slice B1 bn.length b1, .slice B2 be.length b2], .slice P pl.length pc, .slice Q ql.length qc] W fun e w' => ∃ A c, e = .returned (.tuple #[.slice A tt.length c, .int .i64 tk, .int .i64 te]) ∧ OI w' (fun g => W.heap.size ≤ g) A c tt ∧ Below W.heap.size W w') ∧ tt.length ≤ 100 :=
        ⟨(lostE bn be pl ql).1, (lostE bn be pl ql).2.1, (lostE bn be pl ql).2.2, Lib.hid ⟨fun W hW => Lost_any W (h1.below hW.bel) (ht1.below hW.bel) (fun _ => True) B1 B2 b1 b2 bn be (hW.net hnP) (by omega) (by omega) P pc pl (hW.sv sp) (by omega) Q qc ql (hW.sv sq) (by omega), fun W hW => refLost_any W (fun _ => True) B1 B2 b1 b2 bn be (hW.net hnP) (by omega) (by omega) P pc pl (hW.sv sp) (by omega) Q qc ql (hW.sv sq) (by omega)⟩, by have := lostE_len bn be pl ql; omega⟩
      have HWT := Lib.hid hWT
      obtain ⟨gt, hgt⟩ : ∃ x, x = Wr2.heap.size := ⟨_, rfl⟩
      rw [← hgt] at hgtb hgtl t0 t1
      have Hgt := Lib.hid hgt
      clear hrowT hWT hgt S u0 u1
      go_upto_region 26 with (fail)
      rw [← HWT.out, ← Hgt.out]
      clear z0 z1
      go_wp2_with (fail)
      refine (HLo.out.1 WT SPT).mono ?_
      rintro e Y1 ⟨V1, vc1, rfl, ho1, hbj1⟩
      have T1 := ST.below hbj1
      have ET1 := SPT.below hbj1
      have s1 := (OV.sv ho1).mono (T := fun _ => True) (fun _ _ _ => trivial)
      have y0 := (ET1.fr.cell hgqP hgqb 0).trans X0.out
      have y1 := (ET1.fr.cell hgqP hgqb 1).trans X1.out
      have v0 := (T1.fr.cell hgtl hgtb 0).trans t0
      have v1 := (T1.fr.cell hgtl hgtb 1).trans t1
      clear ho1
      go_wp2_with (fail)
      clear y0 y1 v0 v1
      refine (HLo.out.2 Y1 ET1).mono ?_
      rintro e Y2 ⟨V2, vc2, rfl, ho2, hbj2⟩
      have T2 := T1.below hbj2
      have s1 := s1.keep (Kept.of_below hbj2)
      have s2 := (OV.sv ho2).mono (T := fun _ => True) (fun _ _ _ => trivial)
      clear HLo HWT Hgt T1 ET1 SPT hbj1 hbj2 t0 t1 ST ho2
      go_wp2_with (fail)
      refine (ints_b Y2 _ _ V1 V2 vc1 vc2 tt tt s1 s2 (by omega) (by omega)).mono ?_
      rintro e Y3 ⟨rfl, hbj3⟩
      rw [show decide (tt = tt) = true from decide_eq_true rfl]
      have F2 := ST1.more (T2.below hbj3)
      clear T2 hbj3 s1 s2
      go_wp2_with (fail)
      go_roundg (gkj - 1)
      case measure => have := Hj.out; omega
      case rel => exact ⟨j + 1, by have := Hj.out; omega, by go_num, F2⟩
    · obtain ⟨Ze, rfl⟩ : ∃ x, x = wr := ⟨_, rfl⟩
      have SE := SQ1.more S
      clear Hj S Hpq hgpb hgpl SQ1
      go_wp2_with (fail)
      refine (next_any Ze wb.heap.size SE.deck 7 (by decide)).mono ?_
      rintro e Zf ⟨r1, rfl, hq1, hq2, hdx, hgx2, hq3⟩
      have SF := SE.next hgx2 hdx
      clear hq1 hq2 hq3 hdx hgx2 SE
      obtain ⟨WR, hWR⟩ : ∃ x, x = Zf.alloc (.cells #[.int .i64 v, .int .i64 r1] 3) := ⟨_, rfl⟩
      have hrowR : WR.heap[Zf.heap.size]? = some (.cells #[.int .i64 v, .int .i64 r1] 3 (0, 0)) := by rw [hWR]; exact heap_alloc_new Zf _
      have SR1 : AS wb WP WR := by rw [hWR]; exact SF.below ((Below.refl _ _).alloc (Nat.le_refl _) _)
      have SR := AS.start SR1.deck SR1.bel
      have hgrb : Zf.heap.size ≠ wb.heap.size := by have := SF.deck.lt; omega
      have hgrl : Zf.heap.size < WR.heap.size := (Array.getElem?_eq_some_iff.1 hrowR).1
      have HWR := Lib.hid hWR
      obtain ⟨gs, hgs⟩ : ∃ x, x = Zf.heap.size := ⟨_, rfl⟩
      rw [← hgs] at hrowR hgrb hgrl
      have Hgs := Lib.hid hgs
      clear hWR hgs SF
      go_wp2_with (fail)
      rw [← HWR.out, ← Hgs.out]
      clear HWR Hgs
      have Hno : Hid (∀ j, j < 2 → ∃ q : Int, WR.cell? ⟨gs, j, none⟩ = some (.int .i64 q)) := Lib.hid (by
        intro j hj
        have hj2 : j = 0 ∨ j = 1 := by omega
        rcases hj2 with rfl | rfl
        · exact ⟨v, by rw [cell_of_row WR _ _ _ _ _ hrowR]; rfl⟩
        · exact ⟨r1, by rw [cell_of_row WR _ _ _ _ _ hrowR]; rfl⟩)
      clear hrowR
      go_loopg [235] 2 (fun g i wr => ∃ j : Nat, j + g = 2 ∧ i = .int .i64 j ∧ AS wb WR wr)
      case atStart => exact ⟨0, rfl, rfl, SR⟩
      case round =>
        clear SR
        obtain ⟨j, hj, rfl, S⟩ := hrel
        have Hj := Lib.hid hj
        clear hj
        obtain ⟨gkn, rfl⟩ : ∃ x : Nat, x = gk := ⟨_, rfl⟩
        by_cases hltj : j < 2
        · obtain ⟨q, u0⟩ := Hno.out j hltj
          have c0 := (S.fr.cell hgrl hgrb j).trans u0
          obtain ⟨Y0, rfl⟩ : ∃ x, x = wr := ⟨_, rfl⟩
          have SPT := SR1.more S
          have y0 := (SPT.fr.cell hgqP hgqb 0).trans X0.out
          have y1 := (SPT.fr.cell hgqP hgqb 1).trans X1.out
          obtain ⟨vv, vb, ve, HWy, hvv⟩ : ∃ (vv : List Nat) (vb : Bool) (ve : Int), Hid ((∀ W, AS wb WP W → Calls Tryd.prog 78 #[.agg #[.slice B1 bn.length b1, .slice B2 be.length b2], .slice Y yl.length yc, .int .i64 q] W fun e w' => ∃ A c, e = .returned (.tuple #[.slice A vv.length c, .bool vb, .int .i64 ve]) ∧ OI w' (fun g => W.heap.size ≤ g) A c (nats vv) ∧ Below W.heap.size W w') ∧ ∀ W, AS wb WP W → Calls Tryd.prog 104 #[.agg #[.slice B1 bn.length b1, .slice B2 be.length b2], .slice Y yl.length yc, .int .i64 q] W fun e w' => ∃ A c, e = .returned (.tuple #[.slice A vv.length c, .bool vb, .int .i64 ve]) ∧ OI w' (fun g => W.heap.size ≤ g) A c (nats vv) ∧ Below W.heap.size W w') ∧ vv.length ≤ 33 :=
            ⟨(swayL bn be yl q).1, (swayL bn be yl q).2.1, (swayL bn be yl q).2.2, Lib.hid ⟨fun W hW => sway_any W (h1.below hW.bel) (ht1.below hW.bel) (fun _ => True) B1 B2 b1 b2 bn be (hW.net hnP) (by omega) (by omega) Y yc yl (hW.sv sy) (by omega) q, fun W hW => by rw [← rway_eq]; exact refSWay_any W (fun _ => True) B1 B2 b1 b2 bn be (hW.net hnP) (by omega) (by omega) Y yc yl (hW.sv sy) (by omega) q⟩, sway_all bn be yl q⟩
          clear u0
          go_wp2_with (fail)
          refine (HWy.out.1 Y0 SPT).mono ?_
          rintro e Y1 ⟨V1, vc1, rfl, ho1, hbj1⟩
          have T1 := S.below hbj1
          have ET1 := SPT.below hbj1
          have s1 := (OV.sv ho1).mono (T := fun _ => True) (fun _ _ _ => trivial)
          clear ho1 y0 y1 c0
          have y0 := (ET1.fr.cell hgqP hgqb 0).trans X0.out
          have y1 := (ET1.fr.cell hgqP hgqb 1).trans X1.out
          go_wp2_with (fail)
          clear y0 y1
          refine (HWy.out.2 Y1 ET1).mono ?_
          rintro e Y2 ⟨V2, vc2, rfl, ho2, hbj2⟩
          have T2 := T1.below hbj2
          have s1 := s1.keep (Kept.of_below hbj2)
          have s2 := (OV.sv ho2).mono (T := fun _ => True) (fun _ _ _ => trivial)
          have HIn := (ints_b Y2 _ _ V1 V2 vc1 vc2 (nats vv) (nats vv) s1 s2 (by rw [nats_len]; omega) (by rw [nats_len]; omega)).mono (fun e w' h => (⟨by rw [h.1, decide_eq_true rfl], h.2⟩ : e = .returned (.bool true) ∧ Below Y2.heap.size Y2 w'))
          rw [nats_len] at HIn
          have HIn := Lib.hid HIn
          clear HWy T1 ET1 SPT hbj1 hbj2 ho2
          cases vb
          · go_wp2_with (fail)
            refine HIn.out.mono ?_
            rintro e Y3 ⟨rfl, hbj3⟩
            have F2 := T2.below hbj3
            clear T2 hbj3 s1 s2 HIn
            go_wp2_with (fail)
            go_roundg (gkn - 1)
            case measure => have := Hj.out; omega
            case rel => exact ⟨j + 1, by have := Hj.out; omega, by go_num, F2⟩
          · go_wp2_with (fail)
            refine HIn.out.mono ?_
            rintro e Y3 ⟨rfl, hbj3⟩
            have F2 := T2.below hbj3
            clear T2 hbj3 s1 s2 HIn
            go_wp2_with (fail)
            go_roundg (gkn - 1)
            case measure => have := Hj.out; omega
            case rel => exact ⟨j + 1, by have := Hj.out; omega, by go_num, F2⟩
        · obtain ⟨Ze, rfl⟩ : ∃ x, x = wr := ⟨_, rfl⟩
          have SE := SR1.more S
          clear Hj S Hno
          go_wp2_with (fail)
          go_roundg (gk5 - 1)
          case measure => have := Hi.out; omega
          case rel => exact ⟨i5 + 1, by have := Hi.out; omega, by go_num, SE⟩
theorem supplyAnswers_ok (w : World) (h : TabC w) (ht : Tab w) (A : Option Addr) (c : Nat) (xs : List Int) (hs : SI w (fun _ => True) A xs) (Aa : Option Addr) (ca : Nat) (la : List Int) (hsa : SI w (fun _ => True) Aa la)
    (R1 R2 : Option Addr) (d1 d2 : Nat) (rn : List Node) (rd : List Dev) (hr : NetIn w (fun _ => True) R1 R2 rn rd) (hr1 : rn.length ≤ maxLen) (hr2 : rd.length ≤ maxLen) (v : Int) (hf : xs.length ≤ 400) (h100 : la.length ≤ 100) (hli : lightB rn rd = true) :
    Calls Tryd.prog 8 #[.slice A xs.length c, .slice Aa la.length ca, .agg #[.slice R1 rn.length d1, .slice R2 rd.length d2], .int .i64 v] w (RetT w) :=
  (supplyRed w h ht A c xs hs Aa ca la hsa R1 R2 d1 d2 rn rd hr hr1 hr2 v hf h100 hli).2 (Lib.hid ((supplyRedB w h ht A c xs hs Aa ca la hsa R1 R2 d1 d2 rn rd hr hr1 hr2 v hf h100 hli).2 (Lib.hid (supplyRed_ok w h ht A c xs hs Aa ca la hsa R1 R2 d1 d2 rn rd hr hr1 hr2 v hf h100 hli))))
end Go.Proofs.YtgpcojmdfmngeaaDoor

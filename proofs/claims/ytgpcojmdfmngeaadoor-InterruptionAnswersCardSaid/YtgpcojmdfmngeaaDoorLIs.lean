/-
  The law InterruptionAnswers, walked: the loops over times.
-/
import Derived.Test.YtgpcojmdfmngeaaDoorLIr
import Derived.Test.YtgpcojmdfmngeaaDoorL06a
import Derived.Test.YtgpcojmdfmngeaaDoorAns
import Derived.Test.YtgpcojmdfmngeaaDoorNar
import Derived.Test.YtgpcojmdfmngeaaDoorMkf
import Derived.Test.YtgpcojmdfmngeaaDoorR22b
import Derived.Test.YtgpcojmdfmngeaaDoorR22c
import Derived.Test.YtgpcojmdfmngeaaDoorR22d
import Derived.Test.YtgpcojmdfmngeaaDoorRout
import Derived.Test.YtgpcojmdfmngeaaDoorGa
import Derived.Deep.CutBlock
namespace Go.Proofs.YtgpcojmdfmngeaaDoor
open Go.RowKit
set_option maxHeartbeats 400000
set_option maxRecDepth 100000

set_option maxHeartbeats 16000000 in
theorem interRed_ok (w : World) (h : TabC w) (ht : Tab w) (A : Option Addr) (c : Nat) (xs : List Int) (hs : SI w (fun _ => True) A xs) (Aa : Option Addr) (ca : Nat) (la : List Int) (hsa : SI w (fun _ => True) Aa la)
    (R1 R2 : Option Addr) (d1 d2 : Nat) (rn : List Node) (rd : List Dev) (hr : NetIn w (fun _ => True) R1 R2 rn rd) (hr1 : rn.length ≤ maxLen) (hr2 : rd.length ≤ maxLen) (Ac : Option Addr) (cc : Nat) (chs : List Chg) (hsc : SV w (fun _ => True) Ac (recV chgV chs)) (hwc : ∀ x ∈ chs, x.t ≤ 9223372036854775807) (Ao : Option Addr) (co : Nat) (ous : List Out) (hso : SV w (fun _ => True) Ao (recV outV ous)) (til time lim : Int) (hf : xs.length ≤ 400) (h100 : la.length ≤ 100) (hli : lightB rn rd = true) (hc60 : chs.length ≤ 60) (ho60 : ous.length ≤ 60) :
    (interRedB w h ht A c xs hs Aa ca la hsa R1 R2 d1 d2 rn rd hr hr1 hr2 Ac cc chs hsc hwc Ao co ous hso til time lim hf h100 hli hc60 ho60).1 := by
  unfold interRedB
  dsimp only
  set_option tactic.hygienic false in intros
  clear hlt hlt2 bp213 bp321
  go_wp2_with (fail)
  refine (next_any Z0 wb.heap.size E0.deck 30 (by decide)).mono ?_
  rintro e Z1 ⟨r1, rfl, hr1, hq2, hdx, hgx, hq3⟩
  have hr1 := hr1 (by decide)
  have E1 := E0.next hgx hdx
  have hwr1 : IntKind.i64.wrap (10 + (r1 : Int)) = 10 + (r1 : Int) := IntWalk.i64_in _ (by omega)
  clear hdx hgx E0 hq2 hq3
  obtain ⟨WR, hWR⟩ : ∃ x, x = Z1.alloc (.cells #[.int .i64 til, .int .i64 (10 + (r1 : Int))] 3) := ⟨_, rfl⟩
  have hrowR : WR.heap[Z1.heap.size]? = some (.cells #[.int .i64 til, .int .i64 (10 + (r1 : Int))] 3 (0, 0)) := by rw [hWR]; exact heap_alloc_new Z1 _
  have SR1 : AS wb WQ WR := by rw [hWR]; exact E1.below ((Below.refl _ _).alloc (Nat.le_refl _) _)
  have SR := AS.start SR1.deck SR1.bel
  have hgrb : Z1.heap.size ≠ wb.heap.size := by have := E1.deck.lt; omega
  have hgrl : Z1.heap.size < WR.heap.size := (Array.getElem?_eq_some_iff.1 hrowR).1
  have HWR := Lib.hid hWR
  obtain ⟨gs, hgs⟩ : ∃ x, x = Z1.heap.size := ⟨_, rfl⟩
  rw [← hgs] at hrowR hgrb hgrl
  have Hgs := Lib.hid hgs
  have Hno : Hid (∀ j, j < 2 → ∃ q : Int, WR.cell? ⟨gs, j, none⟩ = some (.int .i64 q)) := Lib.hid (by
    intro j hj
    have hj2 : j = 0 ∨ j = 1 := by omega
    rcases hj2 with rfl | rfl
    · exact ⟨til, by rw [cell_of_row WR _ _ _ _ _ hrowR]; rfl⟩
    · exact ⟨10 + (r1 : Int), by rw [cell_of_row WR _ _ _ _ _ hrowR]; rfl⟩)
  clear hWR hgs E1 hrowR
  go_wp2_with (fail)
  rw [← HWR.out, ← Hgs.out]
  clear HWR Hgs hwr1
  go_loopg [157] 2 (fun g i wr => ∃ j : Nat, j + g = 2 ∧ i = .int .i64 j ∧ AS wb WR wr)
  case atStart => exact ⟨0, rfl, rfl, SR⟩
  case round =>
    clear SR
    obtain ⟨j, hj, rfl, S⟩ := hrel
    have Hj := Lib.hid hj
    clear hj
    obtain ⟨gkj, rfl⟩ : ∃ x : Nat, x = gk := ⟨_, rfl⟩
    by_cases hltj : j < 2
    · obtain ⟨tq, u0⟩ := Hno.out j hltj
      have c0 := (S.fr.cell hgrl hgrb j).trans u0
      obtain ⟨V0, rfl⟩ : ∃ x, x = wr := ⟨_, rfl⟩
      have F0 := SR1.more S
      have y0 := (F0.fr.cell hgqQ hgqb 0).trans Y0.out
      have y1 := (F0.fr.cell hgqQ hgqb 1).trans Y1.out
      obtain ⟨ol, oe, HOu, hol⟩ : ∃ (ol : List Out) (oe : Int), Hid ((∀ W, AS wb WQ W → Calls Tryd.prog 83 #[.agg #[.slice B1 bn.length b1, .slice B2 be.length b2], .slice Y yl.length yc, .slice Zz zl.length zc, .int .i64 tq] W fun e w' => ∃ A c, e = .returned (.tuple #[.slice A ol.length c, .int .i64 oe]) ∧ OO w' (fun g => W.heap.size ≤ g) A c ol ∧ Below W.heap.size W w') ∧ ∀ W, AS wb WQ W → Calls Tryd.prog 84 #[.agg #[.slice B1 bn.length b1, .slice B2 be.length b2], .slice Y yl.length yc, .slice Zz zl.length zc, .int .i64 tq] W fun e w' => ∃ A c, e = .returned (.tuple #[.slice A ol.length c, .int .i64 oe]) ∧ OO w' (fun g => W.heap.size ≤ g) A c ol ∧ Below W.heap.size W w') ∧ ol.length ≤ 33066 :=
        ⟨(outagesE bn be yl zl tq).1, (outagesE bn be yl zl tq).2, Lib.hid ⟨fun W hW => Outages_any W (h1.below hW.bel) (ht1.below hW.bel) (fun _ => True) B1 B2 b1 b2 bn be (hW.net hnQ) (by omega) (by omega) Y yc yl (hW.sv syQ) (by omega) (fun _ => True) Zz zc zl (hW.sv sz) (by omega) tq, fun W hW => refOutages_any W (fun _ => True) B1 B2 b1 b2 bn be (hW.net hnQ) (by omega) (by omega) Y yc yl (hW.sv syQ) (by omega) (fun _ => True) Zz zc zl (hW.sv sz) (by omega) tq⟩, outE_len22 bn be yl zl tq (by omega)⟩
      obtain ⟨ck, HCk⟩ : ∃ ck : Int, Hid ((∀ W, AS wb WQ W → Calls Tryd.prog 86 #[.agg #[.slice B1 bn.length b1, .slice B2 be.length b2], .slice Y yl.length yc, .slice Zz zl.length zc, .int .i64 tq] W fun e w' => e = .returned (.int .i64 ck) ∧ Below W.heap.size W w') ∧ ∀ W, AS wb WQ W → Calls Tryd.prog 87 #[.agg #[.slice B1 bn.length b1, .slice B2 be.length b2], .slice Y yl.length yc, .slice Zz zl.length zc, .int .i64 tq] W fun e w' => e = .returned (.int .i64 ck) ∧ Below W.heap.size W w') :=
        ⟨checkE bn be yl zl tq, Lib.hid ⟨fun W hW => icheck_any W (h1.below hW.bel) (ht1.below hW.bel) (fun _ => True) B1 B2 b1 b2 bn be (hW.net hnQ) (by omega) (by omega) Y yc yl (hW.sv syQ) (by omega) (fun _ => True) Zz zc zl (hW.sv sz) (by omega) tq, fun W hW => refCheck22_any W (fun _ => True) B1 B2 b1 b2 bn be (hW.net hnQ) (by omega) (by omega) Y yc yl (hW.sv syQ) (by omega) (fun _ => True) Zz zc zl (hW.sv sz) (by omega) tq⟩⟩
      clear u0
      go_wp2_with (fail)
      clear c0 y0 y1
      refine (HOu.out.1 V0 F0).mono ?_
      rintro e V3 ⟨V1, vc1, rfl, ho1, hb1⟩
      have S3 := S.below hb1
      have F3 := F0.below hb1
      have s1 := (OV.sv ho1).mono (T := Old wb V3) (fun g hl hg => ⟨by have := S.deck.lt; have hg : V0.heap.size ≤ g := hg; omega, hl⟩)
      have y0 := (F3.fr.cell hgqQ hgqb 0).trans Y0.out
      have y1 := (F3.fr.cell hgqQ hgqb 1).trans Y1.out
      have X3 := AS.start S3.deck S3.bel
      clear S F0 ho1 hb1
      go_wp2_with (fail)
      clear y0 y1
      refine (HOu.out.2 V3 F3).mono ?_
      rintro e WT ⟨V2, vc2, rfl, ho2, hb2⟩
      have ST1 := S3.below hb2
      have SQW := F3.below hb2
      have ST := AS.start ST1.deck ST1.bel
      have sv1 := (X3.below hb2).oldv22 s1
      have sv2 := (OV.sv ho2).mono (T := Old wb WT) (fun g hl hg => ⟨by have := X3.deck.lt; have hg : V3.heap.size ≤ g := hg; omega, hl⟩)
      have y0 := (SQW.fr.cell hgqQ hgqb 0).trans Y0.out
      have y1 := (SQW.fr.cell hgqQ hgqb 1).trans Y1.out
      have hgqW : gq < WT.heap.size := by have := SQW.size; omega
      clear S3 F3 s1 X3 ho2 hb2 HOu
      go_upto_region 30 with (fail)
      go_cut [198] (fun v wx => v = .bool false ∧ AS wb WT wx)
      case first =>
        refine wp_region_extG (by kernel_rfl) 22 [177, 178, 179, 180, 181, 182, 183, 184, 185, 186, 187, 188, 189, 190, 191, 192, 193, 194, 195, 196, 197, 198] [(180, false), (186, false)] [] (fun w' => AS wb WT w') (fun _ _ => True) (fun d vv w' => if d = 177 then vv = .int .i64 (oe) else if d = 178 then vv = .int .i64 (oe) else if d = 179 then vv = .bool false else if d = 180 then vv = .bool false else if d = 181 then vv = .slice V1 ol.length vc1 else if d = 182 then vv = .slice V2 ol.length vc2 else if d = 183 then vv = .bool true else if d = 184 then vv = .bool false else if d = 185 then vv = .bool false else if d = 186 then vv = .bool false else if d = 187 then vv = .agg #[.slice B1 bn.length b1, .slice B2 be.length b2] else if d = 188 then vv = .slice Y yl.length yc else if d = 189 then vv = .slice Zz zl.length zc else if d = 190 then vv = .int .i64 (tq) else if d = 191 then vv = .int .i64 (ck) else if d = 192 then vv = .agg #[.slice B1 bn.length b1, .slice B2 be.length b2] else if d = 193 then vv = .slice Y yl.length yc else if d = 194 then vv = .slice Zz zl.length zc else if d = 195 then vv = .int .i64 (tq) else if d = 196 then vv = .int .i64 (ck) else if d = 197 then vv = .bool false else if d = 198 then vv = .bool false else False) (by kernel_rfl) (by kernel_rfl) (by simp) (ST.drew) (fun _ => trivial) (by simp) (by simp) (fun _ _ _ _ _ _ h => h) ?_ ?_
        · intro i o d hi hwt ho hd f w1 hC hdep K hK
          have hi' : i = 0 ∨ i = 1 ∨ i = 2 ∨ i = 3 ∨ i = 4 ∨ i = 5 ∨ i = 6 ∨ i = 7 ∨ i = 8 ∨ i = 9 ∨ i = 10 ∨ i = 11 ∨ i = 12 ∨ i = 13 ∨ i = 14 ∨ i = 15 ∨ i = 16 ∨ i = 17 ∨ i = 18 ∨ i = 19 ∨ i = 20 ∨ i = 21 := by omega
          rcases hi' with rfl | rfl | rfl | rfl | rfl | rfl | rfl | rfl | rfl | rfl | rfl | rfl | rfl | rfl | rfl | rfl | rfl | rfl | rfl | rfl | rfl | rfl
          · simp only [List.getElem?_toArray, List.getElem?_cons_zero, Option.some.injEq] at ho
            clear hwt
            subst ho
            simp only [Option.some.injEq] at hd
            subst hd
            generalize hA : fr _ _ _ f = A at hK ⊢
            have e32 : A.tmps[32]?.getD undef = .int .i64 (oe) := by rw [← hA]; exact fr_out _ _ _ _ 32 _ (by decide) rfl
            clear hA hdep
            go_simp
            exact hK _ _ trivial hC rfl
          · simp only [List.getElem?_toArray, List.getElem?_cons_zero, List.getElem?_cons_succ, Option.some.injEq] at ho
            clear hwt
            subst ho
            simp only [Option.some.injEq] at hd
            subst hd
            generalize hA : fr _ _ _ f = A at hK ⊢
            have e34 : A.tmps[34]?.getD undef = .int .i64 (oe) := by rw [← hA]; exact fr_out _ _ _ _ 34 _ (by decide) rfl
            clear hA hdep
            go_simp
            exact hK _ _ trivial hC rfl
          · simp only [List.getElem?_toArray, List.getElem?_cons_zero, List.getElem?_cons_succ, Option.some.injEq] at ho
            clear hwt
            subst ho
            simp only [Option.some.injEq] at hd
            subst hd
            have h177 : f 177 = .int .i64 (oe) := hdep { on := 0, ground := .data } (by simp) rfl 177 rfl
            have h178 : f 178 = .int .i64 (oe) := hdep { on := 1, ground := .data } (by simp) rfl 178 rfl
            generalize hA : fr _ _ _ f = A at hK ⊢
            have e177 : A.tmps[177]?.getD undef = f 177 := by rw [← hA]; exact fr_in _ _ _ _ 177 (by decide) (by simp)
            have e178 : A.tmps[178]?.getD undef = f 178 := by rw [← hA]; exact fr_in _ _ _ _ 178 (by decide) (by simp)
            clear hA hdep
            rw [h177] at e177
            clear h177
            rw [h178] at e178
            clear h178
            go_simp
            exact hK _ _ trivial hC (by simp)
          · simp only [List.getElem?_toArray, List.getElem?_cons_zero, List.getElem?_cons_succ, Option.some.injEq] at ho
            clear hwt
            subst ho
            simp only [Option.some.injEq] at hd
            subst hd
            have h179 : f 179 = .bool false := hdep { on := 2, ground := .data } (by simp) rfl 179 rfl
            generalize hA : fr _ _ _ f = A at hK ⊢
            have e179 : A.tmps[179]?.getD undef = f 179 := by rw [← hA]; exact fr_in _ _ _ _ 179 (by decide) (by simp)
            clear hA hdep
            rw [h179] at e179
            clear h179
            go_simp
            exact hK _ _ trivial hC rfl
          · simp only [List.getElem?_toArray, List.getElem?_cons_zero, List.getElem?_cons_succ, Option.some.injEq] at ho
            clear hwt
            subst ho
            simp only [Option.some.injEq] at hd
            subst hd
            generalize hA : fr _ _ _ f = A at hK ⊢
            have e31 : A.tmps[31]?.getD undef = .slice V1 ol.length vc1 := by rw [← hA]; exact fr_out _ _ _ _ 31 _ (by decide) rfl
            clear hA hdep
            go_simp
            exact hK _ _ trivial hC rfl
          · simp only [List.getElem?_toArray, List.getElem?_cons_zero, List.getElem?_cons_succ, Option.some.injEq] at ho
            clear hwt
            subst ho
            simp only [Option.some.injEq] at hd
            subst hd
            generalize hA : fr _ _ _ f = A at hK ⊢
            have e33 : A.tmps[33]?.getD undef = .slice V2 ol.length vc2 := by rw [← hA]; exact fr_out _ _ _ _ 33 _ (by decide) rfl
            clear hA hdep
            go_simp
            exact hK _ _ trivial hC rfl
          · simp only [List.getElem?_toArray, List.getElem?_cons_zero, List.getElem?_cons_succ, Option.some.injEq] at ho
            clear hwt
            subst ho
            simp only [Option.some.injEq] at hd
            subst hd
            have h181 : f 181 = .slice V1 ol.length vc1 := hdep { on := 4, ground := .data } (by simp) rfl 181 rfl
            have h182 : f 182 = .slice V2 ol.length vc2 := hdep { on := 5, ground := .data } (by simp) rfl 182 rfl
            generalize hA : fr _ _ _ f = A at hK ⊢
            have e181 : A.tmps[181]?.getD undef = f 181 := by rw [← hA]; exact fr_in _ _ _ _ 181 (by decide) (by simp)
            have e182 : A.tmps[182]?.getD undef = f 182 := by rw [← hA]; exact fr_in _ _ _ _ 182 (by decide) (by simp)
            clear hA hdep
            rw [h181] at e181
            clear h181
            rw [h182] at e182
            clear h182
            go_simp
            refine (refSame22_any w1 _ _ V1 V2 vc1 vc2 ol (hC.sv sv1) (hC.sv sv2) (by omega)).mono ?_
            rintro e' w2 ⟨rfl, hb2⟩
            exact hK _ _ trivial (hC.below hb2) rfl
          · simp only [List.getElem?_toArray, List.getElem?_cons_zero, List.getElem?_cons_succ, Option.some.injEq] at ho
            clear hwt
            subst ho
            simp only [Option.some.injEq] at hd
            subst hd
            have h183 : f 183 = .bool true := hdep { on := 6, ground := .data } (by simp) rfl 183 rfl
            generalize hA : fr _ _ _ f = A at hK ⊢
            have e183 : A.tmps[183]?.getD undef = f 183 := by rw [← hA]; exact fr_in _ _ _ _ 183 (by decide) (by simp)
            clear hA hdep
            rw [h183] at e183
            clear h183
            go_simp
            exact hK _ _ trivial hC (by simp)
          · simp only [List.getElem?_toArray, List.getElem?_cons_zero, List.getElem?_cons_succ, Option.some.injEq] at ho
            clear hwt
            subst ho
            simp only [Option.some.injEq] at hd
            subst hd
            have h180 : f 180 = .bool false := hdep { on := 3, ground := .data } (by simp) rfl 180 rfl
            have h184 : f 184 = .bool false := hdep { on := 7, ground := .data } (by simp) rfl 184 rfl
            generalize hA : fr _ _ _ f = A at hK ⊢
            have e180 : A.tmps[180]?.getD undef = f 180 := by rw [← hA]; exact fr_in _ _ _ _ 180 (by decide) (by simp)
            have e184 : A.tmps[184]?.getD undef = f 184 := by rw [← hA]; exact fr_in _ _ _ _ 184 (by decide) (by simp)
            clear hA hdep
            rw [h180] at e180
            clear h180
            rw [h184] at e184
            clear h184
            go_simp
            exact hK _ _ trivial hC (by simp)
          · simp only [List.getElem?_toArray, List.getElem?_cons_zero, List.getElem?_cons_succ, Option.some.injEq] at ho
            clear hwt
            subst ho
            simp only [Option.some.injEq] at hd
            subst hd
            have h185 : f 185 = .bool false := hdep { on := 8, ground := .data } (by simp) rfl 185 rfl
            generalize hA : fr _ _ _ f = A at hK ⊢
            have e185 : A.tmps[185]?.getD undef = f 185 := by rw [← hA]; exact fr_in _ _ _ _ 185 (by decide) (by simp)
            clear hA hdep
            rw [h185] at e185
            clear h185
            go_simp
            exact hK _ _ trivial hC rfl
          · simp only [List.getElem?_toArray, List.getElem?_cons_zero, List.getElem?_cons_succ, Option.some.injEq] at ho
            clear hwt
            subst ho
            simp only [Option.some.injEq] at hd
            subst hd
            generalize hA : fr _ _ _ f = A at hK ⊢
            have e24 : A.tmps[24]?.getD undef = .pointer (some ⟨gq, 0, none⟩) := by rw [← hA]; exact fr_out _ _ _ _ 24 _ (by decide) rfl
            clear hA hdep
            have hcell0 := (hC.fr.cell hgqW hgqb 0).trans y0
            have hcell1 := (hC.fr.cell hgqW hgqb 1).trans y1
            go_simp
            exact hK _ _ trivial hC rfl
          · simp only [List.getElem?_toArray, List.getElem?_cons_zero, List.getElem?_cons_succ, Option.some.injEq] at ho
            clear hwt
            subst ho
            simp only [Option.some.injEq] at hd
            subst hd
            generalize hA : fr _ _ _ f = A at hK ⊢
            have e26 : A.tmps[26]?.getD undef = .slice Y yl.length yc := by rw [← hA]; exact fr_out _ _ _ _ 26 _ (by decide) rfl
            clear hA hdep
            go_simp
            exact hK _ _ trivial hC rfl
          · simp only [List.getElem?_toArray, List.getElem?_cons_zero, List.getElem?_cons_succ, Option.some.injEq] at ho
            clear hwt
            subst ho
            simp only [Option.some.injEq] at hd
            subst hd
            generalize hA : fr _ _ _ f = A at hK ⊢
            have e28 : A.tmps[28]?.getD undef = .slice Zz zl.length zc := by rw [← hA]; exact fr_out _ _ _ _ 28 _ (by decide) rfl
            clear hA hdep
            go_simp
            exact hK _ _ trivial hC rfl
          · simp only [List.getElem?_toArray, List.getElem?_cons_zero, List.getElem?_cons_succ, Option.some.injEq] at ho
            clear hwt
            subst ho
            simp only [Option.some.injEq] at hd
            subst hd
            generalize hA : fr _ _ _ f = A at hK ⊢
            have e30 : A.tmps[30]?.getD undef = .int .i64 (tq) := by rw [← hA]; exact fr_out _ _ _ _ 30 _ (by decide) rfl
            clear hA hdep
            go_simp
            exact hK _ _ trivial hC rfl
          · simp only [List.getElem?_toArray, List.getElem?_cons_zero, List.getElem?_cons_succ, Option.some.injEq] at ho
            clear hwt
            subst ho
            simp only [Option.some.injEq] at hd
            subst hd
            have h187 : f 187 = .agg #[.slice B1 bn.length b1, .slice B2 be.length b2] := hdep { on := 10, ground := .data } (by simp) rfl 187 rfl
            have h188 : f 188 = .slice Y yl.length yc := hdep { on := 11, ground := .data } (by simp) rfl 188 rfl
            have h189 : f 189 = .slice Zz zl.length zc := hdep { on := 12, ground := .data } (by simp) rfl 189 rfl
            have h190 : f 190 = .int .i64 (tq) := hdep { on := 13, ground := .data } (by simp) rfl 190 rfl
            generalize hA : fr _ _ _ f = A at hK ⊢
            have e187 : A.tmps[187]?.getD undef = f 187 := by rw [← hA]; exact fr_in _ _ _ _ 187 (by decide) (by simp)
            have e188 : A.tmps[188]?.getD undef = f 188 := by rw [← hA]; exact fr_in _ _ _ _ 188 (by decide) (by simp)
            have e189 : A.tmps[189]?.getD undef = f 189 := by rw [← hA]; exact fr_in _ _ _ _ 189 (by decide) (by simp)
            have e190 : A.tmps[190]?.getD undef = f 190 := by rw [← hA]; exact fr_in _ _ _ _ 190 (by decide) (by simp)
            clear hA hdep
            rw [h187] at e187
            clear h187
            rw [h188] at e188
            clear h188
            rw [h189] at e189
            clear h189
            rw [h190] at e190
            clear h190
            go_simp
            refine (HCk.out.1 w1 (SQW.more hC)).mono ?_
            rintro e' w2 ⟨rfl, hb2⟩
            exact hK _ _ trivial (hC.below hb2) rfl
          · simp only [List.getElem?_toArray, List.getElem?_cons_zero, List.getElem?_cons_succ, Option.some.injEq] at ho
            clear hwt
            subst ho
            simp only [Option.some.injEq] at hd
            subst hd
            generalize hA : fr _ _ _ f = A at hK ⊢
            have e24 : A.tmps[24]?.getD undef = .pointer (some ⟨gq, 0, none⟩) := by rw [← hA]; exact fr_out _ _ _ _ 24 _ (by decide) rfl
            clear hA hdep
            have hcell0 := (hC.fr.cell hgqW hgqb 0).trans y0
            have hcell1 := (hC.fr.cell hgqW hgqb 1).trans y1
            go_simp
            exact hK _ _ trivial hC rfl
          · simp only [List.getElem?_toArray, List.getElem?_cons_zero, List.getElem?_cons_succ, Option.some.injEq] at ho
            clear hwt
            subst ho
            simp only [Option.some.injEq] at hd
            subst hd
            generalize hA : fr _ _ _ f = A at hK ⊢
            have e26 : A.tmps[26]?.getD undef = .slice Y yl.length yc := by rw [← hA]; exact fr_out _ _ _ _ 26 _ (by decide) rfl
            clear hA hdep
            go_simp
            exact hK _ _ trivial hC rfl
          · simp only [List.getElem?_toArray, List.getElem?_cons_zero, List.getElem?_cons_succ, Option.some.injEq] at ho
            clear hwt
            subst ho
            simp only [Option.some.injEq] at hd
            subst hd
            generalize hA : fr _ _ _ f = A at hK ⊢
            have e28 : A.tmps[28]?.getD undef = .slice Zz zl.length zc := by rw [← hA]; exact fr_out _ _ _ _ 28 _ (by decide) rfl
            clear hA hdep
            go_simp
            exact hK _ _ trivial hC rfl
          · simp only [List.getElem?_toArray, List.getElem?_cons_zero, List.getElem?_cons_succ, Option.some.injEq] at ho
            clear hwt
            subst ho
            simp only [Option.some.injEq] at hd
            subst hd
            generalize hA : fr _ _ _ f = A at hK ⊢
            have e30 : A.tmps[30]?.getD undef = .int .i64 (tq) := by rw [← hA]; exact fr_out _ _ _ _ 30 _ (by decide) rfl
            clear hA hdep
            go_simp
            exact hK _ _ trivial hC rfl
          · simp only [List.getElem?_toArray, List.getElem?_cons_zero, List.getElem?_cons_succ, Option.some.injEq] at ho
            clear hwt
            subst ho
            simp only [Option.some.injEq] at hd
            subst hd
            have h192 : f 192 = .agg #[.slice B1 bn.length b1, .slice B2 be.length b2] := hdep { on := 15, ground := .data } (by simp) rfl 192 rfl
            have h193 : f 193 = .slice Y yl.length yc := hdep { on := 16, ground := .data } (by simp) rfl 193 rfl
            have h194 : f 194 = .slice Zz zl.length zc := hdep { on := 17, ground := .data } (by simp) rfl 194 rfl
            have h195 : f 195 = .int .i64 (tq) := hdep { on := 18, ground := .data } (by simp) rfl 195 rfl
            generalize hA : fr _ _ _ f = A at hK ⊢
            have e192 : A.tmps[192]?.getD undef = f 192 := by rw [← hA]; exact fr_in _ _ _ _ 192 (by decide) (by simp)
            have e193 : A.tmps[193]?.getD undef = f 193 := by rw [← hA]; exact fr_in _ _ _ _ 193 (by decide) (by simp)
            have e194 : A.tmps[194]?.getD undef = f 194 := by rw [← hA]; exact fr_in _ _ _ _ 194 (by decide) (by simp)
            have e195 : A.tmps[195]?.getD undef = f 195 := by rw [← hA]; exact fr_in _ _ _ _ 195 (by decide) (by simp)
            clear hA hdep
            rw [h192] at e192
            clear h192
            rw [h193] at e193
            clear h193
            rw [h194] at e194
            clear h194
            rw [h195] at e195
            clear h195
            go_simp
            refine (HCk.out.2 w1 (SQW.more hC)).mono ?_
            rintro e' w2 ⟨rfl, hb2⟩
            exact hK _ _ trivial (hC.below hb2) rfl
          · simp only [List.getElem?_toArray, List.getElem?_cons_zero, List.getElem?_cons_succ, Option.some.injEq] at ho
            clear hwt
            subst ho
            simp only [Option.some.injEq] at hd
            subst hd
            have h191 : f 191 = .int .i64 (ck) := hdep { on := 14, ground := .data } (by simp) rfl 191 rfl
            have h196 : f 196 = .int .i64 (ck) := hdep { on := 19, ground := .data } (by simp) rfl 196 rfl
            generalize hA : fr _ _ _ f = A at hK ⊢
            have e191 : A.tmps[191]?.getD undef = f 191 := by rw [← hA]; exact fr_in _ _ _ _ 191 (by decide) (by simp)
            have e196 : A.tmps[196]?.getD undef = f 196 := by rw [← hA]; exact fr_in _ _ _ _ 196 (by decide) (by simp)
            clear hA hdep
            rw [h191] at e191
            clear h191
            rw [h196] at e196
            clear h196
            go_simp
            exact hK _ _ trivial hC (by simp)
          · simp only [List.getElem?_toArray, List.getElem?_cons_zero, List.getElem?_cons_succ, Option.some.injEq] at ho
            clear hwt
            subst ho
            simp only [Option.some.injEq] at hd
            subst hd
            have h186 : f 186 = .bool false := hdep { on := 9, ground := .data } (by simp) rfl 186 rfl
            have h197 : f 197 = .bool false := hdep { on := 20, ground := .data } (by simp) rfl 197 rfl
            generalize hA : fr _ _ _ f = A at hK ⊢
            have e186 : A.tmps[186]?.getD undef = f 186 := by rw [← hA]; exact fr_in _ _ _ _ 186 (by decide) (by simp)
            have e197 : A.tmps[197]?.getD undef = f 197 := by rw [← hA]; exact fr_in _ _ _ _ 197 (by decide) (by simp)
            clear hA hdep
            rw [h186] at e186
            clear h186
            rw [h197] at e197
            clear h197
            go_simp
            exact hK _ _ trivial hC (by simp)
        · intro f w1 hC hall
          have q0 : f 198 = .bool false := hall 21 198 (by decide) rfl
          have Q0 := Lib.hid q0
          clear hall q0
          simp only [fr, upd, List.mapIdx_cons, List.mapIdx_nil]
          simp
          go_wp2_with fail
          go_meet
          case rel => exact ⟨Q0.out, hC⟩
      case rest =>
        obtain ⟨Wv, rfl⟩ : ∃ x, x = wc := ⟨_, rfl⟩
        obtain ⟨rfl, Sv⟩ := hcut
        have F2 := ST1.more Sv
        clear ST1 Sv ST SQW sv1 sv2 y0 y1 HCk
        go_wp2_with (fail)
        go_roundg (gkj - 1)
        case measure => have := Hj.out; omega
        case rel => exact ⟨j + 1, by have := Hj.out; omega, by go_num, F2⟩
    · obtain ⟨Ze, rfl⟩ : ∃ x, x = wr := ⟨_, rfl⟩
      have SE := SR1.more S
      clear Hj S Hno hgrb hgrl SR1
      go_wp2_with (fail)
      refine (next_any Ze wb.heap.size SE.deck 30 (by decide)).mono ?_
      rintro e Zf ⟨r2, rfl, hr2, hq2, hdx, hgx, hq3⟩
      have hr2 := hr2 (by decide)
      have SF := SE.next hgx hdx
      have hwr2 : IntKind.i64.wrap ((r2 : Int) - 1) = (r2 : Int) - 1 := IntWalk.i64_in _ (by omega)
      clear hdx hgx SE hq2 hq3
      obtain ⟨WU, hWU⟩ : ∃ x, x = Zf.alloc (.cells #[.int .i64 time, .int .i64 ((r2 : Int) - 1)] 3) := ⟨_, rfl⟩
      have hrowU : WU.heap[Zf.heap.size]? = some (.cells #[.int .i64 time, .int .i64 ((r2 : Int) - 1)] 3 (0, 0)) := by rw [hWU]; exact heap_alloc_new Zf _
      have SU1 : AS wb WQ WU := by rw [hWU]; exact SF.below ((Below.refl _ _).alloc (Nat.le_refl _) _)
      have SU := AS.start SU1.deck SU1.bel
      have hgub : Zf.heap.size ≠ wb.heap.size := by have := SF.deck.lt; omega
      have hgul : Zf.heap.size < WU.heap.size := (Array.getElem?_eq_some_iff.1 hrowU).1
      have HWU := Lib.hid hWU
      obtain ⟨gt, hgt⟩ : ∃ x, x = Zf.heap.size := ⟨_, rfl⟩
      rw [← hgt] at hrowU hgub hgul
      have Hgt := Lib.hid hgt
      have Hnu : Hid (∀ j, j < 2 → ∃ q : Int, WU.cell? ⟨gt, j, none⟩ = some (.int .i64 q)) := Lib.hid (by
        intro j hj
        have hj2 : j = 0 ∨ j = 1 := by omega
        rcases hj2 with rfl | rfl
        · exact ⟨time, by rw [cell_of_row WU _ _ _ _ _ hrowU]; rfl⟩
        · exact ⟨(r2 : Int) - 1, by rw [cell_of_row WU _ _ _ _ _ hrowU]; rfl⟩)
      clear hWU hgt SF hrowU
      go_wp2_with (fail)
      rw [← HWU.out, ← Hgt.out]
      clear HWU Hgt hwr2
      go_loopg [206] 2 (fun g i wr => ∃ j : Nat, j + g = 2 ∧ i = .int .i64 j ∧ AS wb WU wr)
      case atStart => exact ⟨0, rfl, rfl, SU⟩
      case round =>
        clear SU
        obtain ⟨j, hj, rfl, S⟩ := hrel
        have Hj := Lib.hid hj
        clear hj
        obtain ⟨gkj, rfl⟩ : ∃ x : Nat, x = gk := ⟨_, rfl⟩
        by_cases hltj : j < 2
        · obtain ⟨tq, u0⟩ := Hnu.out j hltj
          have c0 := (S.fr.cell hgul hgub j).trans u0
          obtain ⟨V0, rfl⟩ : ∃ x, x = wr := ⟨_, rfl⟩
          have F0 := SU1.more S
          have y0 := (F0.fr.cell hgqQ hgqb 0).trans Y0.out
          have y1 := (F0.fr.cell hgqQ hgqb 1).trans Y1.out
          obtain ⟨pl, pe, HAt, hpl⟩ : ∃ (pl : List Int) (pe : Int), Hid ((∀ W, AS wb WQ W → Calls Tryd.prog 88 #[.agg #[.slice B1 bn.length b1, .slice B2 be.length b2], .slice Y yl.length yc, .slice Zz zl.length zc, .int .i64 tq] W fun e w' => ∃ A c, e = .returned (.tuple #[.slice A pl.length c, .int .i64 pe]) ∧ OI w' (fun g => W.heap.size ≤ g) A c pl ∧ Below W.heap.size W w') ∧ ∀ W, AS wb WQ W → Calls Tryd.prog 89 #[.agg #[.slice B1 bn.length b1, .slice B2 be.length b2], .slice Y yl.length yc, .slice Zz zl.length zc, .int .i64 tq] W fun e w' => ∃ A c, e = .returned (.tuple #[.slice A pl.length c, .int .i64 pe]) ∧ OI w' (fun g => W.heap.size ≤ g) A c pl ∧ Below W.heap.size W w') ∧ pl.length ≤ 200 :=
            ⟨(atE bn be yl zl tq).1, (atE bn be yl zl tq).2, Lib.hid ⟨fun W hW => At_any W (h1.below hW.bel) (ht1.below hW.bel) (fun _ => True) B1 B2 b1 b2 bn be (hW.net hnQ) (by omega) (by omega) Y yc yl (hW.sv syQ) (by omega) (fun _ => True) Zz zc zl (hW.sv sz) (by omega) tq, fun W hW => refAt22_any W (fun _ => True) B1 B2 b1 b2 bn be (hW.net hnQ) (by omega) (by omega) Y yc yl (hW.sv syQ) (by omega) (fun _ => True) Zz zc zl (hW.sv sz) (by omega) hzw tq⟩, by have := atE_len22 bn be yl zl tq; omega⟩
          clear u0
          go_wp2_with (fail)
          clear c0 y0 y1
          refine (HAt.out.1 V0 F0).mono ?_
          rintro e V3 ⟨V1, vc1, rfl, ho1, hb1⟩
          have S3 := S.below hb1
          have F3 := F0.below hb1
          have s1 := (OV.sv ho1).mono (T := fun _ => True) (fun _ _ _ => trivial)
          have y0 := (F3.fr.cell hgqQ hgqb 0).trans Y0.out
          have y1 := (F3.fr.cell hgqQ hgqb 1).trans Y1.out
          clear S F0 ho1 hb1
          go_wp2_with (fail)
          clear y0 y1
          refine (HAt.out.2 V3 F3).mono ?_
          rintro e V4 ⟨V2, vc2, rfl, ho2, hb2⟩
          have S4 := S3.below hb2
          have s1 := s1.keep (Kept.of_below hb2)
          have s2 := (OV.sv ho2).mono (T := fun _ => True) (fun _ _ _ => trivial)
          clear S3 F3 ho2 hb2 HAt
          have HIn := Lib.hid ((ints_b V4 _ _ V1 V2 vc1 vc2 pl pl s1 s2 (by omega) (by omega)).mono (fun e w' h => (⟨by rw [h.1, decide_eq_true rfl], h.2⟩ : e = .returned (.bool true) ∧ Below V4.heap.size V4 w')))
          go_wp2_with (fail)
          refine HIn.out.mono ?_
          rintro e V5 ⟨rfl, hb3⟩
          have S5 := S4.below hb3
          have F2 := SU1.more S5
          clear S4 hb3 s1 s2 HIn
          go_wp2_with (fail)
          go_roundg (gkj - 1)
          case measure => have := Hj.out; omega
          case rel => exact ⟨j + 1, by have := Hj.out; omega, by go_num, S5⟩
        · obtain ⟨Zg, rfl⟩ : ∃ x, x = wr := ⟨_, rfl⟩
          have SG := SU1.more S
          clear Hj S Hnu
          go_wp2_with (fail)
          go_roundg (gk3 - 1)
          case measure => have := Hi3.out; omega
          case rel => exact ⟨i3 + 1, by have := Hi3.out; omega, by go_num, SG⟩

theorem interAnswers_ok (w : World) (h : TabC w) (ht : Tab w) (A : Option Addr) (c : Nat) (xs : List Int) (hs : SI w (fun _ => True) A xs) (Aa : Option Addr) (ca : Nat) (la : List Int) (hsa : SI w (fun _ => True) Aa la)
    (R1 R2 : Option Addr) (d1 d2 : Nat) (rn : List Node) (rd : List Dev) (hr : NetIn w (fun _ => True) R1 R2 rn rd) (hr1 : rn.length ≤ maxLen) (hr2 : rd.length ≤ maxLen) (Ac : Option Addr) (cc : Nat) (chs : List Chg) (hsc : SV w (fun _ => True) Ac (recV chgV chs)) (hwc : ∀ x ∈ chs, x.t ≤ 9223372036854775807) (Ao : Option Addr) (co : Nat) (ous : List Out) (hso : SV w (fun _ => True) Ao (recV outV ous)) (til time lim : Int) (hf : xs.length ≤ 400) (h100 : la.length ≤ 100) (hli : lightB rn rd = true) (hc60 : chs.length ≤ 60) (ho60 : ous.length ≤ 60) :
    Calls Tryd.prog 7 #[.slice A xs.length c, .slice Aa la.length ca, .agg #[.slice R1 rn.length d1, .slice R2 rd.length d2], .slice Ac chs.length cc, .slice Ao ous.length co, .int .i64 til, .int .i64 time, .int .i64 lim] w (RetT w) :=
  (interRed w h ht A c xs hs Aa ca la hsa R1 R2 d1 d2 rn rd hr hr1 hr2 Ac cc chs hsc hwc Ao co ous hso til time lim hf h100 hli hc60 ho60).2 (Lib.hid ((interRedB w h ht A c xs hs Aa ca la hsa R1 R2 d1 d2 rn rd hr hr1 hr2 Ac cc chs hsc hwc Ao co ous hso til time lim hf h100 hli hc60 ho60).2 (Lib.hid (interRed_ok w h ht A c xs hs Aa ca la hsa R1 R2 d1 d2 rn rd hr hr1 hr2 Ac cc chs hsc hwc Ao co ous hso til time lim hf h100 hli hc60 ho60))))
end Go.Proofs.YtgpcojmdfmngeaaDoor

/-
  The law InterruptionParts, walked.
-/
import Derived.Test.YthegcofmnpkhmaaDoorL22p
namespace Go.Proofs.YthegcofmnpkhmaaDoor
open Go.RowKit
set_option maxHeartbeats 400000
set_option maxRecDepth 100000

theorem chg_cellsB (w : World) (b : Nat) (hb : b = w.heap.size) (x : Chg) : ∀ j u, (chgV x)[j]? = some u → (w.alloc (.cells (chgV x).toArray 91)).cell? ⟨b, j, none⟩ = some u := by subst hb; exact chg_cells w x
/-- lists of changes of the law's own, in blocks from B on, one beside the other -/
theorem SV.ne {w : World} {S : Nat → Prop} {A X : Option Addr} {vs : List Value} (h : SV w S X vs) (hn : ∀ g, S g → some g ≠ blockOf A) : SV w (fun g => some g ≠ blockOf A) X vs := h.mono (fun g _ hg => hn g hg)

theorem OV.other {w w' : World} {S : Nat → Prop} {e : TypeId} {size n c : Nat} {A B : Option Addr} {xs : List Value} (h : OV w S e size B n c xs) (hg : w.grownBy w' (blockOf A)) (hne : ∀ g, blockOf A = some g → blockOf B ≠ some g) : OV w' S e size B n c xs :=
  OV.keep1 h (fun k hk => hg.block k (OV.block h k hk).2 (fun e => hne k e.symm hk))
theorem apart_push {w : World} {S : Nat → Prop} {e : TypeId} {size n c : Nat} {A A' B : Option Addr} {xs : List Value} (h : OV w S e size B n c xs) (hne : ∀ g, blockOf A = some g → blockOf B ≠ some g) (ha : blockOf A' = blockOf A ∨ blockOf A' = some w.heap.size) : ∀ g, blockOf A' = some g → blockOf B ≠ some g := by
  intro g hg hB
  rcases ha with e | e
  · exact hne g (by rw [← e]; exact hg) hB
  · have := (OV.block h g hB).2
    rw [e] at hg
    injection hg with hg
    omega
theorem apart_symm {A B : Option Addr} (h : ∀ g, blockOf A = some g → blockOf B ≠ some g) : ∀ g, blockOf B = some g → blockOf A ≠ some g := fun g hB hA => h g hA hB

set_option maxHeartbeats 8000000 in
theorem interruptionParts_row (w : World) (h : TabC w) (ht : Tab w) (A : Option Addr) (c : Nat) (xs : List Int) (hs : SI w (fun _ => True) A xs) (cut : Nat) (hcu : cut < 256) :
    Calls Tryd.prog 8 #[.slice A xs.length c, .int .u8 cut] w (RetT w) := by
  by_cases hf : xs.length ≤ 400
  · have hfd : decide ((xs.length : Int) ≤ 400) = true := decide_eq_true (by omega)
    go_enter Tryd.func8, Tryd.ntmps8
    go_wp2_with (fail)
    refine (few_any w A xs.length c).mono ?_
    rw [hfd]
    rintro e w' ⟨rfl, rfl⟩
    go_wp2_with (fail)
    refine (new_any w _ A c xs hs hf).mono ?_
    rintro e w1 ⟨rfl, hd1, hb1, hz1⟩
    have Hz1 := Lib.hid hz1
    clear hz1
    go_wp2_with (fail)
    refine (network_any w1 w.heap.size hd1 5 8 (by decide) (by decide) (by decide) (by decide)).mono ?_
    rintro e w2 ⟨A1, c1, A2, c2, ns, ds, rfl, ho1, ho2, hd2, hg2, hgood⟩
    have L := LS.start hd1 hb1 Hz1.out ho1 ho2 hd2 hg2 hgood
    have hc0 := good_check hgood (by decide) (by decide)
    have Hc0 := Lib.hid hc0
    have hnl : ns.length ≤ 5 := hgood.most
    have hdl : ds.length ≤ 8 := hgood.few
    have hd1' : 1 ≤ ds.length := hgood.one
    obtain ⟨W, hW⟩ : ∃ W, W = w2.alloc (.cells #[.slice A1 ns.length c1, .slice A2 ds.length c2] 26) := ⟨_, rfl⟩
    rw [← hW] at L
    have HW := Lib.hid hW
    have n0 := L.n0
    have n1 := L.n1
    rw [hW] at n0 n1
    clear hd1 hb1 Hz1 ho1 ho2 hd2 hg2 hc0 hW hgood
    go_wp2_with (fail)
    rw [← HW.out]
    refine (state_any W w.heap.size L.deck A1 ns.length c1 A2 c2 ds _ (fun b hb => by have := hb.1; omega) L.net.devs (by omega)).mono ?_
    rintro e w3 ⟨As, cs, st, rfl, hstl, hst, ho3, hd3, hf3⟩
    have L3 := L.state hf3 hd3
    have hWs := hf3.size
    have hM := L.top
    have Hstl := Lib.hid hstl
    have Hst := Lib.hid hst
    have sS : SI w3 (fun g => w2.heap.size < g) As st := (OI.si ho3).mono (fun g hl hg => by have hg : W.heap.size ≤ g := hg; show w2.heap.size < g; omega)
    clear n0 n1 L hf3 hd3 hstl hst HW ho3
    obtain ⟨gn, hgn⟩ : ∃ x, x = w2.heap.size := ⟨_, rfl⟩
    rw [← hgn] at L3 sS hM ⊢
    clear hgn hM hWs W w2 w1
    have hC3 : LT w w3 (gn + 1) gn A1 c1 ns A2 c2 ds As st := ⟨L3, sS⟩
    clear L3 sS
    have n0 := hC3.1.n0
    have n1 := hC3.1.n1
    go_wp2_with (fail)
    refine (mkChanges_any w3 w.heap.size hC3.1.deck A1 ns.length c1 A2 c2 ds.length hd1' (by omega) 8 (by decide)).mono ?_
    rintro e w4 ⟨Ac, cc, zs, rfl, hzl, hzo, hoz, hd4, hf4⟩
    have hC4 := hC3.fr hf4 hd4
    have sZ : SV w4 (fun g => g < w4.heap.size) Ac (recV chgV zs) := (OV.sv hoz).mono (fun g hl _ => hl)
    have hC4 : LT w w4 (gn + 1) gn A1 c1 ns A2 c2 ds As st := hC4
    have Hzo := Lib.hid hzo
    clear n0 n1 hC3 hf4 hd4 hoz hzo
    obtain ⟨an, han⟩ : ∃ x : Nat, x = 1 + cut % 38 := ⟨_, rfl⟩
    have ha1 : 1 ≤ an := by omega
    have ha2 : an ≤ 38 := by omega
    have hcz := hC4.1.top
    obtain ⟨z4, hz4⟩ : ∃ x, x = w4.heap.size := ⟨_, rfl⟩
    have hz4' : z4 ≤ w4.heap.size := by omega
    have hz4'' : w4.heap.size ≤ z4 := by omega
    have Hb4 := Lib.hid (Below.refl z4 w4)
    rw [← hz4] at sZ
    clear hz4
    go_wp2_with (fail)
    rw [show (1 + (cut : Int) % 38) = (an : Int) by omega]
    clear han hcu
    go_loopg [10, 11, 48] zs.length (fun g vb va i wr => ∃ (j : Nat) (A5 : Option Addr) (c5 : Nat) (bs : List Chg) (A6 : Option Addr) (c6 : Nat) (fs : List Chg), j + g = zs.length ∧ i = .int .i64 j ∧ bs = befL an (zs.take j) ∧ fs = aftL an (zs.take j) ∧ vb = .slice A5 bs.length c5 ∧ va = .slice A6 fs.length c6 ∧ OC wr (fun g => z4 ≤ g) A5 c5 bs ∧ OC wr (fun g => z4 ≤ g) A6 c6 fs ∧ (∀ g, blockOf A5 = some g → blockOf A6 ≠ some g) ∧ Below z4 w4 wr ∧ z4 ≤ wr.heap.size)
    case atStart => exact ⟨0, none, 0, [], none, 0, [], by omega, rfl, rfl, rfl, rfl, rfl, OV.nil _ _ _ _, OV.nil _ _ _ _, fun g hg => by simp [blockOf] at hg, Hb4.out, hz4'⟩
    case round =>
      obtain ⟨j, A5, c5, bs, A6, c6, fs, hj, rfl, hbs, has, rfl, rfl, o5, o6, hap, hB, hzr⟩ := hrel
      have Hj := Lib.hid hj
      have hbl : bs.length ≤ 8 := by rw [hbs]; have := befL_len an (zs.take j); rw [List.length_take] at this; omega
      have hal : fs.length ≤ 8 := by rw [has]; have := aftL_len an (zs.take j); rw [List.length_take] at this; omega
      have Hbs := Lib.hid hbs
      have Has := Lib.hid has
      clear hj hbs has
      by_cases hlt : j < zs.length
      · obtain ⟨b, off, rfl, _, _, hc⟩ := (sZ.keep ⟨hB.size, fun g hg _ => hB.block g hg⟩).rec chgV_len (by decide) hlt
        have q0 := hc 0 _ rfl
        have q1 := hc 1 _ rfl
        have q2 := hc 2 _ rfl
        simp only [Nat.add_zero] at q0
        have hsb := befL_snoc an (zs.take j) zs[j]
        have hsa := aftL_snoc an (zs.take j) zs[j]
        rw [← List.take_succ_eq_append_getElem hlt] at hsb hsa
        have hzt := Hzo.out.1 zs[j] (List.getElem_mem hlt)
        clear hc
        generalize zs[j] = z at *
        obtain ⟨zt, zd, zp⟩ := z
        simp only at hsb hsa hzt q0 q1 q2
        have hwz : IntKind.i64.wrap (zt - an) = zt - an := IntWalk.i64_in _ (by omega)
        by_cases hta : zt < an
        · have htd : decide (zt < (an : Int)) = true := decide_eq_true hta
          rw [if_pos hta] at hsb hsa
          have Hsb := Lib.hid hsb
          have Hsa := Lib.hid (show aftL an (zs.take (j + 1)) = aftL an (zs.take j) by rw [hsa, List.append_nil])
          clear hsb hsa hzt
          have oP := OV.keep (OV.keep o5 (Kept.alloc _ wr (.cells #[.int .i64 zt, .int .i64 zd, .int .i64 zp] 91))) (Kept.alloc _ _ (.cells (chgV (⟨zt, zd, zp⟩ : Chg)).toArray 91))
          have oQ := OV.keep (OV.keep o6 (Kept.alloc _ wr (.cells #[.int .i64 zt, .int .i64 zd, .int .i64 zp] 91))) (Kept.alloc _ _ (.cells (chgV (⟨zt, zd, zp⟩ : Chg)).toArray 91))
          have hza : z4 ≤ (wr.alloc (.cells #[.int .i64 zt, .int .i64 zd, .int .i64 zp] 91)).heap.size := by simp; omega
          have hbn := (hB.alloc hzr (.cells #[.int .i64 zt, .int .i64 zd, .int .i64 zp] 91)).alloc hza (.cells (chgV (⟨zt, zd, zp⟩ : Chg)).toArray 91)
          go_wp2_with (at_builtin; go_must (refine wpList_pushRec chgV_len (by decide) (B := z4) 76 91 _ 24 Tryd.underlying76 chgInfo rfl (by decide) rfl (.tmp 56) (.tmp 58) rfl (xs := bs) (⟨zt, zd, zp⟩ : Chg) (chgV_one _) rfl rfl rfl oP (chg_cellsB _ _ (by simp) _) (by omega) (by simp; omega) ?_); intro A7 c7 w7 ho7 hb7 hg7 ha7)
          go_roundg (gk - 1)
          case measure => have := Hj.out; omega
          case rel => exact ⟨j + 1, A7, c7, bs ++ [(⟨zt, zd, zp⟩ : Chg)], A6, c6, fs, by have := Hj.out; omega, by go_num, by rw [Hbs.out, Hsb.out], by rw [Has.out, Hsa.out], by simp, rfl, ho7, OV.other oQ hg7 hap, apart_push oQ hap ha7, hbn.trans hb7, by have := hb7.size; simp at this; omega⟩
        · have htd : decide (zt < (an : Int)) = false := decide_eq_false hta
          rw [if_neg hta] at hsb hsa
          have Hsa := Lib.hid hsa
          have Hsb := Lib.hid (show befL an (zs.take (j + 1)) = befL an (zs.take j) by rw [hsb, List.append_nil])
          clear hsb hsa hzt
          have oP := OV.keep (OV.keep o6 (Kept.alloc _ wr (.cells #[.int .i64 zt, .int .i64 zd, .int .i64 zp] 91))) (Kept.alloc _ _ (.cells (chgV (⟨zt - an, zd, zp⟩ : Chg)).toArray 91))
          have oQ := OV.keep (OV.keep o5 (Kept.alloc _ wr (.cells #[.int .i64 zt, .int .i64 zd, .int .i64 zp] 91))) (Kept.alloc _ _ (.cells (chgV (⟨zt - an, zd, zp⟩ : Chg)).toArray 91))
          have hza : z4 ≤ (wr.alloc (.cells #[.int .i64 zt, .int .i64 zd, .int .i64 zp] 91)).heap.size := by simp; omega
          have hbn := (hB.alloc hzr (.cells #[.int .i64 zt, .int .i64 zd, .int .i64 zp] 91)).alloc hza (.cells (chgV (⟨zt - an, zd, zp⟩ : Chg)).toArray 91)
          go_wp2_with (at_builtin; go_must (refine wpList_pushRec chgV_len (by decide) (B := z4) 76 91 _ 24 Tryd.underlying76 chgInfo rfl (by decide) rfl (.tmp 60) (.tmp 70) rfl (xs := fs) (⟨zt - an, zd, zp⟩ : Chg) (chgV_one _) rfl rfl rfl oP (chg_cellsB _ _ (by simp) _) (by omega) (by simp; omega) ?_); intro A7 c7 w7 ho7 hb7 hg7 ha7)
          go_roundg (gk - 1)
          case measure => have := Hj.out; omega
          case rel => exact ⟨j + 1, A5, c5, bs, A7, c7, fs ++ [(⟨zt - an, zd, zp⟩ : Chg)], by have := Hj.out; omega, by go_num, by rw [Hbs.out, Hsb.out], by rw [Has.out, Hsa.out]; rfl, rfl, by simp, OV.other oQ hg7 (apart_symm hap), ho7, apart_symm (apart_push oQ (apart_symm hap) ha7), hbn.trans hb7, by have := hb7.size; simp at this; omega⟩
      · rw [List.take_of_length_le (by omega)] at Hbs Has
        have hC := hC4.bl (hB.mono (by omega))
        have sB := (OV.sv o5).mono (T := fun _ => True) (fun _ _ _ => trivial)
        have sF := (OV.sv o6).mono (T := fun _ => True) (fun _ _ _ => trivial)
        have sZ := (sZ.keep ⟨hB.size, fun g hg _ => hB.block g hg⟩).mono (T := fun _ => True) (fun _ _ _ => trivial)
        obtain ⟨W0, rfl⟩ : ∃ x, x = wr := ⟨_, rfl⟩
        have hmask := mask_ok Hc0.out Hstl.out Hst.out
        have hokb : OkC ds.length (an - 1) bs := by rw [Hbs.out]; exact befL_ok Hzo.out
        have hokf : OkC ds.length (23 - an) fs := by rw [Has.out]; exact aftL_ok (hi := 23) Hzo.out
        have Hokb := Lib.hid hokb
        have Hokf := Lib.hid hokf
        have HAt := At_ok W0 (h.below hC.1.bel) (ht.below hC.1.bel) (fun _ => True) A1 A2 c1 c2 ns ds (hC.1.net.mono (fun _ _ _ => trivial)) (by omega) (by omega) As cs st (hC.2.mono (fun _ _ _ => trivial)) hmask _ A5 c5 bs sB (okC_changes hokb (by omega) (by omega)) an
        have hlen := putC_len an bs st
        have hpos := putC_pos an bs st (fun x hx => (Hokb.out.1 x hx).2.2.2.2) Hst.out
        obtain ⟨tt, htt⟩ : ∃ tt, tt = putC an st bs := ⟨_, rfl⟩
        rw [← htt] at HAt hlen hpos
        have Htl := Lib.hid (show tt.length = ds.length by rw [hlen]; exact Hstl.out)
        have Htp := Lib.hid hpos
        have Htt := Lib.hid htt
        have HAt := Lib.hid HAt
        have n0 := hC.1.n0
        have n1 := hC.1.n1
        clear hokb hokf hmask hlen hpos htt o5 o6 hap hB hzr Hb4 hz4' hz4'' hC4 Hj
        go_wp2_with (fail)
        refine HAt.out.mono ?_
        rintro e wa ⟨At, ct, rfl, oT, hba⟩
        have hC := hC.bl hba
        have sB := sB.keep (Kept.of_below hba)
        have sF := sF.keep (Kept.of_below hba)
        have sZ := sZ.keep (Kept.of_below hba)
        have sT := (OI.si oT).mono (T := fun _ => True) (fun _ _ _ => trivial)
        clear HAt n0 n1 oT hba
        have n0 := hC.1.n0
        have n1 := hC.1.n1
        have HA := Outages_any wa (h.below hC.1.bel) (ht.below hC.1.bel) (fun _ => True) A1 A2 c1 c2 ns ds (hC.1.net.mono (fun _ _ _ => trivial)) (by omega) (by omega) As cs st (hC.2.mono (fun _ _ _ => trivial)) (by have := Hstl.out; omega) _ Ac cc zs sZ (by omega) 40
        rw [good_outages Hc0.out Hstl.out Hst.out Hzo.out (by decide) (by decide) (by decide) (by omega)] at HA
        have HA := Lib.hid HA
        go_wp2_with (fail)
        refine HA.out.mono ?_
        rintro e wb ⟨Aa, ca, rfl, oA, hbb⟩
        have hC := hC.bl hbb
        have sB := sB.keep (Kept.of_below hbb)
        have sF := sF.keep (Kept.of_below hbb)
        have sT := sT.keep (Kept.of_below hbb)
        have sA := (OV.sv oA).mono (T := fun _ => True) (fun _ _ _ => trivial)
        clear HA n0 n1 oA hbb sZ
        have n0 := hC.1.n0
        have n1 := hC.1.n1
        have HB := Outages_any wb (h.below hC.1.bel) (ht.below hC.1.bel) (fun _ => True) A1 A2 c1 c2 ns ds (hC.1.net.mono (fun _ _ _ => trivial)) (by omega) (by omega) As cs st (hC.2.mono (fun _ _ _ => trivial)) (by have := Hstl.out; omega) _ A5 c5 bs sB (by omega) an
        rw [good_outages Hc0.out Hstl.out Hst.out Hokb.out (by omega) (by omega) (by omega) (by omega), Int.toNat_natCast] at HB
        have HB := Lib.hid HB
        go_wp2_with (fail)
        refine HB.out.mono ?_
        rintro e wd ⟨Ab, cb, rfl, oB, hbd⟩
        have hC := hC.bl hbd
        have sF := sF.keep (Kept.of_below hbd)
        have sT := sT.keep (Kept.of_below hbd)
        have sA := sA.keep (Kept.of_below hbd)
        have sB := (OV.sv oB).mono (T := fun _ => True) (fun _ _ _ => trivial)
        clear HB n0 n1 oB hbd
        have n0 := hC.1.n0
        have n1 := hC.1.n1
        have hw4 : IntKind.i64.wrap (40 - (an : Int)) = 40 - (an : Int) := IntWalk.i64_in _ (by omega)
        have HF := Outages_any wd (h.below hC.1.bel) (ht.below hC.1.bel) (fun _ => True) A1 A2 c1 c2 ns ds (hC.1.net.mono (fun _ _ _ => trivial)) (by omega) (by omega) At ct tt sT (by have := Htl.out; omega) _ A6 c6 fs sF (by omega) (40 - an)
        rw [good_outages Hc0.out Htl.out Htp.out Hokf.out (by omega) (by omega) (by omega) (by omega), show ((40 : Int) - (an : Int)).toNat = 40 - an by omega] at HF
        have HF := Lib.hid HF
        go_wp2_with (fail)
        refine HF.out.mono ?_
        rintro e we ⟨Af, cf, rfl, oF, hbe⟩
        have hC := hC.bl hbe
        have sA := sA.keep (Kept.of_below hbe)
        have sB := sB.keep (Kept.of_below hbe)
        have sF := (OV.sv oF).mono (T := fun _ => True) (fun _ _ _ => trivial)
        clear HF n0 n1 oF hbe sT hw4
        have hsum := parts_sum ns ds st zs Hzo.out.2 an 40 (by omega)
        rw [← Hbs.out, ← Has.out, ← Htt.out] at hsum
        have hcust := checkL_cust Hc0.out
        have ka := outL_ok (F := supF ns ds st zs) (til := 40) hcust
        have kb := outL_ok (F := supF ns ds st bs) (til := an) hcust
        have kf := outL_ok (F := supF ns ds tt fs) (til := 40 - an) hcust
        have la := Nat.le_trans (outL_few ns (supF ns ds st zs) 40) (Nat.mul_le_mul hnl (show 40 + 1 ≤ 41 by omega))
        have lb := Nat.le_trans (outL_few ns (supF ns ds st bs) an) (Nat.mul_le_mul hnl (show an + 1 ≤ 41 by omega))
        have lf := Nat.le_trans (outL_few ns (supF ns ds tt fs) (40 - an)) (Nat.mul_le_mul hnl (show 40 - an + 1 ≤ 41 by omega))
        simp only [show ((40 : Int)).toNat = 40 from rfl] at *
        generalize outL ns (supF ns ds st zs) 40 = la' at *
        generalize outL ns (supF ns ds st bs) an = lb' at *
        generalize outL ns (supF ns ds tt fs) (40 - an) = lf' at *
        have ea := outsE_ok ka (by decide) (by omega)
        have eb := outsE_ok kb (by omega) (by omega)
        have ef := outsE_ok kf (by omega) (by omega)
        have ba := minL_bound (fun o ho => (ka o ho).mono (by decide))
        have bb := minL_bound (fun o ho => (kb o ho).mono (by omega))
        have bf := minL_bound (fun o ho => (kf o ho).mono (by omega))
        have HMa := Minutes_any we _ Aa ca la' sA (by omega)
        rw [minutesE_ok ea] at HMa
        have HMa := Lib.hid HMa
        have Eb := Lib.hid eb
        have Ef := Lib.hid ef
        clear ka kb kf ea eb ef hcust
        go_wp2_with (fail)
        refine HMa.out.mono ?_
        rintro e wf ⟨rfl, hbf⟩
        have hC := hC.bl hbf
        have sB := sB.keep (Kept.of_below hbf)
        have sF := sF.keep (Kept.of_below hbf)
        have HMb := Minutes_any wf _ Ab cb lb' sB (by omega)
        rw [minutesE_ok Eb.out] at HMb
        have HMb := Lib.hid HMb
        clear HMa hbf sA
        go_wp2_with (fail)
        refine HMb.out.mono ?_
        rintro e wg ⟨rfl, hbg⟩
        have hC := hC.bl hbg
        have sF := sF.keep (Kept.of_below hbg)
        have HMf := Minutes_any wg _ Af cf lf' sF (by omega)
        rw [minutesE_ok Ef.out] at HMf
        have HMf := Lib.hid HMf
        clear HMb hbg sB
        go_wp2_with (fail)
        refine HMf.out.mono ?_
        rintro e wh ⟨rfl, hbh⟩
        have hC := hC.bl hbh
        clear HMf hbh sF
        generalize minL la' = xa at *
        generalize minL lb' = xb at *
        generalize minL lf' = xf at *
        have hwx : IntKind.i64.wrap (xb + xf) = xb + xf := IntWalk.i64_in _ (by omega)
        have heq : (xa == xb + xf) = true := by simp [hsum]
        clear hsum
        have HAW := Lib.hid (awake22 wh (h.below hC.1.bel) (ht.below hC.1.bel))
        go_wp2_with (fail)
        refine HAW.out.mono ?_
        rintro e w8 ⟨rfl, hb8⟩
        go_wp2_with (fail)
        go_ret
        exact ⟨rfl, hC.1.bel.trans (hb8.mono hC.1.bel.size)⟩
  · have hfd : decide ((xs.length : Int) ≤ 400) = false := decide_eq_false (by omega)
    go_enter Tryd.func8, Tryd.ntmps8
    go_wp2_with (fail)
    refine (few_any w A xs.length c).mono ?_
    rw [hfd]
    rintro e w' ⟨rfl, rfl⟩
    go_wp2_with (fail)
    refine (awake22 w h ht).mono ?_
    rintro e w8 ⟨rfl, hb8⟩
    go_wp2_with (fail)
    go_ret
    exact ⟨rfl, hb8⟩
theorem interruptionParts_rowI (w : World) (h : TabC w) (ht : Tab w) (A : Option Addr) (c : Nat) (xs : List Int) (hs : SI w (fun _ => True) A xs) (a : Int) (ha : (Lit.int .u8 a).wf = true) :
    Calls Tryd.prog 8 #[.slice A xs.length c, .int .u8 a] w (RetT w) := by
  have hb : 0 ≤ a ∧ a ≤ 255 := by simp [Lit.wf, IntKind.min, IntKind.max, IntKind.signed, IntKind.bits] at ha; exact ha
  obtain ⟨n, rfl⟩ := Int.eq_ofNat_of_zero_le hb.1
  exact interruptionParts_row w h ht A c xs hs n (by omega)
end Go.Proofs.YthegcofmnpkhmaaDoor

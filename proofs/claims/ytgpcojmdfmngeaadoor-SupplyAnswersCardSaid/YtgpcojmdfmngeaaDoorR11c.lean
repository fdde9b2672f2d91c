/-
  Walks of the reference's less and Way (supply).
-/
import Derived.Test.YtgpcojmdfmngeaaDoorR11b
import Derived.Test.YtgpcojmdfmngeaaDoorPBst
import Derived.Test.YtgpcojmdfmngeaaDoorRWay
import Derived.Test.YtgpcojmdfmngeaaDoorNar
import Derived.Test.YtgpcojmdfmngeaaDoorGk
import Derived.BigQuiet
namespace Go.Proofs.YtgpcojmdfmngeaaDoor
open Go.RowKit
set_option maxHeartbeats 400000
set_option maxRecDepth 100000

theorem lessL_drop {xs ys : List Nat} {k : Nat} (h1 : k < xs.length) (h2 : k < ys.length) : lessL (xs.drop k) (ys.drop k) = if xs[k] = ys[k] then lessL (xs.drop (k + 1)) (ys.drop (k + 1)) else decide (xs[k] < ys[k]) := by
  rw [List.drop_eq_getElem_cons h1, List.drop_eq_getElem_cons h2]; rfl
theorem nats_get {xs : List Nat} {k : Nat} (h : k < xs.length) : (nats xs)[k]'(by rw [nats_len]; exact h) = (xs[k] : Int) := by simp [nats]

set_option maxHeartbeats 2000000 in
theorem refLess_any (w : World) (S T : Nat → Prop) (A B : Option Addr) (c d : Nat) (xs ys : List Nat) (hs : SI w S A (nats xs)) (ht : SI w T B (nats ys)) (hl : xs.length ≤ 65537) (he : xs.length = ys.length) :
    Calls Tryd.prog 155 #[.slice A xs.length c, .slice B ys.length d] w fun e w' => e = .returned (.bool (lessL xs ys)) ∧ Below w.heap.size w w' := by
  have h0 := Lib.hid (show lessL xs ys = lessL (xs.drop 0) (ys.drop 0) from rfl)
  have he := Lib.hid he
  go_enter Tryd.func155, Tryd.ntmps155
  go_wp2_with (fail)
  go_loopg [5] xs.length (fun g i wr => ∃ k : Nat, k + g = xs.length ∧ i = .int .i64 k ∧ Hid (lessL xs ys = lessL (xs.drop k) (ys.drop k)) ∧ Below w.heap.size w wr)
  case atStart => exact ⟨0, by omega, rfl, h0, Below.refl _ _⟩
  case round =>
    clear h0
    obtain ⟨k, hk, rfl, HI, hb⟩ := hrel
    have Hk := Lib.hid hk
    clear hk
    by_cases hlt : k < xs.length
    · have hlt2 : k < ys.length := by have := he.out; omega
      obtain ⟨b1, f1, rfl, _, hl1, q⟩ := (hs.keep (Kept.of_below hb)).at_ (k := k) (by rw [nats_len]; exact hlt)
      obtain ⟨b2, f2, rfl, _, hl2, r⟩ := (ht.keep (Kept.of_below hb)).at_ (k := k) (by rw [nats_len]; exact hlt2)
      rw [nats_get hlt] at q
      rw [nats_get hlt2] at r
      have hd := lessL_drop hlt hlt2
      generalize xs[k] = x at *
      generalize ys[k] = y at *
      by_cases hxy : x = y
      · subst hxy
        rw [if_pos rfl] at hd
        have Hd := Lib.hid hd
        have hne : ((x : Int) != (x : Int)) = false := by simp
        clear hd
        go_wp2_with (go_quiet (fail))
        go_roundg (gk - 1)
        case measure => have := Hk.out; omega
        case rel => exact ⟨k + 1, by have := Hk.out; omega, by go_num, Lib.hid (by rw [HI.out, Hd.out]), hb.trans (below_drewN _ _ nq)⟩
      · rw [if_neg hxy] at hd
        have hne : ((x : Int) != (y : Int)) = true := by simp; omega
        have Hd := Lib.hid hd
        clear hd
        go_wp2_with (go_quiet (fail))
        go_ret
        rw [HI.out, Hd.out]
        exact ⟨rfl, hb.trans ((below_drewN _ _ _).trans (below_drewN _ _ _))⟩
    · have hlt2 : ¬ k < ys.length := by have := he.out; omega
      have HL := Lib.hid (show lessL (xs.drop k) (ys.drop k) = false by rw [List.drop_of_length_le (by omega)]; rfl)
      go_wp2_with (fail)
      go_ret
      rw [HI.out, HL.out]
      exact ⟨rfl, hb⟩

theorem wayC_at (ns : List Node) {ds : List Dev} {st : List Int} (v : Int) {k : Nat} (h : k < ds.length) (h2 : k < st.length) : wayC ns ds st v k = if srcB ds[k] st[k] = true then (if (wayL ns ds (useOf st) v ds[k].a).2.1 = true then some ((wayL ns ds (useOf st) v ds[k].a).1 ++ [k]) else none) else none := by
  unfold wayC
  rw [List.getElem?_eq_getElem h]
  simp only
  rw [at_get h2]
theorem bestZ_skip {f : Nat → Option (List Nat)} {k : Nat} (h : f k = none) : bestZ f (k + 1) = bestZ f k := by rw [bestZ, h]
theorem bestZ_take {f : Nat → Option (List Nat)} {k : Nat} {c : List Nat} (h : f k = some c) : bestZ f (k + 1) = bestStep (bestZ f k) c := by rw [bestZ, h]

set_option maxHeartbeats 8000000 in
theorem refSWay_any (w : World) (S : Nat → Prop) (A1 A2 : Option Addr) (c1 c2 : Nat) (ns : List Node) (ds : List Dev) (hn : NetIn w S A1 A2 ns ds) (hl1 : ns.length ≤ 65536) (hl2 : ds.length ≤ 65536)
    (U : Option Addr) (cu : Nat) (st : List Int) (hs : SI w S U st) (hsl : st.length ≤ 65536) (v : Int) :
    Calls Tryd.prog 104 #[.agg #[.slice A1 ns.length c1, .slice A2 ds.length c2], .slice U st.length cu, .int .i64 v] w (RetWay w (rwayE ns ds st v)) := by
  have hb := (Below.refl w.heap.size w).alloc (Nat.le_refl _) (.cells #[.slice A1 ns.length c1, .slice A2 ds.length c2] 26)
  have HC := Lib.hid (refState_any _ S A1 A2 c1 c2 ns ds (hn.below hb) hl1 hl2 U cu st (hs.keep (Kept.of_below hb)) hsl)
  have HE := Lib.hid (show rwayE ns ds st v = if maskC isPos ns ds st ≠ 0 then ([], false, maskC isPos ns ds st) else if existsB ns.length v = false then ([], false, 7) else match bestZ (wayC ns ds st v) ds.length with | some l => (l, true, 0) | none => ([], false, 0) from rfl)
  have HZ := Lib.hid (@maskC_zero isPos ns ds st)
  have HW := Lib.hid (fun (k : Nat) (h : k < ds.length) (h2 : k < st.length) => wayC_at ns v h h2)
  have Hb0 := Lib.hid (show bestZ (wayC ns ds st v) 0 = none from rfl)
  generalize maskC isPos ns ds st = ce at *
  by_cases h0 : (ce != 0) = true
  · have H0 := Lib.hid (show ¬ ce = 0 by simpa using h0)
    go_enter Tryd.func104, Tryd.ntmps104
    go_wp2_with (fail)
    refine (HC.out).mono ?_
    rintro e w1 ⟨rfl, hb1⟩
    go_wp2_with (fail)
    go_ret3
    rw [HE.out, if_pos H0.out]
    exact ⟨none, 0, rfl, OI.nil _ _, hb.trans (hb1.mono hb.size)⟩
  · have h0' : (ce != 0) = false := by simpa using h0
    have hz : ce = 0 := by simpa using h0
    rw [if_neg (by simpa using hz)] at HE
    have HE := Lib.hid HE.out
    have Hlen := Lib.hid (HZ.out hz).2.1
    clear h0 hz HZ
    go_enter Tryd.func104, Tryd.ntmps104
    go_wp2_with (fail)
    refine (HC.out).mono ?_
    rintro e w1 ⟨rfl, hb1⟩
    have hbA := hb.trans (hb1.mono hb.size)
    have hbox := box_at hb1
    have n0 : w1.cell? ⟨w.heap.size, 0, none⟩ = some (.slice A1 ns.length c1) := by rw [cell_of_row w1 _ 0 _ _ _ hbox]; rfl
    by_cases hv0 : v < 0
    · rw [if_pos (existsB_neg hv0)] at HE
      have hvd : decide (v < 0) = true := decide_eq_true hv0
      clear hbox
      go_wp2_with (fail)
      go_ret3
      rw [HE.out]
      exact ⟨none, 0, rfl, OI.nil _ _, hbA⟩
    have hvd : decide (v < 0) = false := decide_eq_false hv0
    by_cases hvb : (ns.length : Int) ≤ v
    · rw [if_pos (existsB_big hvb)] at HE
      clear hbox
      go_wp2_with (fail)
      go_ret3
      rw [HE.out]
      exact ⟨none, 0, rfl, OI.nil _ _, hbA⟩
    rw [if_neg (by unfold existsB; simp; omega)] at HE
    generalize hFF : wayC ns ds st v = FF at *
    obtain ⟨w2, hmk, ho2, hb2, hz2⟩ := make_bools w1 st.length (by omega)
    have hw1 : w.heap.size < w1.heap.size := World.block_lt_of_cell? _ _ n0
    have hbB := hbA.trans (hb2.mono hbA.size)
    have hbox1 := hbox
    have o0 : OB w2 w1.heap.size st.length (filled (useOf st) false 0) := by rw [filled_zero, useOf_len]; exact ho2
    have hn1 := hn.below hbA
    have hs1 := hs.keep (Kept.of_below hbA)
    clear hn hs hb HC hbox hFF ho2 hbB
    go_wp2_with (fail)
    clear hmk n0 hvd
    obtain ⟨gu, hgu⟩ : ∃ x, x = w1.heap.size := ⟨_, rfl⟩
    have hgul : gu < w2.heap.size := by omega
    have hgug : w.heap.size < gu := by omega
    have hgu0 : w1.heap.size ≤ gu := by omega
    rw [← hgu] at o0 ⊢
    clear hgu hz2
    go_loopg [11] st.length (fun g i wr => ∃ k : Nat, k + g = st.length ∧ i = .int .i64 k ∧ OB wr gu st.length (filled (useOf st) false k) ∧ Below w1.heap.size w1 wr ∧ w2.heap.size ≤ wr.heap.size)
    case atStart => exact ⟨0, by omega, rfl, o0, hb2, Nat.le_refl _⟩
    case round =>
      clear o0
      obtain ⟨k, hk, rfl, oU, hB, hzr⟩ := hrel
      have Hk := Lib.hid hk
      clear hk
      by_cases hlt : k < st.length
      · have hku : k < (useOf st).length := by rw [useOf_len]; exact hlt
        obtain ⟨bs, os, rfl, _, hblt, hcs0⟩ := hs1.at_ hlt
        have hcs := (hB.cell (p := ⟨bs, os + k, none⟩) hblt).trans hcs0
        obtain ⟨u1, u2, _⟩ := oU.at_ (k := k) (by rw [filled_len _ _ _ (by omega)]; exact hku)
        have Hfs := Lib.hid (show (filled (useOf st) false k).set k (st[k] == 2) = filled (useOf st) false (k + 1) by rw [← filled_step _ _ k hku, useOf_get st k hlt])
        generalize st[k] = sm at *
        have oU1 := oU.set k (sm == 2)
        rw [Hfs.out] at oU1
        go_wp2_with (fail)
        go_roundg (gk - 1)
        case measure => have := Hk.out; omega
        case rel => exact ⟨k + 1, by have := Hk.out; omega, by go_num, oU1, hB.setCell (p := ⟨gu, k, none⟩) (by show w1.heap.size ≤ gu; omega) _, by simp [World.setCell]; omega⟩
      · rw [filled_all _ _ _ (by rw [useOf_len]; omega)] at oU
        have n1 : wr.cell? ⟨w.heap.size, 1, none⟩ = some (.slice A2 ds.length c2) := by rw [cell_of_row wr _ 1 _ _ _ ((hB.block _ hw1).trans hbox1)]; rfl
        have hbC := hbA.trans (hB.mono hbA.size)
        have hgur : gu < wr.heap.size := by omega
        obtain ⟨wu, rfl⟩ : ∃ x : World, x = wr := ⟨_, rfl⟩
        clear Hk
        go_wp2_with (fail)
        go_loopg [12, 13, 14] ds.length (fun g vb vf i wr => ∃ (k : Nat) (A' : Option Addr) (c' : Nat) (bo : List Nat) (fb : Bool), k + g = ds.length ∧ i = .int .i64 k ∧ vb = .slice A' bo.length c' ∧ vf = .bool fb ∧ bestZ FF k = (if fb = true then some bo else none) ∧ (fb = false → bo = []) ∧ bo.length ≤ 65537 ∧ OI wr (fun g => wu.heap.size ≤ g) A' c' (nats bo) ∧ Below wu.heap.size wu wr)
        case atStart => exact ⟨0, none, 0, [], false, by omega, rfl, rfl, rfl, Hb0.out, fun _ => rfl, by simp, OI.nil _ _, Below.refl _ _⟩
        case round =>
          obtain ⟨k, A', c', bo, fb, hk, rfl, rfl, rfl, hbz, hbn, hol, oB, hB2⟩ := hrel
          have Hbn := Lib.hid hbn
          have Hk := Lib.hid hk
          have Hbz := Lib.hid hbz
          clear hk hbz hbn n1
          have hBw := hB.trans (hB2.mono hB.size)
          have n1 : wr.cell? ⟨w.heap.size, 1, none⟩ = some (.slice A2 ds.length c2) := by rw [cell_of_row wr _ 1 _ _ _ ((hBw.block _ hw1).trans hbox1)]; rfl
          by_cases hlt : k < ds.length
          · have hks : k < st.length := by have := Hlen.out; omega
            have hwc := HW.out k hlt hks
            obtain ⟨b', off, rfl, _, _, q0, q1, q2, q3, q4⟩ := (hn1.below hBw).dev hlt
            obtain ⟨bs, os, rfl, _, hblt, hcs0⟩ := hs1.at_ hks
            have hcs1 := (hBw.cell (p := ⟨bs, os + k, none⟩) hblt).trans hcs0
            have hwl := wayL_len ns ds (useOf st) v ds[k].a
            generalize ds[k] = dv at *
            generalize st[k] = sm at *
            obtain ⟨wo, rfl⟩ : ∃ x : World, x = wr := ⟨_, rfl⟩
            obtain ⟨wi, hwi⟩ : ∃ x, x = wo.alloc (.cells #[.string dv.name, .int .i64 dv.kind, .int .i64 dv.a, .int .i64 dv.b, .int .i64 dv.comp] 78) := ⟨_, rfl⟩
            have box := heap_alloc_new wo (.cells #[.string dv.name, .int .i64 dv.kind, .int .i64 dv.a, .int .i64 dv.b, .int .i64 dv.comp] 78)
            rw [← hwi] at box
            have hBi : Below wu.heap.size wu wi := by rw [hwi]; exact hB2.alloc hB2.size _
            have hBiw := hB.trans (hBi.mono hB.size)
            have oBi : OI wi (fun g => wu.heap.size ≤ g) A' c' (nats bo) := by rw [hwi]; exact oB.keep (Kept.alloc _ _ _)
            have x1 : wi.cell? ⟨wo.heap.size, 1, none⟩ = some (.int .i64 dv.kind) := by rw [cell_of_row wi _ 1 _ _ _ box]; rfl
            have x2 : wi.cell? ⟨wo.heap.size, 2, none⟩ = some (.int .i64 dv.a) := by rw [cell_of_row wi _ 2 _ _ _ box]; rfl
            have hcs : wi.cell? ⟨bs, os + k, none⟩ = some (.int .i64 sm) := (hBiw.cell (p := ⟨bs, os + k, none⟩) hblt).trans hcs0
            have m0 : wi.cell? ⟨w.heap.size, 0, none⟩ = some (.slice A1 ns.length c1) := by rw [cell_of_row wi _ 0 _ _ _ ((hBiw.block _ hw1).trans hbox1)]; rfl
            have m1 : wi.cell? ⟨w.heap.size, 1, none⟩ = some (.slice (some ⟨b', off, none⟩) ds.length c2) := by rw [cell_of_row wi _ 1 _ _ _ ((hBiw.block _ hw1).trans hbox1)]; rfl
            have HWy := Lib.hid (refWay_any wi (fun _ => True) A1 (some ⟨b', off, none⟩) c1 c2 ns ds ((hn1.below hBiw).mono (fun _ _ _ => trivial)) hl1 hl2 (some ⟨gu, 0, none⟩) st.length (useOf st) (((OV.sv oU).mono (T := fun _ => True) (fun _ _ _ => trivial)).keep (Kept.of_below hBi)) (by rw [useOf_len]; omega) v dv.a)
            rw [useOf_len] at HWy
            generalize wayL ns ds (useOf st) v dv.a = wy at *
            obtain ⟨wl, wok, we⟩ := wy
            simp only at hwc hwl
            have Hwi := Lib.hid hwi
            have hzi : wi.heap.size = wo.heap.size + 1 := by rw [hwi]; simp
            have hsB : srcB dv sm = ((sm == 2) && ((dv.kind == 5) || (dv.kind == 6))) := rfl
            obtain ⟨gko, rfl⟩ : ∃ x : Nat, x = gk := ⟨_, rfl⟩
            have hBz := hBi.size
            clear hwi box hcs1 hB2 hBw oB
            go_upto_region 17 with (fail)
            rw [← Hwi.out]
            by_cases hp : (sm != 2) = true
            · have hwn : Hid (FF k = none) := Lib.hid (by rw [hwc, hsB, show (sm == 2) = false by simpa using hp]; rfl)
              clear hwc
              go_wp2_with (fail)
              go_roundg (gko - 1)
              case measure => have := Hk.out; omega
              case rel => exact ⟨k + 1, A', c', bo, fb, by have := Hk.out; omega, by go_num, rfl, rfl, by rw [bestZ_skip hwn.out, Hbz.out], Hbn.out, hol, oBi, hBi⟩
            have hp : (sm != 2) = false := by simpa using hp
            by_cases h56 : (dv.kind != 5) = true ∧ (dv.kind != 6) = true
            · obtain ⟨h5, h6⟩ := h56
              have hwn : Hid (FF k = none) := Lib.hid (by rw [hwc, hsB, show (dv.kind == 5) = false by simpa using h5, show (dv.kind == 6) = false by simpa using h6]; simp)
              clear hwc
              go_wp2_with (fail)
              go_roundg (gko - 1)
              case measure => have := Hk.out; omega
              case rel => exact ⟨k + 1, A', c', bo, fb, by have := Hk.out; omega, by go_num, rfl, rfl, by rw [bestZ_skip hwn.out, Hbz.out], Hbn.out, hol, oBi, hBi⟩
            have hsT : srcB dv sm = true := by
              rw [hsB, show (sm == 2) = true by simpa using hp]
              by_cases h5 : dv.kind = 5
              · simp [h5]
              · by_cases h6 : dv.kind = 6
                · simp [h6]
                · exact absurd ⟨by simpa using h5, by simpa using h6⟩ h56
            rw [if_pos hsT] at hwc
            have hkd : (dv.kind != 5) = false ∨ (dv.kind != 5) = true ∧ (dv.kind != 6) = false := by
              by_cases h5 : (dv.kind != 5) = true
              · exact .inr ⟨h5, by cases h6 : (dv.kind != 6) with | false => rfl | true => exact absurd ⟨h5, h6⟩ h56⟩
              · exact .inl (by simpa using h5)
            clear h56 hsT hsB
            go_cut [15, 77] (fun v15 v77 wx => v15 = .pointer (some ⟨wo.heap.size, 0, none⟩) ∧ v77 = .bool false ∧ wx = wi)
            case first =>
              rcases hkd with h5 | ⟨h5, h6⟩
              · go_wp2_with (fail)
                go_meet
                case rel => exact ⟨rfl, rfl, rfl⟩
              · go_wp2_with (fail)
                go_meet
                case rel => exact ⟨rfl, rfl, rfl⟩
            case rest =>
              obtain ⟨rfl, rfl, rfl⟩ := hcut
              clear hcs q0 q1 q2 q3 q4 x1 n1
              go_wp2_with (fail)
              refine HWy.out.mono ?_
              clear HWy m0 m1 x2 Hwi hcs0
              rintro e wv ⟨Aw, cw, rfl, oW, hbv⟩
              have hnl := nats_len wl
              have hBv := hBi.trans (hbv.mono hBz)
              have oBv := oBi.keep (Kept.of_below hbv)
              have hzv := hbv.size
              cases wok
              · have hwn : Hid (FF k = none) := Lib.hid (by rw [hwc, if_neg (by decide)])
                clear hwc
                go_wp2_with (fail)
                go_roundg (gko - 1)
                case measure => have := Hk.out; omega
                case rel => exact ⟨k + 1, A', c', bo, fb, by have := Hk.out; omega, by go_num, rfl, rfl, by rw [bestZ_skip hwn.out, Hbz.out], Hbn.out, hol, oBv, hBv⟩
              · obtain ⟨m, hm⟩ : ∃ m, m = wl ++ [k] := ⟨_, rfl⟩
                rw [← hm, if_pos rfl] at hwc
                have Hwn := Lib.hid (bestZ_take hwc)
                have Hml := Lib.hid (show m.length = wl.length + 1 by rw [hm]; simp)
                have hml2 : m.length ≤ 65537 := by have := Hml.out; omega
                have Hnm := Lib.hid (show nats m = nats wl ++ [(k : Int)] by rw [hm]; simp [nats])
                have oP := OI.keep oW (Kept.alloc _ wv (.cells #[.int .i64 (k : Int)] 3))
                clear hwc hm oW
                have HWx : Hid (wl.length ≤ 65536) := Lib.hid hwl
                have oP : OI (wv.alloc (.cells #[.int .i64 (k : Int)] 3)) (fun g => wc.heap.size ≤ g) Aw cw (nats wl) := oP
                go_upto_region 21 with (at_builtin; go_must (refine wpList_push (B := wc.heap.size) rfl (.tmp 90) (.tmp 92) rfl (xs := nats wl) (y := (k : Int)) rfl rfl hnl.symm oP (new_cell wv _ _) (by rw [hnl]; omega) (by simp; omega) ?_); intro A5 c5 w5 ho5 hb5 _ _; rw [hnl, ← Hml.out])
                clear oP hnl
                rw [← Hnm.out] at ho5
                have hbq := ((Below.refl wc.heap.size wv).alloc hzv (.cells #[.int .i64 (k : Int)] 3)).trans hb5
                have hBq := hBv.trans (hbq.mono hBz)
                have oBw := oBi.keep (Kept.of_below (hbv.trans hbq))
                clear hbq oBv oBi hbv
                cases fb
                · have hwn : Hid (bestZ FF (k + 1) = some m) := Lib.hid (by rw [Hwn.out, Hbz.out]; rfl)
                  go_wp2_with (fail)
                  go_roundg (gko - 1)
                  case measure => have := Hk.out; omega
                  case rel => exact ⟨k + 1, A5, c5, m, true, by have := Hk.out; omega, by go_num, rfl, rfl, hwn.out, (fun h => by cases h), by omega, ho5.mono (fun g _ hg => by have hg : wc.heap.size ≤ g := hg; show wu.heap.size ≤ g; omega), hBq⟩
                · have hwn := Hwn.out
                  rw [Hbz.out, if_pos rfl] at hwn
                  by_cases hlt3 : m.length < bo.length
                  · have d1 : decide (m.length < bo.length) = true := decide_eq_true hlt3
                    have hwn2 : Hid (bestZ FF (k + 1) = some m) := Lib.hid (by rw [hwn]; show (if betterL m bo = true then some m else some bo) = some m; rw [if_pos (by unfold betterL; rw [d1]; rfl)])
                    clear hwn
                    go_wp2_with (fail)
                    go_roundg (gko - 1)
                    case measure => have := Hk.out; omega
                    case rel => exact ⟨k + 1, A5, c5, m, true, by have := Hk.out; omega, by go_num, rfl, rfl, hwn2.out, (fun h => by cases h), by omega, ho5.mono (fun g _ hg => by have hg : wc.heap.size ≤ g := hg; show wu.heap.size ≤ g; omega), hBq⟩
                  have d1 : decide (m.length < bo.length) = false := decide_eq_false hlt3
                  clear hlt3
                  by_cases heq3 : m.length = bo.length
                  · have d2 : (m.length == bo.length) = true := by simpa using heq3
                    have HL := Lib.hid (refLess_any w5 _ _ A5 A' c5 c' m bo (OI.si ho5) (OI.si oBw) (by omega) heq3)
                    have hbt : betterL m bo = lessL m bo := by unfold betterL; rw [d1, d2]; rfl
                    have d3 : ((m.length : Int) == (bo.length : Int)) = true := by simp; omega
                    clear heq3 d2
                    generalize lessL m bo = lb at *
                    cases lb
                    · have hwn2 : Hid (bestZ FF (k + 1) = some bo) := Lib.hid (by rw [hwn]; show (if betterL m bo = true then some m else some bo) = some bo; rw [if_neg (by rw [hbt]; decide)])
                      clear hwn hbt Hwn
                      go_wp2_with (fail)
                      refine HL.out.mono ?_
                      rintro e w6 ⟨rfl, hb6⟩
                      go_wp2_with (fail)
                      go_roundg (gko - 1)
                      case measure => have := Hk.out; omega
                      case rel => exact ⟨k + 1, A', c', bo, true, by have := Hk.out; omega, by go_num, rfl, rfl, hwn2.out, (fun h => by cases h), hol, oBw.keep (Kept.of_below hb6), hBq.trans (hb6.mono hBq.size)⟩
                    · have hwn2 : Hid (bestZ FF (k + 1) = some m) := Lib.hid (by rw [hwn]; show (if betterL m bo = true then some m else some bo) = some m; rw [if_pos hbt])
                      clear hwn hbt Hwn
                      go_wp2_with (fail)
                      refine HL.out.mono ?_
                      rintro e w6 ⟨rfl, hb6⟩
                      go_wp2_with (fail)
                      go_roundg (gko - 1)
                      case measure => have := Hk.out; omega
                      case rel => exact ⟨k + 1, A5, c5, m, true, by have := Hk.out; omega, by go_num, rfl, rfl, hwn2.out, (fun h => by cases h), by omega, (ho5.keep (Kept.of_below hb6)).mono (fun g _ hg => by have hg : wc.heap.size ≤ g := hg; show wu.heap.size ≤ g; omega), hBq.trans (hb6.mono hBq.size)⟩
                  · have d2 : (m.length == bo.length) = false := by simpa using heq3
                    have hwn2 : Hid (bestZ FF (k + 1) = some bo) := Lib.hid (by rw [hwn]; show (if betterL m bo = true then some m else some bo) = some bo; rw [if_neg (by unfold betterL; rw [d1, d2]; simp)])
                    have d3 : ((m.length : Int) == (bo.length : Int)) = false := by simp; omega
                    clear hwn heq3 d2
                    go_wp2_with (fail)
                    go_roundg (gko - 1)
                    case measure => have := Hk.out; omega
                    case rel => exact ⟨k + 1, A', c', bo, true, by have := Hk.out; omega, by go_num, rfl, rfl, hwn2.out, (fun h => by cases h), hol, oBw, hBq⟩
          · have hkn : k = ds.length := by have := Hk.out; omega
            subst hkn
            go_wp2_with (fail)
            go_ret3
            rw [HE.out, Hbz.out]
            cases fb
            · obtain rfl := Hbn.out rfl
              exact ⟨A', c', rfl, oB.mono (fun g _ hg => by have hg : wu.heap.size ≤ g := hg; have := hbC.size; show w.heap.size ≤ g; omega), hbC.trans (hB2.mono hbC.size)⟩
            · exact ⟨A', c', rfl, oB.mono (fun g _ hg => by have hg : wu.heap.size ≤ g := hg; have := hbC.size; show w.heap.size ≤ g; omega), hbC.trans (hB2.mono hbC.size)⟩
end Go.Proofs.YtgpcojmdfmngeaaDoor

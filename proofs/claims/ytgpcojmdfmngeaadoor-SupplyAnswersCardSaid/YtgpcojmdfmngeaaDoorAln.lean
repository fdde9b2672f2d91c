/-
  The walk of supply.Alone.
-/
import Derived.Test.YtgpcojmdfmngeaaDoorGe
import Derived.Test.YtgpcojmdfmngeaaDoorGa
namespace Go.Proofs.YtgpcojmdfmngeaaDoor
open Go.RowKit
set_option maxHeartbeats 400000
set_option maxRecDepth 100000

/-- without this device some node that is supplied has no supply -/
def alB (ns : List Node) (ds : List Dev) (st : List Int) (i : Nat) : Bool := (PO.at_ st i == 2) && (supL ns ds st).any (fun v => !(supL ns ds (st.set i 1)).contains v)
def aloneE (ns : List Node) (ds : List Dev) (st : List Int) : List Int × Int := if maskC isPos ns ds st ≠ 0 then ([], maskC isPos ns ds st) else (supN (alB ns ds st) st.length, 0)

set_option maxHeartbeats 8000000 in
theorem Alone_any (w : World) (h : TabC w) (ht : Tab w) (S : Nat → Prop) (A1 A2 : Option Addr) (c1 c2 : Nat) (ns : List Node) (ds : List Dev) (hn : NetIn w S A1 A2 ns ds) (hl1 : ns.length ≤ 65536) (hl2 : ds.length ≤ 65536)
    (U : Option Addr) (cu : Nat) (st : List Int) (hs : SI w S U st) (hsl : st.length ≤ 65536) :
    Calls Tryd.prog 77 #[.agg #[.slice A1 ns.length c1, .slice A2 ds.length c2], .slice U st.length cu] w (RetIE w (aloneE ns ds st)) := by
  have hb := (Below.refl w.heap.size w).alloc (Nat.le_refl _) (.cells #[.slice A1 ns.length c1, .slice A2 ds.length c2] 26)
  have HC := Lib.hid (Supplied_any _ (h.below hb) (ht.below hb) S A1 A2 c1 c2 ns ds (hn.below hb) hl1 hl2 U cu st (hs.keep (Kept.of_below hb)) hsl)
  have HZ := Lib.hid (@maskC_zero isPos ns ds st)
  have HE := Lib.hid (show aloneE ns ds st = if maskC isPos ns ds st ≠ 0 then ([], maskC isPos ns ds st) else (supN (alB ns ds st) st.length, 0) from rfl)
  have HSE := Lib.hid (show suppliedE ns ds st = if maskC isPos ns ds st ≠ 0 then ([], maskC isPos ns ds st) else (supL ns ds st, 0) from rfl)
  generalize maskC isPos ns ds st = ce at *
  by_cases h0 : (ce != 0) = true
  · have H0 := Lib.hid (show ¬ ce = 0 by simpa using h0)
    rw [if_pos H0.out] at HE HSE
    rw [HSE.out] at HC
    go_enter Tryd.func77, Tryd.ntmps77
    go_wp2_with (fail)
    go_step3
    go_wp2_with (fail)
    refine (HC.out).mono ?_
    rintro e w1 ⟨Ab, cb, rfl, _, hb1⟩
    go_wp2_with (fail)
    go_ret2
    rw [HE.out]
    exact ⟨none, 0, rfl, OI.nil _ _, hb.trans (hb1.mono hb.size)⟩
  · have h0' : (ce != 0) = false := by simpa using h0
    have hz : ce = 0 := by simpa using h0
    obtain ⟨z1, z2, z3⟩ := HZ.out hz
    have hD := checkL_zero z1
    rw [if_neg (by simpa using hz)] at HE HSE
    rw [HSE.out] at HC
    have Z2 := Lib.hid z2
    have HD := Lib.hid hD
    have hl1 := hD.few
    have hl2 := hD.dev
    have hbl := supL_len ns ds st
    have HP := Lib.hid (show ∀ i, alB ns ds st i = ((PO.at_ st i == 2) && (supL ns ds st).any (fun v => !(supL ns ds (st.set i 1)).contains v)) from fun _ => rfl)
    clear h0 hz z1 z2 z3 HZ h0' hD HSE
    generalize supL ns ds st = bf at *
    generalize alB ns ds st = P at *
    have hst64 : st.length ≤ 64 := by have := Z2.out; omega
    go_enter Tryd.func77, Tryd.ntmps77
    go_wp2_with (fail)
    go_step3
    go_wp2_with (fail)
    refine (HC.out).mono ?_
    rintro e w1 ⟨Ab, cb, rfl, oB, hb1⟩
    have hbA := hb.trans (hb1.mono hb.size)
    have Hbox := Lib.hid (box_at hb1)
    have sB := OI.si oB
    have hs1 := hs.keep (Kept.of_below hbA)
    clear HC hb1 hb oB hs
    have HQ := Lib.hid (clone_any w1 S U cu st hs1 (by omega))
    go_wp2_with (fail)
    refine HQ.out.mono ?_
    rintro e w3 ⟨A3, c3, rfl, ho3, hb3⟩
    have ho3 : OI w3 (fun g => w1.heap.size ≤ g ∧ g < w3.heap.size) A3 c3 st := ho3.mono (fun g hl hg => ⟨hg, hl⟩)
    obtain ⟨zo, hzo⟩ : ∃ x, x = w3.heap.size := ⟨_, rfl⟩
    have hzo3 : zo ≤ w3.heap.size := by omega
    have hz1o : w1.heap.size ≤ zo := by rw [hzo]; exact hb3.size
    rw [← hzo] at ho3
    have hn1 := (hn.below hbA).mono (T := fun _ => True) (fun _ _ _ => trivial)
    clear hzo HQ hn
    go_wp2_with (fail)
    go_step3
    go_wp2_with (fail)
    go_loopg [8, 28] st.length (fun g v i wr => ∃ (k : Nat) (A' : Option Addr) (c' : Nat), k + g = st.length ∧ i = .int .i64 k ∧ v = .slice A' (supN P k).length c' ∧ OI wr (fun g => zo ≤ g) A' c' (supN P k) ∧ OI wr (fun g => w1.heap.size ≤ g ∧ g < zo) A3 c3 st ∧ Below w1.heap.size w1 wr ∧ zo ≤ wr.heap.size)
    case atStart => exact ⟨0, none, 0, by omega, rfl, rfl, OI.nil _ _, ho3, hb3, hzo3⟩
    case round =>
      clear ho3 hb3 hzo3
      obtain ⟨k, A', c', hk, rfl, rfl, hown, oA, hB, hzr⟩ := hrel
      have Hk := Lib.hid hk
      have hyl := supN_len P k
      clear hk
      by_cases hlt : k < st.length
      · obtain ⟨bs, os, rfl, _, hbls, hcs⟩ := (hs1.keep (Kept.of_below hB)).at_ hlt
        have hp := HP.out k
        rw [at_get hlt] at hp
        have hps : supN P (k + 1) = supN P k ++ (if P k then [(k : Int)] else []) := rfl
        have Hset := Lib.hid (show (st.set k 1).set k st[k] = st by rw [List.set_set, List.set_getElem_self])
        by_cases hcl : (st[k] != 2) = true
        · have Hs := Lib.hid (show supN P (k + 1) = supN P k by rw [hps, hp]; simp at hcl; simp [hcl])
          generalize st[k] = sk at *
          clear hp hps
          go_wp2_with (fail)
          go_roundg (gk - 1)
          case measure => have := Hk.out; omega
          case rel => exact ⟨k + 1, A', c', by have := Hk.out; omega, by go_num, by rw [Hs.out], by rw [Hs.out]; exact hown, oA, hB, hzr⟩
        · have hcl : (st[k] != 2) = false := by simpa using hcl
          have hk2 : st[k] = 2 := by simpa using hcl
          rw [hk2] at hp hcs Hset
          rw [show ((2 : Int) == 2) = true from rfl, Bool.true_and] at hp
          clear hcl hk2
          obtain ⟨g4, o4, rfl, hg4, hg4l, r1, r2⟩ := oA.at_ hlt
          have hbx1 := (hB.block w.heap.size (World.block_lt_of_cell? w1 ⟨w.heap.size, 0, none⟩ (by rw [cell_of_row w1 _ 0 _ _ _ Hbox.out]; rfl))).trans Hbox.out
          have oA1 := oA.set k 1
          obtain ⟨wq, hwq⟩ : ∃ x, x = wr.setCell ⟨g4, o4 + k, none⟩ (.int .i64 1) := ⟨_, rfl⟩
          have hBq : Below w1.heap.size w1 wq := by rw [hwq]; exact hB.setCell (p := ⟨g4, o4 + k, none⟩) (by show w1.heap.size ≤ g4; omega) _
          have hzq : wq.heap.size = wr.heap.size := by rw [hwq]; simp [World.setCell]
          have hown1 : OI wq (fun g => zo ≤ g) A' c' (supN P k) := by rw [hwq]; exact hown.keep (Kept.setCell (p := ⟨g4, o4 + k, none⟩) (by show ¬ zo ≤ g4; omega) _)
          rw [← hwq] at oA1
          have HS := supplied_any wq (fun _ => True) A1 A2 c1 c2 ns ds (hn1.below hBq) HD.out (some ⟨g4, o4, none⟩) c3 (st.set k 1) ((OI.si oA1).mono (fun _ _ _ => trivial)) (by rw [List.length_set]; exact Z2.out)
          rw [List.length_set] at HS
          have HS := Lib.hid HS
          have hnl := supL_len ns ds (st.set k 1)
          have n0 : wr.cell? ⟨w.heap.size, 0, none⟩ = some (.slice A1 ns.length c1) := by rw [cell_of_row wr _ 0 _ _ _ hbx1]; rfl
          have n1 : wr.cell? ⟨w.heap.size, 1, none⟩ = some (.slice A2 ds.length c2) := by rw [cell_of_row wr _ 1 _ _ _ hbx1]; rfl
          have hne4 : ¬ w.heap.size = g4 := by have := hbA.size; have := World.block_lt_of_cell? w1 ⟨w.heap.size, 0, none⟩ (by rw [cell_of_row w1 _ 0 _ _ _ Hbox.out]; rfl); have : w.heap.size < w1.heap.size := this; omega
          have Hp := Lib.hid hp
          generalize supL ns ds (st.set k 1) = nw at *
          have Hwq := Lib.hid hwq
          clear hwq hp hbx1 oA hown
          obtain ⟨gko, rfl⟩ : ∃ x : Nat, x = gk := ⟨_, rfl⟩
          go_wp2_with (fail)
          rw [← Hwq.out]
          refine HS.out.mono ?_
          rintro e w5 ⟨An, cn, rfl, oN, hb5⟩
          have hB5 := hBq.trans (hb5.mono hBq.size)
          have oA5 := oA1.keep (Kept.of_below hb5)
          have hown5 := hown1.keep (Kept.of_below hb5)
          obtain ⟨g5, o5, e5, _, hg5l, r3, r4⟩ := oA5.at_ (k := k) (by rw [List.length_set]; exact hlt)
          injection e5 with e5
          injection e5 with e51 e52
          subst e51 e52
          have oA6 := oA5.set k 2
          rw [Hset.out] at oA6
          obtain ⟨w6, hw6⟩ : ∃ x, x = w5.setCell ⟨g4, o4 + k, none⟩ (.int .i64 2) := ⟨_, rfl⟩
          have hB6 : Below w1.heap.size w1 w6 := by rw [hw6]; exact hB5.setCell (p := ⟨g4, o4 + k, none⟩) (by show w1.heap.size ≤ g4; omega) _
          have hown6 : OI w6 (fun g => zo ≤ g) A' c' (supN P k) := by rw [hw6]; exact hown5.keep (Kept.setCell (p := ⟨g4, o4 + k, none⟩) (by show ¬ zo ≤ g4; omega) _)
          have oN6 : OI w6 (fun g => wq.heap.size ≤ g) An cn nw := by rw [hw6]; exact oN.keep (Kept.setCell (p := ⟨g4, o4 + k, none⟩) (by show ¬ wq.heap.size ≤ g4; omega) _)
          have hz6 : w6.heap.size = w5.heap.size := by rw [hw6]; simp [World.setCell]
          have hz5 := hb5.size
          have hz6o : zo ≤ w6.heap.size := by omega
          have hz6n : wq.heap.size ≤ w6.heap.size := by omega
          clear hz6
          have sB6 := sB.keep (Kept.of_below hB6)
          have sN := OI.si oN6
          rw [← hw6] at oA6
          have Hw6 := Lib.hid hw6
          have Hps := Lib.hid hps
          clear n0 n1 hB5 oA5 hown5 oA1 hown1 oN hw6 HS hps r1 r2 hBq hb5
          go_wp2_with (rw [← Hw6.out])
          clear r3 r4
          go_loopg [8, 47] bf.length (fun g v i wr => wr = w6 ∧ v = .slice A' (supN P k).length c' ∧ ∃ j : Nat, j + g = bf.length ∧ i = .int .i64 j ∧ bf.any (fun v => !nw.contains v) = (bf.drop j).any (fun v => !nw.contains v))
          case atStart => exact ⟨rfl, rfl, 0, by omega, rfl, rfl⟩
          case round =>
            obtain ⟨rfl, rfl, j, hj, rfl, hany⟩ := hrel
            have Hj := Lib.hid hj
            have Hany := Lib.hid hany
            clear hj hany
            by_cases hjl : j < bf.length
            · have hcn := contains_any bf[j] wr _ An cn nw sN (by omega)
              rw [← List.contains_eq_any_beq] at hcn
              have hdr : (bf.drop j).any (fun v => !nw.contains v) = (!nw.contains bf[j] || (bf.drop (j + 1)).any (fun v => !nw.contains v)) := by rw [List.drop_eq_getElem_cons hjl]; rfl
              obtain ⟨b8, o8, rfl, _, _, q8⟩ := sB6.at_ hjl
              generalize bf[j] = vj at *
              obtain ⟨cv, hcv⟩ : ∃ x, x = nw.contains vj := ⟨_, rfl⟩
              rw [← hcv] at hcn hdr
              have Hdr := Lib.hid hdr
              have HCN := Lib.hid hcn
              clear hcn hdr hcv
              cases cv
              · go_wp2_with (fail)
                refine HCN.out.mono ?_
                rintro e w7 ⟨rfl, rfl⟩
                have hp1 : Hid (supN P (k + 1) = supN P k ++ [(k : Int)]) := Lib.hid (by rw [Hps.out, Hp.out, Hany.out, Hdr.out]; rfl)
                have oP := OI.keep hown6 (Kept.alloc _ wr (.cells #[.int .i64 k] 3))
                go_wp2_with (at_builtin; go_must (refine wpList_push (B := zo) rfl (.tmp 55) (.tmp 57) rfl (xs := supN P k) (y := (k : Int)) rfl rfl rfl oP (new_cell wr _ _) (by omega) (by simp; omega) ?_); intro A6 c6 w8 ho8 hb8 _ _)
                go_roundg (gko - 1)
                case measure => have := Hk.out; omega
                case rel =>
                  have hb9 := ((Below.refl zo wr).alloc (by omega) (.cells #[.int .i64 k] 3)).trans hb8
                  refine ⟨k + 1, A6, c6, by have := Hk.out; omega, by go_num, by rw [hp1.out]; simp, by rw [hp1.out]; exact ho8, oA6.keep ⟨hb9.size, fun g hg hl => hb9.block g (by have hg : w1.heap.size ≤ g ∧ g < zo := hg; omega)⟩, hB6.trans (hb9.mono hz1o), by have := hb9.size; omega⟩
              · go_wp2_with (fail)
                refine HCN.out.mono ?_
                rintro e w7 ⟨rfl, rfl⟩
                go_wp2_with (fail)
                go_roundg (gk - 1)
                case measure => have := Hj.out; omega
                case rel => exact ⟨rfl, rfl, j + 1, by have := Hj.out; omega, by go_num, by rw [Hany.out, Hdr.out]; rfl⟩
            · have hp1 : Hid (supN P (k + 1) = supN P k) := Lib.hid (by rw [Hps.out, Hp.out, Hany.out, List.drop_of_length_le (by omega)]; simp)
              go_wp2_with (fail)
              go_roundg (gko - 1)
              case measure => have := Hk.out; omega
              case rel => exact ⟨k + 1, A', c', by have := Hk.out; omega, by go_num, by rw [hp1.out], by rw [hp1.out]; exact hown6, oA6, hB6, by omega⟩
      · have hkn : k = st.length := by have := Hk.out; omega
        subst hkn
        go_wp2_with (fail)
        try rw [Exit.noGoto_ret]
        go_ret2
        rw [HE.out]
        exact ⟨A', c', rfl, hown.mono (fun g _ hg => by have hg : zo ≤ g := hg; have := hbA.size; show w.heap.size ≤ g; omega), hbA.trans (hB.mono hbA.size)⟩
end Go.Proofs.YtgpcojmdfmngeaaDoor
